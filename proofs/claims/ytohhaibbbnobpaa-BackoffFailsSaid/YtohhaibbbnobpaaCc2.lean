/-
  Written by cc.py: what the Go functions compute, as plain functions, and that they do.
-/
import Derived.Test.YtohhaibbbnobpaaCc1
namespace Go.Proofs.Ytohhaibbbnobpaa
open Go.RowKit

/-- multihop/multihopref08.drawn -/
noncomputable def F_ref08_drawn_j1 (a0 : S_Backoff) (a1 : Int) (v4 : Int) : Option (S_Backoff) :=
  some ((S_Backoff.mk v4 a0.Busy a0.Exponent 2 (IntKind.wrap .i64 (Int.tmod a1 (ishl .u32 1 (IntKind.wrap .u64 a0.Exponent))))))
noncomputable def F_ref08_drawn (a0 : S_Backoff) (a1 : Int) : Option (S_Backoff) :=
  bif decide (0 ≤ (IntKind.wrap .u64 a0.Exponent)) then
    bif decide ((ishl .u32 1 (IntKind.wrap .u64 a0.Exponent)) ≠ 0) then
      bif (decide ((IntKind.wrap .i64 (Int.tmod a1 (ishl .u32 1 (IntKind.wrap .u64 a0.Exponent)))) > 0)) then
        (F_ref08_drawn_j1 a0 a1) 1
      else
        (F_ref08_drawn_j1 a0 a1) 2
    else none
  else none
set_option maxRecDepth 100000 in
theorem ok_ref08_drawn (a0 : S_Backoff) (a1 : Int) (r : S_Backoff) (h : F_ref08_drawn a0 a1 = some r) : Pure Try.prog 27 [.agg (S_Backoff.cs a0), .c (.lit (.int .u32 (a1)))] (.agg (S_Backoff.cs r)) := by
  unfold F_ref08_drawn at h
  refine pure_of [[0, 0, 0, 0, 0]] 20 Try.func27 rfl rfl rfl (by kernel_rfl) (fun K => ?_)
  refine T_seq ?_
  refine T_runs ⟨[(4, .c (.box 4 0)), (2, .c (.box 2 0)), (0, .agg [.lit (.int .i64 (a0.State)), .lit (.int .i64 (a0.Busy)), .lit (.int .i64 (a0.Exponent)), .lit (.int .i64 (a0.Clear)), .lit (.int .i64 (a0.Wait))]), (1, .c (.lit (.int .u32 (a1))))], ⟨[(4, [.lit (.int .i64 (0)), .lit (.int .i64 (0)), .lit (.int .i64 (0)), .lit (.int .i64 (0)), .lit (.int .i64 (0))]), (2, [.lit (.int .i64 (a0.State)), .lit (.int .i64 (a0.Busy)), .lit (.int .i64 (a0.Exponent)), .lit (.int .i64 (a0.Clear)), .lit (.int .i64 (a0.Wait))])], []⟩⟩ (by kernel_rfl) ?_
  refine T_seq ?_
  refine T_runs ⟨[(5, .c (.box 2 3)), (4, .c (.box 4 0)), (2, .c (.box 2 0)), (0, .agg [.lit (.int .i64 (a0.State)), .lit (.int .i64 (a0.Busy)), .lit (.int .i64 (a0.Exponent)), .lit (.int .i64 (a0.Clear)), .lit (.int .i64 (a0.Wait))]), (1, .c (.lit (.int .u32 (a1))))], ⟨[(2, [.lit (.int .i64 (a0.State)), .lit (.int .i64 (a0.Busy)), .lit (.int .i64 (a0.Exponent)), .lit (.int .i64 (2)), .lit (.int .i64 (a0.Wait))]), (4, [.lit (.int .i64 (0)), .lit (.int .i64 (0)), .lit (.int .i64 (0)), .lit (.int .i64 (0)), .lit (.int .i64 (0))])], []⟩⟩ (by kernel_rfl) ?_
  refine T_seq ?_
  replace h := chkO h
  obtain ⟨hc1, h⟩ := h
  replace h := chkO h
  obtain ⟨hc2, h⟩ := h
  refine T_region ?_
  refine TL_runs 4 ⟨[(9, .c (.lit (.int .u64 (IntKind.wrap .u64 a0.Exponent)))), (8, .c (.lit (.int .i64 (a0.Exponent)))), (7, .c (.box 2 2)), (6, .c (.lit (.int .u32 (a1)))), (5, .c (.box 2 3)), (4, .c (.box 4 0)), (2, .c (.box 2 0)), (0, .agg [.lit (.int .i64 (a0.State)), .lit (.int .i64 (a0.Busy)), .lit (.int .i64 (a0.Exponent)), .lit (.int .i64 (a0.Clear)), .lit (.int .i64 (a0.Wait))]), (1, .c (.lit (.int .u32 (a1))))], ⟨[(2, [.lit (.int .i64 (a0.State)), .lit (.int .i64 (a0.Busy)), .lit (.int .i64 (a0.Exponent)), .lit (.int .i64 (2)), .lit (.int .i64 (a0.Wait))]), (4, [.lit (.int .i64 (0)), .lit (.int .i64 (0)), .lit (.int .i64 (0)), .lit (.int .i64 (0)), .lit (.int .i64 (0))])], []⟩⟩ (by kernel_rfl) ?_
  refine TL_grow (.c (.lit (.int .u32 (ishl .u32 1 (IntKind.wrap .u64 a0.Exponent))))) (by kernel_rfl) (by kernel_rfl) (PureOp.grow (pure_intC (k := .u32) (k' := .u64) (1) (IntKind.wrap .u64 a0.Exponent) (by simp) rfl (by kernel_rfl) (by kernel_rfl) rfl (of_decide_eq_true hc1))) ?_
  refine TL_grow (.c (.lit (.int .u32 (Int.tmod a1 (ishl .u32 1 (IntKind.wrap .u64 a0.Exponent)))))) (by kernel_rfl) (by kernel_rfl) (PureOp.grow (pure_intC (k := .u32) (k' := .u32) (a1) (ishl .u32 1 (IntKind.wrap .u64 a0.Exponent)) (by simp) rfl (by kernel_rfl) (by kernel_rfl) rfl (of_decide_eq_true hc2))) ?_
  refine TL_end ⟨[(13, .c (.box 2 4)), (12, .c (.lit (.int .i64 (IntKind.wrap .i64 (Int.tmod a1 (ishl .u32 1 (IntKind.wrap .u64 a0.Exponent))))))), (11, .c (.lit (.int .u32 (Int.tmod a1 (ishl .u32 1 (IntKind.wrap .u64 a0.Exponent)))))), (10, .c (.lit (.int .u32 (ishl .u32 1 (IntKind.wrap .u64 a0.Exponent))))), (9, .c (.lit (.int .u64 (IntKind.wrap .u64 a0.Exponent)))), (8, .c (.lit (.int .i64 (a0.Exponent)))), (7, .c (.box 2 2)), (6, .c (.lit (.int .u32 (a1)))), (5, .c (.box 2 3)), (4, .c (.box 4 0)), (2, .c (.box 2 0)), (0, .agg [.lit (.int .i64 (a0.State)), .lit (.int .i64 (a0.Busy)), .lit (.int .i64 (a0.Exponent)), .lit (.int .i64 (a0.Clear)), .lit (.int .i64 (a0.Wait))]), (1, .c (.lit (.int .u32 (a1))))], ⟨[(2, [.lit (.int .i64 (a0.State)), .lit (.int .i64 (a0.Busy)), .lit (.int .i64 (a0.Exponent)), .lit (.int .i64 (2)), .lit (.int .i64 (IntKind.wrap .i64 (Int.tmod a1 (ishl .u32 1 (IntKind.wrap .u64 a0.Exponent)))))]), (4, [.lit (.int .i64 (0)), .lit (.int .i64 (0)), .lit (.int .i64 (0)), .lit (.int .i64 (0)), .lit (.int .i64 (0))])], []⟩⟩ (by kernel_rfl) ?_
  refine T_keep [4, 2] [2, 4] [] ?_
  refine T_seq ?_
  refine T_runs ⟨[(14, .c (.box 2 0)), (4, .c (.box 4 0)), (2, .c (.box 2 0))], ⟨[(2, [.lit (.int .i64 (2)), .lit (.int .i64 (a0.Busy)), .lit (.int .i64 (a0.Exponent)), .lit (.int .i64 (2)), .lit (.int .i64 (IntKind.wrap .i64 (Int.tmod a1 (ishl .u32 1 (IntKind.wrap .u64 a0.Exponent)))))]), (4, [.lit (.int .i64 (0)), .lit (.int .i64 (0)), .lit (.int .i64 (0)), .lit (.int .i64 (0)), .lit (.int .i64 (0))])], []⟩⟩ (by kernel_rfl) ?_
  refine T_join [2, 4] [2, 4] (fun (v4 : Int) => ⟨[(2, .c (.box 2 0)), (4, .c (.box 4 0))], ⟨[(2, [.lit (.int .i64 (v4)), .lit (.int .i64 (a0.Busy)), .lit (.int .i64 (a0.Exponent)), .lit (.int .i64 (2)), .lit (.int .i64 (IntKind.wrap .i64 (Int.tmod a1 (ishl .u32 1 (IntKind.wrap .u64 a0.Exponent)))))]), (4, [.lit (.int .i64 (0)), .lit (.int .i64 (0)), .lit (.int .i64 (0)), .lit (.int .i64 (0)), .lit (.int .i64 (0))])], []⟩⟩) (F_ref08_drawn_j1 a0 a1) r ?_ ?_
  · intro v4 h
    unfold F_ref08_drawn_j1 at h
    refine T_seq ?_
    refine T_runs ⟨[(19, .agg [.lit (.int .i64 (v4)), .lit (.int .i64 (a0.Busy)), .lit (.int .i64 (a0.Exponent)), .lit (.int .i64 (2)), .lit (.int .i64 (IntKind.wrap .i64 (Int.tmod a1 (ishl .u32 1 (IntKind.wrap .u64 a0.Exponent)))))]), (2, .c (.box 2 0)), (4, .c (.box 4 0))], ⟨[(4, [.lit (.int .i64 (v4)), .lit (.int .i64 (a0.Busy)), .lit (.int .i64 (a0.Exponent)), .lit (.int .i64 (2)), .lit (.int .i64 (IntKind.wrap .i64 (Int.tmod a1 (ishl .u32 1 (IntKind.wrap .u64 a0.Exponent)))))]), (2, [.lit (.int .i64 (v4)), .lit (.int .i64 (a0.Busy)), .lit (.int .i64 (a0.Exponent)), .lit (.int .i64 (2)), .lit (.int .i64 (IntKind.wrap .i64 (Int.tmod a1 (ishl .u32 1 (IntKind.wrap .u64 a0.Exponent)))))])], []⟩⟩ (by kernel_rfl) ?_
    refine T_keep [4] [4] [] ?_
    refine T_ret ?_
    obtain rfl := Option.some.inj h
    exact ⟨[(true, [.lit (.int .i64 (v4)), .lit (.int .i64 (a0.Busy)), .lit (.int .i64 (a0.Exponent)), .lit (.int .i64 (2)), .lit (.int .i64 (IntKind.wrap .i64 (Int.tmod a1 (ishl .u32 1 (IntKind.wrap .u64 a0.Exponent)))))])], by kernel_rfl, by kernel_rfl⟩
  · refine T_seq ?_
    refine T_runs ⟨[(17, .c (.lit (.bool ((decide ((IntKind.wrap .i64 (Int.tmod a1 (ishl .u32 1 (IntKind.wrap .u64 a0.Exponent)))) > 0)))))), (16, .c (.lit (.int .i64 (IntKind.wrap .i64 (Int.tmod a1 (ishl .u32 1 (IntKind.wrap .u64 a0.Exponent))))))), (15, .c (.box 2 4)), (14, .c (.box 2 0)), (4, .c (.box 4 0)), (2, .c (.box 2 0))], ⟨[(2, [.lit (.int .i64 (2)), .lit (.int .i64 (a0.Busy)), .lit (.int .i64 (a0.Exponent)), .lit (.int .i64 (2)), .lit (.int .i64 (IntKind.wrap .i64 (Int.tmod a1 (ishl .u32 1 (IntKind.wrap .u64 a0.Exponent)))))]), (4, [.lit (.int .i64 (0)), .lit (.int .i64 (0)), .lit (.int .i64 (0)), .lit (.int .i64 (0)), .lit (.int .i64 (0))])], []⟩⟩ (by kernel_rfl) ?_
    refine T_keep [17, 4, 2] [2, 4] [] ?_
    replace h := condO h
    rcases h with ⟨hb5, h⟩ | ⟨hb5, h⟩
    · refine T_condT' (e := (decide ((IntKind.wrap .i64 (Int.tmod a1 (ishl .u32 1 (IntKind.wrap .u64 a0.Exponent)))) > 0))) (by kernel_rfl) hb5 ?_
      refine T_runs ⟨[(18, .c (.box 2 0)), (17, .c (.lit (.bool ((decide ((IntKind.wrap .i64 (Int.tmod a1 (ishl .u32 1 (IntKind.wrap .u64 a0.Exponent)))) > 0)))))), (4, .c (.box 4 0)), (2, .c (.box 2 0))], ⟨[(2, [.lit (.int .i64 (1)), .lit (.int .i64 (a0.Busy)), .lit (.int .i64 (a0.Exponent)), .lit (.int .i64 (2)), .lit (.int .i64 (IntKind.wrap .i64 (Int.tmod a1 (ishl .u32 1 (IntKind.wrap .u64 a0.Exponent)))))]), (4, [.lit (.int .i64 (0)), .lit (.int .i64 (0)), .lit (.int .i64 (0)), .lit (.int .i64 (0)), .lit (.int .i64 (0))])], []⟩⟩ (by kernel_rfl) ?_
      exact ⟨1, h, by kernel_rfl⟩
    · refine T_condF' (e := (decide ((IntKind.wrap .i64 (Int.tmod a1 (ishl .u32 1 (IntKind.wrap .u64 a0.Exponent)))) > 0))) (by kernel_rfl) hb5 ?_
      refine T_skip ?_
      exact ⟨2, h, by kernel_rfl⟩

/-- multihop/multihopref08.Step -/
noncomputable def F_ref08_Step_j1  (v4 : Int × Int × Int × Int × Int) : Option (S_Backoff) :=
  some ((S_Backoff.mk v4.1 v4.2.1 v4.2.2.1 v4.2.2.2.1 v4.2.2.2.2))
noncomputable def F_ref08_Step (a0 : S_Backoff) (a1 : Bool) (a2 : Int) : Option (S_Backoff) :=
  (F_ref08_Valid a0).bind fun v1 =>
  bif v1 then
    bif (a0.State == 1) then
      bif ((IntKind.wrap .i64 (a0.Wait - 1)) == 0) then
        (F_ref08_Step_j1) (2, a0.Busy, a0.Exponent, a0.Clear, IntKind.wrap .i64 (a0.Wait - 1))
      else
        (F_ref08_Step_j1) (a0.State, a0.Busy, a0.Exponent, a0.Clear, IntKind.wrap .i64 (a0.Wait - 1))
    else
      bif (a0.State == 2) then
        bif a1 then
          (F_ref08_exponent (IntKind.wrap .i64 (a0.Busy + 1))).bind fun v9 =>
          bif (decide ((IntKind.wrap .i64 (a0.Busy + 1)) > 4)) then
            (F_ref08_Step_j1) (4, IntKind.wrap .i64 (a0.Busy + 1), v9, 2, a0.Wait)
          else
            (F_ref08_drawn (S_Backoff.mk a0.State (IntKind.wrap .i64 (a0.Busy + 1)) v9 a0.Clear a0.Wait) a2).bind fun v11 =>
            (F_ref08_Step_j1) (v11.State, v11.Busy, v11.Exponent, v11.Clear, v11.Wait)
        else
          bif ((IntKind.wrap .i64 (a0.Clear - 1)) == 0) then
            (F_ref08_Step_j1) (3, a0.Busy, a0.Exponent, IntKind.wrap .i64 (a0.Clear - 1), a0.Wait)
          else
            (F_ref08_Step_j1) (a0.State, a0.Busy, a0.Exponent, IntKind.wrap .i64 (a0.Clear - 1), a0.Wait)
      else
        (F_ref08_Step_j1) (a0.State, a0.Busy, a0.Exponent, a0.Clear, a0.Wait)
  else
    some ((S_Backoff.mk 0 0 0 0 0))
set_option maxRecDepth 100000 in
theorem ok_ref08_Step (a0 : S_Backoff) (a1 : Bool) (a2 : Int) (r : S_Backoff) (h : F_ref08_Step a0 a1 a2 = some r) : Pure Try.prog 17 [.agg (S_Backoff.cs a0), .c (.lit (.bool (a1))), .c (.lit (.int .u32 (a2)))] (.agg (S_Backoff.cs r)) := by
  unfold F_ref08_Step at h
  refine pure_of [[0, 0, 0, 0, 0]] 60 Try.func17 rfl rfl rfl (by kernel_rfl) (fun K => ?_)
  refine T_seq ?_
  refine T_runs ⟨[(6, .c (.box 6 0)), (3, .c (.box 3 0)), (0, .agg [.lit (.int .i64 (a0.State)), .lit (.int .i64 (a0.Busy)), .lit (.int .i64 (a0.Exponent)), .lit (.int .i64 (a0.Clear)), .lit (.int .i64 (a0.Wait))]), (1, .c (.lit (.bool (a1)))), (2, .c (.lit (.int .u32 (a2))))], ⟨[(6, [.lit (.int .i64 (0)), .lit (.int .i64 (0)), .lit (.int .i64 (0)), .lit (.int .i64 (0)), .lit (.int .i64 (0))]), (3, [.lit (.int .i64 (a0.State)), .lit (.int .i64 (a0.Busy)), .lit (.int .i64 (a0.Exponent)), .lit (.int .i64 (a0.Clear)), .lit (.int .i64 (a0.Wait))])], []⟩⟩ (by kernel_rfl) ?_
  refine T_seq ?_
  refine T_seq ?_
  replace h := bindO h
  obtain ⟨v1, hv1, h⟩ := h
  refine T_region ?_
  refine TL_runs 1 ⟨[(7, .agg [.lit (.int .i64 (a0.State)), .lit (.int .i64 (a0.Busy)), .lit (.int .i64 (a0.Exponent)), .lit (.int .i64 (a0.Clear)), .lit (.int .i64 (a0.Wait))]), (6, .c (.box 6 0)), (3, .c (.box 3 0)), (0, .agg [.lit (.int .i64 (a0.State)), .lit (.int .i64 (a0.Busy)), .lit (.int .i64 (a0.Exponent)), .lit (.int .i64 (a0.Clear)), .lit (.int .i64 (a0.Wait))]), (1, .c (.lit (.bool (a1)))), (2, .c (.lit (.int .u32 (a2))))], ⟨[(6, [.lit (.int .i64 (0)), .lit (.int .i64 (0)), .lit (.int .i64 (0)), .lit (.int .i64 (0)), .lit (.int .i64 (0))]), (3, [.lit (.int .i64 (a0.State)), .lit (.int .i64 (a0.Busy)), .lit (.int .i64 (a0.Exponent)), .lit (.int .i64 (a0.Clear)), .lit (.int .i64 (a0.Wait))])], []⟩⟩ (by kernel_rfl) ?_
  refine TL_grow (.c (.lit (.bool (v1)))) (by kernel_rfl) (by kernel_rfl) (grow_call 13 Try.f13 [[0, 0, 0, 0, 0]] [.agg (S_Backoff.cs a0)] rfl (by kernel_rfl) Try.func13 (by kernel_rfl) (by kernel_rfl) (by kernel_rfl) (ok_ref08_Valid a0 v1 hv1)) ?_
  refine TL_end ⟨[(9, .c (.lit (.bool ((!v1))))), (8, .c (.lit (.bool (v1)))), (7, .agg [.lit (.int .i64 (a0.State)), .lit (.int .i64 (a0.Busy)), .lit (.int .i64 (a0.Exponent)), .lit (.int .i64 (a0.Clear)), .lit (.int .i64 (a0.Wait))]), (6, .c (.box 6 0)), (3, .c (.box 3 0)), (0, .agg [.lit (.int .i64 (a0.State)), .lit (.int .i64 (a0.Busy)), .lit (.int .i64 (a0.Exponent)), .lit (.int .i64 (a0.Clear)), .lit (.int .i64 (a0.Wait))]), (1, .c (.lit (.bool (a1)))), (2, .c (.lit (.int .u32 (a2))))], ⟨[(6, [.lit (.int .i64 (0)), .lit (.int .i64 (0)), .lit (.int .i64 (0)), .lit (.int .i64 (0)), .lit (.int .i64 (0))]), (3, [.lit (.int .i64 (a0.State)), .lit (.int .i64 (a0.Busy)), .lit (.int .i64 (a0.Exponent)), .lit (.int .i64 (a0.Clear)), .lit (.int .i64 (a0.Wait))])], []⟩⟩ (by kernel_rfl) ?_
  refine T_keep [9, 6, 3, 1, 2] [6, 3] [] ?_
  replace h := condO h
  rcases h with ⟨hb2, h⟩ | ⟨hb2, h⟩
  · subst hb2
    refine T_condF (by kernel_rfl) ?_
    refine T_skip ?_
    refine T_join [3, 6] [3, 6] (fun (v4 : Int × Int × Int × Int × Int) => ⟨[(3, .c (.box 3 0)), (6, .c (.box 6 0))], ⟨[(3, [.lit (.int .i64 (v4.1)), .lit (.int .i64 (v4.2.1)), .lit (.int .i64 (v4.2.2.1)), .lit (.int .i64 (v4.2.2.2.1)), .lit (.int .i64 (v4.2.2.2.2))]), (6, [.lit (.int .i64 (0)), .lit (.int .i64 (0)), .lit (.int .i64 (0)), .lit (.int .i64 (0)), .lit (.int .i64 (0))])], []⟩⟩) (F_ref08_Step_j1) r ?_ ?_
    · intro v4 h
      unfold F_ref08_Step_j1 at h
      refine T_seq ?_
      refine T_runs ⟨[(59, .agg [.lit (.int .i64 (v4.1)), .lit (.int .i64 (v4.2.1)), .lit (.int .i64 (v4.2.2.1)), .lit (.int .i64 (v4.2.2.2.1)), .lit (.int .i64 (v4.2.2.2.2))]), (3, .c (.box 3 0)), (6, .c (.box 6 0))], ⟨[(6, [.lit (.int .i64 (v4.1)), .lit (.int .i64 (v4.2.1)), .lit (.int .i64 (v4.2.2.1)), .lit (.int .i64 (v4.2.2.2.1)), .lit (.int .i64 (v4.2.2.2.2))]), (3, [.lit (.int .i64 (v4.1)), .lit (.int .i64 (v4.2.1)), .lit (.int .i64 (v4.2.2.1)), .lit (.int .i64 (v4.2.2.2.1)), .lit (.int .i64 (v4.2.2.2.2))])], []⟩⟩ (by kernel_rfl) ?_
      refine T_keep [6] [6] [] ?_
      refine T_ret ?_
      obtain rfl := Option.some.inj h
      exact ⟨[(true, [.lit (.int .i64 (v4.1)), .lit (.int .i64 (v4.2.1)), .lit (.int .i64 (v4.2.2.1)), .lit (.int .i64 (v4.2.2.2.1)), .lit (.int .i64 (v4.2.2.2.2))])], by kernel_rfl, by kernel_rfl⟩
    · refine T_block ?_
      refine T_seq ?_
      refine T_runs ⟨[(11, .c (.lit (.bool ((a0.State == 1))))), (14, .c (.lit (.bool ((a0.State == 1))))), (13, .c (.lit (.int .i64 (a0.State)))), (12, .c (.box 3 0)), (9, .c (.lit (.bool (false)))), (6, .c (.box 6 0)), (3, .c (.box 3 0)), (1, .c (.lit (.bool (a1)))), (2, .c (.lit (.int .u32 (a2))))], ⟨[(6, [.lit (.int .i64 (0)), .lit (.int .i64 (0)), .lit (.int .i64 (0)), .lit (.int .i64 (0)), .lit (.int .i64 (0))]), (3, [.lit (.int .i64 (a0.State)), .lit (.int .i64 (a0.Busy)), .lit (.int .i64 (a0.Exponent)), .lit (.int .i64 (a0.Clear)), .lit (.int .i64 (a0.Wait))])], []⟩⟩ (by kernel_rfl) ?_
      refine T_keep [11, 6, 3, 1, 2] [6, 3] [] ?_
      replace h := condO h
      rcases h with ⟨hb5, h⟩ | ⟨hb5, h⟩
      · refine T_condT' (e := (a0.State == 1)) (by kernel_rfl) hb5 ?_
        refine T_seq ?_
        refine T_runs ⟨[(18, .c (.box 3 4)), (17, .c (.lit (.int .i64 (IntKind.wrap .i64 (a0.Wait - 1))))), (16, .c (.lit (.int .i64 (a0.Wait)))), (15, .c (.box 3 4)), (11, .c (.lit (.bool ((a0.State == 1))))), (6, .c (.box 6 0)), (3, .c (.box 3 0)), (1, .c (.lit (.bool (a1)))), (2, .c (.lit (.int .u32 (a2))))], ⟨[(3, [.lit (.int .i64 (a0.State)), .lit (.int .i64 (a0.Busy)), .lit (.int .i64 (a0.Exponent)), .lit (.int .i64 (a0.Clear)), .lit (.int .i64 (IntKind.wrap .i64 (a0.Wait - 1)))]), (6, [.lit (.int .i64 (0)), .lit (.int .i64 (0)), .lit (.int .i64 (0)), .lit (.int .i64 (0)), .lit (.int .i64 (0))])], []⟩⟩ (by kernel_rfl) ?_
        refine T_keep [6, 3] [3, 6] [] ?_
        refine T_seq ?_
        refine T_runs ⟨[(21, .c (.lit (.bool (((IntKind.wrap .i64 (a0.Wait - 1)) == 0))))), (20, .c (.lit (.int .i64 (IntKind.wrap .i64 (a0.Wait - 1))))), (19, .c (.box 3 4)), (6, .c (.box 6 0)), (3, .c (.box 3 0))], ⟨[(3, [.lit (.int .i64 (a0.State)), .lit (.int .i64 (a0.Busy)), .lit (.int .i64 (a0.Exponent)), .lit (.int .i64 (a0.Clear)), .lit (.int .i64 (IntKind.wrap .i64 (a0.Wait - 1)))]), (6, [.lit (.int .i64 (0)), .lit (.int .i64 (0)), .lit (.int .i64 (0)), .lit (.int .i64 (0)), .lit (.int .i64 (0))])], []⟩⟩ (by kernel_rfl) ?_
        replace h := condO h
        rcases h with ⟨hb6, h⟩ | ⟨hb6, h⟩
        · refine T_condT' (e := ((IntKind.wrap .i64 (a0.Wait - 1)) == 0)) (by kernel_rfl) hb6 ?_
          refine T_runs ⟨[(22, .c (.box 3 0)), (21, .c (.lit (.bool (((IntKind.wrap .i64 (a0.Wait - 1)) == 0))))), (20, .c (.lit (.int .i64 (IntKind.wrap .i64 (a0.Wait - 1))))), (19, .c (.box 3 4)), (6, .c (.box 6 0)), (3, .c (.box 3 0))], ⟨[(3, [.lit (.int .i64 (2)), .lit (.int .i64 (a0.Busy)), .lit (.int .i64 (a0.Exponent)), .lit (.int .i64 (a0.Clear)), .lit (.int .i64 (IntKind.wrap .i64 (a0.Wait - 1)))]), (6, [.lit (.int .i64 (0)), .lit (.int .i64 (0)), .lit (.int .i64 (0)), .lit (.int .i64 (0)), .lit (.int .i64 (0))])], []⟩⟩ (by kernel_rfl) ?_
          refine blockQ_normal ?_
          exact ⟨(2, a0.Busy, a0.Exponent, a0.Clear, IntKind.wrap .i64 (a0.Wait - 1)), h, by kernel_rfl⟩
        · refine T_condF' (e := ((IntKind.wrap .i64 (a0.Wait - 1)) == 0)) (by kernel_rfl) hb6 ?_
          refine T_skip ?_
          refine blockQ_normal ?_
          exact ⟨(a0.State, a0.Busy, a0.Exponent, a0.Clear, IntKind.wrap .i64 (a0.Wait - 1)), h, by kernel_rfl⟩
      · refine T_condF' (e := (a0.State == 1)) (by kernel_rfl) hb5 ?_
        refine T_seq ?_
        replace h := condO h
        rcases h with ⟨hb7, h⟩ | ⟨hb7, h⟩
        · refine T_region ?_
          refine TL_runs 2 ⟨[(25, .c (.lit (.int .i64 (a0.State)))), (24, .c (.box 3 0)), (11, .c (.lit (.bool ((a0.State == 1))))), (6, .c (.box 6 0)), (3, .c (.box 3 0)), (1, .c (.lit (.bool (a1)))), (2, .c (.lit (.int .u32 (a2))))], ⟨[(6, [.lit (.int .i64 (0)), .lit (.int .i64 (0)), .lit (.int .i64 (0)), .lit (.int .i64 (0)), .lit (.int .i64 (0))]), (3, [.lit (.int .i64 (a0.State)), .lit (.int .i64 (a0.Busy)), .lit (.int .i64 (a0.Exponent)), .lit (.int .i64 (a0.Clear)), .lit (.int .i64 (a0.Wait))])], []⟩⟩ (by kernel_rfl) ?_
          refine TL_grow (.c (.lit (.bool (true)))) (by kernel_rfl) (by kernel_rfl) (grow_bool (e := (a0.State == 2)) (by kernel_rfl) hb7) ?_
          refine TL_end ⟨[(23, .c (.lit (.bool ((!a1))))), (30, .c (.lit (.bool ((!a1))))), (29, .c (.lit (.bool ((!a1))))), (28, .c (.lit (.bool (a1)))), (27, .c (.lit (.bool (true)))), (26, .c (.lit (.bool (true)))), (25, .c (.lit (.int .i64 (a0.State)))), (24, .c (.box 3 0)), (11, .c (.lit (.bool ((a0.State == 1))))), (6, .c (.box 6 0)), (3, .c (.box 3 0)), (1, .c (.lit (.bool (a1)))), (2, .c (.lit (.int .u32 (a2))))], ⟨[(6, [.lit (.int .i64 (0)), .lit (.int .i64 (0)), .lit (.int .i64 (0)), .lit (.int .i64 (0)), .lit (.int .i64 (0))]), (3, [.lit (.int .i64 (a0.State)), .lit (.int .i64 (a0.Busy)), .lit (.int .i64 (a0.Exponent)), .lit (.int .i64 (a0.Clear)), .lit (.int .i64 (a0.Wait))])], []⟩⟩ (by kernel_rfl) ?_
          refine T_keep [23, 6, 3, 2] [6, 3] [] ?_
          replace h := condO h
          rcases h with ⟨hb8, h⟩ | ⟨hb8, h⟩
          · subst hb8
            refine T_condF (by kernel_rfl) ?_
            refine T_seq ?_
            refine T_region ?_
            refine TL_runs 2 ⟨[(41, .c (.lit (.int .i64 (a0.State)))), (40, .c (.box 3 0)), (23, .c (.lit (.bool (false)))), (6, .c (.box 6 0)), (3, .c (.box 3 0)), (2, .c (.lit (.int .u32 (a2))))], ⟨[(6, [.lit (.int .i64 (0)), .lit (.int .i64 (0)), .lit (.int .i64 (0)), .lit (.int .i64 (0)), .lit (.int .i64 (0))]), (3, [.lit (.int .i64 (a0.State)), .lit (.int .i64 (a0.Busy)), .lit (.int .i64 (a0.Exponent)), .lit (.int .i64 (a0.Clear)), .lit (.int .i64 (a0.Wait))])], []⟩⟩ (by kernel_rfl) ?_
            refine TL_grow (.c (.lit (.bool (true)))) (by kernel_rfl) (by kernel_rfl) (grow_bool (e := (a0.State == 2)) (by kernel_rfl) hb7) ?_
            refine TL_end ⟨[(39, .c (.lit (.bool (true)))), (42, .c (.lit (.bool (true)))), (41, .c (.lit (.int .i64 (a0.State)))), (40, .c (.box 3 0)), (23, .c (.lit (.bool (false)))), (6, .c (.box 6 0)), (3, .c (.box 3 0)), (2, .c (.lit (.int .u32 (a2))))], ⟨[(6, [.lit (.int .i64 (0)), .lit (.int .i64 (0)), .lit (.int .i64 (0)), .lit (.int .i64 (0)), .lit (.int .i64 (0))]), (3, [.lit (.int .i64 (a0.State)), .lit (.int .i64 (a0.Busy)), .lit (.int .i64 (a0.Exponent)), .lit (.int .i64 (a0.Clear)), .lit (.int .i64 (a0.Wait))])], []⟩⟩ (by kernel_rfl) ?_
            refine T_keep [39, 6, 3, 2] [6, 3] [] ?_
            refine T_condT (by kernel_rfl) ?_
            refine T_seq ?_
            refine T_runs ⟨[(46, .c (.box 3 1)), (45, .c (.lit (.int .i64 (IntKind.wrap .i64 (a0.Busy + 1))))), (44, .c (.lit (.int .i64 (a0.Busy)))), (43, .c (.box 3 1)), (39, .c (.lit (.bool (true)))), (6, .c (.box 6 0)), (3, .c (.box 3 0)), (2, .c (.lit (.int .u32 (a2))))], ⟨[(3, [.lit (.int .i64 (a0.State)), .lit (.int .i64 (IntKind.wrap .i64 (a0.Busy + 1))), .lit (.int .i64 (a0.Exponent)), .lit (.int .i64 (a0.Clear)), .lit (.int .i64 (a0.Wait))]), (6, [.lit (.int .i64 (0)), .lit (.int .i64 (0)), .lit (.int .i64 (0)), .lit (.int .i64 (0)), .lit (.int .i64 (0))])], []⟩⟩ (by kernel_rfl) ?_
            refine T_keep [6, 3, 2] [3, 6] [] ?_
            refine T_seq ?_
            replace h := bindO h
            obtain ⟨v9, hv9, h⟩ := h
            refine T_region ?_
            refine TL_runs 2 ⟨[(48, .c (.lit (.int .i64 (IntKind.wrap .i64 (a0.Busy + 1))))), (47, .c (.box 3 1)), (6, .c (.box 6 0)), (3, .c (.box 3 0)), (2, .c (.lit (.int .u32 (a2))))], ⟨[(3, [.lit (.int .i64 (a0.State)), .lit (.int .i64 (IntKind.wrap .i64 (a0.Busy + 1))), .lit (.int .i64 (a0.Exponent)), .lit (.int .i64 (a0.Clear)), .lit (.int .i64 (a0.Wait))]), (6, [.lit (.int .i64 (0)), .lit (.int .i64 (0)), .lit (.int .i64 (0)), .lit (.int .i64 (0)), .lit (.int .i64 (0))])], []⟩⟩ (by kernel_rfl) ?_
            refine TL_grow (.c (.lit (.int .i64 (v9)))) (by kernel_rfl) (by kernel_rfl) (grow_call 25 Try.f25 [[0]] [.c (.lit (.int .i64 ((IntKind.wrap .i64 (a0.Busy + 1)))))] rfl (by kernel_rfl) Try.func25 (by kernel_rfl) (by kernel_rfl) (by kernel_rfl) (ok_ref08_exponent (IntKind.wrap .i64 (a0.Busy + 1)) v9 hv9)) ?_
            refine TL_end ⟨[(50, .c (.box 3 2)), (49, .c (.lit (.int .i64 (v9)))), (48, .c (.lit (.int .i64 (IntKind.wrap .i64 (a0.Busy + 1))))), (47, .c (.box 3 1)), (6, .c (.box 6 0)), (3, .c (.box 3 0)), (2, .c (.lit (.int .u32 (a2))))], ⟨[(3, [.lit (.int .i64 (a0.State)), .lit (.int .i64 (IntKind.wrap .i64 (a0.Busy + 1))), .lit (.int .i64 (v9)), .lit (.int .i64 (a0.Clear)), .lit (.int .i64 (a0.Wait))]), (6, [.lit (.int .i64 (0)), .lit (.int .i64 (0)), .lit (.int .i64 (0)), .lit (.int .i64 (0)), .lit (.int .i64 (0))])], []⟩⟩ (by kernel_rfl) ?_
            refine T_keep [6, 3, 2] [3, 6] [] ?_
            refine T_seq ?_
            refine T_runs ⟨[(53, .c (.lit (.bool ((decide ((IntKind.wrap .i64 (a0.Busy + 1)) > 4)))))), (52, .c (.lit (.int .i64 (IntKind.wrap .i64 (a0.Busy + 1))))), (51, .c (.box 3 1)), (6, .c (.box 6 0)), (3, .c (.box 3 0)), (2, .c (.lit (.int .u32 (a2))))], ⟨[(3, [.lit (.int .i64 (a0.State)), .lit (.int .i64 (IntKind.wrap .i64 (a0.Busy + 1))), .lit (.int .i64 (v9)), .lit (.int .i64 (a0.Clear)), .lit (.int .i64 (a0.Wait))]), (6, [.lit (.int .i64 (0)), .lit (.int .i64 (0)), .lit (.int .i64 (0)), .lit (.int .i64 (0)), .lit (.int .i64 (0))])], []⟩⟩ (by kernel_rfl) ?_
            replace h := condO h
            rcases h with ⟨hb10, h⟩ | ⟨hb10, h⟩
            · refine T_condT' (e := (decide ((IntKind.wrap .i64 (a0.Busy + 1)) > 4))) (by kernel_rfl) hb10 ?_
              refine T_runs ⟨[(55, .c (.box 3 3)), (54, .c (.box 3 0)), (53, .c (.lit (.bool ((decide ((IntKind.wrap .i64 (a0.Busy + 1)) > 4)))))), (52, .c (.lit (.int .i64 (IntKind.wrap .i64 (a0.Busy + 1))))), (51, .c (.box 3 1)), (6, .c (.box 6 0)), (3, .c (.box 3 0)), (2, .c (.lit (.int .u32 (a2))))], ⟨[(3, [.lit (.int .i64 (4)), .lit (.int .i64 (IntKind.wrap .i64 (a0.Busy + 1))), .lit (.int .i64 (v9)), .lit (.int .i64 (2)), .lit (.int .i64 (a0.Wait))]), (6, [.lit (.int .i64 (0)), .lit (.int .i64 (0)), .lit (.int .i64 (0)), .lit (.int .i64 (0)), .lit (.int .i64 (0))])], []⟩⟩ (by kernel_rfl) ?_
              refine blockQ_normal ?_
              exact ⟨(4, IntKind.wrap .i64 (a0.Busy + 1), v9, 2, a0.Wait), h, by kernel_rfl⟩
            · refine T_condF' (e := (decide ((IntKind.wrap .i64 (a0.Busy + 1)) > 4))) (by kernel_rfl) hb10 ?_
              replace h := bindO h
              obtain ⟨v11, hv11, h⟩ := h
              refine T_region ?_
              refine TL_runs 2 ⟨[(57, .c (.lit (.int .u32 (a2)))), (56, .agg [.lit (.int .i64 (a0.State)), .lit (.int .i64 (IntKind.wrap .i64 (a0.Busy + 1))), .lit (.int .i64 (v9)), .lit (.int .i64 (a0.Clear)), .lit (.int .i64 (a0.Wait))]), (53, .c (.lit (.bool ((decide ((IntKind.wrap .i64 (a0.Busy + 1)) > 4)))))), (52, .c (.lit (.int .i64 (IntKind.wrap .i64 (a0.Busy + 1))))), (51, .c (.box 3 1)), (6, .c (.box 6 0)), (3, .c (.box 3 0)), (2, .c (.lit (.int .u32 (a2))))], ⟨[(3, [.lit (.int .i64 (a0.State)), .lit (.int .i64 (IntKind.wrap .i64 (a0.Busy + 1))), .lit (.int .i64 (v9)), .lit (.int .i64 (a0.Clear)), .lit (.int .i64 (a0.Wait))]), (6, [.lit (.int .i64 (0)), .lit (.int .i64 (0)), .lit (.int .i64 (0)), .lit (.int .i64 (0)), .lit (.int .i64 (0))])], []⟩⟩ (by kernel_rfl) ?_
              refine TL_grow (.agg [.lit (.int .i64 (v11.State)), .lit (.int .i64 (v11.Busy)), .lit (.int .i64 (v11.Exponent)), .lit (.int .i64 (v11.Clear)), .lit (.int .i64 (v11.Wait))]) (by kernel_rfl) (by kernel_rfl) (grow_call 27 Try.f27 [[0, 0, 0, 0, 0], [0]] [.agg (S_Backoff.cs (S_Backoff.mk a0.State (IntKind.wrap .i64 (a0.Busy + 1)) v9 a0.Clear a0.Wait)), .c (.lit (.int .u32 (a2)))] rfl (by kernel_rfl) Try.func27 (by kernel_rfl) (by kernel_rfl) (by kernel_rfl) (ok_ref08_drawn (S_Backoff.mk a0.State (IntKind.wrap .i64 (a0.Busy + 1)) v9 a0.Clear a0.Wait) a2 v11 hv11)) ?_
              refine TL_end ⟨[(58, .agg [.lit (.int .i64 (v11.State)), .lit (.int .i64 (v11.Busy)), .lit (.int .i64 (v11.Exponent)), .lit (.int .i64 (v11.Clear)), .lit (.int .i64 (v11.Wait))]), (57, .c (.lit (.int .u32 (a2)))), (56, .agg [.lit (.int .i64 (a0.State)), .lit (.int .i64 (IntKind.wrap .i64 (a0.Busy + 1))), .lit (.int .i64 (v9)), .lit (.int .i64 (a0.Clear)), .lit (.int .i64 (a0.Wait))]), (53, .c (.lit (.bool ((decide ((IntKind.wrap .i64 (a0.Busy + 1)) > 4)))))), (52, .c (.lit (.int .i64 (IntKind.wrap .i64 (a0.Busy + 1))))), (51, .c (.box 3 1)), (6, .c (.box 6 0)), (3, .c (.box 3 0)), (2, .c (.lit (.int .u32 (a2))))], ⟨[(3, [.lit (.int .i64 (v11.State)), .lit (.int .i64 (v11.Busy)), .lit (.int .i64 (v11.Exponent)), .lit (.int .i64 (v11.Clear)), .lit (.int .i64 (v11.Wait))]), (6, [.lit (.int .i64 (0)), .lit (.int .i64 (0)), .lit (.int .i64 (0)), .lit (.int .i64 (0)), .lit (.int .i64 (0))])], []⟩⟩ (by kernel_rfl) ?_
              refine blockQ_normal ?_
              exact ⟨(v11.State, v11.Busy, v11.Exponent, v11.Clear, v11.Wait), h, by kernel_rfl⟩
          · subst hb8
            refine T_condT (by kernel_rfl) ?_
            refine T_seq ?_
            refine T_runs ⟨[(34, .c (.box 3 3)), (33, .c (.lit (.int .i64 (IntKind.wrap .i64 (a0.Clear - 1))))), (32, .c (.lit (.int .i64 (a0.Clear)))), (31, .c (.box 3 3)), (23, .c (.lit (.bool (true)))), (6, .c (.box 6 0)), (3, .c (.box 3 0)), (2, .c (.lit (.int .u32 (a2))))], ⟨[(3, [.lit (.int .i64 (a0.State)), .lit (.int .i64 (a0.Busy)), .lit (.int .i64 (a0.Exponent)), .lit (.int .i64 (IntKind.wrap .i64 (a0.Clear - 1))), .lit (.int .i64 (a0.Wait))]), (6, [.lit (.int .i64 (0)), .lit (.int .i64 (0)), .lit (.int .i64 (0)), .lit (.int .i64 (0)), .lit (.int .i64 (0))])], []⟩⟩ (by kernel_rfl) ?_
            refine T_keep [6, 3] [3, 6] [] ?_
            refine T_seq ?_
            refine T_runs ⟨[(37, .c (.lit (.bool (((IntKind.wrap .i64 (a0.Clear - 1)) == 0))))), (36, .c (.lit (.int .i64 (IntKind.wrap .i64 (a0.Clear - 1))))), (35, .c (.box 3 3)), (6, .c (.box 6 0)), (3, .c (.box 3 0))], ⟨[(3, [.lit (.int .i64 (a0.State)), .lit (.int .i64 (a0.Busy)), .lit (.int .i64 (a0.Exponent)), .lit (.int .i64 (IntKind.wrap .i64 (a0.Clear - 1))), .lit (.int .i64 (a0.Wait))]), (6, [.lit (.int .i64 (0)), .lit (.int .i64 (0)), .lit (.int .i64 (0)), .lit (.int .i64 (0)), .lit (.int .i64 (0))])], []⟩⟩ (by kernel_rfl) ?_
            replace h := condO h
            rcases h with ⟨hb12, h⟩ | ⟨hb12, h⟩
            · refine T_condT' (e := ((IntKind.wrap .i64 (a0.Clear - 1)) == 0)) (by kernel_rfl) hb12 ?_
              refine T_runs ⟨[(38, .c (.box 3 0)), (37, .c (.lit (.bool (((IntKind.wrap .i64 (a0.Clear - 1)) == 0))))), (36, .c (.lit (.int .i64 (IntKind.wrap .i64 (a0.Clear - 1))))), (35, .c (.box 3 3)), (6, .c (.box 6 0)), (3, .c (.box 3 0))], ⟨[(3, [.lit (.int .i64 (3)), .lit (.int .i64 (a0.Busy)), .lit (.int .i64 (a0.Exponent)), .lit (.int .i64 (IntKind.wrap .i64 (a0.Clear - 1))), .lit (.int .i64 (a0.Wait))]), (6, [.lit (.int .i64 (0)), .lit (.int .i64 (0)), .lit (.int .i64 (0)), .lit (.int .i64 (0)), .lit (.int .i64 (0))])], []⟩⟩ (by kernel_rfl) ?_
              refine blockQ_normal ?_
              exact ⟨(3, a0.Busy, a0.Exponent, IntKind.wrap .i64 (a0.Clear - 1), a0.Wait), h, by kernel_rfl⟩
            · refine T_condF' (e := ((IntKind.wrap .i64 (a0.Clear - 1)) == 0)) (by kernel_rfl) hb12 ?_
              refine T_skip ?_
              refine blockQ_normal ?_
              exact ⟨(a0.State, a0.Busy, a0.Exponent, IntKind.wrap .i64 (a0.Clear - 1), a0.Wait), h, by kernel_rfl⟩
        · refine T_region ?_
          refine TL_runs 2 ⟨[(25, .c (.lit (.int .i64 (a0.State)))), (24, .c (.box 3 0)), (11, .c (.lit (.bool ((a0.State == 1))))), (6, .c (.box 6 0)), (3, .c (.box 3 0)), (1, .c (.lit (.bool (a1)))), (2, .c (.lit (.int .u32 (a2))))], ⟨[(6, [.lit (.int .i64 (0)), .lit (.int .i64 (0)), .lit (.int .i64 (0)), .lit (.int .i64 (0)), .lit (.int .i64 (0))]), (3, [.lit (.int .i64 (a0.State)), .lit (.int .i64 (a0.Busy)), .lit (.int .i64 (a0.Exponent)), .lit (.int .i64 (a0.Clear)), .lit (.int .i64 (a0.Wait))])], []⟩⟩ (by kernel_rfl) ?_
          refine TL_grow (.c (.lit (.bool (false)))) (by kernel_rfl) (by kernel_rfl) (grow_bool (e := (a0.State == 2)) (by kernel_rfl) hb7) ?_
          refine TL_end ⟨[(23, .c (.lit (.bool (false)))), (30, .c (.lit (.bool (false)))), (29, .tup []), (28, .tup []), (27, .c (.lit (.bool (false)))), (26, .c (.lit (.bool (false)))), (25, .c (.lit (.int .i64 (a0.State)))), (24, .c (.box 3 0)), (11, .c (.lit (.bool ((a0.State == 1))))), (6, .c (.box 6 0)), (3, .c (.box 3 0)), (1, .c (.lit (.bool (a1)))), (2, .c (.lit (.int .u32 (a2))))], ⟨[(6, [.lit (.int .i64 (0)), .lit (.int .i64 (0)), .lit (.int .i64 (0)), .lit (.int .i64 (0)), .lit (.int .i64 (0))]), (3, [.lit (.int .i64 (a0.State)), .lit (.int .i64 (a0.Busy)), .lit (.int .i64 (a0.Exponent)), .lit (.int .i64 (a0.Clear)), .lit (.int .i64 (a0.Wait))])], []⟩⟩ (by kernel_rfl) ?_
          refine T_keep [23, 6, 3, 2] [6, 3] [] ?_
          refine T_condF (by kernel_rfl) ?_
          refine T_seq ?_
          refine T_region ?_
          refine TL_runs 2 ⟨[(41, .c (.lit (.int .i64 (a0.State)))), (40, .c (.box 3 0)), (23, .c (.lit (.bool (false)))), (6, .c (.box 6 0)), (3, .c (.box 3 0)), (2, .c (.lit (.int .u32 (a2))))], ⟨[(6, [.lit (.int .i64 (0)), .lit (.int .i64 (0)), .lit (.int .i64 (0)), .lit (.int .i64 (0)), .lit (.int .i64 (0))]), (3, [.lit (.int .i64 (a0.State)), .lit (.int .i64 (a0.Busy)), .lit (.int .i64 (a0.Exponent)), .lit (.int .i64 (a0.Clear)), .lit (.int .i64 (a0.Wait))])], []⟩⟩ (by kernel_rfl) ?_
          refine TL_grow (.c (.lit (.bool (false)))) (by kernel_rfl) (by kernel_rfl) (grow_bool (e := (a0.State == 2)) (by kernel_rfl) hb7) ?_
          refine TL_end ⟨[(39, .c (.lit (.bool (false)))), (42, .c (.lit (.bool (false)))), (41, .c (.lit (.int .i64 (a0.State)))), (40, .c (.box 3 0)), (23, .c (.lit (.bool (false)))), (6, .c (.box 6 0)), (3, .c (.box 3 0)), (2, .c (.lit (.int .u32 (a2))))], ⟨[(6, [.lit (.int .i64 (0)), .lit (.int .i64 (0)), .lit (.int .i64 (0)), .lit (.int .i64 (0)), .lit (.int .i64 (0))]), (3, [.lit (.int .i64 (a0.State)), .lit (.int .i64 (a0.Busy)), .lit (.int .i64 (a0.Exponent)), .lit (.int .i64 (a0.Clear)), .lit (.int .i64 (a0.Wait))])], []⟩⟩ (by kernel_rfl) ?_
          refine T_keep [39, 6, 3, 2] [6, 3] [] ?_
          refine T_condF (by kernel_rfl) ?_
          refine T_skip ?_
          refine blockQ_normal ?_
          exact ⟨(a0.State, a0.Busy, a0.Exponent, a0.Clear, a0.Wait), h, by kernel_rfl⟩
  · subst hb2
    refine T_condT (by kernel_rfl) ?_
    refine T_seq ?_
    refine T_runs ⟨[(10, .agg [.lit (.int .i64 (0)), .lit (.int .i64 (0)), .lit (.int .i64 (0)), .lit (.int .i64 (0)), .lit (.int .i64 (0))]), (9, .c (.lit (.bool (true)))), (6, .c (.box 6 0)), (3, .c (.box 3 0)), (1, .c (.lit (.bool (a1)))), (2, .c (.lit (.int .u32 (a2))))], ⟨[(6, [.lit (.int .i64 (0)), .lit (.int .i64 (0)), .lit (.int .i64 (0)), .lit (.int .i64 (0)), .lit (.int .i64 (0))]), (3, [.lit (.int .i64 (a0.State)), .lit (.int .i64 (a0.Busy)), .lit (.int .i64 (a0.Exponent)), .lit (.int .i64 (a0.Clear)), .lit (.int .i64 (a0.Wait))])], []⟩⟩ (by kernel_rfl) ?_
    refine T_keep [6] [6] [] ?_
    refine T_ret ?_
    refine thenQ_ret ?_
    obtain rfl := Option.some.inj h
    exact ⟨[(true, [.lit (.int .i64 (0)), .lit (.int .i64 (0)), .lit (.int .i64 (0)), .lit (.int .i64 (0)), .lit (.int .i64 (0))])], by kernel_rfl, by kernel_rfl⟩

/-- multihop/backoff.Begin -/
noncomputable def F_backoff_Begin (a0 : Int) : Option (S_Backoff) :=
  (F_backoff_exponent 0).bind fun v1 =>
  (F_backoff_drawn (S_Backoff.mk 0 0 v1 0 0) a0).bind fun v2 =>
  some (v2)
set_option maxRecDepth 100000 in
theorem ok_backoff_Begin (a0 : Int) (r : S_Backoff) (h : F_backoff_Begin a0 = some r) : Pure Try.prog 19 [.c (.lit (.int .u32 (a0)))] (.agg (S_Backoff.cs r)) := by
  unfold F_backoff_Begin at h
  refine pure_of [[0, 0, 0, 0, 0]] 7 Try.func19 rfl rfl rfl (by kernel_rfl) (fun K => ?_)
  refine T_seq ?_
  refine T_runs ⟨[(2, .c (.box 2 0)), (0, .c (.lit (.int .u32 (a0))))], ⟨[(2, [.lit (.int .i64 (0)), .lit (.int .i64 (0)), .lit (.int .i64 (0)), .lit (.int .i64 (0)), .lit (.int .i64 (0))])], []⟩⟩ (by kernel_rfl) ?_
  refine T_seq ?_
  replace h := bindO h
  obtain ⟨v1, hv1, h⟩ := h
  replace h := bindO h
  obtain ⟨v2, hv2, h⟩ := h
  refine T_region ?_
  refine TL_grow (.c (.lit (.int .i64 (v1)))) (by kernel_rfl) (by kernel_rfl) (grow_call 24 Try.f24 [[0]] [.c (.lit (.int .i64 (0)))] rfl (by kernel_rfl) Try.func24 (by kernel_rfl) (by kernel_rfl) (by kernel_rfl) (ok_backoff_exponent 0 v1 hv1)) ?_
  refine TL_runs 2 ⟨[(5, .c (.lit (.int .u32 (a0)))), (4, .agg [.lit (.int .i64 (0)), .lit (.int .i64 (0)), .lit (.int .i64 (v1)), .lit (.int .i64 (0)), .lit (.int .i64 (0))]), (3, .c (.lit (.int .i64 (v1)))), (2, .c (.box 2 0)), (0, .c (.lit (.int .u32 (a0))))], ⟨[(2, [.lit (.int .i64 (0)), .lit (.int .i64 (0)), .lit (.int .i64 (0)), .lit (.int .i64 (0)), .lit (.int .i64 (0))])], []⟩⟩ (by kernel_rfl) ?_
  refine TL_grow (.agg [.lit (.int .i64 (v2.State)), .lit (.int .i64 (v2.Busy)), .lit (.int .i64 (v2.Exponent)), .lit (.int .i64 (v2.Clear)), .lit (.int .i64 (v2.Wait))]) (by kernel_rfl) (by kernel_rfl) (grow_call 28 Try.f28 [[0, 0, 0, 0, 0], [0]] [.agg (S_Backoff.cs (S_Backoff.mk 0 0 v1 0 0)), .c (.lit (.int .u32 (a0)))] rfl (by kernel_rfl) Try.func28 (by kernel_rfl) (by kernel_rfl) (by kernel_rfl) (ok_backoff_drawn (S_Backoff.mk 0 0 v1 0 0) a0 v2 hv2)) ?_
  refine TL_end ⟨[(6, .agg [.lit (.int .i64 (v2.State)), .lit (.int .i64 (v2.Busy)), .lit (.int .i64 (v2.Exponent)), .lit (.int .i64 (v2.Clear)), .lit (.int .i64 (v2.Wait))]), (5, .c (.lit (.int .u32 (a0)))), (4, .agg [.lit (.int .i64 (0)), .lit (.int .i64 (0)), .lit (.int .i64 (v1)), .lit (.int .i64 (0)), .lit (.int .i64 (0))]), (3, .c (.lit (.int .i64 (v1)))), (2, .c (.box 2 0)), (0, .c (.lit (.int .u32 (a0))))], ⟨[(2, [.lit (.int .i64 (v2.State)), .lit (.int .i64 (v2.Busy)), .lit (.int .i64 (v2.Exponent)), .lit (.int .i64 (v2.Clear)), .lit (.int .i64 (v2.Wait))])], []⟩⟩ (by kernel_rfl) ?_
  refine T_keep [2] [2] [] ?_
  refine T_ret ?_
  obtain rfl := Option.some.inj h
  exact ⟨[(true, [.lit (.int .i64 (v2.State)), .lit (.int .i64 (v2.Busy)), .lit (.int .i64 (v2.Exponent)), .lit (.int .i64 (v2.Clear)), .lit (.int .i64 (v2.Wait))])], by kernel_rfl, by kernel_rfl⟩

/-- multihop/multihoplaw08.known -/
noncomputable def F_law08_known_l1  (s2 : Int × S_Backoff) : Option ((Int × S_Backoff) ⊕ (S_Backoff)) :=
  bif (decide (s2.1 < 3)) then
    (F_backoff_Step s2.2 false 0).bind fun v5 =>
    some (Sum.inl (IntKind.wrap .i64 (s2.1 + 1), v5))
  else
    some (Sum.inr s2.2)
noncomputable def F_law08_known  : Option (Bool) :=
  (F_backoff_Begin 9).bind fun v1 =>
  (loopO (F_law08_known_l1) (0, v1)).bind fun b3 =>
  (F_backoff_Ended b3).bind fun v8 =>
  bif v8 then
    some ((b3.State == 3))
  else
    some (false)
set_option maxRecDepth 100000 in
theorem ok_law08_known  (r : Bool) (h : F_law08_known  = some r) : Pure Try.prog 18 [] (.c (.lit (.bool (r)))) := by
  unfold F_law08_known at h
  refine pure_of [[0]] 17 Try.func18 rfl rfl rfl (by kernel_rfl) (fun K => ?_)
  refine T_seq ?_
  refine T_runs ⟨[(0, .c (.lit (.bool (false))))], ⟨[], []⟩⟩ (by kernel_rfl) ?_
  refine T_seq ?_
  replace h := bindO h
  obtain ⟨v1, hv1, h⟩ := h
  refine T_region ?_
  refine TL_grow (.agg [.lit (.int .i64 (v1.State)), .lit (.int .i64 (v1.Busy)), .lit (.int .i64 (v1.Exponent)), .lit (.int .i64 (v1.Clear)), .lit (.int .i64 (v1.Wait))]) (by kernel_rfl) (by kernel_rfl) (grow_call 19 Try.f19 [[0]] [.c (.lit (.int .u32 (9)))] rfl (by kernel_rfl) Try.func19 (by kernel_rfl) (by kernel_rfl) (by kernel_rfl) (ok_backoff_Begin 9 v1 hv1)) ?_
  refine TL_end ⟨[(1, .c (.box 1 0)), (3, .agg [.lit (.int .i64 (v1.State)), .lit (.int .i64 (v1.Busy)), .lit (.int .i64 (v1.Exponent)), .lit (.int .i64 (v1.Clear)), .lit (.int .i64 (v1.Wait))]), (0, .c (.lit (.bool (false))))], ⟨[(1, [.lit (.int .i64 (v1.State)), .lit (.int .i64 (v1.Busy)), .lit (.int .i64 (v1.Exponent)), .lit (.int .i64 (v1.Clear)), .lit (.int .i64 (v1.Wait))])], []⟩⟩ (by kernel_rfl) ?_
  refine T_seq ?_
  refine T_seq ?_
  refine T_runs ⟨[(2, .c (.lit (.int .i64 (0)))), (1, .c (.box 1 0)), (3, .agg [.lit (.int .i64 (v1.State)), .lit (.int .i64 (v1.Busy)), .lit (.int .i64 (v1.Exponent)), .lit (.int .i64 (v1.Clear)), .lit (.int .i64 (v1.Wait))]), (0, .c (.lit (.bool (false))))], ⟨[(1, [.lit (.int .i64 (v1.State)), .lit (.int .i64 (v1.Busy)), .lit (.int .i64 (v1.Exponent)), .lit (.int .i64 (v1.Clear)), .lit (.int .i64 (v1.Wait))])], []⟩⟩ (by kernel_rfl) ?_
  refine T_block ?_
  refine T_keepS [1, 2] [1] ?_
  refine T_sub (by kernel_rfl : _ = (fun (s2 : Int × S_Backoff) => ⟨[(1, .c (.box 1 0)), (2, .c (.lit (.int .i64 (s2.1))))], ⟨[(1, [.lit (.int .i64 (s2.2.State)), .lit (.int .i64 (s2.2.Busy)), .lit (.int .i64 (s2.2.Exponent)), .lit (.int .i64 (s2.2.Clear)), .lit (.int .i64 (s2.2.Wait))])], []⟩⟩) (0, v1)) ?_
  replace h := bindO h
  obtain ⟨b3, hl7, h⟩ := h
  refine T_loopS [1, 2] [1] (F_law08_known_l1) (fun (s2 : Int × S_Backoff) => ⟨[(1, .c (.box 1 0)), (2, .c (.lit (.int .i64 (s2.1))))], ⟨[(1, [.lit (.int .i64 (s2.2.State)), .lit (.int .i64 (s2.2.Busy)), .lit (.int .i64 (s2.2.Exponent)), .lit (.int .i64 (s2.2.Clear)), .lit (.int .i64 (s2.2.Wait))])], []⟩⟩) (fun b3 e st => e = .exit 0 ∧ St.keepS st [1] [1] = ⟨[(1, .c (.box 1 0))], ⟨[(1, [.lit (.int .i64 (b3.State)), .lit (.int .i64 (b3.Busy)), .lit (.int .i64 (b3.Exponent)), .lit (.int .i64 (b3.Clear)), .lit (.int .i64 (b3.Wait))])], []⟩⟩) (0, v1) _ hl7 ?_ ?_
  · intro s2 x h
    unfold F_law08_known_l1 at h
    refine T_seq ?_
    refine T_seq ?_
    refine T_runs ⟨[(5, .c (.lit (.bool ((decide (s2.1 < 3)))))), (4, .c (.lit (.int .i64 (s2.1)))), (1, .c (.box 1 0)), (2, .c (.lit (.int .i64 (s2.1))))], ⟨[(1, [.lit (.int .i64 (s2.2.State)), .lit (.int .i64 (s2.2.Busy)), .lit (.int .i64 (s2.2.Exponent)), .lit (.int .i64 (s2.2.Clear)), .lit (.int .i64 (s2.2.Wait))])], []⟩⟩ (by kernel_rfl) ?_
    replace h := condO h
    rcases h with ⟨hb4, h⟩ | ⟨hb4, h⟩
    · refine T_condT' (e := (decide (s2.1 < 3))) (by kernel_rfl) hb4 ?_
      refine T_skip ?_
      refine T_seq ?_
      refine T_block ?_
      replace h := bindO h
      obtain ⟨v5, hv5, h⟩ := h
      refine T_region ?_
      refine TL_runs 1 ⟨[(8, .agg [.lit (.int .i64 (s2.2.State)), .lit (.int .i64 (s2.2.Busy)), .lit (.int .i64 (s2.2.Exponent)), .lit (.int .i64 (s2.2.Clear)), .lit (.int .i64 (s2.2.Wait))]), (5, .c (.lit (.bool ((decide (s2.1 < 3)))))), (4, .c (.lit (.int .i64 (s2.1)))), (1, .c (.box 1 0)), (2, .c (.lit (.int .i64 (s2.1))))], ⟨[(1, [.lit (.int .i64 (s2.2.State)), .lit (.int .i64 (s2.2.Busy)), .lit (.int .i64 (s2.2.Exponent)), .lit (.int .i64 (s2.2.Clear)), .lit (.int .i64 (s2.2.Wait))])], []⟩⟩ (by kernel_rfl) ?_
      refine TL_grow (.agg [.lit (.int .i64 (v5.State)), .lit (.int .i64 (v5.Busy)), .lit (.int .i64 (v5.Exponent)), .lit (.int .i64 (v5.Clear)), .lit (.int .i64 (v5.Wait))]) (by kernel_rfl) (by kernel_rfl) (grow_call 16 Try.f16 [[0, 0, 0, 0, 0], [0], [0]] [.agg (S_Backoff.cs s2.2), .c (.lit (.bool (false))), .c (.lit (.int .u32 (0)))] rfl (by kernel_rfl) Try.func16 (by kernel_rfl) (by kernel_rfl) (by kernel_rfl) (ok_backoff_Step s2.2 false 0 v5 hv5)) ?_
      refine TL_end ⟨[(9, .agg [.lit (.int .i64 (v5.State)), .lit (.int .i64 (v5.Busy)), .lit (.int .i64 (v5.Exponent)), .lit (.int .i64 (v5.Clear)), .lit (.int .i64 (v5.Wait))]), (8, .agg [.lit (.int .i64 (s2.2.State)), .lit (.int .i64 (s2.2.Busy)), .lit (.int .i64 (s2.2.Exponent)), .lit (.int .i64 (s2.2.Clear)), .lit (.int .i64 (s2.2.Wait))]), (5, .c (.lit (.bool ((decide (s2.1 < 3)))))), (4, .c (.lit (.int .i64 (s2.1)))), (1, .c (.box 1 0)), (2, .c (.lit (.int .i64 (s2.1))))], ⟨[(1, [.lit (.int .i64 (v5.State)), .lit (.int .i64 (v5.Busy)), .lit (.int .i64 (v5.Exponent)), .lit (.int .i64 (v5.Clear)), .lit (.int .i64 (v5.Wait))])], []⟩⟩ (by kernel_rfl) ?_
      refine blockQ_normal ?_
      refine T_keep [1, 2] [1] [] ?_
      refine T_runs ⟨[(2, .c (.lit (.int .i64 (IntKind.wrap .i64 (s2.1 + 1))))), (7, .c (.lit (.int .i64 (IntKind.wrap .i64 (s2.1 + 1))))), (6, .c (.lit (.int .i64 (s2.1)))), (1, .c (.box 1 0))], ⟨[(1, [.lit (.int .i64 (v5.State)), .lit (.int .i64 (v5.Busy)), .lit (.int .i64 (v5.Exponent)), .lit (.int .i64 (v5.Clear)), .lit (.int .i64 (v5.Wait))])], []⟩⟩ (by kernel_rfl) ?_
      obtain rfl := Option.some.inj h
      exact ⟨_, rfl, by kernel_rfl⟩
    · refine T_condF' (e := (decide (s2.1 < 3))) (by kernel_rfl) hb4 ?_
      refine T_exit ?_
      refine thenQ_exit ?_
      obtain rfl := Option.some.inj h
      exact ⟨_, rfl, rfl, by kernel_rfl⟩
  · intro e st hq
    obtain ⟨rfl, hst⟩ := hq
    refine blockQ_exit ?_
    refine T_keepS [1] [1] ?_
    refine T_sub hst ?_
    refine T_seq ?_
    replace h := bindO h
    obtain ⟨v8, hv8, h⟩ := h
    replace h := condO h
    rcases h with ⟨hb9, h⟩ | ⟨hb9, h⟩
    · subst hb9
      refine T_region ?_
      refine TL_runs 1 ⟨[(10, .agg [.lit (.int .i64 (b3.State)), .lit (.int .i64 (b3.Busy)), .lit (.int .i64 (b3.Exponent)), .lit (.int .i64 (b3.Clear)), .lit (.int .i64 (b3.Wait))]), (1, .c (.box 1 0))], ⟨[(1, [.lit (.int .i64 (b3.State)), .lit (.int .i64 (b3.Busy)), .lit (.int .i64 (b3.Exponent)), .lit (.int .i64 (b3.Clear)), .lit (.int .i64 (b3.Wait))])], []⟩⟩ (by kernel_rfl) ?_
      refine TL_grow (.c (.lit (.bool (true)))) (by kernel_rfl) (by kernel_rfl) (grow_call 14 Try.f14 [[0, 0, 0, 0, 0]] [.agg (S_Backoff.cs b3)] rfl (by kernel_rfl) Try.func14 (by kernel_rfl) (by kernel_rfl) (by kernel_rfl) (ok_backoff_Ended b3 true hv8)) ?_
      refine TL_end ⟨[(0, .c (.lit (.bool ((b3.State == 3))))), (16, .c (.lit (.bool ((b3.State == 3))))), (15, .c (.lit (.bool ((b3.State == 3))))), (14, .c (.lit (.int .i64 (b3.State)))), (13, .c (.box 1 0)), (12, .c (.lit (.bool (true)))), (11, .c (.lit (.bool (true)))), (10, .agg [.lit (.int .i64 (b3.State)), .lit (.int .i64 (b3.Busy)), .lit (.int .i64 (b3.Exponent)), .lit (.int .i64 (b3.Clear)), .lit (.int .i64 (b3.Wait))]), (1, .c (.box 1 0))], ⟨[(1, [.lit (.int .i64 (b3.State)), .lit (.int .i64 (b3.Busy)), .lit (.int .i64 (b3.Exponent)), .lit (.int .i64 (b3.Clear)), .lit (.int .i64 (b3.Wait))])], []⟩⟩ (by kernel_rfl) ?_
      refine T_keep [0] [] [] ?_
      refine T_ret ?_
      obtain rfl := Option.some.inj h
      exact ⟨[(false, [.lit (.bool ((b3.State == 3)))])], by kernel_rfl, by kernel_rfl⟩
    · subst hb9
      refine T_region ?_
      refine TL_runs 1 ⟨[(10, .agg [.lit (.int .i64 (b3.State)), .lit (.int .i64 (b3.Busy)), .lit (.int .i64 (b3.Exponent)), .lit (.int .i64 (b3.Clear)), .lit (.int .i64 (b3.Wait))]), (1, .c (.box 1 0))], ⟨[(1, [.lit (.int .i64 (b3.State)), .lit (.int .i64 (b3.Busy)), .lit (.int .i64 (b3.Exponent)), .lit (.int .i64 (b3.Clear)), .lit (.int .i64 (b3.Wait))])], []⟩⟩ (by kernel_rfl) ?_
      refine TL_grow (.c (.lit (.bool (false)))) (by kernel_rfl) (by kernel_rfl) (grow_call 14 Try.f14 [[0, 0, 0, 0, 0]] [.agg (S_Backoff.cs b3)] rfl (by kernel_rfl) Try.func14 (by kernel_rfl) (by kernel_rfl) (by kernel_rfl) (ok_backoff_Ended b3 false hv8)) ?_
      refine TL_end ⟨[(0, .c (.lit (.bool (false)))), (16, .c (.lit (.bool (false)))), (15, .tup []), (14, .tup []), (13, .tup []), (12, .c (.lit (.bool (false)))), (11, .c (.lit (.bool (false)))), (10, .agg [.lit (.int .i64 (b3.State)), .lit (.int .i64 (b3.Busy)), .lit (.int .i64 (b3.Exponent)), .lit (.int .i64 (b3.Clear)), .lit (.int .i64 (b3.Wait))]), (1, .c (.box 1 0))], ⟨[(1, [.lit (.int .i64 (b3.State)), .lit (.int .i64 (b3.Busy)), .lit (.int .i64 (b3.Exponent)), .lit (.int .i64 (b3.Clear)), .lit (.int .i64 (b3.Wait))])], []⟩⟩ (by kernel_rfl) ?_
      refine T_keep [0] [] [] ?_
      refine T_ret ?_
      obtain rfl := Option.some.inj h
      exact ⟨[(false, [.lit (.bool (false))])], by kernel_rfl, by kernel_rfl⟩

/-- multihop/multihopref08.Begin -/
noncomputable def F_ref08_Begin (a0 : Int) : Option (S_Backoff) :=
  (F_ref08_drawn (S_Backoff.mk 0 0 3 0 0) a0).bind fun v1 =>
  some (v1)
set_option maxRecDepth 100000 in
theorem ok_ref08_Begin (a0 : Int) (r : S_Backoff) (h : F_ref08_Begin a0 = some r) : Pure Try.prog 20 [.c (.lit (.int .u32 (a0)))] (.agg (S_Backoff.cs r)) := by
  unfold F_ref08_Begin at h
  refine pure_of [[0, 0, 0, 0, 0]] 6 Try.func20 rfl rfl rfl (by kernel_rfl) (fun K => ?_)
  refine T_seq ?_
  refine T_runs ⟨[(2, .c (.box 2 0)), (0, .c (.lit (.int .u32 (a0))))], ⟨[(2, [.lit (.int .i64 (0)), .lit (.int .i64 (0)), .lit (.int .i64 (0)), .lit (.int .i64 (0)), .lit (.int .i64 (0))])], []⟩⟩ (by kernel_rfl) ?_
  refine T_seq ?_
  replace h := bindO h
  obtain ⟨v1, hv1, h⟩ := h
  refine T_region ?_
  refine TL_runs 2 ⟨[(4, .c (.lit (.int .u32 (a0)))), (3, .agg [.lit (.int .i64 (0)), .lit (.int .i64 (0)), .lit (.int .i64 (3)), .lit (.int .i64 (0)), .lit (.int .i64 (0))]), (2, .c (.box 2 0)), (0, .c (.lit (.int .u32 (a0))))], ⟨[(2, [.lit (.int .i64 (0)), .lit (.int .i64 (0)), .lit (.int .i64 (0)), .lit (.int .i64 (0)), .lit (.int .i64 (0))])], []⟩⟩ (by kernel_rfl) ?_
  refine TL_grow (.agg [.lit (.int .i64 (v1.State)), .lit (.int .i64 (v1.Busy)), .lit (.int .i64 (v1.Exponent)), .lit (.int .i64 (v1.Clear)), .lit (.int .i64 (v1.Wait))]) (by kernel_rfl) (by kernel_rfl) (grow_call 27 Try.f27 [[0, 0, 0, 0, 0], [0]] [.agg (S_Backoff.cs (S_Backoff.mk 0 0 3 0 0)), .c (.lit (.int .u32 (a0)))] rfl (by kernel_rfl) Try.func27 (by kernel_rfl) (by kernel_rfl) (by kernel_rfl) (ok_ref08_drawn (S_Backoff.mk 0 0 3 0 0) a0 v1 hv1)) ?_
  refine TL_end ⟨[(5, .agg [.lit (.int .i64 (v1.State)), .lit (.int .i64 (v1.Busy)), .lit (.int .i64 (v1.Exponent)), .lit (.int .i64 (v1.Clear)), .lit (.int .i64 (v1.Wait))]), (4, .c (.lit (.int .u32 (a0)))), (3, .agg [.lit (.int .i64 (0)), .lit (.int .i64 (0)), .lit (.int .i64 (3)), .lit (.int .i64 (0)), .lit (.int .i64 (0))]), (2, .c (.box 2 0)), (0, .c (.lit (.int .u32 (a0))))], ⟨[(2, [.lit (.int .i64 (v1.State)), .lit (.int .i64 (v1.Busy)), .lit (.int .i64 (v1.Exponent)), .lit (.int .i64 (v1.Clear)), .lit (.int .i64 (v1.Wait))])], []⟩⟩ (by kernel_rfl) ?_
  refine T_keep [2] [2] [] ?_
  refine T_ret ?_
  obtain rfl := Option.some.inj h
  exact ⟨[(true, [.lit (.int .i64 (v1.State)), .lit (.int .i64 (v1.Busy)), .lit (.int .i64 (v1.Exponent)), .lit (.int .i64 (v1.Clear)), .lit (.int .i64 (v1.Wait))])], by kernel_rfl, by kernel_rfl⟩

/-- multihop/multihoplaw08.at -/
noncomputable def F_law08_at (a0 : List Int) (a1 : Int) : Option (Int) :=
  bif (decide (a1 < (List.length a0 : Int))) then
    (idx a0 a1).bind fun e2 =>
    some (e2)
  else
    some (0)
set_option maxRecDepth 100000 in
theorem ok_law08_at (a0 : List Int) (a1 : Int) (r : Int) (h : F_law08_at a0 a1 = some r) : Pure Try.prog 21 [.c (.slc 1 0 (List.map (ecI .u32) (a0))), .c (.lit (.int .i64 (a1)))] (.c (.lit (.int .u32 (r)))) := by
  unfold F_law08_at at h
  refine pure_of [[0]] 13 Try.func21 rfl rfl rfl (by kernel_rfl) (fun K => ?_)
  refine T_seq ?_
  refine T_runs ⟨[(4, .c (.lit (.int .u32 (0)))), (0, .c (.slc 1 0 (List.map (ecI .u32) (a0)))), (1, .c (.lit (.int .i64 (a1))))], ⟨[], []⟩⟩ (by kernel_rfl) ?_
  refine T_seq ?_
  refine T_seq ?_
  refine T_region ?_
  refine TL_runs 2 ⟨[(6, .c (.slc 1 0 (List.map (ecI .u32) (a0)))), (5, .c (.lit (.int .i64 (a1)))), (4, .c (.lit (.int .u32 (0)))), (0, .c (.slc 1 0 (List.map (ecI .u32) (a0)))), (1, .c (.lit (.int .i64 (a1))))], ⟨[], []⟩⟩ (by kernel_rfl) ?_
  refine TL_grow (.c (.lit (.int .i64 ((List.length a0 : Int))))) (by kernel_rfl) (by kernel_rfl) (grow_len (e := 25) (f := (ecI .u32)) 1 0 (a0) rfl (by kernel_rfl) (by kernel_rfl)) ?_
  refine TL_end ⟨[(8, .c (.lit (.bool ((decide (a1 < (List.length a0 : Int))))))), (7, .c (.lit (.int .i64 ((List.length a0 : Int))))), (6, .c (.slc 1 0 (List.map (ecI .u32) (a0)))), (5, .c (.lit (.int .i64 (a1)))), (4, .c (.lit (.int .u32 (0)))), (0, .c (.slc 1 0 (List.map (ecI .u32) (a0)))), (1, .c (.lit (.int .i64 (a1))))], ⟨[], []⟩⟩ (by kernel_rfl) ?_
  refine T_keep [8, 0, 1] [] [] ?_
  replace h := condO h
  rcases h with ⟨hb1, h⟩ | ⟨hb1, h⟩
  · refine T_condT' (e := (decide (a1 < (List.length a0 : Int)))) (by kernel_rfl) hb1 ?_
    refine T_seq ?_
    replace h := bindO h
    obtain ⟨e2, he2, h⟩ := h
    refine T_region ?_
    refine TL_runs 2 ⟨[(10, .c (.lit (.int .i64 (a1)))), (9, .c (.slc 1 0 (List.map (ecI .u32) (a0)))), (8, .c (.lit (.bool ((decide (a1 < (List.length a0 : Int))))))), (0, .c (.slc 1 0 (List.map (ecI .u32) (a0)))), (1, .c (.lit (.int .i64 (a1))))], ⟨[], []⟩⟩ (by kernel_rfl) ?_
    refine TL_grow (.c (.ref [.lit (.int .u32 (e2))])) (by kernel_rfl) (by kernel_rfl) (PureOp.grow (pure_indexSlc (e := 25) (k := .i64) 0 1 (List.map (ecI .u32) a0) (a1) ((ecI .u32) e2) rfl (by kernel_rfl) (by kernel_rfl) (by kernel_rfl) (by kernel_rfl) (idx_spec he2).1 (map_get (idx_spec he2).2))) ?_
    refine TL_end ⟨[(4, .c (.lit (.int .u32 (e2)))), (12, .c (.lit (.int .u32 (e2)))), (11, .c (.ref [.lit (.int .u32 (e2))])), (10, .c (.lit (.int .i64 (a1)))), (9, .c (.slc 1 0 (List.map (ecI .u32) (a0)))), (8, .c (.lit (.bool ((decide (a1 < (List.length a0 : Int))))))), (0, .c (.slc 1 0 (List.map (ecI .u32) (a0)))), (1, .c (.lit (.int .i64 (a1))))], ⟨[], []⟩⟩ (by kernel_rfl) ?_
    refine T_keep [4] [] [] ?_
    refine T_ret ?_
    refine thenQ_ret ?_
    obtain rfl := Option.some.inj h
    exact ⟨[(false, [.lit (.int .u32 (e2))])], by kernel_rfl, by kernel_rfl⟩
  · refine T_condF' (e := (decide (a1 < (List.length a0 : Int)))) (by kernel_rfl) hb1 ?_
    refine T_skip ?_
    refine T_keep [] [] [] ?_
    refine T_seq ?_
    refine T_runs ⟨[(4, .c (.lit (.int .u32 (0))))], ⟨[], []⟩⟩ (by kernel_rfl) ?_
    refine T_ret ?_
    obtain rfl := Option.some.inj h
    exact ⟨[(false, [.lit (.int .u32 (0))])], by kernel_rfl, by kernel_rfl⟩

/-- multihop/multihoplaw08.busy -/
noncomputable def F_law08_busy (a0 : List Int) (a1 : Int) : Option (Bool) :=
  bif ((List.length a0 : Int) == 0) then
    some (false)
  else
    bif decide ((List.length a0 : Int) ≠ 0) then
      (idx a0 (Int.tmod (iquo .i64 a1 8) (List.length a0 : Int))).bind fun e3 =>
      bif decide (0 ≤ (IntKind.wrap .u64 (Int.tmod a1 8))) then
        some (((iand .u8 (ishr .u8 e3 (IntKind.wrap .u64 (Int.tmod a1 8))) 1) == 1))
      else none
    else none
set_option maxRecDepth 100000 in
theorem ok_law08_busy (a0 : List Int) (a1 : Int) (r : Bool) (h : F_law08_busy a0 a1 = some r) : Pure Try.prog 22 [.c (.slc 1 0 (List.map (ecI .u8) (a0))), .c (.lit (.int .i64 (a1)))] (.c (.lit (.bool (r)))) := by
  unfold F_law08_busy at h
  refine pure_of [[0]] 22 Try.func22 rfl rfl rfl (by kernel_rfl) (fun K => ?_)
  refine T_seq ?_
  refine T_runs ⟨[(4, .c (.lit (.bool (false)))), (0, .c (.slc 1 0 (List.map (ecI .u8) (a0)))), (1, .c (.lit (.int .i64 (a1))))], ⟨[], []⟩⟩ (by kernel_rfl) ?_
  refine T_seq ?_
  refine T_seq ?_
  refine T_region ?_
  refine TL_runs 1 ⟨[(5, .c (.slc 1 0 (List.map (ecI .u8) (a0)))), (4, .c (.lit (.bool (false)))), (0, .c (.slc 1 0 (List.map (ecI .u8) (a0)))), (1, .c (.lit (.int .i64 (a1))))], ⟨[], []⟩⟩ (by kernel_rfl) ?_
  refine TL_grow (.c (.lit (.int .i64 ((List.length a0 : Int))))) (by kernel_rfl) (by kernel_rfl) (grow_len (e := 5) (f := (ecI .u8)) 1 0 (a0) rfl (by kernel_rfl) (by kernel_rfl)) ?_
  refine TL_end ⟨[(7, .c (.lit (.bool (((List.length a0 : Int) == 0))))), (6, .c (.lit (.int .i64 ((List.length a0 : Int))))), (5, .c (.slc 1 0 (List.map (ecI .u8) (a0)))), (4, .c (.lit (.bool (false)))), (0, .c (.slc 1 0 (List.map (ecI .u8) (a0)))), (1, .c (.lit (.int .i64 (a1))))], ⟨[], []⟩⟩ (by kernel_rfl) ?_
  refine T_keep [7, 0, 1] [] [] ?_
  replace h := condO h
  rcases h with ⟨hb1, h⟩ | ⟨hb1, h⟩
  · refine T_condT' (e := ((List.length a0 : Int) == 0)) (by kernel_rfl) hb1 ?_
    refine T_seq ?_
    refine T_runs ⟨[(4, .c (.lit (.bool (false)))), (7, .c (.lit (.bool (((List.length a0 : Int) == 0))))), (0, .c (.slc 1 0 (List.map (ecI .u8) (a0)))), (1, .c (.lit (.int .i64 (a1))))], ⟨[], []⟩⟩ (by kernel_rfl) ?_
    refine T_keep [4] [] [] ?_
    refine T_ret ?_
    refine thenQ_ret ?_
    obtain rfl := Option.some.inj h
    exact ⟨[(false, [.lit (.bool (false))])], by kernel_rfl, by kernel_rfl⟩
  · refine T_condF' (e := ((List.length a0 : Int) == 0)) (by kernel_rfl) hb1 ?_
    refine T_skip ?_
    refine T_seq ?_
    replace h := chkO h
    obtain ⟨hc2, h⟩ := h
    replace h := bindO h
    obtain ⟨e3, he3, h⟩ := h
    replace h := chkO h
    obtain ⟨hc4, h⟩ := h
    refine T_region ?_
    refine TL_runs 4 ⟨[(11, .c (.slc 1 0 (List.map (ecI .u8) (a0)))), (10, .c (.lit (.int .i64 (iquo .i64 a1 8)))), (9, .c (.lit (.int .i64 (a1)))), (8, .c (.slc 1 0 (List.map (ecI .u8) (a0)))), (7, .c (.lit (.bool (((List.length a0 : Int) == 0))))), (0, .c (.slc 1 0 (List.map (ecI .u8) (a0)))), (1, .c (.lit (.int .i64 (a1))))], ⟨[], []⟩⟩ (by kernel_rfl) ?_
    refine TL_grow (.c (.lit (.int .i64 ((List.length a0 : Int))))) (by kernel_rfl) (by kernel_rfl) (grow_len (e := 5) (f := (ecI .u8)) 1 0 (a0) rfl (by kernel_rfl) (by kernel_rfl)) ?_
    refine TL_grow (.c (.lit (.int .i64 (Int.tmod (iquo .i64 a1 8) (List.length a0 : Int))))) (by kernel_rfl) (by kernel_rfl) (PureOp.grow (pure_intC (k := .i64) (k' := .i64) (iquo .i64 a1 8) ((List.length a0 : Int)) (by simp) rfl (by kernel_rfl) (by kernel_rfl) rfl (of_decide_eq_true hc2))) ?_
    refine TL_grow (.c (.ref [.lit (.int .u8 (e3))])) (by kernel_rfl) (by kernel_rfl) (PureOp.grow (pure_indexSlc (e := 5) (k := .i64) 0 1 (List.map (ecI .u8) a0) (Int.tmod (iquo .i64 a1 8) (List.length a0 : Int)) ((ecI .u8) e3) rfl (by kernel_rfl) (by kernel_rfl) (by kernel_rfl) (by kernel_rfl) (idx_spec he3).1 (map_get (idx_spec he3).2))) ?_
    refine TL_runs 4 ⟨[(18, .c (.lit (.int .u64 (IntKind.wrap .u64 (Int.tmod a1 8))))), (17, .c (.lit (.int .i64 (Int.tmod a1 8)))), (16, .c (.lit (.int .i64 (a1)))), (15, .c (.lit (.int .u8 (e3)))), (14, .c (.ref [.lit (.int .u8 (e3))])), (13, .c (.lit (.int .i64 (Int.tmod (iquo .i64 a1 8) (List.length a0 : Int))))), (12, .c (.lit (.int .i64 ((List.length a0 : Int))))), (11, .c (.slc 1 0 (List.map (ecI .u8) (a0)))), (10, .c (.lit (.int .i64 (iquo .i64 a1 8)))), (9, .c (.lit (.int .i64 (a1)))), (8, .c (.slc 1 0 (List.map (ecI .u8) (a0)))), (7, .c (.lit (.bool (((List.length a0 : Int) == 0))))), (0, .c (.slc 1 0 (List.map (ecI .u8) (a0)))), (1, .c (.lit (.int .i64 (a1))))], ⟨[], []⟩⟩ (by kernel_rfl) ?_
    refine TL_grow (.c (.lit (.int .u8 (ishr .u8 e3 (IntKind.wrap .u64 (Int.tmod a1 8)))))) (by kernel_rfl) (by kernel_rfl) (PureOp.grow (pure_intC (k := .u8) (k' := .u64) (e3) (IntKind.wrap .u64 (Int.tmod a1 8)) (by simp) rfl (by kernel_rfl) (by kernel_rfl) rfl (of_decide_eq_true hc4))) ?_
    refine TL_end ⟨[(4, .c (.lit (.bool (((iand .u8 (ishr .u8 e3 (IntKind.wrap .u64 (Int.tmod a1 8))) 1) == 1))))), (21, .c (.lit (.bool (((iand .u8 (ishr .u8 e3 (IntKind.wrap .u64 (Int.tmod a1 8))) 1) == 1))))), (20, .c (.lit (.int .u8 (iand .u8 (ishr .u8 e3 (IntKind.wrap .u64 (Int.tmod a1 8))) 1)))), (19, .c (.lit (.int .u8 (ishr .u8 e3 (IntKind.wrap .u64 (Int.tmod a1 8)))))), (18, .c (.lit (.int .u64 (IntKind.wrap .u64 (Int.tmod a1 8))))), (17, .c (.lit (.int .i64 (Int.tmod a1 8)))), (16, .c (.lit (.int .i64 (a1)))), (15, .c (.lit (.int .u8 (e3)))), (14, .c (.ref [.lit (.int .u8 (e3))])), (13, .c (.lit (.int .i64 (Int.tmod (iquo .i64 a1 8) (List.length a0 : Int))))), (12, .c (.lit (.int .i64 ((List.length a0 : Int))))), (11, .c (.slc 1 0 (List.map (ecI .u8) (a0)))), (10, .c (.lit (.int .i64 (iquo .i64 a1 8)))), (9, .c (.lit (.int .i64 (a1)))), (8, .c (.slc 1 0 (List.map (ecI .u8) (a0)))), (7, .c (.lit (.bool (((List.length a0 : Int) == 0))))), (0, .c (.slc 1 0 (List.map (ecI .u8) (a0)))), (1, .c (.lit (.int .i64 (a1))))], ⟨[], []⟩⟩ (by kernel_rfl) ?_
    refine T_keep [4] [] [] ?_
    refine T_ret ?_
    obtain rfl := Option.some.inj h
    exact ⟨[(false, [.lit (.bool (((iand .u8 (ishr .u8 e3 (IntKind.wrap .u64 (Int.tmod a1 8))) 1) == 1)))])], by kernel_rfl, by kernel_rfl⟩

/-- multihop/multihoplaw08.BackoffPlays -/
noncomputable def F_law08_BackoffPlays_l1 (a1 : List Int) (a0 : List Int) (s5 : Int × S_Backoff × S_Backoff) : Option ((Int × S_Backoff × S_Backoff) ⊕ ((S_Backoff × S_Backoff) ⊕ (Bool))) :=
  bif (decide (s5.1 < 130)) then
    bif (S_Backoff.eqb s5.2.1 s5.2.2) then
      (F_backoff_Valid s5.2.1).bind fun v9 =>
      bif v9 then
        (F_law08_busy a1 s5.1).bind fun v11 =>
        (F_law08_at a0 (IntKind.wrap .i64 (s5.1 + 1))).bind fun v12 =>
        (F_backoff_Step s5.2.1 v11 v12).bind fun v13 =>
        (F_law08_busy a1 s5.1).bind fun v14 =>
        (F_law08_at a0 (IntKind.wrap .i64 (s5.1 + 1))).bind fun v15 =>
        (F_ref08_Step s5.2.2 v14 v15).bind fun v16 =>
        some (Sum.inl (IntKind.wrap .i64 (s5.1 + 1), v13, v16))
      else
        some (Sum.inr (Sum.inr (false)))
    else
      some (Sum.inr (Sum.inr (false)))
  else
    some (Sum.inr (Sum.inl (s5.2.1, s5.2.2)))
noncomputable def F_law08_BackoffPlays (a0 : List Int) (a1 : List Int) : Option (Bool) :=
  (F_law08_at a0 0).bind fun v1 =>
  (F_backoff_Begin v1).bind fun v2 =>
  (F_law08_at a0 0).bind fun v3 =>
  (F_ref08_Begin v3).bind fun v4 =>
  (loopO (F_law08_BackoffPlays_l1 a1 a0) (0, v2, v4)).bind fun y17 =>
  match y17 with
  | Sum.inl b6 =>
    (F_law08_known ).bind fun v19 =>
    bif v19 then
      some ((S_Backoff.eqb b6.1 b6.2))
    else
      some (false)
  | Sum.inr v => some v
set_option maxRecDepth 100000 in
theorem ok_law08_BackoffPlays (a0 : List Int) (a1 : List Int) (r : Bool) (h : F_law08_BackoffPlays a0 a1 = some r) : Pure Try.prog 4 [.c (.slc 1 0 (List.map (ecI .u32) (a0))), .c (.slc 1 0 (List.map (ecI .u8) (a1)))] (.c (.lit (.bool (r)))) := by
  unfold F_law08_BackoffPlays at h
  refine pure_of [[0]] 50 Try.func4 rfl rfl rfl (by kernel_rfl) (fun K => ?_)
  refine T_seq ?_
  refine T_runs ⟨[(4, .c (.lit (.bool (false)))), (0, .c (.slc 1 0 (List.map (ecI .u32) (a0)))), (1, .c (.slc 1 0 (List.map (ecI .u8) (a1))))], ⟨[], []⟩⟩ (by kernel_rfl) ?_
  refine T_seq ?_
  replace h := bindO h
  obtain ⟨v1, hv1, h⟩ := h
  replace h := bindO h
  obtain ⟨v2, hv2, h⟩ := h
  replace h := bindO h
  obtain ⟨v3, hv3, h⟩ := h
  replace h := bindO h
  obtain ⟨v4, hv4, h⟩ := h
  refine T_region ?_
  refine TL_runs 1 ⟨[(8, .c (.slc 1 0 (List.map (ecI .u32) (a0)))), (4, .c (.lit (.bool (false)))), (0, .c (.slc 1 0 (List.map (ecI .u32) (a0)))), (1, .c (.slc 1 0 (List.map (ecI .u8) (a1))))], ⟨[], []⟩⟩ (by kernel_rfl) ?_
  refine TL_grow (.c (.lit (.int .u32 (v1)))) (by kernel_rfl) (by kernel_rfl) (grow_call 21 Try.f21 [[2], [0]] [.c (.slc 1 0 (List.map (ecI .u32) (a0))), .c (.lit (.int .i64 (0)))] rfl (by kernel_rfl) Try.func21 (by kernel_rfl) (by kernel_rfl) (by kernel_rfl) (ok_law08_at a0 0 v1 hv1)) ?_
  refine TL_grow (.agg [.lit (.int .i64 (v2.State)), .lit (.int .i64 (v2.Busy)), .lit (.int .i64 (v2.Exponent)), .lit (.int .i64 (v2.Clear)), .lit (.int .i64 (v2.Wait))]) (by kernel_rfl) (by kernel_rfl) (grow_call 19 Try.f19 [[0]] [.c (.lit (.int .u32 (v1)))] rfl (by kernel_rfl) Try.func19 (by kernel_rfl) (by kernel_rfl) (by kernel_rfl) (ok_backoff_Begin v1 v2 hv2)) ?_
  refine TL_runs 1 ⟨[(11, .c (.slc 1 0 (List.map (ecI .u32) (a0)))), (10, .agg [.lit (.int .i64 (v2.State)), .lit (.int .i64 (v2.Busy)), .lit (.int .i64 (v2.Exponent)), .lit (.int .i64 (v2.Clear)), .lit (.int .i64 (v2.Wait))]), (9, .c (.lit (.int .u32 (v1)))), (8, .c (.slc 1 0 (List.map (ecI .u32) (a0)))), (4, .c (.lit (.bool (false)))), (0, .c (.slc 1 0 (List.map (ecI .u32) (a0)))), (1, .c (.slc 1 0 (List.map (ecI .u8) (a1))))], ⟨[], []⟩⟩ (by kernel_rfl) ?_
  refine TL_grow (.c (.lit (.int .u32 (v3)))) (by kernel_rfl) (by kernel_rfl) (grow_call 21 Try.f21 [[2], [0]] [.c (.slc 1 0 (List.map (ecI .u32) (a0))), .c (.lit (.int .i64 (0)))] rfl (by kernel_rfl) Try.func21 (by kernel_rfl) (by kernel_rfl) (by kernel_rfl) (ok_law08_at a0 0 v3 hv3)) ?_
  refine TL_grow (.agg [.lit (.int .i64 (v4.State)), .lit (.int .i64 (v4.Busy)), .lit (.int .i64 (v4.Exponent)), .lit (.int .i64 (v4.Clear)), .lit (.int .i64 (v4.Wait))]) (by kernel_rfl) (by kernel_rfl) (grow_call 20 Try.f20 [[0]] [.c (.lit (.int .u32 (v3)))] rfl (by kernel_rfl) Try.func20 (by kernel_rfl) (by kernel_rfl) (by kernel_rfl) (ok_ref08_Begin v3 v4 hv4)) ?_
  refine TL_end ⟨[(6, .c (.box 6 0)), (5, .c (.box 5 0)), (13, .agg [.lit (.int .i64 (v4.State)), .lit (.int .i64 (v4.Busy)), .lit (.int .i64 (v4.Exponent)), .lit (.int .i64 (v4.Clear)), .lit (.int .i64 (v4.Wait))]), (12, .c (.lit (.int .u32 (v3)))), (11, .c (.slc 1 0 (List.map (ecI .u32) (a0)))), (10, .agg [.lit (.int .i64 (v2.State)), .lit (.int .i64 (v2.Busy)), .lit (.int .i64 (v2.Exponent)), .lit (.int .i64 (v2.Clear)), .lit (.int .i64 (v2.Wait))]), (9, .c (.lit (.int .u32 (v1)))), (8, .c (.slc 1 0 (List.map (ecI .u32) (a0)))), (4, .c (.lit (.bool (false)))), (0, .c (.slc 1 0 (List.map (ecI .u32) (a0)))), (1, .c (.slc 1 0 (List.map (ecI .u8) (a1))))], ⟨[(6, [.lit (.int .i64 (v4.State)), .lit (.int .i64 (v4.Busy)), .lit (.int .i64 (v4.Exponent)), .lit (.int .i64 (v4.Clear)), .lit (.int .i64 (v4.Wait))]), (5, [.lit (.int .i64 (v2.State)), .lit (.int .i64 (v2.Busy)), .lit (.int .i64 (v2.Exponent)), .lit (.int .i64 (v2.Clear)), .lit (.int .i64 (v2.Wait))])], []⟩⟩ (by kernel_rfl) ?_
  refine T_keep [6, 5, 0, 1] [6, 5] [] ?_
  refine T_seq ?_
  refine T_seq ?_
  refine T_runs ⟨[(7, .c (.lit (.int .i64 (0)))), (6, .c (.box 6 0)), (5, .c (.box 5 0)), (0, .c (.slc 1 0 (List.map (ecI .u32) (a0)))), (1, .c (.slc 1 0 (List.map (ecI .u8) (a1))))], ⟨[(6, [.lit (.int .i64 (v4.State)), .lit (.int .i64 (v4.Busy)), .lit (.int .i64 (v4.Exponent)), .lit (.int .i64 (v4.Clear)), .lit (.int .i64 (v4.Wait))]), (5, [.lit (.int .i64 (v2.State)), .lit (.int .i64 (v2.Busy)), .lit (.int .i64 (v2.Exponent)), .lit (.int .i64 (v2.Clear)), .lit (.int .i64 (v2.Wait))])], []⟩⟩ (by kernel_rfl) ?_
  refine T_block ?_
  refine T_keepS [0, 1, 5, 6, 7] [5, 6] ?_
  refine T_sub (by kernel_rfl : _ = (fun (s5 : Int × S_Backoff × S_Backoff) => ⟨[(0, .c (.slc 1 0 (List.map (ecI .u32) (a0)))), (1, .c (.slc 1 0 (List.map (ecI .u8) (a1)))), (5, .c (.box 5 0)), (6, .c (.box 6 0)), (7, .c (.lit (.int .i64 (s5.1))))], ⟨[(5, [.lit (.int .i64 (s5.2.1.State)), .lit (.int .i64 (s5.2.1.Busy)), .lit (.int .i64 (s5.2.1.Exponent)), .lit (.int .i64 (s5.2.1.Clear)), .lit (.int .i64 (s5.2.1.Wait))]), (6, [.lit (.int .i64 (s5.2.2.State)), .lit (.int .i64 (s5.2.2.Busy)), .lit (.int .i64 (s5.2.2.Exponent)), .lit (.int .i64 (s5.2.2.Clear)), .lit (.int .i64 (s5.2.2.Wait))])], []⟩⟩) (0, v2, v4)) ?_
  replace h := bindO h
  obtain ⟨y17, hl18, h⟩ := h
  refine T_loopS [0, 1, 5, 6, 7] [5, 6] (F_law08_BackoffPlays_l1 a1 a0) (fun (s5 : Int × S_Backoff × S_Backoff) => ⟨[(0, .c (.slc 1 0 (List.map (ecI .u32) (a0)))), (1, .c (.slc 1 0 (List.map (ecI .u8) (a1)))), (5, .c (.box 5 0)), (6, .c (.box 6 0)), (7, .c (.lit (.int .i64 (s5.1))))], ⟨[(5, [.lit (.int .i64 (s5.2.1.State)), .lit (.int .i64 (s5.2.1.Busy)), .lit (.int .i64 (s5.2.1.Exponent)), .lit (.int .i64 (s5.2.1.Clear)), .lit (.int .i64 (s5.2.1.Wait))]), (6, [.lit (.int .i64 (s5.2.2.State)), .lit (.int .i64 (s5.2.2.Busy)), .lit (.int .i64 (s5.2.2.Exponent)), .lit (.int .i64 (s5.2.2.Clear)), .lit (.int .i64 (s5.2.2.Wait))])], []⟩⟩) (fun y17 e st => match y17 with | Sum.inl b6 => e = .exit 0 ∧ St.keepS st [5, 6] [5, 6] = ⟨[(5, .c (.box 5 0)), (6, .c (.box 6 0))], ⟨[(5, [.lit (.int .i64 (b6.1.State)), .lit (.int .i64 (b6.1.Busy)), .lit (.int .i64 (b6.1.Exponent)), .lit (.int .i64 (b6.1.Clear)), .lit (.int .i64 (b6.1.Wait))]), (6, [.lit (.int .i64 (b6.2.State)), .lit (.int .i64 (b6.2.Busy)), .lit (.int .i64 (b6.2.Exponent)), .lit (.int .i64 (b6.2.Clear)), .lit (.int .i64 (b6.2.Wait))])], []⟩⟩ | Sum.inr v => e = .ret ∧ ∃ xs, resL Try.prog st [[0]] Try.f4.results.toList = some xs ∧ resV xs = some (.c (.lit (.bool (v))))) (0, v2, v4) _ hl18 ?_ ?_
  · intro s5 x h
    unfold F_law08_BackoffPlays_l1 at h
    refine T_seq ?_
    refine T_seq ?_
    refine T_runs ⟨[(15, .c (.lit (.bool ((decide (s5.1 < 130)))))), (14, .c (.lit (.int .i64 (s5.1)))), (0, .c (.slc 1 0 (List.map (ecI .u32) (a0)))), (1, .c (.slc 1 0 (List.map (ecI .u8) (a1)))), (5, .c (.box 5 0)), (6, .c (.box 6 0)), (7, .c (.lit (.int .i64 (s5.1))))], ⟨[(5, [.lit (.int .i64 (s5.2.1.State)), .lit (.int .i64 (s5.2.1.Busy)), .lit (.int .i64 (s5.2.1.Exponent)), .lit (.int .i64 (s5.2.1.Clear)), .lit (.int .i64 (s5.2.1.Wait))]), (6, [.lit (.int .i64 (s5.2.2.State)), .lit (.int .i64 (s5.2.2.Busy)), .lit (.int .i64 (s5.2.2.Exponent)), .lit (.int .i64 (s5.2.2.Clear)), .lit (.int .i64 (s5.2.2.Wait))])], []⟩⟩ (by kernel_rfl) ?_
    replace h := condO h
    rcases h with ⟨hb7, h⟩ | ⟨hb7, h⟩
    · refine T_condT' (e := (decide (s5.1 < 130))) (by kernel_rfl) hb7 ?_
      refine T_skip ?_
      refine T_seq ?_
      refine T_block ?_
      refine T_seq ?_
      refine T_seq ?_
      replace h := condO h
      rcases h with ⟨hb8, h⟩ | ⟨hb8, h⟩
      · replace h := bindO h
        obtain ⟨v9, hv9, h⟩ := h
        refine T_region ?_
        refine TL_runs 2 ⟨[(19, .agg [.lit (.int .i64 (s5.2.2.State)), .lit (.int .i64 (s5.2.2.Busy)), .lit (.int .i64 (s5.2.2.Exponent)), .lit (.int .i64 (s5.2.2.Clear)), .lit (.int .i64 (s5.2.2.Wait))]), (18, .agg [.lit (.int .i64 (s5.2.1.State)), .lit (.int .i64 (s5.2.1.Busy)), .lit (.int .i64 (s5.2.1.Exponent)), .lit (.int .i64 (s5.2.1.Clear)), .lit (.int .i64 (s5.2.1.Wait))]), (15, .c (.lit (.bool ((decide (s5.1 < 130)))))), (14, .c (.lit (.int .i64 (s5.1)))), (0, .c (.slc 1 0 (List.map (ecI .u32) (a0)))), (1, .c (.slc 1 0 (List.map (ecI .u8) (a1)))), (5, .c (.box 5 0)), (6, .c (.box 6 0)), (7, .c (.lit (.int .i64 (s5.1))))], ⟨[(5, [.lit (.int .i64 (s5.2.1.State)), .lit (.int .i64 (s5.2.1.Busy)), .lit (.int .i64 (s5.2.1.Exponent)), .lit (.int .i64 (s5.2.1.Clear)), .lit (.int .i64 (s5.2.1.Wait))]), (6, [.lit (.int .i64 (s5.2.2.State)), .lit (.int .i64 (s5.2.2.Busy)), .lit (.int .i64 (s5.2.2.Exponent)), .lit (.int .i64 (s5.2.2.Clear)), .lit (.int .i64 (s5.2.2.Wait))])], []⟩⟩ (by kernel_rfl) ?_
        refine TL_grow (.c (.lit (.bool (false)))) (by kernel_rfl) (by kernel_rfl) (grow_sub (e := (!(S_Backoff.eqb s5.2.1 s5.2.2))) (grow_aggNe [.lit (.int .i64 (s5.2.1.State)), .lit (.int .i64 (s5.2.1.Busy)), .lit (.int .i64 (s5.2.1.Exponent)), .lit (.int .i64 (s5.2.1.Clear)), .lit (.int .i64 (s5.2.1.Wait))] [.lit (.int .i64 (s5.2.2.State)), .lit (.int .i64 (s5.2.2.Busy)), .lit (.int .i64 (s5.2.2.Exponent)), .lit (.int .i64 (s5.2.2.Clear)), .lit (.int .i64 (s5.2.2.Wait))] ((S_Backoff.eqb s5.2.1 s5.2.2)) rfl rfl (by kernel_rfl) (by kernel_rfl) (by kernel_rfl) (by kernel_rfl) (by kernel_rfl)) (notF hb8)) ?_
        refine TL_runs 2 ⟨[(22, .agg [.lit (.int .i64 (s5.2.1.State)), .lit (.int .i64 (s5.2.1.Busy)), .lit (.int .i64 (s5.2.1.Exponent)), .lit (.int .i64 (s5.2.1.Clear)), .lit (.int .i64 (s5.2.1.Wait))]), (21, .c (.lit (.bool (false)))), (20, .c (.lit (.bool (false)))), (19, .agg [.lit (.int .i64 (s5.2.2.State)), .lit (.int .i64 (s5.2.2.Busy)), .lit (.int .i64 (s5.2.2.Exponent)), .lit (.int .i64 (s5.2.2.Clear)), .lit (.int .i64 (s5.2.2.Wait))]), (18, .agg [.lit (.int .i64 (s5.2.1.State)), .lit (.int .i64 (s5.2.1.Busy)), .lit (.int .i64 (s5.2.1.Exponent)), .lit (.int .i64 (s5.2.1.Clear)), .lit (.int .i64 (s5.2.1.Wait))]), (15, .c (.lit (.bool ((decide (s5.1 < 130)))))), (14, .c (.lit (.int .i64 (s5.1)))), (0, .c (.slc 1 0 (List.map (ecI .u32) (a0)))), (1, .c (.slc 1 0 (List.map (ecI .u8) (a1)))), (5, .c (.box 5 0)), (6, .c (.box 6 0)), (7, .c (.lit (.int .i64 (s5.1))))], ⟨[(5, [.lit (.int .i64 (s5.2.1.State)), .lit (.int .i64 (s5.2.1.Busy)), .lit (.int .i64 (s5.2.1.Exponent)), .lit (.int .i64 (s5.2.1.Clear)), .lit (.int .i64 (s5.2.1.Wait))]), (6, [.lit (.int .i64 (s5.2.2.State)), .lit (.int .i64 (s5.2.2.Busy)), .lit (.int .i64 (s5.2.2.Exponent)), .lit (.int .i64 (s5.2.2.Clear)), .lit (.int .i64 (s5.2.2.Wait))])], []⟩⟩ (by kernel_rfl) ?_
        refine TL_grow (.c (.lit (.bool (v9)))) (by kernel_rfl) (by kernel_rfl) (grow_call 12 Try.f12 [[0, 0, 0, 0, 0]] [.agg (S_Backoff.cs s5.2.1)] rfl (by kernel_rfl) Try.func12 (by kernel_rfl) (by kernel_rfl) (by kernel_rfl) (ok_backoff_Valid s5.2.1 v9 hv9)) ?_
        refine TL_end ⟨[(25, .c (.lit (.bool ((!v9))))), (24, .c (.lit (.bool ((!v9))))), (23, .c (.lit (.bool (v9)))), (22, .agg [.lit (.int .i64 (s5.2.1.State)), .lit (.int .i64 (s5.2.1.Busy)), .lit (.int .i64 (s5.2.1.Exponent)), .lit (.int .i64 (s5.2.1.Clear)), .lit (.int .i64 (s5.2.1.Wait))]), (21, .c (.lit (.bool (false)))), (20, .c (.lit (.bool (false)))), (19, .agg [.lit (.int .i64 (s5.2.2.State)), .lit (.int .i64 (s5.2.2.Busy)), .lit (.int .i64 (s5.2.2.Exponent)), .lit (.int .i64 (s5.2.2.Clear)), .lit (.int .i64 (s5.2.2.Wait))]), (18, .agg [.lit (.int .i64 (s5.2.1.State)), .lit (.int .i64 (s5.2.1.Busy)), .lit (.int .i64 (s5.2.1.Exponent)), .lit (.int .i64 (s5.2.1.Clear)), .lit (.int .i64 (s5.2.1.Wait))]), (15, .c (.lit (.bool ((decide (s5.1 < 130)))))), (14, .c (.lit (.int .i64 (s5.1)))), (0, .c (.slc 1 0 (List.map (ecI .u32) (a0)))), (1, .c (.slc 1 0 (List.map (ecI .u8) (a1)))), (5, .c (.box 5 0)), (6, .c (.box 6 0)), (7, .c (.lit (.int .i64 (s5.1))))], ⟨[(5, [.lit (.int .i64 (s5.2.1.State)), .lit (.int .i64 (s5.2.1.Busy)), .lit (.int .i64 (s5.2.1.Exponent)), .lit (.int .i64 (s5.2.1.Clear)), .lit (.int .i64 (s5.2.1.Wait))]), (6, [.lit (.int .i64 (s5.2.2.State)), .lit (.int .i64 (s5.2.2.Busy)), .lit (.int .i64 (s5.2.2.Exponent)), .lit (.int .i64 (s5.2.2.Clear)), .lit (.int .i64 (s5.2.2.Wait))])], []⟩⟩ (by kernel_rfl) ?_
        refine T_keep [25, 0, 1, 5, 6, 7] [5, 6] [] ?_
        replace h := condO h
        rcases h with ⟨hb10, h⟩ | ⟨hb10, h⟩
        · subst hb10
          refine T_condF (by kernel_rfl) ?_
          refine T_skip ?_
          replace h := bindO h
          obtain ⟨v11, hv11, h⟩ := h
          replace h := bindO h
          obtain ⟨v12, hv12, h⟩ := h
          replace h := bindO h
          obtain ⟨v13, hv13, h⟩ := h
          replace h := bindO h
          obtain ⟨v14, hv14, h⟩ := h
          replace h := bindO h
          obtain ⟨v15, hv15, h⟩ := h
          replace h := bindO h
          obtain ⟨v16, hv16, h⟩ := h
          refine T_drawX 18 ⟨[(43, .agg [.lit (.int .i64 (v16.State)), .lit (.int .i64 (v16.Busy)), .lit (.int .i64 (v16.Exponent)), .lit (.int .i64 (v16.Clear)), .lit (.int .i64 (v16.Wait))]), (42, .c (.lit (.int .u32 (v15)))), (41, .c (.lit (.int .i64 (IntKind.wrap .i64 (s5.1 + 1))))), (40, .c (.lit (.int .i64 (s5.1)))), (39, .c (.slc 1 0 (List.map (ecI .u32) (a0)))), (38, .c (.lit (.bool (v14)))), (37, .c (.lit (.int .i64 (s5.1)))), (36, .c (.slc 1 0 (List.map (ecI .u8) (a1)))), (35, .agg [.lit (.int .i64 (s5.2.2.State)), .lit (.int .i64 (s5.2.2.Busy)), .lit (.int .i64 (s5.2.2.Exponent)), .lit (.int .i64 (s5.2.2.Clear)), .lit (.int .i64 (s5.2.2.Wait))]), (34, .agg [.lit (.int .i64 (v13.State)), .lit (.int .i64 (v13.Busy)), .lit (.int .i64 (v13.Exponent)), .lit (.int .i64 (v13.Clear)), .lit (.int .i64 (v13.Wait))]), (33, .c (.lit (.int .u32 (v12)))), (32, .c (.lit (.int .i64 (IntKind.wrap .i64 (s5.1 + 1))))), (31, .c (.lit (.int .i64 (s5.1)))), (30, .c (.slc 1 0 (List.map (ecI .u32) (a0)))), (29, .c (.lit (.bool (v11)))), (28, .c (.lit (.int .i64 (s5.1)))), (27, .c (.slc 1 0 (List.map (ecI .u8) (a1)))), (26, .agg [.lit (.int .i64 (s5.2.1.State)), .lit (.int .i64 (s5.2.1.Busy)), .lit (.int .i64 (s5.2.1.Exponent)), .lit (.int .i64 (s5.2.1.Clear)), .lit (.int .i64 (s5.2.1.Wait))]), (25, .c (.lit (.bool (false)))), (0, .c (.slc 1 0 (List.map (ecI .u32) (a0)))), (1, .c (.slc 1 0 (List.map (ecI .u8) (a1)))), (5, .c (.box 5 0)), (6, .c (.box 6 0)), (7, .c (.lit (.int .i64 (s5.1))))], ⟨[(5, [.lit (.int .i64 (s5.2.1.State)), .lit (.int .i64 (s5.2.1.Busy)), .lit (.int .i64 (s5.2.1.Exponent)), .lit (.int .i64 (s5.2.1.Clear)), .lit (.int .i64 (s5.2.1.Wait))]), (6, [.lit (.int .i64 (s5.2.2.State)), .lit (.int .i64 (s5.2.2.Busy)), .lit (.int .i64 (s5.2.2.Exponent)), .lit (.int .i64 (s5.2.2.Clear)), .lit (.int .i64 (s5.2.2.Wait))])], []⟩⟩ (by kernel_rfl) (by kernel_rfl) ?_ ?_
          · refine HeadX_runs 3 ⟨[(28, .c (.lit (.int .i64 (s5.1)))), (27, .c (.slc 1 0 (List.map (ecI .u8) (a1)))), (26, .agg [.lit (.int .i64 (s5.2.1.State)), .lit (.int .i64 (s5.2.1.Busy)), .lit (.int .i64 (s5.2.1.Exponent)), .lit (.int .i64 (s5.2.1.Clear)), .lit (.int .i64 (s5.2.1.Wait))]), (25, .c (.lit (.bool (false)))), (0, .c (.slc 1 0 (List.map (ecI .u32) (a0)))), (1, .c (.slc 1 0 (List.map (ecI .u8) (a1)))), (5, .c (.box 5 0)), (6, .c (.box 6 0)), (7, .c (.lit (.int .i64 (s5.1))))], ⟨[(5, [.lit (.int .i64 (s5.2.1.State)), .lit (.int .i64 (s5.2.1.Busy)), .lit (.int .i64 (s5.2.1.Exponent)), .lit (.int .i64 (s5.2.1.Clear)), .lit (.int .i64 (s5.2.1.Wait))]), (6, [.lit (.int .i64 (s5.2.2.State)), .lit (.int .i64 (s5.2.2.Busy)), .lit (.int .i64 (s5.2.2.Exponent)), .lit (.int .i64 (s5.2.2.Clear)), .lit (.int .i64 (s5.2.2.Wait))])], []⟩⟩ (by kernel_rfl) ?_
            refine HeadX_op (.c (.lit (.bool (v11)))) (by kernel_rfl) (by kernel_rfl) (grow_call 22 Try.f22 [[2], [0]] [.c (.slc 1 0 (List.map (ecI .u8) (a1))), .c (.lit (.int .i64 (s5.1)))] rfl (by kernel_rfl) Try.func22 (by kernel_rfl) (by kernel_rfl) (by kernel_rfl) (ok_law08_busy a1 s5.1 v11 hv11)) ?_
            refine HeadX_runs 3 ⟨[(32, .c (.lit (.int .i64 (IntKind.wrap .i64 (s5.1 + 1))))), (31, .c (.lit (.int .i64 (s5.1)))), (30, .c (.slc 1 0 (List.map (ecI .u32) (a0)))), (29, .c (.lit (.bool (v11)))), (28, .c (.lit (.int .i64 (s5.1)))), (27, .c (.slc 1 0 (List.map (ecI .u8) (a1)))), (26, .agg [.lit (.int .i64 (s5.2.1.State)), .lit (.int .i64 (s5.2.1.Busy)), .lit (.int .i64 (s5.2.1.Exponent)), .lit (.int .i64 (s5.2.1.Clear)), .lit (.int .i64 (s5.2.1.Wait))]), (25, .c (.lit (.bool (false)))), (0, .c (.slc 1 0 (List.map (ecI .u32) (a0)))), (1, .c (.slc 1 0 (List.map (ecI .u8) (a1)))), (5, .c (.box 5 0)), (6, .c (.box 6 0)), (7, .c (.lit (.int .i64 (s5.1))))], ⟨[(5, [.lit (.int .i64 (s5.2.1.State)), .lit (.int .i64 (s5.2.1.Busy)), .lit (.int .i64 (s5.2.1.Exponent)), .lit (.int .i64 (s5.2.1.Clear)), .lit (.int .i64 (s5.2.1.Wait))]), (6, [.lit (.int .i64 (s5.2.2.State)), .lit (.int .i64 (s5.2.2.Busy)), .lit (.int .i64 (s5.2.2.Exponent)), .lit (.int .i64 (s5.2.2.Clear)), .lit (.int .i64 (s5.2.2.Wait))])], []⟩⟩ (by kernel_rfl) ?_
            refine HeadX_op (.c (.lit (.int .u32 (v12)))) (by kernel_rfl) (by kernel_rfl) (grow_call 21 Try.f21 [[2], [0]] [.c (.slc 1 0 (List.map (ecI .u32) (a0))), .c (.lit (.int .i64 ((IntKind.wrap .i64 (s5.1 + 1)))))] rfl (by kernel_rfl) Try.func21 (by kernel_rfl) (by kernel_rfl) (by kernel_rfl) (ok_law08_at a0 (IntKind.wrap .i64 (s5.1 + 1)) v12 hv12)) ?_
            refine HeadX_op (.agg [.lit (.int .i64 (v13.State)), .lit (.int .i64 (v13.Busy)), .lit (.int .i64 (v13.Exponent)), .lit (.int .i64 (v13.Clear)), .lit (.int .i64 (v13.Wait))]) (by kernel_rfl) (by kernel_rfl) (grow_call 16 Try.f16 [[0, 0, 0, 0, 0], [0], [0]] [.agg (S_Backoff.cs s5.2.1), .c (.lit (.bool (v11))), .c (.lit (.int .u32 (v12)))] rfl (by kernel_rfl) Try.func16 (by kernel_rfl) (by kernel_rfl) (by kernel_rfl) (ok_backoff_Step s5.2.1 v11 v12 v13 hv13)) ?_
            refine HeadX_runs 3 ⟨[(37, .c (.lit (.int .i64 (s5.1)))), (36, .c (.slc 1 0 (List.map (ecI .u8) (a1)))), (35, .agg [.lit (.int .i64 (s5.2.2.State)), .lit (.int .i64 (s5.2.2.Busy)), .lit (.int .i64 (s5.2.2.Exponent)), .lit (.int .i64 (s5.2.2.Clear)), .lit (.int .i64 (s5.2.2.Wait))]), (34, .agg [.lit (.int .i64 (v13.State)), .lit (.int .i64 (v13.Busy)), .lit (.int .i64 (v13.Exponent)), .lit (.int .i64 (v13.Clear)), .lit (.int .i64 (v13.Wait))]), (33, .c (.lit (.int .u32 (v12)))), (32, .c (.lit (.int .i64 (IntKind.wrap .i64 (s5.1 + 1))))), (31, .c (.lit (.int .i64 (s5.1)))), (30, .c (.slc 1 0 (List.map (ecI .u32) (a0)))), (29, .c (.lit (.bool (v11)))), (28, .c (.lit (.int .i64 (s5.1)))), (27, .c (.slc 1 0 (List.map (ecI .u8) (a1)))), (26, .agg [.lit (.int .i64 (s5.2.1.State)), .lit (.int .i64 (s5.2.1.Busy)), .lit (.int .i64 (s5.2.1.Exponent)), .lit (.int .i64 (s5.2.1.Clear)), .lit (.int .i64 (s5.2.1.Wait))]), (25, .c (.lit (.bool (false)))), (0, .c (.slc 1 0 (List.map (ecI .u32) (a0)))), (1, .c (.slc 1 0 (List.map (ecI .u8) (a1)))), (5, .c (.box 5 0)), (6, .c (.box 6 0)), (7, .c (.lit (.int .i64 (s5.1))))], ⟨[(5, [.lit (.int .i64 (s5.2.1.State)), .lit (.int .i64 (s5.2.1.Busy)), .lit (.int .i64 (s5.2.1.Exponent)), .lit (.int .i64 (s5.2.1.Clear)), .lit (.int .i64 (s5.2.1.Wait))]), (6, [.lit (.int .i64 (s5.2.2.State)), .lit (.int .i64 (s5.2.2.Busy)), .lit (.int .i64 (s5.2.2.Exponent)), .lit (.int .i64 (s5.2.2.Clear)), .lit (.int .i64 (s5.2.2.Wait))])], []⟩⟩ (by kernel_rfl) ?_
            refine HeadX_op (.c (.lit (.bool (v14)))) (by kernel_rfl) (by kernel_rfl) (grow_call 22 Try.f22 [[2], [0]] [.c (.slc 1 0 (List.map (ecI .u8) (a1))), .c (.lit (.int .i64 (s5.1)))] rfl (by kernel_rfl) Try.func22 (by kernel_rfl) (by kernel_rfl) (by kernel_rfl) (ok_law08_busy a1 s5.1 v14 hv14)) ?_
            refine HeadX_runs 3 ⟨[(41, .c (.lit (.int .i64 (IntKind.wrap .i64 (s5.1 + 1))))), (40, .c (.lit (.int .i64 (s5.1)))), (39, .c (.slc 1 0 (List.map (ecI .u32) (a0)))), (38, .c (.lit (.bool (v14)))), (37, .c (.lit (.int .i64 (s5.1)))), (36, .c (.slc 1 0 (List.map (ecI .u8) (a1)))), (35, .agg [.lit (.int .i64 (s5.2.2.State)), .lit (.int .i64 (s5.2.2.Busy)), .lit (.int .i64 (s5.2.2.Exponent)), .lit (.int .i64 (s5.2.2.Clear)), .lit (.int .i64 (s5.2.2.Wait))]), (34, .agg [.lit (.int .i64 (v13.State)), .lit (.int .i64 (v13.Busy)), .lit (.int .i64 (v13.Exponent)), .lit (.int .i64 (v13.Clear)), .lit (.int .i64 (v13.Wait))]), (33, .c (.lit (.int .u32 (v12)))), (32, .c (.lit (.int .i64 (IntKind.wrap .i64 (s5.1 + 1))))), (31, .c (.lit (.int .i64 (s5.1)))), (30, .c (.slc 1 0 (List.map (ecI .u32) (a0)))), (29, .c (.lit (.bool (v11)))), (28, .c (.lit (.int .i64 (s5.1)))), (27, .c (.slc 1 0 (List.map (ecI .u8) (a1)))), (26, .agg [.lit (.int .i64 (s5.2.1.State)), .lit (.int .i64 (s5.2.1.Busy)), .lit (.int .i64 (s5.2.1.Exponent)), .lit (.int .i64 (s5.2.1.Clear)), .lit (.int .i64 (s5.2.1.Wait))]), (25, .c (.lit (.bool (false)))), (0, .c (.slc 1 0 (List.map (ecI .u32) (a0)))), (1, .c (.slc 1 0 (List.map (ecI .u8) (a1)))), (5, .c (.box 5 0)), (6, .c (.box 6 0)), (7, .c (.lit (.int .i64 (s5.1))))], ⟨[(5, [.lit (.int .i64 (s5.2.1.State)), .lit (.int .i64 (s5.2.1.Busy)), .lit (.int .i64 (s5.2.1.Exponent)), .lit (.int .i64 (s5.2.1.Clear)), .lit (.int .i64 (s5.2.1.Wait))]), (6, [.lit (.int .i64 (s5.2.2.State)), .lit (.int .i64 (s5.2.2.Busy)), .lit (.int .i64 (s5.2.2.Exponent)), .lit (.int .i64 (s5.2.2.Clear)), .lit (.int .i64 (s5.2.2.Wait))])], []⟩⟩ (by kernel_rfl) ?_
            refine HeadX_op (.c (.lit (.int .u32 (v15)))) (by kernel_rfl) (by kernel_rfl) (grow_call 21 Try.f21 [[2], [0]] [.c (.slc 1 0 (List.map (ecI .u32) (a0))), .c (.lit (.int .i64 ((IntKind.wrap .i64 (s5.1 + 1)))))] rfl (by kernel_rfl) Try.func21 (by kernel_rfl) (by kernel_rfl) (by kernel_rfl) (ok_law08_at a0 (IntKind.wrap .i64 (s5.1 + 1)) v15 hv15)) ?_
            refine HeadX_op (.agg [.lit (.int .i64 (v16.State)), .lit (.int .i64 (v16.Busy)), .lit (.int .i64 (v16.Exponent)), .lit (.int .i64 (v16.Clear)), .lit (.int .i64 (v16.Wait))]) (by kernel_rfl) (by kernel_rfl) (grow_call 17 Try.f17 [[0, 0, 0, 0, 0], [0], [0]] [.agg (S_Backoff.cs s5.2.2), .c (.lit (.bool (v14))), .c (.lit (.int .u32 (v15)))] rfl (by kernel_rfl) Try.func17 (by kernel_rfl) (by kernel_rfl) (by kernel_rfl) (ok_ref08_Step s5.2.2 v14 v15 v16 hv16)) ?_
            exact HeadX_end (by kernel_rfl)
          · refine TL_end ⟨[(43, .agg [.lit (.int .i64 (v16.State)), .lit (.int .i64 (v16.Busy)), .lit (.int .i64 (v16.Exponent)), .lit (.int .i64 (v16.Clear)), .lit (.int .i64 (v16.Wait))]), (42, .c (.lit (.int .u32 (v15)))), (41, .c (.lit (.int .i64 (IntKind.wrap .i64 (s5.1 + 1))))), (40, .c (.lit (.int .i64 (s5.1)))), (39, .c (.slc 1 0 (List.map (ecI .u32) (a0)))), (38, .c (.lit (.bool (v14)))), (37, .c (.lit (.int .i64 (s5.1)))), (36, .c (.slc 1 0 (List.map (ecI .u8) (a1)))), (35, .agg [.lit (.int .i64 (s5.2.2.State)), .lit (.int .i64 (s5.2.2.Busy)), .lit (.int .i64 (s5.2.2.Exponent)), .lit (.int .i64 (s5.2.2.Clear)), .lit (.int .i64 (s5.2.2.Wait))]), (34, .agg [.lit (.int .i64 (v13.State)), .lit (.int .i64 (v13.Busy)), .lit (.int .i64 (v13.Exponent)), .lit (.int .i64 (v13.Clear)), .lit (.int .i64 (v13.Wait))]), (33, .c (.lit (.int .u32 (v12)))), (32, .c (.lit (.int .i64 (IntKind.wrap .i64 (s5.1 + 1))))), (31, .c (.lit (.int .i64 (s5.1)))), (30, .c (.slc 1 0 (List.map (ecI .u32) (a0)))), (29, .c (.lit (.bool (v11)))), (28, .c (.lit (.int .i64 (s5.1)))), (27, .c (.slc 1 0 (List.map (ecI .u8) (a1)))), (26, .agg [.lit (.int .i64 (s5.2.1.State)), .lit (.int .i64 (s5.2.1.Busy)), .lit (.int .i64 (s5.2.1.Exponent)), .lit (.int .i64 (s5.2.1.Clear)), .lit (.int .i64 (s5.2.1.Wait))]), (25, .c (.lit (.bool (false)))), (0, .c (.slc 1 0 (List.map (ecI .u32) (a0)))), (1, .c (.slc 1 0 (List.map (ecI .u8) (a1)))), (5, .c (.box 5 0)), (6, .c (.box 6 0)), (7, .c (.lit (.int .i64 (s5.1))))], ⟨[(6, [.lit (.int .i64 (v16.State)), .lit (.int .i64 (v16.Busy)), .lit (.int .i64 (v16.Exponent)), .lit (.int .i64 (v16.Clear)), .lit (.int .i64 (v16.Wait))]), (5, [.lit (.int .i64 (v13.State)), .lit (.int .i64 (v13.Busy)), .lit (.int .i64 (v13.Exponent)), .lit (.int .i64 (v13.Clear)), .lit (.int .i64 (v13.Wait))])], []⟩⟩ (by kernel_rfl) ?_
            refine blockQ_normal ?_
            refine T_keep [0, 1, 5, 6, 7] [6, 5] [] ?_
            refine T_runs ⟨[(7, .c (.lit (.int .i64 (IntKind.wrap .i64 (s5.1 + 1))))), (17, .c (.lit (.int .i64 (IntKind.wrap .i64 (s5.1 + 1))))), (16, .c (.lit (.int .i64 (s5.1)))), (0, .c (.slc 1 0 (List.map (ecI .u32) (a0)))), (1, .c (.slc 1 0 (List.map (ecI .u8) (a1)))), (5, .c (.box 5 0)), (6, .c (.box 6 0))], ⟨[(6, [.lit (.int .i64 (v16.State)), .lit (.int .i64 (v16.Busy)), .lit (.int .i64 (v16.Exponent)), .lit (.int .i64 (v16.Clear)), .lit (.int .i64 (v16.Wait))]), (5, [.lit (.int .i64 (v13.State)), .lit (.int .i64 (v13.Busy)), .lit (.int .i64 (v13.Exponent)), .lit (.int .i64 (v13.Clear)), .lit (.int .i64 (v13.Wait))])], []⟩⟩ (by kernel_rfl) ?_
            obtain rfl := Option.some.inj h
            exact ⟨_, rfl, by kernel_rfl⟩
        · subst hb10
          refine T_condT (by kernel_rfl) ?_
          refine T_seq ?_
          refine T_runs ⟨[(4, .c (.lit (.bool (false)))), (25, .c (.lit (.bool (true)))), (0, .c (.slc 1 0 (List.map (ecI .u32) (a0)))), (1, .c (.slc 1 0 (List.map (ecI .u8) (a1)))), (5, .c (.box 5 0)), (6, .c (.box 6 0)), (7, .c (.lit (.int .i64 (s5.1))))], ⟨[(5, [.lit (.int .i64 (s5.2.1.State)), .lit (.int .i64 (s5.2.1.Busy)), .lit (.int .i64 (s5.2.1.Exponent)), .lit (.int .i64 (s5.2.1.Clear)), .lit (.int .i64 (s5.2.1.Wait))]), (6, [.lit (.int .i64 (s5.2.2.State)), .lit (.int .i64 (s5.2.2.Busy)), .lit (.int .i64 (s5.2.2.Exponent)), .lit (.int .i64 (s5.2.2.Clear)), .lit (.int .i64 (s5.2.2.Wait))])], []⟩⟩ (by kernel_rfl) ?_
          refine T_keep [4] [] [] ?_
          refine T_ret ?_
          refine thenQ_ret ?_
          refine blockQ_ret ?_
          refine thenQ_ret ?_
          obtain rfl := Option.some.inj h
          exact ⟨_, rfl, rfl, [(false, [.lit (.bool (false))])], by kernel_rfl, by kernel_rfl⟩
      · refine T_region ?_
        refine TL_runs 2 ⟨[(19, .agg [.lit (.int .i64 (s5.2.2.State)), .lit (.int .i64 (s5.2.2.Busy)), .lit (.int .i64 (s5.2.2.Exponent)), .lit (.int .i64 (s5.2.2.Clear)), .lit (.int .i64 (s5.2.2.Wait))]), (18, .agg [.lit (.int .i64 (s5.2.1.State)), .lit (.int .i64 (s5.2.1.Busy)), .lit (.int .i64 (s5.2.1.Exponent)), .lit (.int .i64 (s5.2.1.Clear)), .lit (.int .i64 (s5.2.1.Wait))]), (15, .c (.lit (.bool ((decide (s5.1 < 130)))))), (14, .c (.lit (.int .i64 (s5.1)))), (0, .c (.slc 1 0 (List.map (ecI .u32) (a0)))), (1, .c (.slc 1 0 (List.map (ecI .u8) (a1)))), (5, .c (.box 5 0)), (6, .c (.box 6 0)), (7, .c (.lit (.int .i64 (s5.1))))], ⟨[(5, [.lit (.int .i64 (s5.2.1.State)), .lit (.int .i64 (s5.2.1.Busy)), .lit (.int .i64 (s5.2.1.Exponent)), .lit (.int .i64 (s5.2.1.Clear)), .lit (.int .i64 (s5.2.1.Wait))]), (6, [.lit (.int .i64 (s5.2.2.State)), .lit (.int .i64 (s5.2.2.Busy)), .lit (.int .i64 (s5.2.2.Exponent)), .lit (.int .i64 (s5.2.2.Clear)), .lit (.int .i64 (s5.2.2.Wait))])], []⟩⟩ (by kernel_rfl) ?_
        refine TL_grow (.c (.lit (.bool (true)))) (by kernel_rfl) (by kernel_rfl) (grow_sub (e := (!(S_Backoff.eqb s5.2.1 s5.2.2))) (grow_aggNe [.lit (.int .i64 (s5.2.1.State)), .lit (.int .i64 (s5.2.1.Busy)), .lit (.int .i64 (s5.2.1.Exponent)), .lit (.int .i64 (s5.2.1.Clear)), .lit (.int .i64 (s5.2.1.Wait))] [.lit (.int .i64 (s5.2.2.State)), .lit (.int .i64 (s5.2.2.Busy)), .lit (.int .i64 (s5.2.2.Exponent)), .lit (.int .i64 (s5.2.2.Clear)), .lit (.int .i64 (s5.2.2.Wait))] ((S_Backoff.eqb s5.2.1 s5.2.2)) rfl rfl (by kernel_rfl) (by kernel_rfl) (by kernel_rfl) (by kernel_rfl) (by kernel_rfl)) (notT hb8)) ?_
        refine TL_end ⟨[(25, .c (.lit (.bool (true)))), (24, .tup []), (23, .tup []), (22, .tup []), (21, .c (.lit (.bool (true)))), (20, .c (.lit (.bool (true)))), (19, .agg [.lit (.int .i64 (s5.2.2.State)), .lit (.int .i64 (s5.2.2.Busy)), .lit (.int .i64 (s5.2.2.Exponent)), .lit (.int .i64 (s5.2.2.Clear)), .lit (.int .i64 (s5.2.2.Wait))]), (18, .agg [.lit (.int .i64 (s5.2.1.State)), .lit (.int .i64 (s5.2.1.Busy)), .lit (.int .i64 (s5.2.1.Exponent)), .lit (.int .i64 (s5.2.1.Clear)), .lit (.int .i64 (s5.2.1.Wait))]), (15, .c (.lit (.bool ((decide (s5.1 < 130)))))), (14, .c (.lit (.int .i64 (s5.1)))), (0, .c (.slc 1 0 (List.map (ecI .u32) (a0)))), (1, .c (.slc 1 0 (List.map (ecI .u8) (a1)))), (5, .c (.box 5 0)), (6, .c (.box 6 0)), (7, .c (.lit (.int .i64 (s5.1))))], ⟨[(5, [.lit (.int .i64 (s5.2.1.State)), .lit (.int .i64 (s5.2.1.Busy)), .lit (.int .i64 (s5.2.1.Exponent)), .lit (.int .i64 (s5.2.1.Clear)), .lit (.int .i64 (s5.2.1.Wait))]), (6, [.lit (.int .i64 (s5.2.2.State)), .lit (.int .i64 (s5.2.2.Busy)), .lit (.int .i64 (s5.2.2.Exponent)), .lit (.int .i64 (s5.2.2.Clear)), .lit (.int .i64 (s5.2.2.Wait))])], []⟩⟩ (by kernel_rfl) ?_
        refine T_keep [25, 0, 1, 5, 6, 7] [5, 6] [] ?_
        refine T_condT (by kernel_rfl) ?_
        refine T_seq ?_
        refine T_runs ⟨[(4, .c (.lit (.bool (false)))), (25, .c (.lit (.bool (true)))), (0, .c (.slc 1 0 (List.map (ecI .u32) (a0)))), (1, .c (.slc 1 0 (List.map (ecI .u8) (a1)))), (5, .c (.box 5 0)), (6, .c (.box 6 0)), (7, .c (.lit (.int .i64 (s5.1))))], ⟨[(5, [.lit (.int .i64 (s5.2.1.State)), .lit (.int .i64 (s5.2.1.Busy)), .lit (.int .i64 (s5.2.1.Exponent)), .lit (.int .i64 (s5.2.1.Clear)), .lit (.int .i64 (s5.2.1.Wait))]), (6, [.lit (.int .i64 (s5.2.2.State)), .lit (.int .i64 (s5.2.2.Busy)), .lit (.int .i64 (s5.2.2.Exponent)), .lit (.int .i64 (s5.2.2.Clear)), .lit (.int .i64 (s5.2.2.Wait))])], []⟩⟩ (by kernel_rfl) ?_
        refine T_keep [4] [] [] ?_
        refine T_ret ?_
        refine thenQ_ret ?_
        refine blockQ_ret ?_
        refine thenQ_ret ?_
        obtain rfl := Option.some.inj h
        exact ⟨_, rfl, rfl, [(false, [.lit (.bool (false))])], by kernel_rfl, by kernel_rfl⟩
    · refine T_condF' (e := (decide (s5.1 < 130))) (by kernel_rfl) hb7 ?_
      refine T_exit ?_
      refine thenQ_exit ?_
      obtain rfl := Option.some.inj h
      exact ⟨_, rfl, rfl, by kernel_rfl⟩
  · intro e st hq
    cases y17 with
    | inl b6 =>
      obtain ⟨rfl, hst⟩ := hq
      refine blockQ_exit ?_
      refine T_keepS [5, 6] [5, 6] ?_
      refine T_sub hst ?_
      refine T_seq ?_
      replace h := bindO h
      obtain ⟨v19, hv19, h⟩ := h
      replace h := condO h
      rcases h with ⟨hb20, h⟩ | ⟨hb20, h⟩
      · subst hb20
        refine T_region ?_
        refine TL_grow (.c (.lit (.bool (true)))) (by kernel_rfl) (by kernel_rfl) (grow_call 18 Try.f18 [] [] rfl (by kernel_rfl) Try.func18 (by kernel_rfl) (by kernel_rfl) (by kernel_rfl) (ok_law08_known  true hv19)) ?_
        refine TL_runs 3 ⟨[(47, .agg [.lit (.int .i64 (b6.2.State)), .lit (.int .i64 (b6.2.Busy)), .lit (.int .i64 (b6.2.Exponent)), .lit (.int .i64 (b6.2.Clear)), .lit (.int .i64 (b6.2.Wait))]), (46, .agg [.lit (.int .i64 (b6.1.State)), .lit (.int .i64 (b6.1.Busy)), .lit (.int .i64 (b6.1.Exponent)), .lit (.int .i64 (b6.1.Clear)), .lit (.int .i64 (b6.1.Wait))]), (45, .c (.lit (.bool (true)))), (44, .c (.lit (.bool (true)))), (5, .c (.box 5 0)), (6, .c (.box 6 0))], ⟨[(5, [.lit (.int .i64 (b6.1.State)), .lit (.int .i64 (b6.1.Busy)), .lit (.int .i64 (b6.1.Exponent)), .lit (.int .i64 (b6.1.Clear)), .lit (.int .i64 (b6.1.Wait))]), (6, [.lit (.int .i64 (b6.2.State)), .lit (.int .i64 (b6.2.Busy)), .lit (.int .i64 (b6.2.Exponent)), .lit (.int .i64 (b6.2.Clear)), .lit (.int .i64 (b6.2.Wait))])], []⟩⟩ (by kernel_rfl) ?_
        refine TL_grow (.c (.lit (.bool ((S_Backoff.eqb b6.1 b6.2))))) (by kernel_rfl) (by kernel_rfl) (grow_aggEq [.lit (.int .i64 (b6.1.State)), .lit (.int .i64 (b6.1.Busy)), .lit (.int .i64 (b6.1.Exponent)), .lit (.int .i64 (b6.1.Clear)), .lit (.int .i64 (b6.1.Wait))] [.lit (.int .i64 (b6.2.State)), .lit (.int .i64 (b6.2.Busy)), .lit (.int .i64 (b6.2.Exponent)), .lit (.int .i64 (b6.2.Clear)), .lit (.int .i64 (b6.2.Wait))] ((S_Backoff.eqb b6.1 b6.2)) rfl rfl (by kernel_rfl) (by kernel_rfl) (by kernel_rfl) (by kernel_rfl) (by kernel_rfl)) ?_
        refine TL_end ⟨[(4, .c (.lit (.bool ((S_Backoff.eqb b6.1 b6.2))))), (49, .c (.lit (.bool ((S_Backoff.eqb b6.1 b6.2))))), (48, .c (.lit (.bool ((S_Backoff.eqb b6.1 b6.2))))), (47, .agg [.lit (.int .i64 (b6.2.State)), .lit (.int .i64 (b6.2.Busy)), .lit (.int .i64 (b6.2.Exponent)), .lit (.int .i64 (b6.2.Clear)), .lit (.int .i64 (b6.2.Wait))]), (46, .agg [.lit (.int .i64 (b6.1.State)), .lit (.int .i64 (b6.1.Busy)), .lit (.int .i64 (b6.1.Exponent)), .lit (.int .i64 (b6.1.Clear)), .lit (.int .i64 (b6.1.Wait))]), (45, .c (.lit (.bool (true)))), (44, .c (.lit (.bool (true)))), (5, .c (.box 5 0)), (6, .c (.box 6 0))], ⟨[(5, [.lit (.int .i64 (b6.1.State)), .lit (.int .i64 (b6.1.Busy)), .lit (.int .i64 (b6.1.Exponent)), .lit (.int .i64 (b6.1.Clear)), .lit (.int .i64 (b6.1.Wait))]), (6, [.lit (.int .i64 (b6.2.State)), .lit (.int .i64 (b6.2.Busy)), .lit (.int .i64 (b6.2.Exponent)), .lit (.int .i64 (b6.2.Clear)), .lit (.int .i64 (b6.2.Wait))])], []⟩⟩ (by kernel_rfl) ?_
        refine T_keep [4] [] [] ?_
        refine T_ret ?_
        obtain rfl := Option.some.inj h
        exact ⟨[(false, [.lit (.bool ((S_Backoff.eqb b6.1 b6.2)))])], by kernel_rfl, by kernel_rfl⟩
      · subst hb20
        refine T_region ?_
        refine TL_grow (.c (.lit (.bool (false)))) (by kernel_rfl) (by kernel_rfl) (grow_call 18 Try.f18 [] [] rfl (by kernel_rfl) Try.func18 (by kernel_rfl) (by kernel_rfl) (by kernel_rfl) (ok_law08_known  false hv19)) ?_
        refine TL_end ⟨[(4, .c (.lit (.bool (false)))), (49, .c (.lit (.bool (false)))), (48, .tup []), (47, .tup []), (46, .tup []), (45, .c (.lit (.bool (false)))), (44, .c (.lit (.bool (false)))), (5, .c (.box 5 0)), (6, .c (.box 6 0))], ⟨[(5, [.lit (.int .i64 (b6.1.State)), .lit (.int .i64 (b6.1.Busy)), .lit (.int .i64 (b6.1.Exponent)), .lit (.int .i64 (b6.1.Clear)), .lit (.int .i64 (b6.1.Wait))]), (6, [.lit (.int .i64 (b6.2.State)), .lit (.int .i64 (b6.2.Busy)), .lit (.int .i64 (b6.2.Exponent)), .lit (.int .i64 (b6.2.Clear)), .lit (.int .i64 (b6.2.Wait))])], []⟩⟩ (by kernel_rfl) ?_
        refine T_keep [4] [] [] ?_
        refine T_ret ?_
        obtain rfl := Option.some.inj h
        exact ⟨[(false, [.lit (.bool (false))])], by kernel_rfl, by kernel_rfl⟩
    | inr v =>
      obtain ⟨rfl, hq⟩ := hq
      obtain rfl := Option.some.inj h
      repeat (first | refine thenQ_ret ?_ | refine blockQ_ret ?_)
      exact hq

/-- multihop/multihoplaw08.BackoffEnds -/
noncomputable def F_law08_BackoffEnds_l1 (a1 : List Int) (a0 : List Int) (s3 : Int × S_Backoff) : Option ((Int × S_Backoff) ⊕ (S_Backoff)) :=
  bif (decide (s3.1 < 125)) then
    (F_law08_busy a1 s3.1).bind fun v6 =>
    (F_law08_at a0 (IntKind.wrap .i64 (s3.1 + 1))).bind fun v7 =>
    (F_backoff_Step s3.2 v6 v7).bind fun v8 =>
    some (Sum.inl (IntKind.wrap .i64 (s3.1 + 1), v8))
  else
    some (Sum.inr s3.2)
noncomputable def F_law08_BackoffEnds (a0 : List Int) (a1 : List Int) : Option (Bool) :=
  (F_law08_at a0 0).bind fun v1 =>
  (F_backoff_Begin v1).bind fun v2 =>
  (loopO (F_law08_BackoffEnds_l1 a1 a0) (0, v2)).bind fun b4 =>
  (F_law08_known ).bind fun v11 =>
  bif v11 then
    (F_backoff_Ended b4).bind fun v13 =>
    bif v13 then
      (F_backoff_Step b4 true 5).bind fun v15 =>
      bif (S_Backoff.eqb v15 b4) then
        (F_backoff_Step b4 false 6).bind fun v17 =>
        some ((S_Backoff.eqb v17 b4))
      else
        some (false)
    else
      some (false)
  else
    some (false)
set_option maxRecDepth 100000 in
theorem ok_law08_BackoffEnds (a0 : List Int) (a1 : List Int) (r : Bool) (h : F_law08_BackoffEnds a0 a1 = some r) : Pure Try.prog 5 [.c (.slc 1 0 (List.map (ecI .u32) (a0))), .c (.slc 1 0 (List.map (ecI .u8) (a1)))] (.c (.lit (.bool (r)))) := by
  unfold F_law08_BackoffEnds at h
  refine pure_of [[0]] 40 Try.func5 rfl rfl rfl (by kernel_rfl) (fun K => ?_)
  refine T_seq ?_
  refine T_runs ⟨[(4, .c (.lit (.bool (false)))), (0, .c (.slc 1 0 (List.map (ecI .u32) (a0)))), (1, .c (.slc 1 0 (List.map (ecI .u8) (a1))))], ⟨[], []⟩⟩ (by kernel_rfl) ?_
  refine T_seq ?_
  replace h := bindO h
  obtain ⟨v1, hv1, h⟩ := h
  replace h := bindO h
  obtain ⟨v2, hv2, h⟩ := h
  refine T_region ?_
  refine TL_runs 1 ⟨[(7, .c (.slc 1 0 (List.map (ecI .u32) (a0)))), (4, .c (.lit (.bool (false)))), (0, .c (.slc 1 0 (List.map (ecI .u32) (a0)))), (1, .c (.slc 1 0 (List.map (ecI .u8) (a1))))], ⟨[], []⟩⟩ (by kernel_rfl) ?_
  refine TL_grow (.c (.lit (.int .u32 (v1)))) (by kernel_rfl) (by kernel_rfl) (grow_call 21 Try.f21 [[2], [0]] [.c (.slc 1 0 (List.map (ecI .u32) (a0))), .c (.lit (.int .i64 (0)))] rfl (by kernel_rfl) Try.func21 (by kernel_rfl) (by kernel_rfl) (by kernel_rfl) (ok_law08_at a0 0 v1 hv1)) ?_
  refine TL_grow (.agg [.lit (.int .i64 (v2.State)), .lit (.int .i64 (v2.Busy)), .lit (.int .i64 (v2.Exponent)), .lit (.int .i64 (v2.Clear)), .lit (.int .i64 (v2.Wait))]) (by kernel_rfl) (by kernel_rfl) (grow_call 19 Try.f19 [[0]] [.c (.lit (.int .u32 (v1)))] rfl (by kernel_rfl) Try.func19 (by kernel_rfl) (by kernel_rfl) (by kernel_rfl) (ok_backoff_Begin v1 v2 hv2)) ?_
  refine TL_end ⟨[(5, .c (.box 5 0)), (9, .agg [.lit (.int .i64 (v2.State)), .lit (.int .i64 (v2.Busy)), .lit (.int .i64 (v2.Exponent)), .lit (.int .i64 (v2.Clear)), .lit (.int .i64 (v2.Wait))]), (8, .c (.lit (.int .u32 (v1)))), (7, .c (.slc 1 0 (List.map (ecI .u32) (a0)))), (4, .c (.lit (.bool (false)))), (0, .c (.slc 1 0 (List.map (ecI .u32) (a0)))), (1, .c (.slc 1 0 (List.map (ecI .u8) (a1))))], ⟨[(5, [.lit (.int .i64 (v2.State)), .lit (.int .i64 (v2.Busy)), .lit (.int .i64 (v2.Exponent)), .lit (.int .i64 (v2.Clear)), .lit (.int .i64 (v2.Wait))])], []⟩⟩ (by kernel_rfl) ?_
  refine T_keep [5, 0, 1] [5] [] ?_
  refine T_seq ?_
  refine T_seq ?_
  refine T_runs ⟨[(6, .c (.lit (.int .i64 (0)))), (5, .c (.box 5 0)), (0, .c (.slc 1 0 (List.map (ecI .u32) (a0)))), (1, .c (.slc 1 0 (List.map (ecI .u8) (a1))))], ⟨[(5, [.lit (.int .i64 (v2.State)), .lit (.int .i64 (v2.Busy)), .lit (.int .i64 (v2.Exponent)), .lit (.int .i64 (v2.Clear)), .lit (.int .i64 (v2.Wait))])], []⟩⟩ (by kernel_rfl) ?_
  refine T_block ?_
  refine T_keepS [0, 1, 5, 6] [5] ?_
  refine T_sub (by kernel_rfl : _ = (fun (s3 : Int × S_Backoff) => ⟨[(0, .c (.slc 1 0 (List.map (ecI .u32) (a0)))), (1, .c (.slc 1 0 (List.map (ecI .u8) (a1)))), (5, .c (.box 5 0)), (6, .c (.lit (.int .i64 (s3.1))))], ⟨[(5, [.lit (.int .i64 (s3.2.State)), .lit (.int .i64 (s3.2.Busy)), .lit (.int .i64 (s3.2.Exponent)), .lit (.int .i64 (s3.2.Clear)), .lit (.int .i64 (s3.2.Wait))])], []⟩⟩) (0, v2)) ?_
  replace h := bindO h
  obtain ⟨b4, hl10, h⟩ := h
  refine T_loopS [0, 1, 5, 6] [5] (F_law08_BackoffEnds_l1 a1 a0) (fun (s3 : Int × S_Backoff) => ⟨[(0, .c (.slc 1 0 (List.map (ecI .u32) (a0)))), (1, .c (.slc 1 0 (List.map (ecI .u8) (a1)))), (5, .c (.box 5 0)), (6, .c (.lit (.int .i64 (s3.1))))], ⟨[(5, [.lit (.int .i64 (s3.2.State)), .lit (.int .i64 (s3.2.Busy)), .lit (.int .i64 (s3.2.Exponent)), .lit (.int .i64 (s3.2.Clear)), .lit (.int .i64 (s3.2.Wait))])], []⟩⟩) (fun b4 e st => e = .exit 0 ∧ St.keepS st [5] [5] = ⟨[(5, .c (.box 5 0))], ⟨[(5, [.lit (.int .i64 (b4.State)), .lit (.int .i64 (b4.Busy)), .lit (.int .i64 (b4.Exponent)), .lit (.int .i64 (b4.Clear)), .lit (.int .i64 (b4.Wait))])], []⟩⟩) (0, v2) _ hl10 ?_ ?_
  · intro s3 x h
    unfold F_law08_BackoffEnds_l1 at h
    refine T_seq ?_
    refine T_seq ?_
    refine T_runs ⟨[(11, .c (.lit (.bool ((decide (s3.1 < 125)))))), (10, .c (.lit (.int .i64 (s3.1)))), (0, .c (.slc 1 0 (List.map (ecI .u32) (a0)))), (1, .c (.slc 1 0 (List.map (ecI .u8) (a1)))), (5, .c (.box 5 0)), (6, .c (.lit (.int .i64 (s3.1))))], ⟨[(5, [.lit (.int .i64 (s3.2.State)), .lit (.int .i64 (s3.2.Busy)), .lit (.int .i64 (s3.2.Exponent)), .lit (.int .i64 (s3.2.Clear)), .lit (.int .i64 (s3.2.Wait))])], []⟩⟩ (by kernel_rfl) ?_
    replace h := condO h
    rcases h with ⟨hb5, h⟩ | ⟨hb5, h⟩
    · refine T_condT' (e := (decide (s3.1 < 125))) (by kernel_rfl) hb5 ?_
      refine T_skip ?_
      refine T_seq ?_
      refine T_block ?_
      replace h := bindO h
      obtain ⟨v6, hv6, h⟩ := h
      replace h := bindO h
      obtain ⟨v7, hv7, h⟩ := h
      replace h := bindO h
      obtain ⟨v8, hv8, h⟩ := h
      refine T_drawX 9 ⟨[(22, .agg [.lit (.int .i64 (v8.State)), .lit (.int .i64 (v8.Busy)), .lit (.int .i64 (v8.Exponent)), .lit (.int .i64 (v8.Clear)), .lit (.int .i64 (v8.Wait))]), (21, .c (.lit (.int .u32 (v7)))), (20, .c (.lit (.int .i64 (IntKind.wrap .i64 (s3.1 + 1))))), (19, .c (.lit (.int .i64 (s3.1)))), (18, .c (.slc 1 0 (List.map (ecI .u32) (a0)))), (17, .c (.lit (.bool (v6)))), (16, .c (.lit (.int .i64 (s3.1)))), (15, .c (.slc 1 0 (List.map (ecI .u8) (a1)))), (14, .agg [.lit (.int .i64 (s3.2.State)), .lit (.int .i64 (s3.2.Busy)), .lit (.int .i64 (s3.2.Exponent)), .lit (.int .i64 (s3.2.Clear)), .lit (.int .i64 (s3.2.Wait))]), (11, .c (.lit (.bool ((decide (s3.1 < 125)))))), (10, .c (.lit (.int .i64 (s3.1)))), (0, .c (.slc 1 0 (List.map (ecI .u32) (a0)))), (1, .c (.slc 1 0 (List.map (ecI .u8) (a1)))), (5, .c (.box 5 0)), (6, .c (.lit (.int .i64 (s3.1))))], ⟨[(5, [.lit (.int .i64 (s3.2.State)), .lit (.int .i64 (s3.2.Busy)), .lit (.int .i64 (s3.2.Exponent)), .lit (.int .i64 (s3.2.Clear)), .lit (.int .i64 (s3.2.Wait))])], []⟩⟩ (by kernel_rfl) (by kernel_rfl) ?_ ?_
      · refine HeadX_runs 3 ⟨[(16, .c (.lit (.int .i64 (s3.1)))), (15, .c (.slc 1 0 (List.map (ecI .u8) (a1)))), (14, .agg [.lit (.int .i64 (s3.2.State)), .lit (.int .i64 (s3.2.Busy)), .lit (.int .i64 (s3.2.Exponent)), .lit (.int .i64 (s3.2.Clear)), .lit (.int .i64 (s3.2.Wait))]), (11, .c (.lit (.bool ((decide (s3.1 < 125)))))), (10, .c (.lit (.int .i64 (s3.1)))), (0, .c (.slc 1 0 (List.map (ecI .u32) (a0)))), (1, .c (.slc 1 0 (List.map (ecI .u8) (a1)))), (5, .c (.box 5 0)), (6, .c (.lit (.int .i64 (s3.1))))], ⟨[(5, [.lit (.int .i64 (s3.2.State)), .lit (.int .i64 (s3.2.Busy)), .lit (.int .i64 (s3.2.Exponent)), .lit (.int .i64 (s3.2.Clear)), .lit (.int .i64 (s3.2.Wait))])], []⟩⟩ (by kernel_rfl) ?_
        refine HeadX_op (.c (.lit (.bool (v6)))) (by kernel_rfl) (by kernel_rfl) (grow_call 22 Try.f22 [[2], [0]] [.c (.slc 1 0 (List.map (ecI .u8) (a1))), .c (.lit (.int .i64 (s3.1)))] rfl (by kernel_rfl) Try.func22 (by kernel_rfl) (by kernel_rfl) (by kernel_rfl) (ok_law08_busy a1 s3.1 v6 hv6)) ?_
        refine HeadX_runs 3 ⟨[(20, .c (.lit (.int .i64 (IntKind.wrap .i64 (s3.1 + 1))))), (19, .c (.lit (.int .i64 (s3.1)))), (18, .c (.slc 1 0 (List.map (ecI .u32) (a0)))), (17, .c (.lit (.bool (v6)))), (16, .c (.lit (.int .i64 (s3.1)))), (15, .c (.slc 1 0 (List.map (ecI .u8) (a1)))), (14, .agg [.lit (.int .i64 (s3.2.State)), .lit (.int .i64 (s3.2.Busy)), .lit (.int .i64 (s3.2.Exponent)), .lit (.int .i64 (s3.2.Clear)), .lit (.int .i64 (s3.2.Wait))]), (11, .c (.lit (.bool ((decide (s3.1 < 125)))))), (10, .c (.lit (.int .i64 (s3.1)))), (0, .c (.slc 1 0 (List.map (ecI .u32) (a0)))), (1, .c (.slc 1 0 (List.map (ecI .u8) (a1)))), (5, .c (.box 5 0)), (6, .c (.lit (.int .i64 (s3.1))))], ⟨[(5, [.lit (.int .i64 (s3.2.State)), .lit (.int .i64 (s3.2.Busy)), .lit (.int .i64 (s3.2.Exponent)), .lit (.int .i64 (s3.2.Clear)), .lit (.int .i64 (s3.2.Wait))])], []⟩⟩ (by kernel_rfl) ?_
        refine HeadX_op (.c (.lit (.int .u32 (v7)))) (by kernel_rfl) (by kernel_rfl) (grow_call 21 Try.f21 [[2], [0]] [.c (.slc 1 0 (List.map (ecI .u32) (a0))), .c (.lit (.int .i64 ((IntKind.wrap .i64 (s3.1 + 1)))))] rfl (by kernel_rfl) Try.func21 (by kernel_rfl) (by kernel_rfl) (by kernel_rfl) (ok_law08_at a0 (IntKind.wrap .i64 (s3.1 + 1)) v7 hv7)) ?_
        refine HeadX_op (.agg [.lit (.int .i64 (v8.State)), .lit (.int .i64 (v8.Busy)), .lit (.int .i64 (v8.Exponent)), .lit (.int .i64 (v8.Clear)), .lit (.int .i64 (v8.Wait))]) (by kernel_rfl) (by kernel_rfl) (grow_call 16 Try.f16 [[0, 0, 0, 0, 0], [0], [0]] [.agg (S_Backoff.cs s3.2), .c (.lit (.bool (v6))), .c (.lit (.int .u32 (v7)))] rfl (by kernel_rfl) Try.func16 (by kernel_rfl) (by kernel_rfl) (by kernel_rfl) (ok_backoff_Step s3.2 v6 v7 v8 hv8)) ?_
        exact HeadX_end (by kernel_rfl)
      · refine TL_end ⟨[(22, .agg [.lit (.int .i64 (v8.State)), .lit (.int .i64 (v8.Busy)), .lit (.int .i64 (v8.Exponent)), .lit (.int .i64 (v8.Clear)), .lit (.int .i64 (v8.Wait))]), (21, .c (.lit (.int .u32 (v7)))), (20, .c (.lit (.int .i64 (IntKind.wrap .i64 (s3.1 + 1))))), (19, .c (.lit (.int .i64 (s3.1)))), (18, .c (.slc 1 0 (List.map (ecI .u32) (a0)))), (17, .c (.lit (.bool (v6)))), (16, .c (.lit (.int .i64 (s3.1)))), (15, .c (.slc 1 0 (List.map (ecI .u8) (a1)))), (14, .agg [.lit (.int .i64 (s3.2.State)), .lit (.int .i64 (s3.2.Busy)), .lit (.int .i64 (s3.2.Exponent)), .lit (.int .i64 (s3.2.Clear)), .lit (.int .i64 (s3.2.Wait))]), (11, .c (.lit (.bool ((decide (s3.1 < 125)))))), (10, .c (.lit (.int .i64 (s3.1)))), (0, .c (.slc 1 0 (List.map (ecI .u32) (a0)))), (1, .c (.slc 1 0 (List.map (ecI .u8) (a1)))), (5, .c (.box 5 0)), (6, .c (.lit (.int .i64 (s3.1))))], ⟨[(5, [.lit (.int .i64 (v8.State)), .lit (.int .i64 (v8.Busy)), .lit (.int .i64 (v8.Exponent)), .lit (.int .i64 (v8.Clear)), .lit (.int .i64 (v8.Wait))])], []⟩⟩ (by kernel_rfl) ?_
        refine blockQ_normal ?_
        refine T_keep [0, 1, 5, 6] [5] [] ?_
        refine T_runs ⟨[(6, .c (.lit (.int .i64 (IntKind.wrap .i64 (s3.1 + 1))))), (13, .c (.lit (.int .i64 (IntKind.wrap .i64 (s3.1 + 1))))), (12, .c (.lit (.int .i64 (s3.1)))), (0, .c (.slc 1 0 (List.map (ecI .u32) (a0)))), (1, .c (.slc 1 0 (List.map (ecI .u8) (a1)))), (5, .c (.box 5 0))], ⟨[(5, [.lit (.int .i64 (v8.State)), .lit (.int .i64 (v8.Busy)), .lit (.int .i64 (v8.Exponent)), .lit (.int .i64 (v8.Clear)), .lit (.int .i64 (v8.Wait))])], []⟩⟩ (by kernel_rfl) ?_
        obtain rfl := Option.some.inj h
        exact ⟨_, rfl, by kernel_rfl⟩
    · refine T_condF' (e := (decide (s3.1 < 125))) (by kernel_rfl) hb5 ?_
      refine T_exit ?_
      refine thenQ_exit ?_
      obtain rfl := Option.some.inj h
      exact ⟨_, rfl, rfl, by kernel_rfl⟩
  · intro e st hq
    obtain ⟨rfl, hst⟩ := hq
    refine blockQ_exit ?_
    refine T_keepS [5] [5] ?_
    refine T_sub hst ?_
    refine T_seq ?_
    replace h := bindO h
    obtain ⟨v11, hv11, h⟩ := h
    replace h := condO h
    rcases h with ⟨hb12, h⟩ | ⟨hb12, h⟩
    · subst hb12
      replace h := bindO h
      obtain ⟨v13, hv13, h⟩ := h
      replace h := condO h
      rcases h with ⟨hb14, h⟩ | ⟨hb14, h⟩
      · subst hb14
        replace h := bindO h
        obtain ⟨v15, hv15, h⟩ := h
        replace h := condO h
        rcases h with ⟨hb16, h⟩ | ⟨hb16, h⟩
        · replace h := bindO h
          obtain ⟨v17, hv17, h⟩ := h
          refine T_drawAllX ⟨[(4, .c (.lit (.bool ((S_Backoff.eqb v17 b4))))), (39, .c (.lit (.bool ((S_Backoff.eqb v17 b4))))), (38, .c (.lit (.bool ((S_Backoff.eqb v17 b4))))), (37, .agg [.lit (.int .i64 (b4.State)), .lit (.int .i64 (b4.Busy)), .lit (.int .i64 (b4.Exponent)), .lit (.int .i64 (b4.Clear)), .lit (.int .i64 (b4.Wait))]), (36, .agg [.lit (.int .i64 (v17.State)), .lit (.int .i64 (v17.Busy)), .lit (.int .i64 (v17.Exponent)), .lit (.int .i64 (v17.Clear)), .lit (.int .i64 (v17.Wait))]), (35, .agg [.lit (.int .i64 (b4.State)), .lit (.int .i64 (b4.Busy)), .lit (.int .i64 (b4.Exponent)), .lit (.int .i64 (b4.Clear)), .lit (.int .i64 (b4.Wait))]), (34, .c (.lit (.bool (true)))), (33, .c (.lit (.bool (true)))), (32, .c (.lit (.bool (true)))), (31, .agg [.lit (.int .i64 (b4.State)), .lit (.int .i64 (b4.Busy)), .lit (.int .i64 (b4.Exponent)), .lit (.int .i64 (b4.Clear)), .lit (.int .i64 (b4.Wait))]), (30, .agg [.lit (.int .i64 (v15.State)), .lit (.int .i64 (v15.Busy)), .lit (.int .i64 (v15.Exponent)), .lit (.int .i64 (v15.Clear)), .lit (.int .i64 (v15.Wait))]), (29, .agg [.lit (.int .i64 (b4.State)), .lit (.int .i64 (b4.Busy)), .lit (.int .i64 (b4.Exponent)), .lit (.int .i64 (b4.Clear)), .lit (.int .i64 (b4.Wait))]), (28, .c (.lit (.bool (true)))), (27, .c (.lit (.bool (true)))), (26, .c (.lit (.bool (true)))), (25, .agg [.lit (.int .i64 (b4.State)), .lit (.int .i64 (b4.Busy)), .lit (.int .i64 (b4.Exponent)), .lit (.int .i64 (b4.Clear)), .lit (.int .i64 (b4.Wait))]), (24, .c (.lit (.bool (true)))), (23, .c (.lit (.bool (true)))), (5, .c (.box 5 0))], ⟨[(5, [.lit (.int .i64 (b4.State)), .lit (.int .i64 (b4.Busy)), .lit (.int .i64 (b4.Exponent)), .lit (.int .i64 (b4.Clear)), .lit (.int .i64 (b4.Wait))])], []⟩⟩ (by kernel_rfl) (by kernel_rfl) ?_ ?_
          · refine HeadX_op (.c (.lit (.bool (true)))) (by kernel_rfl) (by kernel_rfl) (grow_call 18 Try.f18 [] [] rfl (by kernel_rfl) Try.func18 (by kernel_rfl) (by kernel_rfl) (by kernel_rfl) (ok_law08_known  true hv11)) ?_
            refine HeadX_runs 2 ⟨[(25, .agg [.lit (.int .i64 (b4.State)), .lit (.int .i64 (b4.Busy)), .lit (.int .i64 (b4.Exponent)), .lit (.int .i64 (b4.Clear)), .lit (.int .i64 (b4.Wait))]), (24, .c (.lit (.bool (true)))), (23, .c (.lit (.bool (true)))), (5, .c (.box 5 0))], ⟨[(5, [.lit (.int .i64 (b4.State)), .lit (.int .i64 (b4.Busy)), .lit (.int .i64 (b4.Exponent)), .lit (.int .i64 (b4.Clear)), .lit (.int .i64 (b4.Wait))])], []⟩⟩ (by kernel_rfl) ?_
            refine HeadX_op (.c (.lit (.bool (true)))) (by kernel_rfl) (by kernel_rfl) (grow_call 14 Try.f14 [[0, 0, 0, 0, 0]] [.agg (S_Backoff.cs b4)] rfl (by kernel_rfl) Try.func14 (by kernel_rfl) (by kernel_rfl) (by kernel_rfl) (ok_backoff_Ended b4 true hv13)) ?_
            refine HeadX_runs 3 ⟨[(29, .agg [.lit (.int .i64 (b4.State)), .lit (.int .i64 (b4.Busy)), .lit (.int .i64 (b4.Exponent)), .lit (.int .i64 (b4.Clear)), .lit (.int .i64 (b4.Wait))]), (28, .c (.lit (.bool (true)))), (27, .c (.lit (.bool (true)))), (26, .c (.lit (.bool (true)))), (25, .agg [.lit (.int .i64 (b4.State)), .lit (.int .i64 (b4.Busy)), .lit (.int .i64 (b4.Exponent)), .lit (.int .i64 (b4.Clear)), .lit (.int .i64 (b4.Wait))]), (24, .c (.lit (.bool (true)))), (23, .c (.lit (.bool (true)))), (5, .c (.box 5 0))], ⟨[(5, [.lit (.int .i64 (b4.State)), .lit (.int .i64 (b4.Busy)), .lit (.int .i64 (b4.Exponent)), .lit (.int .i64 (b4.Clear)), .lit (.int .i64 (b4.Wait))])], []⟩⟩ (by kernel_rfl) ?_
            refine HeadX_op (.agg [.lit (.int .i64 (v15.State)), .lit (.int .i64 (v15.Busy)), .lit (.int .i64 (v15.Exponent)), .lit (.int .i64 (v15.Clear)), .lit (.int .i64 (v15.Wait))]) (by kernel_rfl) (by kernel_rfl) (grow_call 16 Try.f16 [[0, 0, 0, 0, 0], [0], [0]] [.agg (S_Backoff.cs b4), .c (.lit (.bool (true))), .c (.lit (.int .u32 (5)))] rfl (by kernel_rfl) Try.func16 (by kernel_rfl) (by kernel_rfl) (by kernel_rfl) (ok_backoff_Step b4 true 5 v15 hv15)) ?_
            refine HeadX_runs 1 ⟨[(31, .agg [.lit (.int .i64 (b4.State)), .lit (.int .i64 (b4.Busy)), .lit (.int .i64 (b4.Exponent)), .lit (.int .i64 (b4.Clear)), .lit (.int .i64 (b4.Wait))]), (30, .agg [.lit (.int .i64 (v15.State)), .lit (.int .i64 (v15.Busy)), .lit (.int .i64 (v15.Exponent)), .lit (.int .i64 (v15.Clear)), .lit (.int .i64 (v15.Wait))]), (29, .agg [.lit (.int .i64 (b4.State)), .lit (.int .i64 (b4.Busy)), .lit (.int .i64 (b4.Exponent)), .lit (.int .i64 (b4.Clear)), .lit (.int .i64 (b4.Wait))]), (28, .c (.lit (.bool (true)))), (27, .c (.lit (.bool (true)))), (26, .c (.lit (.bool (true)))), (25, .agg [.lit (.int .i64 (b4.State)), .lit (.int .i64 (b4.Busy)), .lit (.int .i64 (b4.Exponent)), .lit (.int .i64 (b4.Clear)), .lit (.int .i64 (b4.Wait))]), (24, .c (.lit (.bool (true)))), (23, .c (.lit (.bool (true)))), (5, .c (.box 5 0))], ⟨[(5, [.lit (.int .i64 (b4.State)), .lit (.int .i64 (b4.Busy)), .lit (.int .i64 (b4.Exponent)), .lit (.int .i64 (b4.Clear)), .lit (.int .i64 (b4.Wait))])], []⟩⟩ (by kernel_rfl) ?_
            refine HeadX_op (.c (.lit (.bool (true)))) (by kernel_rfl) (by kernel_rfl) (grow_sub (e := (S_Backoff.eqb v15 b4)) (grow_aggEq [.lit (.int .i64 (v15.State)), .lit (.int .i64 (v15.Busy)), .lit (.int .i64 (v15.Exponent)), .lit (.int .i64 (v15.Clear)), .lit (.int .i64 (v15.Wait))] [.lit (.int .i64 (b4.State)), .lit (.int .i64 (b4.Busy)), .lit (.int .i64 (b4.Exponent)), .lit (.int .i64 (b4.Clear)), .lit (.int .i64 (b4.Wait))] ((S_Backoff.eqb v15 b4)) rfl rfl (by kernel_rfl) (by kernel_rfl) (by kernel_rfl) (by kernel_rfl) (by kernel_rfl)) hb16) ?_
            refine HeadX_runs 3 ⟨[(35, .agg [.lit (.int .i64 (b4.State)), .lit (.int .i64 (b4.Busy)), .lit (.int .i64 (b4.Exponent)), .lit (.int .i64 (b4.Clear)), .lit (.int .i64 (b4.Wait))]), (34, .c (.lit (.bool (true)))), (33, .c (.lit (.bool (true)))), (32, .c (.lit (.bool (true)))), (31, .agg [.lit (.int .i64 (b4.State)), .lit (.int .i64 (b4.Busy)), .lit (.int .i64 (b4.Exponent)), .lit (.int .i64 (b4.Clear)), .lit (.int .i64 (b4.Wait))]), (30, .agg [.lit (.int .i64 (v15.State)), .lit (.int .i64 (v15.Busy)), .lit (.int .i64 (v15.Exponent)), .lit (.int .i64 (v15.Clear)), .lit (.int .i64 (v15.Wait))]), (29, .agg [.lit (.int .i64 (b4.State)), .lit (.int .i64 (b4.Busy)), .lit (.int .i64 (b4.Exponent)), .lit (.int .i64 (b4.Clear)), .lit (.int .i64 (b4.Wait))]), (28, .c (.lit (.bool (true)))), (27, .c (.lit (.bool (true)))), (26, .c (.lit (.bool (true)))), (25, .agg [.lit (.int .i64 (b4.State)), .lit (.int .i64 (b4.Busy)), .lit (.int .i64 (b4.Exponent)), .lit (.int .i64 (b4.Clear)), .lit (.int .i64 (b4.Wait))]), (24, .c (.lit (.bool (true)))), (23, .c (.lit (.bool (true)))), (5, .c (.box 5 0))], ⟨[(5, [.lit (.int .i64 (b4.State)), .lit (.int .i64 (b4.Busy)), .lit (.int .i64 (b4.Exponent)), .lit (.int .i64 (b4.Clear)), .lit (.int .i64 (b4.Wait))])], []⟩⟩ (by kernel_rfl) ?_
            refine HeadX_op (.agg [.lit (.int .i64 (v17.State)), .lit (.int .i64 (v17.Busy)), .lit (.int .i64 (v17.Exponent)), .lit (.int .i64 (v17.Clear)), .lit (.int .i64 (v17.Wait))]) (by kernel_rfl) (by kernel_rfl) (grow_call 16 Try.f16 [[0, 0, 0, 0, 0], [0], [0]] [.agg (S_Backoff.cs b4), .c (.lit (.bool (false))), .c (.lit (.int .u32 (6)))] rfl (by kernel_rfl) Try.func16 (by kernel_rfl) (by kernel_rfl) (by kernel_rfl) (ok_backoff_Step b4 false 6 v17 hv17)) ?_
            refine HeadX_runs 1 ⟨[(37, .agg [.lit (.int .i64 (b4.State)), .lit (.int .i64 (b4.Busy)), .lit (.int .i64 (b4.Exponent)), .lit (.int .i64 (b4.Clear)), .lit (.int .i64 (b4.Wait))]), (36, .agg [.lit (.int .i64 (v17.State)), .lit (.int .i64 (v17.Busy)), .lit (.int .i64 (v17.Exponent)), .lit (.int .i64 (v17.Clear)), .lit (.int .i64 (v17.Wait))]), (35, .agg [.lit (.int .i64 (b4.State)), .lit (.int .i64 (b4.Busy)), .lit (.int .i64 (b4.Exponent)), .lit (.int .i64 (b4.Clear)), .lit (.int .i64 (b4.Wait))]), (34, .c (.lit (.bool (true)))), (33, .c (.lit (.bool (true)))), (32, .c (.lit (.bool (true)))), (31, .agg [.lit (.int .i64 (b4.State)), .lit (.int .i64 (b4.Busy)), .lit (.int .i64 (b4.Exponent)), .lit (.int .i64 (b4.Clear)), .lit (.int .i64 (b4.Wait))]), (30, .agg [.lit (.int .i64 (v15.State)), .lit (.int .i64 (v15.Busy)), .lit (.int .i64 (v15.Exponent)), .lit (.int .i64 (v15.Clear)), .lit (.int .i64 (v15.Wait))]), (29, .agg [.lit (.int .i64 (b4.State)), .lit (.int .i64 (b4.Busy)), .lit (.int .i64 (b4.Exponent)), .lit (.int .i64 (b4.Clear)), .lit (.int .i64 (b4.Wait))]), (28, .c (.lit (.bool (true)))), (27, .c (.lit (.bool (true)))), (26, .c (.lit (.bool (true)))), (25, .agg [.lit (.int .i64 (b4.State)), .lit (.int .i64 (b4.Busy)), .lit (.int .i64 (b4.Exponent)), .lit (.int .i64 (b4.Clear)), .lit (.int .i64 (b4.Wait))]), (24, .c (.lit (.bool (true)))), (23, .c (.lit (.bool (true)))), (5, .c (.box 5 0))], ⟨[(5, [.lit (.int .i64 (b4.State)), .lit (.int .i64 (b4.Busy)), .lit (.int .i64 (b4.Exponent)), .lit (.int .i64 (b4.Clear)), .lit (.int .i64 (b4.Wait))])], []⟩⟩ (by kernel_rfl) ?_
            refine HeadX_op (.c (.lit (.bool ((S_Backoff.eqb v17 b4))))) (by kernel_rfl) (by kernel_rfl) (grow_aggEq [.lit (.int .i64 (v17.State)), .lit (.int .i64 (v17.Busy)), .lit (.int .i64 (v17.Exponent)), .lit (.int .i64 (v17.Clear)), .lit (.int .i64 (v17.Wait))] [.lit (.int .i64 (b4.State)), .lit (.int .i64 (b4.Busy)), .lit (.int .i64 (b4.Exponent)), .lit (.int .i64 (b4.Clear)), .lit (.int .i64 (b4.Wait))] ((S_Backoff.eqb v17 b4)) rfl rfl (by kernel_rfl) (by kernel_rfl) (by kernel_rfl) (by kernel_rfl) (by kernel_rfl)) ?_
            exact HeadX_end (by kernel_rfl)
          · refine T_keep [4] [] [] ?_
            refine T_ret ?_
            obtain rfl := Option.some.inj h
            exact ⟨[(false, [.lit (.bool ((S_Backoff.eqb v17 b4)))])], by kernel_rfl, by kernel_rfl⟩
        · refine T_drawAllX ⟨[(4, .c (.lit (.bool (false)))), (39, .c (.lit (.bool (false)))), (38, .tup []), (37, .tup []), (36, .tup []), (35, .tup []), (34, .c (.lit (.bool (false)))), (33, .c (.lit (.bool (false)))), (32, .c (.lit (.bool (false)))), (31, .agg [.lit (.int .i64 (b4.State)), .lit (.int .i64 (b4.Busy)), .lit (.int .i64 (b4.Exponent)), .lit (.int .i64 (b4.Clear)), .lit (.int .i64 (b4.Wait))]), (30, .agg [.lit (.int .i64 (v15.State)), .lit (.int .i64 (v15.Busy)), .lit (.int .i64 (v15.Exponent)), .lit (.int .i64 (v15.Clear)), .lit (.int .i64 (v15.Wait))]), (29, .agg [.lit (.int .i64 (b4.State)), .lit (.int .i64 (b4.Busy)), .lit (.int .i64 (b4.Exponent)), .lit (.int .i64 (b4.Clear)), .lit (.int .i64 (b4.Wait))]), (28, .c (.lit (.bool (true)))), (27, .c (.lit (.bool (true)))), (26, .c (.lit (.bool (true)))), (25, .agg [.lit (.int .i64 (b4.State)), .lit (.int .i64 (b4.Busy)), .lit (.int .i64 (b4.Exponent)), .lit (.int .i64 (b4.Clear)), .lit (.int .i64 (b4.Wait))]), (24, .c (.lit (.bool (true)))), (23, .c (.lit (.bool (true)))), (5, .c (.box 5 0))], ⟨[(5, [.lit (.int .i64 (b4.State)), .lit (.int .i64 (b4.Busy)), .lit (.int .i64 (b4.Exponent)), .lit (.int .i64 (b4.Clear)), .lit (.int .i64 (b4.Wait))])], []⟩⟩ (by kernel_rfl) (by kernel_rfl) ?_ ?_
          · refine HeadX_op (.c (.lit (.bool (true)))) (by kernel_rfl) (by kernel_rfl) (grow_call 18 Try.f18 [] [] rfl (by kernel_rfl) Try.func18 (by kernel_rfl) (by kernel_rfl) (by kernel_rfl) (ok_law08_known  true hv11)) ?_
            refine HeadX_runs 2 ⟨[(25, .agg [.lit (.int .i64 (b4.State)), .lit (.int .i64 (b4.Busy)), .lit (.int .i64 (b4.Exponent)), .lit (.int .i64 (b4.Clear)), .lit (.int .i64 (b4.Wait))]), (24, .c (.lit (.bool (true)))), (23, .c (.lit (.bool (true)))), (5, .c (.box 5 0))], ⟨[(5, [.lit (.int .i64 (b4.State)), .lit (.int .i64 (b4.Busy)), .lit (.int .i64 (b4.Exponent)), .lit (.int .i64 (b4.Clear)), .lit (.int .i64 (b4.Wait))])], []⟩⟩ (by kernel_rfl) ?_
            refine HeadX_op (.c (.lit (.bool (true)))) (by kernel_rfl) (by kernel_rfl) (grow_call 14 Try.f14 [[0, 0, 0, 0, 0]] [.agg (S_Backoff.cs b4)] rfl (by kernel_rfl) Try.func14 (by kernel_rfl) (by kernel_rfl) (by kernel_rfl) (ok_backoff_Ended b4 true hv13)) ?_
            refine HeadX_runs 3 ⟨[(29, .agg [.lit (.int .i64 (b4.State)), .lit (.int .i64 (b4.Busy)), .lit (.int .i64 (b4.Exponent)), .lit (.int .i64 (b4.Clear)), .lit (.int .i64 (b4.Wait))]), (28, .c (.lit (.bool (true)))), (27, .c (.lit (.bool (true)))), (26, .c (.lit (.bool (true)))), (25, .agg [.lit (.int .i64 (b4.State)), .lit (.int .i64 (b4.Busy)), .lit (.int .i64 (b4.Exponent)), .lit (.int .i64 (b4.Clear)), .lit (.int .i64 (b4.Wait))]), (24, .c (.lit (.bool (true)))), (23, .c (.lit (.bool (true)))), (5, .c (.box 5 0))], ⟨[(5, [.lit (.int .i64 (b4.State)), .lit (.int .i64 (b4.Busy)), .lit (.int .i64 (b4.Exponent)), .lit (.int .i64 (b4.Clear)), .lit (.int .i64 (b4.Wait))])], []⟩⟩ (by kernel_rfl) ?_
            refine HeadX_op (.agg [.lit (.int .i64 (v15.State)), .lit (.int .i64 (v15.Busy)), .lit (.int .i64 (v15.Exponent)), .lit (.int .i64 (v15.Clear)), .lit (.int .i64 (v15.Wait))]) (by kernel_rfl) (by kernel_rfl) (grow_call 16 Try.f16 [[0, 0, 0, 0, 0], [0], [0]] [.agg (S_Backoff.cs b4), .c (.lit (.bool (true))), .c (.lit (.int .u32 (5)))] rfl (by kernel_rfl) Try.func16 (by kernel_rfl) (by kernel_rfl) (by kernel_rfl) (ok_backoff_Step b4 true 5 v15 hv15)) ?_
            refine HeadX_runs 1 ⟨[(31, .agg [.lit (.int .i64 (b4.State)), .lit (.int .i64 (b4.Busy)), .lit (.int .i64 (b4.Exponent)), .lit (.int .i64 (b4.Clear)), .lit (.int .i64 (b4.Wait))]), (30, .agg [.lit (.int .i64 (v15.State)), .lit (.int .i64 (v15.Busy)), .lit (.int .i64 (v15.Exponent)), .lit (.int .i64 (v15.Clear)), .lit (.int .i64 (v15.Wait))]), (29, .agg [.lit (.int .i64 (b4.State)), .lit (.int .i64 (b4.Busy)), .lit (.int .i64 (b4.Exponent)), .lit (.int .i64 (b4.Clear)), .lit (.int .i64 (b4.Wait))]), (28, .c (.lit (.bool (true)))), (27, .c (.lit (.bool (true)))), (26, .c (.lit (.bool (true)))), (25, .agg [.lit (.int .i64 (b4.State)), .lit (.int .i64 (b4.Busy)), .lit (.int .i64 (b4.Exponent)), .lit (.int .i64 (b4.Clear)), .lit (.int .i64 (b4.Wait))]), (24, .c (.lit (.bool (true)))), (23, .c (.lit (.bool (true)))), (5, .c (.box 5 0))], ⟨[(5, [.lit (.int .i64 (b4.State)), .lit (.int .i64 (b4.Busy)), .lit (.int .i64 (b4.Exponent)), .lit (.int .i64 (b4.Clear)), .lit (.int .i64 (b4.Wait))])], []⟩⟩ (by kernel_rfl) ?_
            refine HeadX_op (.c (.lit (.bool (false)))) (by kernel_rfl) (by kernel_rfl) (grow_sub (e := (S_Backoff.eqb v15 b4)) (grow_aggEq [.lit (.int .i64 (v15.State)), .lit (.int .i64 (v15.Busy)), .lit (.int .i64 (v15.Exponent)), .lit (.int .i64 (v15.Clear)), .lit (.int .i64 (v15.Wait))] [.lit (.int .i64 (b4.State)), .lit (.int .i64 (b4.Busy)), .lit (.int .i64 (b4.Exponent)), .lit (.int .i64 (b4.Clear)), .lit (.int .i64 (b4.Wait))] ((S_Backoff.eqb v15 b4)) rfl rfl (by kernel_rfl) (by kernel_rfl) (by kernel_rfl) (by kernel_rfl) (by kernel_rfl)) hb16) ?_
            exact HeadX_end (by kernel_rfl)
          · refine T_keep [4] [] [] ?_
            refine T_ret ?_
            obtain rfl := Option.some.inj h
            exact ⟨[(false, [.lit (.bool (false))])], by kernel_rfl, by kernel_rfl⟩
      · subst hb14
        refine T_drawAllX ⟨[(4, .c (.lit (.bool (false)))), (39, .c (.lit (.bool (false)))), (38, .tup []), (37, .tup []), (36, .tup []), (35, .tup []), (34, .c (.lit (.bool (false)))), (33, .c (.lit (.bool (false)))), (32, .tup []), (31, .tup []), (30, .tup []), (29, .tup []), (28, .c (.lit (.bool (false)))), (27, .c (.lit (.bool (false)))), (26, .c (.lit (.bool (false)))), (25, .agg [.lit (.int .i64 (b4.State)), .lit (.int .i64 (b4.Busy)), .lit (.int .i64 (b4.Exponent)), .lit (.int .i64 (b4.Clear)), .lit (.int .i64 (b4.Wait))]), (24, .c (.lit (.bool (true)))), (23, .c (.lit (.bool (true)))), (5, .c (.box 5 0))], ⟨[(5, [.lit (.int .i64 (b4.State)), .lit (.int .i64 (b4.Busy)), .lit (.int .i64 (b4.Exponent)), .lit (.int .i64 (b4.Clear)), .lit (.int .i64 (b4.Wait))])], []⟩⟩ (by kernel_rfl) (by kernel_rfl) ?_ ?_
        · refine HeadX_op (.c (.lit (.bool (true)))) (by kernel_rfl) (by kernel_rfl) (grow_call 18 Try.f18 [] [] rfl (by kernel_rfl) Try.func18 (by kernel_rfl) (by kernel_rfl) (by kernel_rfl) (ok_law08_known  true hv11)) ?_
          refine HeadX_runs 2 ⟨[(25, .agg [.lit (.int .i64 (b4.State)), .lit (.int .i64 (b4.Busy)), .lit (.int .i64 (b4.Exponent)), .lit (.int .i64 (b4.Clear)), .lit (.int .i64 (b4.Wait))]), (24, .c (.lit (.bool (true)))), (23, .c (.lit (.bool (true)))), (5, .c (.box 5 0))], ⟨[(5, [.lit (.int .i64 (b4.State)), .lit (.int .i64 (b4.Busy)), .lit (.int .i64 (b4.Exponent)), .lit (.int .i64 (b4.Clear)), .lit (.int .i64 (b4.Wait))])], []⟩⟩ (by kernel_rfl) ?_
          refine HeadX_op (.c (.lit (.bool (false)))) (by kernel_rfl) (by kernel_rfl) (grow_call 14 Try.f14 [[0, 0, 0, 0, 0]] [.agg (S_Backoff.cs b4)] rfl (by kernel_rfl) Try.func14 (by kernel_rfl) (by kernel_rfl) (by kernel_rfl) (ok_backoff_Ended b4 false hv13)) ?_
          exact HeadX_end (by kernel_rfl)
        · refine T_keep [4] [] [] ?_
          refine T_ret ?_
          obtain rfl := Option.some.inj h
          exact ⟨[(false, [.lit (.bool (false))])], by kernel_rfl, by kernel_rfl⟩
    · subst hb12
      refine T_drawAllX ⟨[(4, .c (.lit (.bool (false)))), (39, .c (.lit (.bool (false)))), (38, .tup []), (37, .tup []), (36, .tup []), (35, .tup []), (34, .c (.lit (.bool (false)))), (33, .c (.lit (.bool (false)))), (32, .tup []), (31, .tup []), (30, .tup []), (29, .tup []), (28, .c (.lit (.bool (false)))), (27, .c (.lit (.bool (false)))), (26, .tup []), (25, .tup []), (24, .c (.lit (.bool (false)))), (23, .c (.lit (.bool (false)))), (5, .c (.box 5 0))], ⟨[(5, [.lit (.int .i64 (b4.State)), .lit (.int .i64 (b4.Busy)), .lit (.int .i64 (b4.Exponent)), .lit (.int .i64 (b4.Clear)), .lit (.int .i64 (b4.Wait))])], []⟩⟩ (by kernel_rfl) (by kernel_rfl) ?_ ?_
      · refine HeadX_op (.c (.lit (.bool (false)))) (by kernel_rfl) (by kernel_rfl) (grow_call 18 Try.f18 [] [] rfl (by kernel_rfl) Try.func18 (by kernel_rfl) (by kernel_rfl) (by kernel_rfl) (ok_law08_known  false hv11)) ?_
        exact HeadX_end (by kernel_rfl)
      · refine T_keep [4] [] [] ?_
        refine T_ret ?_
        obtain rfl := Option.some.inj h
        exact ⟨[(false, [.lit (.bool (false))])], by kernel_rfl, by kernel_rfl⟩

end Go.Proofs.Ytohhaibbbnobpaa
