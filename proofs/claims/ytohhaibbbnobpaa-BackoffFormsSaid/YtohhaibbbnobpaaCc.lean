/-
  Written by cc.py: what the Go functions compute, as plain functions, and that they do.
-/
import Derived.Test.YtohhaibbbnobpaaCc3
namespace Go.Proofs.Ytohhaibbbnobpaa
open Go.RowKit

/-- multihop/multihoplaw08.BackoffPlays -/
noncomputable def F_law08_BackoffPlays_l1 (a1 : List Int) (a0 : List Int) (s5 : Int × S_Backoff × S_Backoff) : Option ((Int × S_Backoff × S_Backoff) ⊕ ((S_Backoff × S_Backoff) ⊕ (Bool))) :=
  bif (decide (s5.1 < 130)) then
    bif (S_Backoff.eqb s5.2.1 s5.2.2) then
      (F_backoff_Valid s5.2.1).bind fun v9 =>
      bif v9 then
        (F_law08_busy a1 s5.1).bind fun v11 =>
        (F_law08_at a0 (IntKind.wrap .i64 (s5.1 + 1))).bind fun v12 =>
        (F_backoff_Step s5.2.1 v11 v12).bind fun v13 =>
        (F_law08_busy a1 s5.1).bind fun v14 =>
        (F_law08_at a0 (IntKind.wrap .i64 (s5.1 + 1))).bind fun v15 =>
        (F_ref08_Step s5.2.2 v14 v15).bind fun v16 =>
        some (Sum.inl (IntKind.wrap .i64 (s5.1 + 1), v13, v16))
      else
        some (Sum.inr (Sum.inr (false)))
    else
      some (Sum.inr (Sum.inr (false)))
  else
    some (Sum.inr (Sum.inl (s5.2.1, s5.2.2)))
noncomputable def F_law08_BackoffPlays (a0 : List Int) (a1 : List Int) : Option (Bool) :=
  (F_law08_at a0 0).bind fun v1 =>
  (F_backoff_Begin v1).bind fun v2 =>
  (F_law08_at a0 0).bind fun v3 =>
  (F_ref08_Begin v3).bind fun v4 =>
  (loopO (F_law08_BackoffPlays_l1 a1 a0) (0, v2, v4)).bind fun y17 =>
  match y17 with
  | Sum.inl b6 =>
    (F_law08_known ).bind fun v19 =>
    bif v19 then
      some ((S_Backoff.eqb b6.1 b6.2))
    else
      some (false)
  | Sum.inr v => some v
set_option maxRecDepth 100000 in
theorem ok_law08_BackoffPlays (a0 : List Int) (a1 : List Int) (r : Bool) (h : F_law08_BackoffPlays a0 a1 = some r) : Pure Try.prog 4 [.c (.slc 1 0 (List.map (ecI .u32) (a0))), .c (.slc 1 0 (List.map (ecI .u8) (a1)))] (.c (.lit (.bool (r)))) := by
  unfold F_law08_BackoffPlays at h
  refine pure_of [[0]] 50 Try.func4 rfl rfl rfl (by kernel_rfl) (fun K => ?_)
  refine T_seq ?_
  refine T_runs ⟨[(4, .c (.lit (.bool (false)))), (0, .c (.slc 1 0 (List.map (ecI .u32) (a0)))), (1, .c (.slc 1 0 (List.map (ecI .u8) (a1))))], ⟨[], []⟩⟩ (by kernel_rfl) ?_
  refine T_seq ?_
  replace h := bindO h
  obtain ⟨v1, hv1, h⟩ := h
  replace h := bindO h
  obtain ⟨v2, hv2, h⟩ := h
  replace h := bindO h
  obtain ⟨v3, hv3, h⟩ := h
  replace h := bindO h
  obtain ⟨v4, hv4, h⟩ := h
  refine T_region ?_
  refine TL_runs 1 ⟨[(8, .c (.slc 1 0 (List.map (ecI .u32) (a0)))), (4, .c (.lit (.bool (false)))), (0, .c (.slc 1 0 (List.map (ecI .u32) (a0)))), (1, .c (.slc 1 0 (List.map (ecI .u8) (a1))))], ⟨[], []⟩⟩ (by kernel_rfl) ?_
  refine TL_grow (.c (.lit (.int .u32 (v1)))) (by kernel_rfl) (by kernel_rfl) (grow_call 21 Try.f21 [[2], [0]] [.c (.slc 1 0 (List.map (ecI .u32) (a0))), .c (.lit (.int .i64 (0)))] rfl (by kernel_rfl) Try.func21 (by kernel_rfl) (by kernel_rfl) (by kernel_rfl) (ok_law08_at a0 0 v1 hv1)) ?_
  refine TL_grow (.agg [.lit (.int .i64 (v2.State)), .lit (.int .i64 (v2.Busy)), .lit (.int .i64 (v2.Exponent)), .lit (.int .i64 (v2.Clear)), .lit (.int .i64 (v2.Wait))]) (by kernel_rfl) (by kernel_rfl) (grow_call 19 Try.f19 [[0]] [.c (.lit (.int .u32 (v1)))] rfl (by kernel_rfl) Try.func19 (by kernel_rfl) (by kernel_rfl) (by kernel_rfl) (ok_backoff_Begin v1 v2 hv2)) ?_
  refine TL_runs 1 ⟨[(11, .c (.slc 1 0 (List.map (ecI .u32) (a0)))), (10, .agg [.lit (.int .i64 (v2.State)), .lit (.int .i64 (v2.Busy)), .lit (.int .i64 (v2.Exponent)), .lit (.int .i64 (v2.Clear)), .lit (.int .i64 (v2.Wait))]), (9, .c (.lit (.int .u32 (v1)))), (8, .c (.slc 1 0 (List.map (ecI .u32) (a0)))), (4, .c (.lit (.bool (false)))), (0, .c (.slc 1 0 (List.map (ecI .u32) (a0)))), (1, .c (.slc 1 0 (List.map (ecI .u8) (a1))))], ⟨[], []⟩⟩ (by kernel_rfl) ?_
  refine TL_grow (.c (.lit (.int .u32 (v3)))) (by kernel_rfl) (by kernel_rfl) (grow_call 21 Try.f21 [[2], [0]] [.c (.slc 1 0 (List.map (ecI .u32) (a0))), .c (.lit (.int .i64 (0)))] rfl (by kernel_rfl) Try.func21 (by kernel_rfl) (by kernel_rfl) (by kernel_rfl) (ok_law08_at a0 0 v3 hv3)) ?_
  refine TL_grow (.agg [.lit (.int .i64 (v4.State)), .lit (.int .i64 (v4.Busy)), .lit (.int .i64 (v4.Exponent)), .lit (.int .i64 (v4.Clear)), .lit (.int .i64 (v4.Wait))]) (by kernel_rfl) (by kernel_rfl) (grow_call 20 Try.f20 [[0]] [.c (.lit (.int .u32 (v3)))] rfl (by kernel_rfl) Try.func20 (by kernel_rfl) (by kernel_rfl) (by kernel_rfl) (ok_ref08_Begin v3 v4 hv4)) ?_
  refine TL_end ⟨[(6, .c (.box 6 0)), (5, .c (.box 5 0)), (13, .agg [.lit (.int .i64 (v4.State)), .lit (.int .i64 (v4.Busy)), .lit (.int .i64 (v4.Exponent)), .lit (.int .i64 (v4.Clear)), .lit (.int .i64 (v4.Wait))]), (12, .c (.lit (.int .u32 (v3)))), (11, .c (.slc 1 0 (List.map (ecI .u32) (a0)))), (10, .agg [.lit (.int .i64 (v2.State)), .lit (.int .i64 (v2.Busy)), .lit (.int .i64 (v2.Exponent)), .lit (.int .i64 (v2.Clear)), .lit (.int .i64 (v2.Wait))]), (9, .c (.lit (.int .u32 (v1)))), (8, .c (.slc 1 0 (List.map (ecI .u32) (a0)))), (4, .c (.lit (.bool (false)))), (0, .c (.slc 1 0 (List.map (ecI .u32) (a0)))), (1, .c (.slc 1 0 (List.map (ecI .u8) (a1))))], ⟨[(6, [.lit (.int .i64 (v4.State)), .lit (.int .i64 (v4.Busy)), .lit (.int .i64 (v4.Exponent)), .lit (.int .i64 (v4.Clear)), .lit (.int .i64 (v4.Wait))]), (5, [.lit (.int .i64 (v2.State)), .lit (.int .i64 (v2.Busy)), .lit (.int .i64 (v2.Exponent)), .lit (.int .i64 (v2.Clear)), .lit (.int .i64 (v2.Wait))])], []⟩⟩ (by kernel_rfl) ?_
  refine T_keep [6, 5, 0, 1] [6, 5] [] ?_
  refine T_seq ?_
  refine T_seq ?_
  refine T_runs ⟨[(7, .c (.lit (.int .i64 (0)))), (6, .c (.box 6 0)), (5, .c (.box 5 0)), (0, .c (.slc 1 0 (List.map (ecI .u32) (a0)))), (1, .c (.slc 1 0 (List.map (ecI .u8) (a1))))], ⟨[(6, [.lit (.int .i64 (v4.State)), .lit (.int .i64 (v4.Busy)), .lit (.int .i64 (v4.Exponent)), .lit (.int .i64 (v4.Clear)), .lit (.int .i64 (v4.Wait))]), (5, [.lit (.int .i64 (v2.State)), .lit (.int .i64 (v2.Busy)), .lit (.int .i64 (v2.Exponent)), .lit (.int .i64 (v2.Clear)), .lit (.int .i64 (v2.Wait))])], []⟩⟩ (by kernel_rfl) ?_
  refine T_block ?_
  refine T_keepS [0, 1, 5, 6, 7] [5, 6] ?_
  refine T_sub (by kernel_rfl : _ = (fun (s5 : Int × S_Backoff × S_Backoff) => ⟨[(0, .c (.slc 1 0 (List.map (ecI .u32) (a0)))), (1, .c (.slc 1 0 (List.map (ecI .u8) (a1)))), (5, .c (.box 5 0)), (6, .c (.box 6 0)), (7, .c (.lit (.int .i64 (s5.1))))], ⟨[(5, [.lit (.int .i64 (s5.2.1.State)), .lit (.int .i64 (s5.2.1.Busy)), .lit (.int .i64 (s5.2.1.Exponent)), .lit (.int .i64 (s5.2.1.Clear)), .lit (.int .i64 (s5.2.1.Wait))]), (6, [.lit (.int .i64 (s5.2.2.State)), .lit (.int .i64 (s5.2.2.Busy)), .lit (.int .i64 (s5.2.2.Exponent)), .lit (.int .i64 (s5.2.2.Clear)), .lit (.int .i64 (s5.2.2.Wait))])], []⟩⟩) (0, v2, v4)) ?_
  replace h := bindO h
  obtain ⟨y17, hl18, h⟩ := h
  refine T_loopS [0, 1, 5, 6, 7] [5, 6] (F_law08_BackoffPlays_l1 a1 a0) (fun (s5 : Int × S_Backoff × S_Backoff) => ⟨[(0, .c (.slc 1 0 (List.map (ecI .u32) (a0)))), (1, .c (.slc 1 0 (List.map (ecI .u8) (a1)))), (5, .c (.box 5 0)), (6, .c (.box 6 0)), (7, .c (.lit (.int .i64 (s5.1))))], ⟨[(5, [.lit (.int .i64 (s5.2.1.State)), .lit (.int .i64 (s5.2.1.Busy)), .lit (.int .i64 (s5.2.1.Exponent)), .lit (.int .i64 (s5.2.1.Clear)), .lit (.int .i64 (s5.2.1.Wait))]), (6, [.lit (.int .i64 (s5.2.2.State)), .lit (.int .i64 (s5.2.2.Busy)), .lit (.int .i64 (s5.2.2.Exponent)), .lit (.int .i64 (s5.2.2.Clear)), .lit (.int .i64 (s5.2.2.Wait))])], []⟩⟩) (fun y17 e st => match y17 with | Sum.inl b6 => e = .exit 0 ∧ St.keepS st [5, 6] [5, 6] = ⟨[(5, .c (.box 5 0)), (6, .c (.box 6 0))], ⟨[(5, [.lit (.int .i64 (b6.1.State)), .lit (.int .i64 (b6.1.Busy)), .lit (.int .i64 (b6.1.Exponent)), .lit (.int .i64 (b6.1.Clear)), .lit (.int .i64 (b6.1.Wait))]), (6, [.lit (.int .i64 (b6.2.State)), .lit (.int .i64 (b6.2.Busy)), .lit (.int .i64 (b6.2.Exponent)), .lit (.int .i64 (b6.2.Clear)), .lit (.int .i64 (b6.2.Wait))])], []⟩⟩ | Sum.inr v => e = .ret ∧ ∃ xs, resL Try.prog st [[0]] Try.f4.results.toList = some xs ∧ resV xs = some (.c (.lit (.bool (v))))) (0, v2, v4) _ hl18 ?_ ?_
  · intro s5 x h
    unfold F_law08_BackoffPlays_l1 at h
    refine T_seq ?_
    refine T_seq ?_
    refine T_runs ⟨[(15, .c (.lit (.bool ((decide (s5.1 < 130)))))), (14, .c (.lit (.int .i64 (s5.1)))), (0, .c (.slc 1 0 (List.map (ecI .u32) (a0)))), (1, .c (.slc 1 0 (List.map (ecI .u8) (a1)))), (5, .c (.box 5 0)), (6, .c (.box 6 0)), (7, .c (.lit (.int .i64 (s5.1))))], ⟨[(5, [.lit (.int .i64 (s5.2.1.State)), .lit (.int .i64 (s5.2.1.Busy)), .lit (.int .i64 (s5.2.1.Exponent)), .lit (.int .i64 (s5.2.1.Clear)), .lit (.int .i64 (s5.2.1.Wait))]), (6, [.lit (.int .i64 (s5.2.2.State)), .lit (.int .i64 (s5.2.2.Busy)), .lit (.int .i64 (s5.2.2.Exponent)), .lit (.int .i64 (s5.2.2.Clear)), .lit (.int .i64 (s5.2.2.Wait))])], []⟩⟩ (by kernel_rfl) ?_
    replace h := condO h
    rcases h with ⟨hb7, h⟩ | ⟨hb7, h⟩
    · refine T_condT' (e := (decide (s5.1 < 130))) (by kernel_rfl) hb7 ?_
      refine T_skip ?_
      refine T_seq ?_
      refine T_block ?_
      refine T_seq ?_
      refine T_seq ?_
      replace h := condO h
      rcases h with ⟨hb8, h⟩ | ⟨hb8, h⟩
      · replace h := bindO h
        obtain ⟨v9, hv9, h⟩ := h
        refine T_region ?_
        refine TL_runs 2 ⟨[(19, .agg [.lit (.int .i64 (s5.2.2.State)), .lit (.int .i64 (s5.2.2.Busy)), .lit (.int .i64 (s5.2.2.Exponent)), .lit (.int .i64 (s5.2.2.Clear)), .lit (.int .i64 (s5.2.2.Wait))]), (18, .agg [.lit (.int .i64 (s5.2.1.State)), .lit (.int .i64 (s5.2.1.Busy)), .lit (.int .i64 (s5.2.1.Exponent)), .lit (.int .i64 (s5.2.1.Clear)), .lit (.int .i64 (s5.2.1.Wait))]), (15, .c (.lit (.bool ((decide (s5.1 < 130)))))), (14, .c (.lit (.int .i64 (s5.1)))), (0, .c (.slc 1 0 (List.map (ecI .u32) (a0)))), (1, .c (.slc 1 0 (List.map (ecI .u8) (a1)))), (5, .c (.box 5 0)), (6, .c (.box 6 0)), (7, .c (.lit (.int .i64 (s5.1))))], ⟨[(5, [.lit (.int .i64 (s5.2.1.State)), .lit (.int .i64 (s5.2.1.Busy)), .lit (.int .i64 (s5.2.1.Exponent)), .lit (.int .i64 (s5.2.1.Clear)), .lit (.int .i64 (s5.2.1.Wait))]), (6, [.lit (.int .i64 (s5.2.2.State)), .lit (.int .i64 (s5.2.2.Busy)), .lit (.int .i64 (s5.2.2.Exponent)), .lit (.int .i64 (s5.2.2.Clear)), .lit (.int .i64 (s5.2.2.Wait))])], []⟩⟩ (by kernel_rfl) ?_
        refine TL_grow (.c (.lit (.bool (false)))) (by kernel_rfl) (by kernel_rfl) (grow_sub (e := (!(S_Backoff.eqb s5.2.1 s5.2.2))) (grow_aggNe [.lit (.int .i64 (s5.2.1.State)), .lit (.int .i64 (s5.2.1.Busy)), .lit (.int .i64 (s5.2.1.Exponent)), .lit (.int .i64 (s5.2.1.Clear)), .lit (.int .i64 (s5.2.1.Wait))] [.lit (.int .i64 (s5.2.2.State)), .lit (.int .i64 (s5.2.2.Busy)), .lit (.int .i64 (s5.2.2.Exponent)), .lit (.int .i64 (s5.2.2.Clear)), .lit (.int .i64 (s5.2.2.Wait))] ((S_Backoff.eqb s5.2.1 s5.2.2)) rfl rfl (by kernel_rfl) (by kernel_rfl) (by kernel_rfl) (by kernel_rfl) (by kernel_rfl)) (notF hb8)) ?_
        refine TL_runs 2 ⟨[(22, .agg [.lit (.int .i64 (s5.2.1.State)), .lit (.int .i64 (s5.2.1.Busy)), .lit (.int .i64 (s5.2.1.Exponent)), .lit (.int .i64 (s5.2.1.Clear)), .lit (.int .i64 (s5.2.1.Wait))]), (21, .c (.lit (.bool (false)))), (20, .c (.lit (.bool (false)))), (19, .agg [.lit (.int .i64 (s5.2.2.State)), .lit (.int .i64 (s5.2.2.Busy)), .lit (.int .i64 (s5.2.2.Exponent)), .lit (.int .i64 (s5.2.2.Clear)), .lit (.int .i64 (s5.2.2.Wait))]), (18, .agg [.lit (.int .i64 (s5.2.1.State)), .lit (.int .i64 (s5.2.1.Busy)), .lit (.int .i64 (s5.2.1.Exponent)), .lit (.int .i64 (s5.2.1.Clear)), .lit (.int .i64 (s5.2.1.Wait))]), (15, .c (.lit (.bool ((decide (s5.1 < 130)))))), (14, .c (.lit (.int .i64 (s5.1)))), (0, .c (.slc 1 0 (List.map (ecI .u32) (a0)))), (1, .c (.slc 1 0 (List.map (ecI .u8) (a1)))), (5, .c (.box 5 0)), (6, .c (.box 6 0)), (7, .c (.lit (.int .i64 (s5.1))))], ⟨[(5, [.lit (.int .i64 (s5.2.1.State)), .lit (.int .i64 (s5.2.1.Busy)), .lit (.int .i64 (s5.2.1.Exponent)), .lit (.int .i64 (s5.2.1.Clear)), .lit (.int .i64 (s5.2.1.Wait))]), (6, [.lit (.int .i64 (s5.2.2.State)), .lit (.int .i64 (s5.2.2.Busy)), .lit (.int .i64 (s5.2.2.Exponent)), .lit (.int .i64 (s5.2.2.Clear)), .lit (.int .i64 (s5.2.2.Wait))])], []⟩⟩ (by kernel_rfl) ?_
        refine TL_grow (.c (.lit (.bool (v9)))) (by kernel_rfl) (by kernel_rfl) (grow_call 12 Try.f12 [[0, 0, 0, 0, 0]] [.agg (S_Backoff.cs s5.2.1)] rfl (by kernel_rfl) Try.func12 (by kernel_rfl) (by kernel_rfl) (by kernel_rfl) (ok_backoff_Valid s5.2.1 v9 hv9)) ?_
        refine TL_end ⟨[(25, .c (.lit (.bool ((!v9))))), (24, .c (.lit (.bool ((!v9))))), (23, .c (.lit (.bool (v9)))), (22, .agg [.lit (.int .i64 (s5.2.1.State)), .lit (.int .i64 (s5.2.1.Busy)), .lit (.int .i64 (s5.2.1.Exponent)), .lit (.int .i64 (s5.2.1.Clear)), .lit (.int .i64 (s5.2.1.Wait))]), (21, .c (.lit (.bool (false)))), (20, .c (.lit (.bool (false)))), (19, .agg [.lit (.int .i64 (s5.2.2.State)), .lit (.int .i64 (s5.2.2.Busy)), .lit (.int .i64 (s5.2.2.Exponent)), .lit (.int .i64 (s5.2.2.Clear)), .lit (.int .i64 (s5.2.2.Wait))]), (18, .agg [.lit (.int .i64 (s5.2.1.State)), .lit (.int .i64 (s5.2.1.Busy)), .lit (.int .i64 (s5.2.1.Exponent)), .lit (.int .i64 (s5.2.1.Clear)), .lit (.int .i64 (s5.2.1.Wait))]), (15, .c (.lit (.bool ((decide (s5.1 < 130)))))), (14, .c (.lit (.int .i64 (s5.1)))), (0, .c (.slc 1 0 (List.map (ecI .u32) (a0)))), (1, .c (.slc 1 0 (List.map (ecI .u8) (a1)))), (5, .c (.box 5 0)), (6, .c (.box 6 0)), (7, .c (.lit (.int .i64 (s5.1))))], ⟨[(5, [.lit (.int .i64 (s5.2.1.State)), .lit (.int .i64 (s5.2.1.Busy)), .lit (.int .i64 (s5.2.1.Exponent)), .lit (.int .i64 (s5.2.1.Clear)), .lit (.int .i64 (s5.2.1.Wait))]), (6, [.lit (.int .i64 (s5.2.2.State)), .lit (.int .i64 (s5.2.2.Busy)), .lit (.int .i64 (s5.2.2.Exponent)), .lit (.int .i64 (s5.2.2.Clear)), .lit (.int .i64 (s5.2.2.Wait))])], []⟩⟩ (by kernel_rfl) ?_
        refine T_keep [25, 0, 1, 5, 6, 7] [5, 6] [] ?_
        replace h := condO h
        rcases h with ⟨hb10, h⟩ | ⟨hb10, h⟩
        · subst hb10
          refine T_condF (by kernel_rfl) ?_
          refine T_skip ?_
          replace h := bindO h
          obtain ⟨v11, hv11, h⟩ := h
          replace h := bindO h
          obtain ⟨v12, hv12, h⟩ := h
          replace h := bindO h
          obtain ⟨v13, hv13, h⟩ := h
          replace h := bindO h
          obtain ⟨v14, hv14, h⟩ := h
          replace h := bindO h
          obtain ⟨v15, hv15, h⟩ := h
          replace h := bindO h
          obtain ⟨v16, hv16, h⟩ := h
          refine T_drawX 18 ⟨[(43, .agg [.lit (.int .i64 (v16.State)), .lit (.int .i64 (v16.Busy)), .lit (.int .i64 (v16.Exponent)), .lit (.int .i64 (v16.Clear)), .lit (.int .i64 (v16.Wait))]), (42, .c (.lit (.int .u32 (v15)))), (41, .c (.lit (.int .i64 (IntKind.wrap .i64 (s5.1 + 1))))), (40, .c (.lit (.int .i64 (s5.1)))), (39, .c (.slc 1 0 (List.map (ecI .u32) (a0)))), (38, .c (.lit (.bool (v14)))), (37, .c (.lit (.int .i64 (s5.1)))), (36, .c (.slc 1 0 (List.map (ecI .u8) (a1)))), (35, .agg [.lit (.int .i64 (s5.2.2.State)), .lit (.int .i64 (s5.2.2.Busy)), .lit (.int .i64 (s5.2.2.Exponent)), .lit (.int .i64 (s5.2.2.Clear)), .lit (.int .i64 (s5.2.2.Wait))]), (34, .agg [.lit (.int .i64 (v13.State)), .lit (.int .i64 (v13.Busy)), .lit (.int .i64 (v13.Exponent)), .lit (.int .i64 (v13.Clear)), .lit (.int .i64 (v13.Wait))]), (33, .c (.lit (.int .u32 (v12)))), (32, .c (.lit (.int .i64 (IntKind.wrap .i64 (s5.1 + 1))))), (31, .c (.lit (.int .i64 (s5.1)))), (30, .c (.slc 1 0 (List.map (ecI .u32) (a0)))), (29, .c (.lit (.bool (v11)))), (28, .c (.lit (.int .i64 (s5.1)))), (27, .c (.slc 1 0 (List.map (ecI .u8) (a1)))), (26, .agg [.lit (.int .i64 (s5.2.1.State)), .lit (.int .i64 (s5.2.1.Busy)), .lit (.int .i64 (s5.2.1.Exponent)), .lit (.int .i64 (s5.2.1.Clear)), .lit (.int .i64 (s5.2.1.Wait))]), (25, .c (.lit (.bool (false)))), (0, .c (.slc 1 0 (List.map (ecI .u32) (a0)))), (1, .c (.slc 1 0 (List.map (ecI .u8) (a1)))), (5, .c (.box 5 0)), (6, .c (.box 6 0)), (7, .c (.lit (.int .i64 (s5.1))))], ⟨[(5, [.lit (.int .i64 (s5.2.1.State)), .lit (.int .i64 (s5.2.1.Busy)), .lit (.int .i64 (s5.2.1.Exponent)), .lit (.int .i64 (s5.2.1.Clear)), .lit (.int .i64 (s5.2.1.Wait))]), (6, [.lit (.int .i64 (s5.2.2.State)), .lit (.int .i64 (s5.2.2.Busy)), .lit (.int .i64 (s5.2.2.Exponent)), .lit (.int .i64 (s5.2.2.Clear)), .lit (.int .i64 (s5.2.2.Wait))])], []⟩⟩ (by kernel_rfl) (by kernel_rfl) ?_ ?_
          · refine HeadX_runs 3 ⟨[(28, .c (.lit (.int .i64 (s5.1)))), (27, .c (.slc 1 0 (List.map (ecI .u8) (a1)))), (26, .agg [.lit (.int .i64 (s5.2.1.State)), .lit (.int .i64 (s5.2.1.Busy)), .lit (.int .i64 (s5.2.1.Exponent)), .lit (.int .i64 (s5.2.1.Clear)), .lit (.int .i64 (s5.2.1.Wait))]), (25, .c (.lit (.bool (false)))), (0, .c (.slc 1 0 (List.map (ecI .u32) (a0)))), (1, .c (.slc 1 0 (List.map (ecI .u8) (a1)))), (5, .c (.box 5 0)), (6, .c (.box 6 0)), (7, .c (.lit (.int .i64 (s5.1))))], ⟨[(5, [.lit (.int .i64 (s5.2.1.State)), .lit (.int .i64 (s5.2.1.Busy)), .lit (.int .i64 (s5.2.1.Exponent)), .lit (.int .i64 (s5.2.1.Clear)), .lit (.int .i64 (s5.2.1.Wait))]), (6, [.lit (.int .i64 (s5.2.2.State)), .lit (.int .i64 (s5.2.2.Busy)), .lit (.int .i64 (s5.2.2.Exponent)), .lit (.int .i64 (s5.2.2.Clear)), .lit (.int .i64 (s5.2.2.Wait))])], []⟩⟩ (by kernel_rfl) ?_
            refine HeadX_op (.c (.lit (.bool (v11)))) (by kernel_rfl) (by kernel_rfl) (grow_call 22 Try.f22 [[2], [0]] [.c (.slc 1 0 (List.map (ecI .u8) (a1))), .c (.lit (.int .i64 (s5.1)))] rfl (by kernel_rfl) Try.func22 (by kernel_rfl) (by kernel_rfl) (by kernel_rfl) (ok_law08_busy a1 s5.1 v11 hv11)) ?_
            refine HeadX_runs 3 ⟨[(32, .c (.lit (.int .i64 (IntKind.wrap .i64 (s5.1 + 1))))), (31, .c (.lit (.int .i64 (s5.1)))), (30, .c (.slc 1 0 (List.map (ecI .u32) (a0)))), (29, .c (.lit (.bool (v11)))), (28, .c (.lit (.int .i64 (s5.1)))), (27, .c (.slc 1 0 (List.map (ecI .u8) (a1)))), (26, .agg [.lit (.int .i64 (s5.2.1.State)), .lit (.int .i64 (s5.2.1.Busy)), .lit (.int .i64 (s5.2.1.Exponent)), .lit (.int .i64 (s5.2.1.Clear)), .lit (.int .i64 (s5.2.1.Wait))]), (25, .c (.lit (.bool (false)))), (0, .c (.slc 1 0 (List.map (ecI .u32) (a0)))), (1, .c (.slc 1 0 (List.map (ecI .u8) (a1)))), (5, .c (.box 5 0)), (6, .c (.box 6 0)), (7, .c (.lit (.int .i64 (s5.1))))], ⟨[(5, [.lit (.int .i64 (s5.2.1.State)), .lit (.int .i64 (s5.2.1.Busy)), .lit (.int .i64 (s5.2.1.Exponent)), .lit (.int .i64 (s5.2.1.Clear)), .lit (.int .i64 (s5.2.1.Wait))]), (6, [.lit (.int .i64 (s5.2.2.State)), .lit (.int .i64 (s5.2.2.Busy)), .lit (.int .i64 (s5.2.2.Exponent)), .lit (.int .i64 (s5.2.2.Clear)), .lit (.int .i64 (s5.2.2.Wait))])], []⟩⟩ (by kernel_rfl) ?_
            refine HeadX_op (.c (.lit (.int .u32 (v12)))) (by kernel_rfl) (by kernel_rfl) (grow_call 21 Try.f21 [[2], [0]] [.c (.slc 1 0 (List.map (ecI .u32) (a0))), .c (.lit (.int .i64 ((IntKind.wrap .i64 (s5.1 + 1)))))] rfl (by kernel_rfl) Try.func21 (by kernel_rfl) (by kernel_rfl) (by kernel_rfl) (ok_law08_at a0 (IntKind.wrap .i64 (s5.1 + 1)) v12 hv12)) ?_
            refine HeadX_op (.agg [.lit (.int .i64 (v13.State)), .lit (.int .i64 (v13.Busy)), .lit (.int .i64 (v13.Exponent)), .lit (.int .i64 (v13.Clear)), .lit (.int .i64 (v13.Wait))]) (by kernel_rfl) (by kernel_rfl) (grow_call 16 Try.f16 [[0, 0, 0, 0, 0], [0], [0]] [.agg (S_Backoff.cs s5.2.1), .c (.lit (.bool (v11))), .c (.lit (.int .u32 (v12)))] rfl (by kernel_rfl) Try.func16 (by kernel_rfl) (by kernel_rfl) (by kernel_rfl) (ok_backoff_Step s5.2.1 v11 v12 v13 hv13)) ?_
            refine HeadX_runs 3 ⟨[(37, .c (.lit (.int .i64 (s5.1)))), (36, .c (.slc 1 0 (List.map (ecI .u8) (a1)))), (35, .agg [.lit (.int .i64 (s5.2.2.State)), .lit (.int .i64 (s5.2.2.Busy)), .lit (.int .i64 (s5.2.2.Exponent)), .lit (.int .i64 (s5.2.2.Clear)), .lit (.int .i64 (s5.2.2.Wait))]), (34, .agg [.lit (.int .i64 (v13.State)), .lit (.int .i64 (v13.Busy)), .lit (.int .i64 (v13.Exponent)), .lit (.int .i64 (v13.Clear)), .lit (.int .i64 (v13.Wait))]), (33, .c (.lit (.int .u32 (v12)))), (32, .c (.lit (.int .i64 (IntKind.wrap .i64 (s5.1 + 1))))), (31, .c (.lit (.int .i64 (s5.1)))), (30, .c (.slc 1 0 (List.map (ecI .u32) (a0)))), (29, .c (.lit (.bool (v11)))), (28, .c (.lit (.int .i64 (s5.1)))), (27, .c (.slc 1 0 (List.map (ecI .u8) (a1)))), (26, .agg [.lit (.int .i64 (s5.2.1.State)), .lit (.int .i64 (s5.2.1.Busy)), .lit (.int .i64 (s5.2.1.Exponent)), .lit (.int .i64 (s5.2.1.Clear)), .lit (.int .i64 (s5.2.1.Wait))]), (25, .c (.lit (.bool (false)))), (0, .c (.slc 1 0 (List.map (ecI .u32) (a0)))), (1, .c (.slc 1 0 (List.map (ecI .u8) (a1)))), (5, .c (.box 5 0)), (6, .c (.box 6 0)), (7, .c (.lit (.int .i64 (s5.1))))], ⟨[(5, [.lit (.int .i64 (s5.2.1.State)), .lit (.int .i64 (s5.2.1.Busy)), .lit (.int .i64 (s5.2.1.Exponent)), .lit (.int .i64 (s5.2.1.Clear)), .lit (.int .i64 (s5.2.1.Wait))]), (6, [.lit (.int .i64 (s5.2.2.State)), .lit (.int .i64 (s5.2.2.Busy)), .lit (.int .i64 (s5.2.2.Exponent)), .lit (.int .i64 (s5.2.2.Clear)), .lit (.int .i64 (s5.2.2.Wait))])], []⟩⟩ (by kernel_rfl) ?_
            refine HeadX_op (.c (.lit (.bool (v14)))) (by kernel_rfl) (by kernel_rfl) (grow_call 22 Try.f22 [[2], [0]] [.c (.slc 1 0 (List.map (ecI .u8) (a1))), .c (.lit (.int .i64 (s5.1)))] rfl (by kernel_rfl) Try.func22 (by kernel_rfl) (by kernel_rfl) (by kernel_rfl) (ok_law08_busy a1 s5.1 v14 hv14)) ?_
            refine HeadX_runs 3 ⟨[(41, .c (.lit (.int .i64 (IntKind.wrap .i64 (s5.1 + 1))))), (40, .c (.lit (.int .i64 (s5.1)))), (39, .c (.slc 1 0 (List.map (ecI .u32) (a0)))), (38, .c (.lit (.bool (v14)))), (37, .c (.lit (.int .i64 (s5.1)))), (36, .c (.slc 1 0 (List.map (ecI .u8) (a1)))), (35, .agg [.lit (.int .i64 (s5.2.2.State)), .lit (.int .i64 (s5.2.2.Busy)), .lit (.int .i64 (s5.2.2.Exponent)), .lit (.int .i64 (s5.2.2.Clear)), .lit (.int .i64 (s5.2.2.Wait))]), (34, .agg [.lit (.int .i64 (v13.State)), .lit (.int .i64 (v13.Busy)), .lit (.int .i64 (v13.Exponent)), .lit (.int .i64 (v13.Clear)), .lit (.int .i64 (v13.Wait))]), (33, .c (.lit (.int .u32 (v12)))), (32, .c (.lit (.int .i64 (IntKind.wrap .i64 (s5.1 + 1))))), (31, .c (.lit (.int .i64 (s5.1)))), (30, .c (.slc 1 0 (List.map (ecI .u32) (a0)))), (29, .c (.lit (.bool (v11)))), (28, .c (.lit (.int .i64 (s5.1)))), (27, .c (.slc 1 0 (List.map (ecI .u8) (a1)))), (26, .agg [.lit (.int .i64 (s5.2.1.State)), .lit (.int .i64 (s5.2.1.Busy)), .lit (.int .i64 (s5.2.1.Exponent)), .lit (.int .i64 (s5.2.1.Clear)), .lit (.int .i64 (s5.2.1.Wait))]), (25, .c (.lit (.bool (false)))), (0, .c (.slc 1 0 (List.map (ecI .u32) (a0)))), (1, .c (.slc 1 0 (List.map (ecI .u8) (a1)))), (5, .c (.box 5 0)), (6, .c (.box 6 0)), (7, .c (.lit (.int .i64 (s5.1))))], ⟨[(5, [.lit (.int .i64 (s5.2.1.State)), .lit (.int .i64 (s5.2.1.Busy)), .lit (.int .i64 (s5.2.1.Exponent)), .lit (.int .i64 (s5.2.1.Clear)), .lit (.int .i64 (s5.2.1.Wait))]), (6, [.lit (.int .i64 (s5.2.2.State)), .lit (.int .i64 (s5.2.2.Busy)), .lit (.int .i64 (s5.2.2.Exponent)), .lit (.int .i64 (s5.2.2.Clear)), .lit (.int .i64 (s5.2.2.Wait))])], []⟩⟩ (by kernel_rfl) ?_
            refine HeadX_op (.c (.lit (.int .u32 (v15)))) (by kernel_rfl) (by kernel_rfl) (grow_call 21 Try.f21 [[2], [0]] [.c (.slc 1 0 (List.map (ecI .u32) (a0))), .c (.lit (.int .i64 ((IntKind.wrap .i64 (s5.1 + 1)))))] rfl (by kernel_rfl) Try.func21 (by kernel_rfl) (by kernel_rfl) (by kernel_rfl) (ok_law08_at a0 (IntKind.wrap .i64 (s5.1 + 1)) v15 hv15)) ?_
            refine HeadX_op (.agg [.lit (.int .i64 (v16.State)), .lit (.int .i64 (v16.Busy)), .lit (.int .i64 (v16.Exponent)), .lit (.int .i64 (v16.Clear)), .lit (.int .i64 (v16.Wait))]) (by kernel_rfl) (by kernel_rfl) (grow_call 17 Try.f17 [[0, 0, 0, 0, 0], [0], [0]] [.agg (S_Backoff.cs s5.2.2), .c (.lit (.bool (v14))), .c (.lit (.int .u32 (v15)))] rfl (by kernel_rfl) Try.func17 (by kernel_rfl) (by kernel_rfl) (by kernel_rfl) (ok_ref08_Step s5.2.2 v14 v15 v16 hv16)) ?_
            exact HeadX_end (by kernel_rfl)
          · refine TL_end ⟨[(43, .agg [.lit (.int .i64 (v16.State)), .lit (.int .i64 (v16.Busy)), .lit (.int .i64 (v16.Exponent)), .lit (.int .i64 (v16.Clear)), .lit (.int .i64 (v16.Wait))]), (42, .c (.lit (.int .u32 (v15)))), (41, .c (.lit (.int .i64 (IntKind.wrap .i64 (s5.1 + 1))))), (40, .c (.lit (.int .i64 (s5.1)))), (39, .c (.slc 1 0 (List.map (ecI .u32) (a0)))), (38, .c (.lit (.bool (v14)))), (37, .c (.lit (.int .i64 (s5.1)))), (36, .c (.slc 1 0 (List.map (ecI .u8) (a1)))), (35, .agg [.lit (.int .i64 (s5.2.2.State)), .lit (.int .i64 (s5.2.2.Busy)), .lit (.int .i64 (s5.2.2.Exponent)), .lit (.int .i64 (s5.2.2.Clear)), .lit (.int .i64 (s5.2.2.Wait))]), (34, .agg [.lit (.int .i64 (v13.State)), .lit (.int .i64 (v13.Busy)), .lit (.int .i64 (v13.Exponent)), .lit (.int .i64 (v13.Clear)), .lit (.int .i64 (v13.Wait))]), (33, .c (.lit (.int .u32 (v12)))), (32, .c (.lit (.int .i64 (IntKind.wrap .i64 (s5.1 + 1))))), (31, .c (.lit (.int .i64 (s5.1)))), (30, .c (.slc 1 0 (List.map (ecI .u32) (a0)))), (29, .c (.lit (.bool (v11)))), (28, .c (.lit (.int .i64 (s5.1)))), (27, .c (.slc 1 0 (List.map (ecI .u8) (a1)))), (26, .agg [.lit (.int .i64 (s5.2.1.State)), .lit (.int .i64 (s5.2.1.Busy)), .lit (.int .i64 (s5.2.1.Exponent)), .lit (.int .i64 (s5.2.1.Clear)), .lit (.int .i64 (s5.2.1.Wait))]), (25, .c (.lit (.bool (false)))), (0, .c (.slc 1 0 (List.map (ecI .u32) (a0)))), (1, .c (.slc 1 0 (List.map (ecI .u8) (a1)))), (5, .c (.box 5 0)), (6, .c (.box 6 0)), (7, .c (.lit (.int .i64 (s5.1))))], ⟨[(6, [.lit (.int .i64 (v16.State)), .lit (.int .i64 (v16.Busy)), .lit (.int .i64 (v16.Exponent)), .lit (.int .i64 (v16.Clear)), .lit (.int .i64 (v16.Wait))]), (5, [.lit (.int .i64 (v13.State)), .lit (.int .i64 (v13.Busy)), .lit (.int .i64 (v13.Exponent)), .lit (.int .i64 (v13.Clear)), .lit (.int .i64 (v13.Wait))])], []⟩⟩ (by kernel_rfl) ?_
            refine blockQ_normal ?_
            refine T_keep [0, 1, 5, 6, 7] [6, 5] [] ?_
            refine T_runs ⟨[(7, .c (.lit (.int .i64 (IntKind.wrap .i64 (s5.1 + 1))))), (17, .c (.lit (.int .i64 (IntKind.wrap .i64 (s5.1 + 1))))), (16, .c (.lit (.int .i64 (s5.1)))), (0, .c (.slc 1 0 (List.map (ecI .u32) (a0)))), (1, .c (.slc 1 0 (List.map (ecI .u8) (a1)))), (5, .c (.box 5 0)), (6, .c (.box 6 0))], ⟨[(6, [.lit (.int .i64 (v16.State)), .lit (.int .i64 (v16.Busy)), .lit (.int .i64 (v16.Exponent)), .lit (.int .i64 (v16.Clear)), .lit (.int .i64 (v16.Wait))]), (5, [.lit (.int .i64 (v13.State)), .lit (.int .i64 (v13.Busy)), .lit (.int .i64 (v13.Exponent)), .lit (.int .i64 (v13.Clear)), .lit (.int .i64 (v13.Wait))])], []⟩⟩ (by kernel_rfl) ?_
            obtain rfl := Option.some.inj h
            exact ⟨_, rfl, by kernel_rfl⟩
        · subst hb10
          refine T_condT (by kernel_rfl) ?_
          refine T_seq ?_
          refine T_runs ⟨[(4, .c (.lit (.bool (false)))), (25, .c (.lit (.bool (true)))), (0, .c (.slc 1 0 (List.map (ecI .u32) (a0)))), (1, .c (.slc 1 0 (List.map (ecI .u8) (a1)))), (5, .c (.box 5 0)), (6, .c (.box 6 0)), (7, .c (.lit (.int .i64 (s5.1))))], ⟨[(5, [.lit (.int .i64 (s5.2.1.State)), .lit (.int .i64 (s5.2.1.Busy)), .lit (.int .i64 (s5.2.1.Exponent)), .lit (.int .i64 (s5.2.1.Clear)), .lit (.int .i64 (s5.2.1.Wait))]), (6, [.lit (.int .i64 (s5.2.2.State)), .lit (.int .i64 (s5.2.2.Busy)), .lit (.int .i64 (s5.2.2.Exponent)), .lit (.int .i64 (s5.2.2.Clear)), .lit (.int .i64 (s5.2.2.Wait))])], []⟩⟩ (by kernel_rfl) ?_
          refine T_keep [4] [] [] ?_
          refine T_ret ?_
          refine thenQ_ret ?_
          refine blockQ_ret ?_
          refine thenQ_ret ?_
          obtain rfl := Option.some.inj h
          exact ⟨_, rfl, rfl, [(false, [.lit (.bool (false))])], by kernel_rfl, by kernel_rfl⟩
      · refine T_region ?_
        refine TL_runs 2 ⟨[(19, .agg [.lit (.int .i64 (s5.2.2.State)), .lit (.int .i64 (s5.2.2.Busy)), .lit (.int .i64 (s5.2.2.Exponent)), .lit (.int .i64 (s5.2.2.Clear)), .lit (.int .i64 (s5.2.2.Wait))]), (18, .agg [.lit (.int .i64 (s5.2.1.State)), .lit (.int .i64 (s5.2.1.Busy)), .lit (.int .i64 (s5.2.1.Exponent)), .lit (.int .i64 (s5.2.1.Clear)), .lit (.int .i64 (s5.2.1.Wait))]), (15, .c (.lit (.bool ((decide (s5.1 < 130)))))), (14, .c (.lit (.int .i64 (s5.1)))), (0, .c (.slc 1 0 (List.map (ecI .u32) (a0)))), (1, .c (.slc 1 0 (List.map (ecI .u8) (a1)))), (5, .c (.box 5 0)), (6, .c (.box 6 0)), (7, .c (.lit (.int .i64 (s5.1))))], ⟨[(5, [.lit (.int .i64 (s5.2.1.State)), .lit (.int .i64 (s5.2.1.Busy)), .lit (.int .i64 (s5.2.1.Exponent)), .lit (.int .i64 (s5.2.1.Clear)), .lit (.int .i64 (s5.2.1.Wait))]), (6, [.lit (.int .i64 (s5.2.2.State)), .lit (.int .i64 (s5.2.2.Busy)), .lit (.int .i64 (s5.2.2.Exponent)), .lit (.int .i64 (s5.2.2.Clear)), .lit (.int .i64 (s5.2.2.Wait))])], []⟩⟩ (by kernel_rfl) ?_
        refine TL_grow (.c (.lit (.bool (true)))) (by kernel_rfl) (by kernel_rfl) (grow_sub (e := (!(S_Backoff.eqb s5.2.1 s5.2.2))) (grow_aggNe [.lit (.int .i64 (s5.2.1.State)), .lit (.int .i64 (s5.2.1.Busy)), .lit (.int .i64 (s5.2.1.Exponent)), .lit (.int .i64 (s5.2.1.Clear)), .lit (.int .i64 (s5.2.1.Wait))] [.lit (.int .i64 (s5.2.2.State)), .lit (.int .i64 (s5.2.2.Busy)), .lit (.int .i64 (s5.2.2.Exponent)), .lit (.int .i64 (s5.2.2.Clear)), .lit (.int .i64 (s5.2.2.Wait))] ((S_Backoff.eqb s5.2.1 s5.2.2)) rfl rfl (by kernel_rfl) (by kernel_rfl) (by kernel_rfl) (by kernel_rfl) (by kernel_rfl)) (notT hb8)) ?_
        refine TL_end ⟨[(25, .c (.lit (.bool (true)))), (24, .tup []), (23, .tup []), (22, .tup []), (21, .c (.lit (.bool (true)))), (20, .c (.lit (.bool (true)))), (19, .agg [.lit (.int .i64 (s5.2.2.State)), .lit (.int .i64 (s5.2.2.Busy)), .lit (.int .i64 (s5.2.2.Exponent)), .lit (.int .i64 (s5.2.2.Clear)), .lit (.int .i64 (s5.2.2.Wait))]), (18, .agg [.lit (.int .i64 (s5.2.1.State)), .lit (.int .i64 (s5.2.1.Busy)), .lit (.int .i64 (s5.2.1.Exponent)), .lit (.int .i64 (s5.2.1.Clear)), .lit (.int .i64 (s5.2.1.Wait))]), (15, .c (.lit (.bool ((decide (s5.1 < 130)))))), (14, .c (.lit (.int .i64 (s5.1)))), (0, .c (.slc 1 0 (List.map (ecI .u32) (a0)))), (1, .c (.slc 1 0 (List.map (ecI .u8) (a1)))), (5, .c (.box 5 0)), (6, .c (.box 6 0)), (7, .c (.lit (.int .i64 (s5.1))))], ⟨[(5, [.lit (.int .i64 (s5.2.1.State)), .lit (.int .i64 (s5.2.1.Busy)), .lit (.int .i64 (s5.2.1.Exponent)), .lit (.int .i64 (s5.2.1.Clear)), .lit (.int .i64 (s5.2.1.Wait))]), (6, [.lit (.int .i64 (s5.2.2.State)), .lit (.int .i64 (s5.2.2.Busy)), .lit (.int .i64 (s5.2.2.Exponent)), .lit (.int .i64 (s5.2.2.Clear)), .lit (.int .i64 (s5.2.2.Wait))])], []⟩⟩ (by kernel_rfl) ?_
        refine T_keep [25, 0, 1, 5, 6, 7] [5, 6] [] ?_
        refine T_condT (by kernel_rfl) ?_
        refine T_seq ?_
        refine T_runs ⟨[(4, .c (.lit (.bool (false)))), (25, .c (.lit (.bool (true)))), (0, .c (.slc 1 0 (List.map (ecI .u32) (a0)))), (1, .c (.slc 1 0 (List.map (ecI .u8) (a1)))), (5, .c (.box 5 0)), (6, .c (.box 6 0)), (7, .c (.lit (.int .i64 (s5.1))))], ⟨[(5, [.lit (.int .i64 (s5.2.1.State)), .lit (.int .i64 (s5.2.1.Busy)), .lit (.int .i64 (s5.2.1.Exponent)), .lit (.int .i64 (s5.2.1.Clear)), .lit (.int .i64 (s5.2.1.Wait))]), (6, [.lit (.int .i64 (s5.2.2.State)), .lit (.int .i64 (s5.2.2.Busy)), .lit (.int .i64 (s5.2.2.Exponent)), .lit (.int .i64 (s5.2.2.Clear)), .lit (.int .i64 (s5.2.2.Wait))])], []⟩⟩ (by kernel_rfl) ?_
        refine T_keep [4] [] [] ?_
        refine T_ret ?_
        refine thenQ_ret ?_
        refine blockQ_ret ?_
        refine thenQ_ret ?_
        obtain rfl := Option.some.inj h
        exact ⟨_, rfl, rfl, [(false, [.lit (.bool (false))])], by kernel_rfl, by kernel_rfl⟩
    · refine T_condF' (e := (decide (s5.1 < 130))) (by kernel_rfl) hb7 ?_
      refine T_exit ?_
      refine thenQ_exit ?_
      obtain rfl := Option.some.inj h
      exact ⟨_, rfl, rfl, by kernel_rfl⟩
  · intro e st hq
    cases y17 with
    | inl b6 =>
      obtain ⟨rfl, hst⟩ := hq
      refine blockQ_exit ?_
      refine T_keepS [5, 6] [5, 6] ?_
      refine T_sub hst ?_
      refine T_seq ?_
      replace h := bindO h
      obtain ⟨v19, hv19, h⟩ := h
      replace h := condO h
      rcases h with ⟨hb20, h⟩ | ⟨hb20, h⟩
      · subst hb20
        refine T_region ?_
        refine TL_grow (.c (.lit (.bool (true)))) (by kernel_rfl) (by kernel_rfl) (grow_call 18 Try.f18 [] [] rfl (by kernel_rfl) Try.func18 (by kernel_rfl) (by kernel_rfl) (by kernel_rfl) (ok_law08_known  true hv19)) ?_
        refine TL_runs 3 ⟨[(47, .agg [.lit (.int .i64 (b6.2.State)), .lit (.int .i64 (b6.2.Busy)), .lit (.int .i64 (b6.2.Exponent)), .lit (.int .i64 (b6.2.Clear)), .lit (.int .i64 (b6.2.Wait))]), (46, .agg [.lit (.int .i64 (b6.1.State)), .lit (.int .i64 (b6.1.Busy)), .lit (.int .i64 (b6.1.Exponent)), .lit (.int .i64 (b6.1.Clear)), .lit (.int .i64 (b6.1.Wait))]), (45, .c (.lit (.bool (true)))), (44, .c (.lit (.bool (true)))), (5, .c (.box 5 0)), (6, .c (.box 6 0))], ⟨[(5, [.lit (.int .i64 (b6.1.State)), .lit (.int .i64 (b6.1.Busy)), .lit (.int .i64 (b6.1.Exponent)), .lit (.int .i64 (b6.1.Clear)), .lit (.int .i64 (b6.1.Wait))]), (6, [.lit (.int .i64 (b6.2.State)), .lit (.int .i64 (b6.2.Busy)), .lit (.int .i64 (b6.2.Exponent)), .lit (.int .i64 (b6.2.Clear)), .lit (.int .i64 (b6.2.Wait))])], []⟩⟩ (by kernel_rfl) ?_
        refine TL_grow (.c (.lit (.bool ((S_Backoff.eqb b6.1 b6.2))))) (by kernel_rfl) (by kernel_rfl) (grow_aggEq [.lit (.int .i64 (b6.1.State)), .lit (.int .i64 (b6.1.Busy)), .lit (.int .i64 (b6.1.Exponent)), .lit (.int .i64 (b6.1.Clear)), .lit (.int .i64 (b6.1.Wait))] [.lit (.int .i64 (b6.2.State)), .lit (.int .i64 (b6.2.Busy)), .lit (.int .i64 (b6.2.Exponent)), .lit (.int .i64 (b6.2.Clear)), .lit (.int .i64 (b6.2.Wait))] ((S_Backoff.eqb b6.1 b6.2)) rfl rfl (by kernel_rfl) (by kernel_rfl) (by kernel_rfl) (by kernel_rfl) (by kernel_rfl)) ?_
        refine TL_end ⟨[(4, .c (.lit (.bool ((S_Backoff.eqb b6.1 b6.2))))), (49, .c (.lit (.bool ((S_Backoff.eqb b6.1 b6.2))))), (48, .c (.lit (.bool ((S_Backoff.eqb b6.1 b6.2))))), (47, .agg [.lit (.int .i64 (b6.2.State)), .lit (.int .i64 (b6.2.Busy)), .lit (.int .i64 (b6.2.Exponent)), .lit (.int .i64 (b6.2.Clear)), .lit (.int .i64 (b6.2.Wait))]), (46, .agg [.lit (.int .i64 (b6.1.State)), .lit (.int .i64 (b6.1.Busy)), .lit (.int .i64 (b6.1.Exponent)), .lit (.int .i64 (b6.1.Clear)), .lit (.int .i64 (b6.1.Wait))]), (45, .c (.lit (.bool (true)))), (44, .c (.lit (.bool (true)))), (5, .c (.box 5 0)), (6, .c (.box 6 0))], ⟨[(5, [.lit (.int .i64 (b6.1.State)), .lit (.int .i64 (b6.1.Busy)), .lit (.int .i64 (b6.1.Exponent)), .lit (.int .i64 (b6.1.Clear)), .lit (.int .i64 (b6.1.Wait))]), (6, [.lit (.int .i64 (b6.2.State)), .lit (.int .i64 (b6.2.Busy)), .lit (.int .i64 (b6.2.Exponent)), .lit (.int .i64 (b6.2.Clear)), .lit (.int .i64 (b6.2.Wait))])], []⟩⟩ (by kernel_rfl) ?_
        refine T_keep [4] [] [] ?_
        refine T_ret ?_
        obtain rfl := Option.some.inj h
        exact ⟨[(false, [.lit (.bool ((S_Backoff.eqb b6.1 b6.2)))])], by kernel_rfl, by kernel_rfl⟩
      · subst hb20
        refine T_region ?_
        refine TL_grow (.c (.lit (.bool (false)))) (by kernel_rfl) (by kernel_rfl) (grow_call 18 Try.f18 [] [] rfl (by kernel_rfl) Try.func18 (by kernel_rfl) (by kernel_rfl) (by kernel_rfl) (ok_law08_known  false hv19)) ?_
        refine TL_end ⟨[(4, .c (.lit (.bool (false)))), (49, .c (.lit (.bool (false)))), (48, .tup []), (47, .tup []), (46, .tup []), (45, .c (.lit (.bool (false)))), (44, .c (.lit (.bool (false)))), (5, .c (.box 5 0)), (6, .c (.box 6 0))], ⟨[(5, [.lit (.int .i64 (b6.1.State)), .lit (.int .i64 (b6.1.Busy)), .lit (.int .i64 (b6.1.Exponent)), .lit (.int .i64 (b6.1.Clear)), .lit (.int .i64 (b6.1.Wait))]), (6, [.lit (.int .i64 (b6.2.State)), .lit (.int .i64 (b6.2.Busy)), .lit (.int .i64 (b6.2.Exponent)), .lit (.int .i64 (b6.2.Clear)), .lit (.int .i64 (b6.2.Wait))])], []⟩⟩ (by kernel_rfl) ?_
        refine T_keep [4] [] [] ?_
        refine T_ret ?_
        obtain rfl := Option.some.inj h
        exact ⟨[(false, [.lit (.bool (false))])], by kernel_rfl, by kernel_rfl⟩
    | inr v =>
      obtain ⟨rfl, hq⟩ := hq
      obtain rfl := Option.some.inj h
      repeat (first | refine thenQ_ret ?_ | refine blockQ_ret ?_)
      exact hq

/-- multihop/multihoplaw08.BackoffEnds -/
noncomputable def F_law08_BackoffEnds_l1 (a1 : List Int) (a0 : List Int) (s3 : Int × S_Backoff) : Option ((Int × S_Backoff) ⊕ (S_Backoff)) :=
  bif (decide (s3.1 < 125)) then
    (F_law08_busy a1 s3.1).bind fun v6 =>
    (F_law08_at a0 (IntKind.wrap .i64 (s3.1 + 1))).bind fun v7 =>
    (F_backoff_Step s3.2 v6 v7).bind fun v8 =>
    some (Sum.inl (IntKind.wrap .i64 (s3.1 + 1), v8))
  else
    some (Sum.inr s3.2)
noncomputable def F_law08_BackoffEnds (a0 : List Int) (a1 : List Int) : Option (Bool) :=
  (F_law08_at a0 0).bind fun v1 =>
  (F_backoff_Begin v1).bind fun v2 =>
  (loopO (F_law08_BackoffEnds_l1 a1 a0) (0, v2)).bind fun b4 =>
  (F_law08_known ).bind fun v11 =>
  bif v11 then
    (F_backoff_Ended b4).bind fun v13 =>
    bif v13 then
      (F_backoff_Step b4 true 5).bind fun v15 =>
      bif (S_Backoff.eqb v15 b4) then
        (F_backoff_Step b4 false 6).bind fun v17 =>
        some ((S_Backoff.eqb v17 b4))
      else
        some (false)
    else
      some (false)
  else
    some (false)
set_option maxRecDepth 100000 in
theorem ok_law08_BackoffEnds (a0 : List Int) (a1 : List Int) (r : Bool) (h : F_law08_BackoffEnds a0 a1 = some r) : Pure Try.prog 5 [.c (.slc 1 0 (List.map (ecI .u32) (a0))), .c (.slc 1 0 (List.map (ecI .u8) (a1)))] (.c (.lit (.bool (r)))) := by
  unfold F_law08_BackoffEnds at h
  refine pure_of [[0]] 40 Try.func5 rfl rfl rfl (by kernel_rfl) (fun K => ?_)
  refine T_seq ?_
  refine T_runs ⟨[(4, .c (.lit (.bool (false)))), (0, .c (.slc 1 0 (List.map (ecI .u32) (a0)))), (1, .c (.slc 1 0 (List.map (ecI .u8) (a1))))], ⟨[], []⟩⟩ (by kernel_rfl) ?_
  refine T_seq ?_
  replace h := bindO h
  obtain ⟨v1, hv1, h⟩ := h
  replace h := bindO h
  obtain ⟨v2, hv2, h⟩ := h
  refine T_region ?_
  refine TL_runs 1 ⟨[(7, .c (.slc 1 0 (List.map (ecI .u32) (a0)))), (4, .c (.lit (.bool (false)))), (0, .c (.slc 1 0 (List.map (ecI .u32) (a0)))), (1, .c (.slc 1 0 (List.map (ecI .u8) (a1))))], ⟨[], []⟩⟩ (by kernel_rfl) ?_
  refine TL_grow (.c (.lit (.int .u32 (v1)))) (by kernel_rfl) (by kernel_rfl) (grow_call 21 Try.f21 [[2], [0]] [.c (.slc 1 0 (List.map (ecI .u32) (a0))), .c (.lit (.int .i64 (0)))] rfl (by kernel_rfl) Try.func21 (by kernel_rfl) (by kernel_rfl) (by kernel_rfl) (ok_law08_at a0 0 v1 hv1)) ?_
  refine TL_grow (.agg [.lit (.int .i64 (v2.State)), .lit (.int .i64 (v2.Busy)), .lit (.int .i64 (v2.Exponent)), .lit (.int .i64 (v2.Clear)), .lit (.int .i64 (v2.Wait))]) (by kernel_rfl) (by kernel_rfl) (grow_call 19 Try.f19 [[0]] [.c (.lit (.int .u32 (v1)))] rfl (by kernel_rfl) Try.func19 (by kernel_rfl) (by kernel_rfl) (by kernel_rfl) (ok_backoff_Begin v1 v2 hv2)) ?_
  refine TL_end ⟨[(5, .c (.box 5 0)), (9, .agg [.lit (.int .i64 (v2.State)), .lit (.int .i64 (v2.Busy)), .lit (.int .i64 (v2.Exponent)), .lit (.int .i64 (v2.Clear)), .lit (.int .i64 (v2.Wait))]), (8, .c (.lit (.int .u32 (v1)))), (7, .c (.slc 1 0 (List.map (ecI .u32) (a0)))), (4, .c (.lit (.bool (false)))), (0, .c (.slc 1 0 (List.map (ecI .u32) (a0)))), (1, .c (.slc 1 0 (List.map (ecI .u8) (a1))))], ⟨[(5, [.lit (.int .i64 (v2.State)), .lit (.int .i64 (v2.Busy)), .lit (.int .i64 (v2.Exponent)), .lit (.int .i64 (v2.Clear)), .lit (.int .i64 (v2.Wait))])], []⟩⟩ (by kernel_rfl) ?_
  refine T_keep [5, 0, 1] [5] [] ?_
  refine T_seq ?_
  refine T_seq ?_
  refine T_runs ⟨[(6, .c (.lit (.int .i64 (0)))), (5, .c (.box 5 0)), (0, .c (.slc 1 0 (List.map (ecI .u32) (a0)))), (1, .c (.slc 1 0 (List.map (ecI .u8) (a1))))], ⟨[(5, [.lit (.int .i64 (v2.State)), .lit (.int .i64 (v2.Busy)), .lit (.int .i64 (v2.Exponent)), .lit (.int .i64 (v2.Clear)), .lit (.int .i64 (v2.Wait))])], []⟩⟩ (by kernel_rfl) ?_
  refine T_block ?_
  refine T_keepS [0, 1, 5, 6] [5] ?_
  refine T_sub (by kernel_rfl : _ = (fun (s3 : Int × S_Backoff) => ⟨[(0, .c (.slc 1 0 (List.map (ecI .u32) (a0)))), (1, .c (.slc 1 0 (List.map (ecI .u8) (a1)))), (5, .c (.box 5 0)), (6, .c (.lit (.int .i64 (s3.1))))], ⟨[(5, [.lit (.int .i64 (s3.2.State)), .lit (.int .i64 (s3.2.Busy)), .lit (.int .i64 (s3.2.Exponent)), .lit (.int .i64 (s3.2.Clear)), .lit (.int .i64 (s3.2.Wait))])], []⟩⟩) (0, v2)) ?_
  replace h := bindO h
  obtain ⟨b4, hl10, h⟩ := h
  refine T_loopS [0, 1, 5, 6] [5] (F_law08_BackoffEnds_l1 a1 a0) (fun (s3 : Int × S_Backoff) => ⟨[(0, .c (.slc 1 0 (List.map (ecI .u32) (a0)))), (1, .c (.slc 1 0 (List.map (ecI .u8) (a1)))), (5, .c (.box 5 0)), (6, .c (.lit (.int .i64 (s3.1))))], ⟨[(5, [.lit (.int .i64 (s3.2.State)), .lit (.int .i64 (s3.2.Busy)), .lit (.int .i64 (s3.2.Exponent)), .lit (.int .i64 (s3.2.Clear)), .lit (.int .i64 (s3.2.Wait))])], []⟩⟩) (fun b4 e st => e = .exit 0 ∧ St.keepS st [5] [5] = ⟨[(5, .c (.box 5 0))], ⟨[(5, [.lit (.int .i64 (b4.State)), .lit (.int .i64 (b4.Busy)), .lit (.int .i64 (b4.Exponent)), .lit (.int .i64 (b4.Clear)), .lit (.int .i64 (b4.Wait))])], []⟩⟩) (0, v2) _ hl10 ?_ ?_
  · intro s3 x h
    unfold F_law08_BackoffEnds_l1 at h
    refine T_seq ?_
    refine T_seq ?_
    refine T_runs ⟨[(11, .c (.lit (.bool ((decide (s3.1 < 125)))))), (10, .c (.lit (.int .i64 (s3.1)))), (0, .c (.slc 1 0 (List.map (ecI .u32) (a0)))), (1, .c (.slc 1 0 (List.map (ecI .u8) (a1)))), (5, .c (.box 5 0)), (6, .c (.lit (.int .i64 (s3.1))))], ⟨[(5, [.lit (.int .i64 (s3.2.State)), .lit (.int .i64 (s3.2.Busy)), .lit (.int .i64 (s3.2.Exponent)), .lit (.int .i64 (s3.2.Clear)), .lit (.int .i64 (s3.2.Wait))])], []⟩⟩ (by kernel_rfl) ?_
    replace h := condO h
    rcases h with ⟨hb5, h⟩ | ⟨hb5, h⟩
    · refine T_condT' (e := (decide (s3.1 < 125))) (by kernel_rfl) hb5 ?_
      refine T_skip ?_
      refine T_seq ?_
      refine T_block ?_
      replace h := bindO h
      obtain ⟨v6, hv6, h⟩ := h
      replace h := bindO h
      obtain ⟨v7, hv7, h⟩ := h
      replace h := bindO h
      obtain ⟨v8, hv8, h⟩ := h
      refine T_drawX 9 ⟨[(22, .agg [.lit (.int .i64 (v8.State)), .lit (.int .i64 (v8.Busy)), .lit (.int .i64 (v8.Exponent)), .lit (.int .i64 (v8.Clear)), .lit (.int .i64 (v8.Wait))]), (21, .c (.lit (.int .u32 (v7)))), (20, .c (.lit (.int .i64 (IntKind.wrap .i64 (s3.1 + 1))))), (19, .c (.lit (.int .i64 (s3.1)))), (18, .c (.slc 1 0 (List.map (ecI .u32) (a0)))), (17, .c (.lit (.bool (v6)))), (16, .c (.lit (.int .i64 (s3.1)))), (15, .c (.slc 1 0 (List.map (ecI .u8) (a1)))), (14, .agg [.lit (.int .i64 (s3.2.State)), .lit (.int .i64 (s3.2.Busy)), .lit (.int .i64 (s3.2.Exponent)), .lit (.int .i64 (s3.2.Clear)), .lit (.int .i64 (s3.2.Wait))]), (11, .c (.lit (.bool ((decide (s3.1 < 125)))))), (10, .c (.lit (.int .i64 (s3.1)))), (0, .c (.slc 1 0 (List.map (ecI .u32) (a0)))), (1, .c (.slc 1 0 (List.map (ecI .u8) (a1)))), (5, .c (.box 5 0)), (6, .c (.lit (.int .i64 (s3.1))))], ⟨[(5, [.lit (.int .i64 (s3.2.State)), .lit (.int .i64 (s3.2.Busy)), .lit (.int .i64 (s3.2.Exponent)), .lit (.int .i64 (s3.2.Clear)), .lit (.int .i64 (s3.2.Wait))])], []⟩⟩ (by kernel_rfl) (by kernel_rfl) ?_ ?_
      · refine HeadX_runs 3 ⟨[(16, .c (.lit (.int .i64 (s3.1)))), (15, .c (.slc 1 0 (List.map (ecI .u8) (a1)))), (14, .agg [.lit (.int .i64 (s3.2.State)), .lit (.int .i64 (s3.2.Busy)), .lit (.int .i64 (s3.2.Exponent)), .lit (.int .i64 (s3.2.Clear)), .lit (.int .i64 (s3.2.Wait))]), (11, .c (.lit (.bool ((decide (s3.1 < 125)))))), (10, .c (.lit (.int .i64 (s3.1)))), (0, .c (.slc 1 0 (List.map (ecI .u32) (a0)))), (1, .c (.slc 1 0 (List.map (ecI .u8) (a1)))), (5, .c (.box 5 0)), (6, .c (.lit (.int .i64 (s3.1))))], ⟨[(5, [.lit (.int .i64 (s3.2.State)), .lit (.int .i64 (s3.2.Busy)), .lit (.int .i64 (s3.2.Exponent)), .lit (.int .i64 (s3.2.Clear)), .lit (.int .i64 (s3.2.Wait))])], []⟩⟩ (by kernel_rfl) ?_
        refine HeadX_op (.c (.lit (.bool (v6)))) (by kernel_rfl) (by kernel_rfl) (grow_call 22 Try.f22 [[2], [0]] [.c (.slc 1 0 (List.map (ecI .u8) (a1))), .c (.lit (.int .i64 (s3.1)))] rfl (by kernel_rfl) Try.func22 (by kernel_rfl) (by kernel_rfl) (by kernel_rfl) (ok_law08_busy a1 s3.1 v6 hv6)) ?_
        refine HeadX_runs 3 ⟨[(20, .c (.lit (.int .i64 (IntKind.wrap .i64 (s3.1 + 1))))), (19, .c (.lit (.int .i64 (s3.1)))), (18, .c (.slc 1 0 (List.map (ecI .u32) (a0)))), (17, .c (.lit (.bool (v6)))), (16, .c (.lit (.int .i64 (s3.1)))), (15, .c (.slc 1 0 (List.map (ecI .u8) (a1)))), (14, .agg [.lit (.int .i64 (s3.2.State)), .lit (.int .i64 (s3.2.Busy)), .lit (.int .i64 (s3.2.Exponent)), .lit (.int .i64 (s3.2.Clear)), .lit (.int .i64 (s3.2.Wait))]), (11, .c (.lit (.bool ((decide (s3.1 < 125)))))), (10, .c (.lit (.int .i64 (s3.1)))), (0, .c (.slc 1 0 (List.map (ecI .u32) (a0)))), (1, .c (.slc 1 0 (List.map (ecI .u8) (a1)))), (5, .c (.box 5 0)), (6, .c (.lit (.int .i64 (s3.1))))], ⟨[(5, [.lit (.int .i64 (s3.2.State)), .lit (.int .i64 (s3.2.Busy)), .lit (.int .i64 (s3.2.Exponent)), .lit (.int .i64 (s3.2.Clear)), .lit (.int .i64 (s3.2.Wait))])], []⟩⟩ (by kernel_rfl) ?_
        refine HeadX_op (.c (.lit (.int .u32 (v7)))) (by kernel_rfl) (by kernel_rfl) (grow_call 21 Try.f21 [[2], [0]] [.c (.slc 1 0 (List.map (ecI .u32) (a0))), .c (.lit (.int .i64 ((IntKind.wrap .i64 (s3.1 + 1)))))] rfl (by kernel_rfl) Try.func21 (by kernel_rfl) (by kernel_rfl) (by kernel_rfl) (ok_law08_at a0 (IntKind.wrap .i64 (s3.1 + 1)) v7 hv7)) ?_
        refine HeadX_op (.agg [.lit (.int .i64 (v8.State)), .lit (.int .i64 (v8.Busy)), .lit (.int .i64 (v8.Exponent)), .lit (.int .i64 (v8.Clear)), .lit (.int .i64 (v8.Wait))]) (by kernel_rfl) (by kernel_rfl) (grow_call 16 Try.f16 [[0, 0, 0, 0, 0], [0], [0]] [.agg (S_Backoff.cs s3.2), .c (.lit (.bool (v6))), .c (.lit (.int .u32 (v7)))] rfl (by kernel_rfl) Try.func16 (by kernel_rfl) (by kernel_rfl) (by kernel_rfl) (ok_backoff_Step s3.2 v6 v7 v8 hv8)) ?_
        exact HeadX_end (by kernel_rfl)
      · refine TL_end ⟨[(22, .agg [.lit (.int .i64 (v8.State)), .lit (.int .i64 (v8.Busy)), .lit (.int .i64 (v8.Exponent)), .lit (.int .i64 (v8.Clear)), .lit (.int .i64 (v8.Wait))]), (21, .c (.lit (.int .u32 (v7)))), (20, .c (.lit (.int .i64 (IntKind.wrap .i64 (s3.1 + 1))))), (19, .c (.lit (.int .i64 (s3.1)))), (18, .c (.slc 1 0 (List.map (ecI .u32) (a0)))), (17, .c (.lit (.bool (v6)))), (16, .c (.lit (.int .i64 (s3.1)))), (15, .c (.slc 1 0 (List.map (ecI .u8) (a1)))), (14, .agg [.lit (.int .i64 (s3.2.State)), .lit (.int .i64 (s3.2.Busy)), .lit (.int .i64 (s3.2.Exponent)), .lit (.int .i64 (s3.2.Clear)), .lit (.int .i64 (s3.2.Wait))]), (11, .c (.lit (.bool ((decide (s3.1 < 125)))))), (10, .c (.lit (.int .i64 (s3.1)))), (0, .c (.slc 1 0 (List.map (ecI .u32) (a0)))), (1, .c (.slc 1 0 (List.map (ecI .u8) (a1)))), (5, .c (.box 5 0)), (6, .c (.lit (.int .i64 (s3.1))))], ⟨[(5, [.lit (.int .i64 (v8.State)), .lit (.int .i64 (v8.Busy)), .lit (.int .i64 (v8.Exponent)), .lit (.int .i64 (v8.Clear)), .lit (.int .i64 (v8.Wait))])], []⟩⟩ (by kernel_rfl) ?_
        refine blockQ_normal ?_
        refine T_keep [0, 1, 5, 6] [5] [] ?_
        refine T_runs ⟨[(6, .c (.lit (.int .i64 (IntKind.wrap .i64 (s3.1 + 1))))), (13, .c (.lit (.int .i64 (IntKind.wrap .i64 (s3.1 + 1))))), (12, .c (.lit (.int .i64 (s3.1)))), (0, .c (.slc 1 0 (List.map (ecI .u32) (a0)))), (1, .c (.slc 1 0 (List.map (ecI .u8) (a1)))), (5, .c (.box 5 0))], ⟨[(5, [.lit (.int .i64 (v8.State)), .lit (.int .i64 (v8.Busy)), .lit (.int .i64 (v8.Exponent)), .lit (.int .i64 (v8.Clear)), .lit (.int .i64 (v8.Wait))])], []⟩⟩ (by kernel_rfl) ?_
        obtain rfl := Option.some.inj h
        exact ⟨_, rfl, by kernel_rfl⟩
    · refine T_condF' (e := (decide (s3.1 < 125))) (by kernel_rfl) hb5 ?_
      refine T_exit ?_
      refine thenQ_exit ?_
      obtain rfl := Option.some.inj h
      exact ⟨_, rfl, rfl, by kernel_rfl⟩
  · intro e st hq
    obtain ⟨rfl, hst⟩ := hq
    refine blockQ_exit ?_
    refine T_keepS [5] [5] ?_
    refine T_sub hst ?_
    refine T_seq ?_
    replace h := bindO h
    obtain ⟨v11, hv11, h⟩ := h
    replace h := condO h
    rcases h with ⟨hb12, h⟩ | ⟨hb12, h⟩
    · subst hb12
      replace h := bindO h
      obtain ⟨v13, hv13, h⟩ := h
      replace h := condO h
      rcases h with ⟨hb14, h⟩ | ⟨hb14, h⟩
      · subst hb14
        replace h := bindO h
        obtain ⟨v15, hv15, h⟩ := h
        replace h := condO h
        rcases h with ⟨hb16, h⟩ | ⟨hb16, h⟩
        · replace h := bindO h
          obtain ⟨v17, hv17, h⟩ := h
          refine T_drawAllX ⟨[(4, .c (.lit (.bool ((S_Backoff.eqb v17 b4))))), (39, .c (.lit (.bool ((S_Backoff.eqb v17 b4))))), (38, .c (.lit (.bool ((S_Backoff.eqb v17 b4))))), (37, .agg [.lit (.int .i64 (b4.State)), .lit (.int .i64 (b4.Busy)), .lit (.int .i64 (b4.Exponent)), .lit (.int .i64 (b4.Clear)), .lit (.int .i64 (b4.Wait))]), (36, .agg [.lit (.int .i64 (v17.State)), .lit (.int .i64 (v17.Busy)), .lit (.int .i64 (v17.Exponent)), .lit (.int .i64 (v17.Clear)), .lit (.int .i64 (v17.Wait))]), (35, .agg [.lit (.int .i64 (b4.State)), .lit (.int .i64 (b4.Busy)), .lit (.int .i64 (b4.Exponent)), .lit (.int .i64 (b4.Clear)), .lit (.int .i64 (b4.Wait))]), (34, .c (.lit (.bool (true)))), (33, .c (.lit (.bool (true)))), (32, .c (.lit (.bool (true)))), (31, .agg [.lit (.int .i64 (b4.State)), .lit (.int .i64 (b4.Busy)), .lit (.int .i64 (b4.Exponent)), .lit (.int .i64 (b4.Clear)), .lit (.int .i64 (b4.Wait))]), (30, .agg [.lit (.int .i64 (v15.State)), .lit (.int .i64 (v15.Busy)), .lit (.int .i64 (v15.Exponent)), .lit (.int .i64 (v15.Clear)), .lit (.int .i64 (v15.Wait))]), (29, .agg [.lit (.int .i64 (b4.State)), .lit (.int .i64 (b4.Busy)), .lit (.int .i64 (b4.Exponent)), .lit (.int .i64 (b4.Clear)), .lit (.int .i64 (b4.Wait))]), (28, .c (.lit (.bool (true)))), (27, .c (.lit (.bool (true)))), (26, .c (.lit (.bool (true)))), (25, .agg [.lit (.int .i64 (b4.State)), .lit (.int .i64 (b4.Busy)), .lit (.int .i64 (b4.Exponent)), .lit (.int .i64 (b4.Clear)), .lit (.int .i64 (b4.Wait))]), (24, .c (.lit (.bool (true)))), (23, .c (.lit (.bool (true)))), (5, .c (.box 5 0))], ⟨[(5, [.lit (.int .i64 (b4.State)), .lit (.int .i64 (b4.Busy)), .lit (.int .i64 (b4.Exponent)), .lit (.int .i64 (b4.Clear)), .lit (.int .i64 (b4.Wait))])], []⟩⟩ (by kernel_rfl) (by kernel_rfl) ?_ ?_
          · refine HeadX_op (.c (.lit (.bool (true)))) (by kernel_rfl) (by kernel_rfl) (grow_call 18 Try.f18 [] [] rfl (by kernel_rfl) Try.func18 (by kernel_rfl) (by kernel_rfl) (by kernel_rfl) (ok_law08_known  true hv11)) ?_
            refine HeadX_runs 2 ⟨[(25, .agg [.lit (.int .i64 (b4.State)), .lit (.int .i64 (b4.Busy)), .lit (.int .i64 (b4.Exponent)), .lit (.int .i64 (b4.Clear)), .lit (.int .i64 (b4.Wait))]), (24, .c (.lit (.bool (true)))), (23, .c (.lit (.bool (true)))), (5, .c (.box 5 0))], ⟨[(5, [.lit (.int .i64 (b4.State)), .lit (.int .i64 (b4.Busy)), .lit (.int .i64 (b4.Exponent)), .lit (.int .i64 (b4.Clear)), .lit (.int .i64 (b4.Wait))])], []⟩⟩ (by kernel_rfl) ?_
            refine HeadX_op (.c (.lit (.bool (true)))) (by kernel_rfl) (by kernel_rfl) (grow_call 14 Try.f14 [[0, 0, 0, 0, 0]] [.agg (S_Backoff.cs b4)] rfl (by kernel_rfl) Try.func14 (by kernel_rfl) (by kernel_rfl) (by kernel_rfl) (ok_backoff_Ended b4 true hv13)) ?_
            refine HeadX_runs 3 ⟨[(29, .agg [.lit (.int .i64 (b4.State)), .lit (.int .i64 (b4.Busy)), .lit (.int .i64 (b4.Exponent)), .lit (.int .i64 (b4.Clear)), .lit (.int .i64 (b4.Wait))]), (28, .c (.lit (.bool (true)))), (27, .c (.lit (.bool (true)))), (26, .c (.lit (.bool (true)))), (25, .agg [.lit (.int .i64 (b4.State)), .lit (.int .i64 (b4.Busy)), .lit (.int .i64 (b4.Exponent)), .lit (.int .i64 (b4.Clear)), .lit (.int .i64 (b4.Wait))]), (24, .c (.lit (.bool (true)))), (23, .c (.lit (.bool (true)))), (5, .c (.box 5 0))], ⟨[(5, [.lit (.int .i64 (b4.State)), .lit (.int .i64 (b4.Busy)), .lit (.int .i64 (b4.Exponent)), .lit (.int .i64 (b4.Clear)), .lit (.int .i64 (b4.Wait))])], []⟩⟩ (by kernel_rfl) ?_
            refine HeadX_op (.agg [.lit (.int .i64 (v15.State)), .lit (.int .i64 (v15.Busy)), .lit (.int .i64 (v15.Exponent)), .lit (.int .i64 (v15.Clear)), .lit (.int .i64 (v15.Wait))]) (by kernel_rfl) (by kernel_rfl) (grow_call 16 Try.f16 [[0, 0, 0, 0, 0], [0], [0]] [.agg (S_Backoff.cs b4), .c (.lit (.bool (true))), .c (.lit (.int .u32 (5)))] rfl (by kernel_rfl) Try.func16 (by kernel_rfl) (by kernel_rfl) (by kernel_rfl) (ok_backoff_Step b4 true 5 v15 hv15)) ?_
            refine HeadX_runs 1 ⟨[(31, .agg [.lit (.int .i64 (b4.State)), .lit (.int .i64 (b4.Busy)), .lit (.int .i64 (b4.Exponent)), .lit (.int .i64 (b4.Clear)), .lit (.int .i64 (b4.Wait))]), (30, .agg [.lit (.int .i64 (v15.State)), .lit (.int .i64 (v15.Busy)), .lit (.int .i64 (v15.Exponent)), .lit (.int .i64 (v15.Clear)), .lit (.int .i64 (v15.Wait))]), (29, .agg [.lit (.int .i64 (b4.State)), .lit (.int .i64 (b4.Busy)), .lit (.int .i64 (b4.Exponent)), .lit (.int .i64 (b4.Clear)), .lit (.int .i64 (b4.Wait))]), (28, .c (.lit (.bool (true)))), (27, .c (.lit (.bool (true)))), (26, .c (.lit (.bool (true)))), (25, .agg [.lit (.int .i64 (b4.State)), .lit (.int .i64 (b4.Busy)), .lit (.int .i64 (b4.Exponent)), .lit (.int .i64 (b4.Clear)), .lit (.int .i64 (b4.Wait))]), (24, .c (.lit (.bool (true)))), (23, .c (.lit (.bool (true)))), (5, .c (.box 5 0))], ⟨[(5, [.lit (.int .i64 (b4.State)), .lit (.int .i64 (b4.Busy)), .lit (.int .i64 (b4.Exponent)), .lit (.int .i64 (b4.Clear)), .lit (.int .i64 (b4.Wait))])], []⟩⟩ (by kernel_rfl) ?_
            refine HeadX_op (.c (.lit (.bool (true)))) (by kernel_rfl) (by kernel_rfl) (grow_sub (e := (S_Backoff.eqb v15 b4)) (grow_aggEq [.lit (.int .i64 (v15.State)), .lit (.int .i64 (v15.Busy)), .lit (.int .i64 (v15.Exponent)), .lit (.int .i64 (v15.Clear)), .lit (.int .i64 (v15.Wait))] [.lit (.int .i64 (b4.State)), .lit (.int .i64 (b4.Busy)), .lit (.int .i64 (b4.Exponent)), .lit (.int .i64 (b4.Clear)), .lit (.int .i64 (b4.Wait))] ((S_Backoff.eqb v15 b4)) rfl rfl (by kernel_rfl) (by kernel_rfl) (by kernel_rfl) (by kernel_rfl) (by kernel_rfl)) hb16) ?_
            refine HeadX_runs 3 ⟨[(35, .agg [.lit (.int .i64 (b4.State)), .lit (.int .i64 (b4.Busy)), .lit (.int .i64 (b4.Exponent)), .lit (.int .i64 (b4.Clear)), .lit (.int .i64 (b4.Wait))]), (34, .c (.lit (.bool (true)))), (33, .c (.lit (.bool (true)))), (32, .c (.lit (.bool (true)))), (31, .agg [.lit (.int .i64 (b4.State)), .lit (.int .i64 (b4.Busy)), .lit (.int .i64 (b4.Exponent)), .lit (.int .i64 (b4.Clear)), .lit (.int .i64 (b4.Wait))]), (30, .agg [.lit (.int .i64 (v15.State)), .lit (.int .i64 (v15.Busy)), .lit (.int .i64 (v15.Exponent)), .lit (.int .i64 (v15.Clear)), .lit (.int .i64 (v15.Wait))]), (29, .agg [.lit (.int .i64 (b4.State)), .lit (.int .i64 (b4.Busy)), .lit (.int .i64 (b4.Exponent)), .lit (.int .i64 (b4.Clear)), .lit (.int .i64 (b4.Wait))]), (28, .c (.lit (.bool (true)))), (27, .c (.lit (.bool (true)))), (26, .c (.lit (.bool (true)))), (25, .agg [.lit (.int .i64 (b4.State)), .lit (.int .i64 (b4.Busy)), .lit (.int .i64 (b4.Exponent)), .lit (.int .i64 (b4.Clear)), .lit (.int .i64 (b4.Wait))]), (24, .c (.lit (.bool (true)))), (23, .c (.lit (.bool (true)))), (5, .c (.box 5 0))], ⟨[(5, [.lit (.int .i64 (b4.State)), .lit (.int .i64 (b4.Busy)), .lit (.int .i64 (b4.Exponent)), .lit (.int .i64 (b4.Clear)), .lit (.int .i64 (b4.Wait))])], []⟩⟩ (by kernel_rfl) ?_
            refine HeadX_op (.agg [.lit (.int .i64 (v17.State)), .lit (.int .i64 (v17.Busy)), .lit (.int .i64 (v17.Exponent)), .lit (.int .i64 (v17.Clear)), .lit (.int .i64 (v17.Wait))]) (by kernel_rfl) (by kernel_rfl) (grow_call 16 Try.f16 [[0, 0, 0, 0, 0], [0], [0]] [.agg (S_Backoff.cs b4), .c (.lit (.bool (false))), .c (.lit (.int .u32 (6)))] rfl (by kernel_rfl) Try.func16 (by kernel_rfl) (by kernel_rfl) (by kernel_rfl) (ok_backoff_Step b4 false 6 v17 hv17)) ?_
            refine HeadX_runs 1 ⟨[(37, .agg [.lit (.int .i64 (b4.State)), .lit (.int .i64 (b4.Busy)), .lit (.int .i64 (b4.Exponent)), .lit (.int .i64 (b4.Clear)), .lit (.int .i64 (b4.Wait))]), (36, .agg [.lit (.int .i64 (v17.State)), .lit (.int .i64 (v17.Busy)), .lit (.int .i64 (v17.Exponent)), .lit (.int .i64 (v17.Clear)), .lit (.int .i64 (v17.Wait))]), (35, .agg [.lit (.int .i64 (b4.State)), .lit (.int .i64 (b4.Busy)), .lit (.int .i64 (b4.Exponent)), .lit (.int .i64 (b4.Clear)), .lit (.int .i64 (b4.Wait))]), (34, .c (.lit (.bool (true)))), (33, .c (.lit (.bool (true)))), (32, .c (.lit (.bool (true)))), (31, .agg [.lit (.int .i64 (b4.State)), .lit (.int .i64 (b4.Busy)), .lit (.int .i64 (b4.Exponent)), .lit (.int .i64 (b4.Clear)), .lit (.int .i64 (b4.Wait))]), (30, .agg [.lit (.int .i64 (v15.State)), .lit (.int .i64 (v15.Busy)), .lit (.int .i64 (v15.Exponent)), .lit (.int .i64 (v15.Clear)), .lit (.int .i64 (v15.Wait))]), (29, .agg [.lit (.int .i64 (b4.State)), .lit (.int .i64 (b4.Busy)), .lit (.int .i64 (b4.Exponent)), .lit (.int .i64 (b4.Clear)), .lit (.int .i64 (b4.Wait))]), (28, .c (.lit (.bool (true)))), (27, .c (.lit (.bool (true)))), (26, .c (.lit (.bool (true)))), (25, .agg [.lit (.int .i64 (b4.State)), .lit (.int .i64 (b4.Busy)), .lit (.int .i64 (b4.Exponent)), .lit (.int .i64 (b4.Clear)), .lit (.int .i64 (b4.Wait))]), (24, .c (.lit (.bool (true)))), (23, .c (.lit (.bool (true)))), (5, .c (.box 5 0))], ⟨[(5, [.lit (.int .i64 (b4.State)), .lit (.int .i64 (b4.Busy)), .lit (.int .i64 (b4.Exponent)), .lit (.int .i64 (b4.Clear)), .lit (.int .i64 (b4.Wait))])], []⟩⟩ (by kernel_rfl) ?_
            refine HeadX_op (.c (.lit (.bool ((S_Backoff.eqb v17 b4))))) (by kernel_rfl) (by kernel_rfl) (grow_aggEq [.lit (.int .i64 (v17.State)), .lit (.int .i64 (v17.Busy)), .lit (.int .i64 (v17.Exponent)), .lit (.int .i64 (v17.Clear)), .lit (.int .i64 (v17.Wait))] [.lit (.int .i64 (b4.State)), .lit (.int .i64 (b4.Busy)), .lit (.int .i64 (b4.Exponent)), .lit (.int .i64 (b4.Clear)), .lit (.int .i64 (b4.Wait))] ((S_Backoff.eqb v17 b4)) rfl rfl (by kernel_rfl) (by kernel_rfl) (by kernel_rfl) (by kernel_rfl) (by kernel_rfl)) ?_
            exact HeadX_end (by kernel_rfl)
          · refine T_keep [4] [] [] ?_
            refine T_ret ?_
            obtain rfl := Option.some.inj h
            exact ⟨[(false, [.lit (.bool ((S_Backoff.eqb v17 b4)))])], by kernel_rfl, by kernel_rfl⟩
        · refine T_drawAllX ⟨[(4, .c (.lit (.bool (false)))), (39, .c (.lit (.bool (false)))), (38, .tup []), (37, .tup []), (36, .tup []), (35, .tup []), (34, .c (.lit (.bool (false)))), (33, .c (.lit (.bool (false)))), (32, .c (.lit (.bool (false)))), (31, .agg [.lit (.int .i64 (b4.State)), .lit (.int .i64 (b4.Busy)), .lit (.int .i64 (b4.Exponent)), .lit (.int .i64 (b4.Clear)), .lit (.int .i64 (b4.Wait))]), (30, .agg [.lit (.int .i64 (v15.State)), .lit (.int .i64 (v15.Busy)), .lit (.int .i64 (v15.Exponent)), .lit (.int .i64 (v15.Clear)), .lit (.int .i64 (v15.Wait))]), (29, .agg [.lit (.int .i64 (b4.State)), .lit (.int .i64 (b4.Busy)), .lit (.int .i64 (b4.Exponent)), .lit (.int .i64 (b4.Clear)), .lit (.int .i64 (b4.Wait))]), (28, .c (.lit (.bool (true)))), (27, .c (.lit (.bool (true)))), (26, .c (.lit (.bool (true)))), (25, .agg [.lit (.int .i64 (b4.State)), .lit (.int .i64 (b4.Busy)), .lit (.int .i64 (b4.Exponent)), .lit (.int .i64 (b4.Clear)), .lit (.int .i64 (b4.Wait))]), (24, .c (.lit (.bool (true)))), (23, .c (.lit (.bool (true)))), (5, .c (.box 5 0))], ⟨[(5, [.lit (.int .i64 (b4.State)), .lit (.int .i64 (b4.Busy)), .lit (.int .i64 (b4.Exponent)), .lit (.int .i64 (b4.Clear)), .lit (.int .i64 (b4.Wait))])], []⟩⟩ (by kernel_rfl) (by kernel_rfl) ?_ ?_
          · refine HeadX_op (.c (.lit (.bool (true)))) (by kernel_rfl) (by kernel_rfl) (grow_call 18 Try.f18 [] [] rfl (by kernel_rfl) Try.func18 (by kernel_rfl) (by kernel_rfl) (by kernel_rfl) (ok_law08_known  true hv11)) ?_
            refine HeadX_runs 2 ⟨[(25, .agg [.lit (.int .i64 (b4.State)), .lit (.int .i64 (b4.Busy)), .lit (.int .i64 (b4.Exponent)), .lit (.int .i64 (b4.Clear)), .lit (.int .i64 (b4.Wait))]), (24, .c (.lit (.bool (true)))), (23, .c (.lit (.bool (true)))), (5, .c (.box 5 0))], ⟨[(5, [.lit (.int .i64 (b4.State)), .lit (.int .i64 (b4.Busy)), .lit (.int .i64 (b4.Exponent)), .lit (.int .i64 (b4.Clear)), .lit (.int .i64 (b4.Wait))])], []⟩⟩ (by kernel_rfl) ?_
            refine HeadX_op (.c (.lit (.bool (true)))) (by kernel_rfl) (by kernel_rfl) (grow_call 14 Try.f14 [[0, 0, 0, 0, 0]] [.agg (S_Backoff.cs b4)] rfl (by kernel_rfl) Try.func14 (by kernel_rfl) (by kernel_rfl) (by kernel_rfl) (ok_backoff_Ended b4 true hv13)) ?_
            refine HeadX_runs 3 ⟨[(29, .agg [.lit (.int .i64 (b4.State)), .lit (.int .i64 (b4.Busy)), .lit (.int .i64 (b4.Exponent)), .lit (.int .i64 (b4.Clear)), .lit (.int .i64 (b4.Wait))]), (28, .c (.lit (.bool (true)))), (27, .c (.lit (.bool (true)))), (26, .c (.lit (.bool (true)))), (25, .agg [.lit (.int .i64 (b4.State)), .lit (.int .i64 (b4.Busy)), .lit (.int .i64 (b4.Exponent)), .lit (.int .i64 (b4.Clear)), .lit (.int .i64 (b4.Wait))]), (24, .c (.lit (.bool (true)))), (23, .c (.lit (.bool (true)))), (5, .c (.box 5 0))], ⟨[(5, [.lit (.int .i64 (b4.State)), .lit (.int .i64 (b4.Busy)), .lit (.int .i64 (b4.Exponent)), .lit (.int .i64 (b4.Clear)), .lit (.int .i64 (b4.Wait))])], []⟩⟩ (by kernel_rfl) ?_
            refine HeadX_op (.agg [.lit (.int .i64 (v15.State)), .lit (.int .i64 (v15.Busy)), .lit (.int .i64 (v15.Exponent)), .lit (.int .i64 (v15.Clear)), .lit (.int .i64 (v15.Wait))]) (by kernel_rfl) (by kernel_rfl) (grow_call 16 Try.f16 [[0, 0, 0, 0, 0], [0], [0]] [.agg (S_Backoff.cs b4), .c (.lit (.bool (true))), .c (.lit (.int .u32 (5)))] rfl (by kernel_rfl) Try.func16 (by kernel_rfl) (by kernel_rfl) (by kernel_rfl) (ok_backoff_Step b4 true 5 v15 hv15)) ?_
            refine HeadX_runs 1 ⟨[(31, .agg [.lit (.int .i64 (b4.State)), .lit (.int .i64 (b4.Busy)), .lit (.int .i64 (b4.Exponent)), .lit (.int .i64 (b4.Clear)), .lit (.int .i64 (b4.Wait))]), (30, .agg [.lit (.int .i64 (v15.State)), .lit (.int .i64 (v15.Busy)), .lit (.int .i64 (v15.Exponent)), .lit (.int .i64 (v15.Clear)), .lit (.int .i64 (v15.Wait))]), (29, .agg [.lit (.int .i64 (b4.State)), .lit (.int .i64 (b4.Busy)), .lit (.int .i64 (b4.Exponent)), .lit (.int .i64 (b4.Clear)), .lit (.int .i64 (b4.Wait))]), (28, .c (.lit (.bool (true)))), (27, .c (.lit (.bool (true)))), (26, .c (.lit (.bool (true)))), (25, .agg [.lit (.int .i64 (b4.State)), .lit (.int .i64 (b4.Busy)), .lit (.int .i64 (b4.Exponent)), .lit (.int .i64 (b4.Clear)), .lit (.int .i64 (b4.Wait))]), (24, .c (.lit (.bool (true)))), (23, .c (.lit (.bool (true)))), (5, .c (.box 5 0))], ⟨[(5, [.lit (.int .i64 (b4.State)), .lit (.int .i64 (b4.Busy)), .lit (.int .i64 (b4.Exponent)), .lit (.int .i64 (b4.Clear)), .lit (.int .i64 (b4.Wait))])], []⟩⟩ (by kernel_rfl) ?_
            refine HeadX_op (.c (.lit (.bool (false)))) (by kernel_rfl) (by kernel_rfl) (grow_sub (e := (S_Backoff.eqb v15 b4)) (grow_aggEq [.lit (.int .i64 (v15.State)), .lit (.int .i64 (v15.Busy)), .lit (.int .i64 (v15.Exponent)), .lit (.int .i64 (v15.Clear)), .lit (.int .i64 (v15.Wait))] [.lit (.int .i64 (b4.State)), .lit (.int .i64 (b4.Busy)), .lit (.int .i64 (b4.Exponent)), .lit (.int .i64 (b4.Clear)), .lit (.int .i64 (b4.Wait))] ((S_Backoff.eqb v15 b4)) rfl rfl (by kernel_rfl) (by kernel_rfl) (by kernel_rfl) (by kernel_rfl) (by kernel_rfl)) hb16) ?_
            exact HeadX_end (by kernel_rfl)
          · refine T_keep [4] [] [] ?_
            refine T_ret ?_
            obtain rfl := Option.some.inj h
            exact ⟨[(false, [.lit (.bool (false))])], by kernel_rfl, by kernel_rfl⟩
      · subst hb14
        refine T_drawAllX ⟨[(4, .c (.lit (.bool (false)))), (39, .c (.lit (.bool (false)))), (38, .tup []), (37, .tup []), (36, .tup []), (35, .tup []), (34, .c (.lit (.bool (false)))), (33, .c (.lit (.bool (false)))), (32, .tup []), (31, .tup []), (30, .tup []), (29, .tup []), (28, .c (.lit (.bool (false)))), (27, .c (.lit (.bool (false)))), (26, .c (.lit (.bool (false)))), (25, .agg [.lit (.int .i64 (b4.State)), .lit (.int .i64 (b4.Busy)), .lit (.int .i64 (b4.Exponent)), .lit (.int .i64 (b4.Clear)), .lit (.int .i64 (b4.Wait))]), (24, .c (.lit (.bool (true)))), (23, .c (.lit (.bool (true)))), (5, .c (.box 5 0))], ⟨[(5, [.lit (.int .i64 (b4.State)), .lit (.int .i64 (b4.Busy)), .lit (.int .i64 (b4.Exponent)), .lit (.int .i64 (b4.Clear)), .lit (.int .i64 (b4.Wait))])], []⟩⟩ (by kernel_rfl) (by kernel_rfl) ?_ ?_
        · refine HeadX_op (.c (.lit (.bool (true)))) (by kernel_rfl) (by kernel_rfl) (grow_call 18 Try.f18 [] [] rfl (by kernel_rfl) Try.func18 (by kernel_rfl) (by kernel_rfl) (by kernel_rfl) (ok_law08_known  true hv11)) ?_
          refine HeadX_runs 2 ⟨[(25, .agg [.lit (.int .i64 (b4.State)), .lit (.int .i64 (b4.Busy)), .lit (.int .i64 (b4.Exponent)), .lit (.int .i64 (b4.Clear)), .lit (.int .i64 (b4.Wait))]), (24, .c (.lit (.bool (true)))), (23, .c (.lit (.bool (true)))), (5, .c (.box 5 0))], ⟨[(5, [.lit (.int .i64 (b4.State)), .lit (.int .i64 (b4.Busy)), .lit (.int .i64 (b4.Exponent)), .lit (.int .i64 (b4.Clear)), .lit (.int .i64 (b4.Wait))])], []⟩⟩ (by kernel_rfl) ?_
          refine HeadX_op (.c (.lit (.bool (false)))) (by kernel_rfl) (by kernel_rfl) (grow_call 14 Try.f14 [[0, 0, 0, 0, 0]] [.agg (S_Backoff.cs b4)] rfl (by kernel_rfl) Try.func14 (by kernel_rfl) (by kernel_rfl) (by kernel_rfl) (ok_backoff_Ended b4 false hv13)) ?_
          exact HeadX_end (by kernel_rfl)
        · refine T_keep [4] [] [] ?_
          refine T_ret ?_
          obtain rfl := Option.some.inj h
          exact ⟨[(false, [.lit (.bool (false))])], by kernel_rfl, by kernel_rfl⟩
    · subst hb12
      refine T_drawAllX ⟨[(4, .c (.lit (.bool (false)))), (39, .c (.lit (.bool (false)))), (38, .tup []), (37, .tup []), (36, .tup []), (35, .tup []), (34, .c (.lit (.bool (false)))), (33, .c (.lit (.bool (false)))), (32, .tup []), (31, .tup []), (30, .tup []), (29, .tup []), (28, .c (.lit (.bool (false)))), (27, .c (.lit (.bool (false)))), (26, .tup []), (25, .tup []), (24, .c (.lit (.bool (false)))), (23, .c (.lit (.bool (false)))), (5, .c (.box 5 0))], ⟨[(5, [.lit (.int .i64 (b4.State)), .lit (.int .i64 (b4.Busy)), .lit (.int .i64 (b4.Exponent)), .lit (.int .i64 (b4.Clear)), .lit (.int .i64 (b4.Wait))])], []⟩⟩ (by kernel_rfl) (by kernel_rfl) ?_ ?_
      · refine HeadX_op (.c (.lit (.bool (false)))) (by kernel_rfl) (by kernel_rfl) (grow_call 18 Try.f18 [] [] rfl (by kernel_rfl) Try.func18 (by kernel_rfl) (by kernel_rfl) (by kernel_rfl) (ok_law08_known  false hv11)) ?_
        exact HeadX_end (by kernel_rfl)
      · refine T_keep [4] [] [] ?_
        refine T_ret ?_
        obtain rfl := Option.some.inj h
        exact ⟨[(false, [.lit (.bool (false))])], by kernel_rfl, by kernel_rfl⟩

/-- multihop/multihoplaw08.BackoffClear -/
noncomputable def F_law08_BackoffClear_j4 (v10 : S_Backoff) (s3 : Int × Int × S_Backoff) (v12 : Int) : Option ((Int × Int × S_Backoff) ⊕ ((S_Backoff) ⊕ (Bool))) :=
  bif (v10.State == 3) then
    bif (decide (v12 < 2)) then
      some (Sum.inr (Sum.inr (false)))
    else
      some (Sum.inl (v12, IntKind.wrap .i64 (s3.2.1 + 1), v10))
  else
    some (Sum.inl (v12, IntKind.wrap .i64 (s3.2.1 + 1), v10))
noncomputable def F_law08_BackoffClear_l1 (a1 : List Int) (a0 : List Int) (s3 : Int × Int × S_Backoff) : Option ((Int × Int × S_Backoff) ⊕ ((S_Backoff) ⊕ (Bool))) :=
  bif (decide (s3.2.1 < 125)) then
    (F_backoff_Ended s3.2.2).bind fun v6 =>
    bif v6 then
      some (Sum.inr (Sum.inl s3.2.2))
    else
      (F_law08_busy a1 s3.2.1).bind fun v8 =>
      (F_law08_at a0 (IntKind.wrap .i64 (s3.2.1 + 1))).bind fun v9 =>
      (F_backoff_Step s3.2.2 v8 v9).bind fun v10 =>
      (F_law08_busy a1 s3.2.1).bind fun v15 =>
      bif v15 then
        (F_law08_BackoffClear_j4 v10 s3) 0
      else
        (F_law08_BackoffClear_j4 v10 s3) (IntKind.wrap .i64 (s3.1 + 1))
  else
    some (Sum.inr (Sum.inl s3.2.2))
noncomputable def F_law08_BackoffClear (a0 : List Int) (a1 : List Int) : Option (Bool) :=
  (F_law08_at a0 0).bind fun v1 =>
  (F_backoff_Begin v1).bind fun v2 =>
  (loopO (F_law08_BackoffClear_l1 a1 a0) (0, 0, v2)).bind fun y17 =>
  match y17 with
  | Sum.inl b4 =>
    (F_law08_known ).bind fun v19 =>
    bif v19 then
      (F_backoff_Ended b4).bind fun v21 =>
      some (v21)
    else
      some (false)
  | Sum.inr v => some v
set_option maxRecDepth 100000 in
theorem ok_law08_BackoffClear (a0 : List Int) (a1 : List Int) (r : Bool) (h : F_law08_BackoffClear a0 a1 = some r) : Pure Try.prog 6 [.c (.slc 1 0 (List.map (ecI .u32) (a0))), .c (.slc 1 0 (List.map (ecI .u8) (a1)))] (.c (.lit (.bool (r)))) := by
  unfold F_law08_BackoffClear at h
  refine pure_of [[0]] 46 Try.func6 rfl rfl rfl (by kernel_rfl) (fun K => ?_)
  refine T_seq ?_
  refine T_runs ⟨[(4, .c (.lit (.bool (false)))), (0, .c (.slc 1 0 (List.map (ecI .u32) (a0)))), (1, .c (.slc 1 0 (List.map (ecI .u8) (a1))))], ⟨[], []⟩⟩ (by kernel_rfl) ?_
  refine T_seq ?_
  replace h := bindO h
  obtain ⟨v1, hv1, h⟩ := h
  replace h := bindO h
  obtain ⟨v2, hv2, h⟩ := h
  refine T_region ?_
  refine TL_runs 1 ⟨[(8, .c (.slc 1 0 (List.map (ecI .u32) (a0)))), (4, .c (.lit (.bool (false)))), (0, .c (.slc 1 0 (List.map (ecI .u32) (a0)))), (1, .c (.slc 1 0 (List.map (ecI .u8) (a1))))], ⟨[], []⟩⟩ (by kernel_rfl) ?_
  refine TL_grow (.c (.lit (.int .u32 (v1)))) (by kernel_rfl) (by kernel_rfl) (grow_call 21 Try.f21 [[2], [0]] [.c (.slc 1 0 (List.map (ecI .u32) (a0))), .c (.lit (.int .i64 (0)))] rfl (by kernel_rfl) Try.func21 (by kernel_rfl) (by kernel_rfl) (by kernel_rfl) (ok_law08_at a0 0 v1 hv1)) ?_
  refine TL_grow (.agg [.lit (.int .i64 (v2.State)), .lit (.int .i64 (v2.Busy)), .lit (.int .i64 (v2.Exponent)), .lit (.int .i64 (v2.Clear)), .lit (.int .i64 (v2.Wait))]) (by kernel_rfl) (by kernel_rfl) (grow_call 19 Try.f19 [[0]] [.c (.lit (.int .u32 (v1)))] rfl (by kernel_rfl) Try.func19 (by kernel_rfl) (by kernel_rfl) (by kernel_rfl) (ok_backoff_Begin v1 v2 hv2)) ?_
  refine TL_end ⟨[(5, .c (.box 5 0)), (10, .agg [.lit (.int .i64 (v2.State)), .lit (.int .i64 (v2.Busy)), .lit (.int .i64 (v2.Exponent)), .lit (.int .i64 (v2.Clear)), .lit (.int .i64 (v2.Wait))]), (9, .c (.lit (.int .u32 (v1)))), (8, .c (.slc 1 0 (List.map (ecI .u32) (a0)))), (4, .c (.lit (.bool (false)))), (0, .c (.slc 1 0 (List.map (ecI .u32) (a0)))), (1, .c (.slc 1 0 (List.map (ecI .u8) (a1))))], ⟨[(5, [.lit (.int .i64 (v2.State)), .lit (.int .i64 (v2.Busy)), .lit (.int .i64 (v2.Exponent)), .lit (.int .i64 (v2.Clear)), .lit (.int .i64 (v2.Wait))])], []⟩⟩ (by kernel_rfl) ?_
  refine T_keep [5, 0, 1] [5] [] ?_
  refine T_seq ?_
  refine T_runs ⟨[(6, .c (.lit (.int .i64 (0)))), (5, .c (.box 5 0)), (0, .c (.slc 1 0 (List.map (ecI .u32) (a0)))), (1, .c (.slc 1 0 (List.map (ecI .u8) (a1))))], ⟨[(5, [.lit (.int .i64 (v2.State)), .lit (.int .i64 (v2.Busy)), .lit (.int .i64 (v2.Exponent)), .lit (.int .i64 (v2.Clear)), .lit (.int .i64 (v2.Wait))])], []⟩⟩ (by kernel_rfl) ?_
  refine T_seq ?_
  refine T_seq ?_
  refine T_runs ⟨[(7, .c (.lit (.int .i64 (0)))), (6, .c (.lit (.int .i64 (0)))), (5, .c (.box 5 0)), (0, .c (.slc 1 0 (List.map (ecI .u32) (a0)))), (1, .c (.slc 1 0 (List.map (ecI .u8) (a1))))], ⟨[(5, [.lit (.int .i64 (v2.State)), .lit (.int .i64 (v2.Busy)), .lit (.int .i64 (v2.Exponent)), .lit (.int .i64 (v2.Clear)), .lit (.int .i64 (v2.Wait))])], []⟩⟩ (by kernel_rfl) ?_
  refine T_block ?_
  refine T_keepS [0, 1, 5, 6, 7] [5] ?_
  refine T_sub (by kernel_rfl : _ = (fun (s3 : Int × Int × S_Backoff) => ⟨[(0, .c (.slc 1 0 (List.map (ecI .u32) (a0)))), (1, .c (.slc 1 0 (List.map (ecI .u8) (a1)))), (5, .c (.box 5 0)), (6, .c (.lit (.int .i64 (s3.1)))), (7, .c (.lit (.int .i64 (s3.2.1))))], ⟨[(5, [.lit (.int .i64 (s3.2.2.State)), .lit (.int .i64 (s3.2.2.Busy)), .lit (.int .i64 (s3.2.2.Exponent)), .lit (.int .i64 (s3.2.2.Clear)), .lit (.int .i64 (s3.2.2.Wait))])], []⟩⟩) (0, 0, v2)) ?_
  replace h := bindO h
  obtain ⟨y17, hl18, h⟩ := h
  refine T_loopS [0, 1, 5, 6, 7] [5] (F_law08_BackoffClear_l1 a1 a0) (fun (s3 : Int × Int × S_Backoff) => ⟨[(0, .c (.slc 1 0 (List.map (ecI .u32) (a0)))), (1, .c (.slc 1 0 (List.map (ecI .u8) (a1)))), (5, .c (.box 5 0)), (6, .c (.lit (.int .i64 (s3.1)))), (7, .c (.lit (.int .i64 (s3.2.1))))], ⟨[(5, [.lit (.int .i64 (s3.2.2.State)), .lit (.int .i64 (s3.2.2.Busy)), .lit (.int .i64 (s3.2.2.Exponent)), .lit (.int .i64 (s3.2.2.Clear)), .lit (.int .i64 (s3.2.2.Wait))])], []⟩⟩) (fun y17 e st => match y17 with | Sum.inl b4 => e = .exit 0 ∧ St.keepS st [5] [5] = ⟨[(5, .c (.box 5 0))], ⟨[(5, [.lit (.int .i64 (b4.State)), .lit (.int .i64 (b4.Busy)), .lit (.int .i64 (b4.Exponent)), .lit (.int .i64 (b4.Clear)), .lit (.int .i64 (b4.Wait))])], []⟩⟩ | Sum.inr v => e = .ret ∧ ∃ xs, resL Try.prog st [[0]] Try.f6.results.toList = some xs ∧ resV xs = some (.c (.lit (.bool (v))))) (0, 0, v2) _ hl18 ?_ ?_
  · intro s3 x h
    unfold F_law08_BackoffClear_l1 at h
    refine T_seq ?_
    refine T_seq ?_
    replace h := condO h
    rcases h with ⟨hb5, h⟩ | ⟨hb5, h⟩
    · replace h := bindO h
      obtain ⟨v6, hv6, h⟩ := h
      refine T_region ?_
      refine TL_runs 1 ⟨[(11, .c (.lit (.int .i64 (s3.2.1)))), (0, .c (.slc 1 0 (List.map (ecI .u32) (a0)))), (1, .c (.slc 1 0 (List.map (ecI .u8) (a1)))), (5, .c (.box 5 0)), (6, .c (.lit (.int .i64 (s3.1)))), (7, .c (.lit (.int .i64 (s3.2.1))))], ⟨[(5, [.lit (.int .i64 (s3.2.2.State)), .lit (.int .i64 (s3.2.2.Busy)), .lit (.int .i64 (s3.2.2.Exponent)), .lit (.int .i64 (s3.2.2.Clear)), .lit (.int .i64 (s3.2.2.Wait))])], []⟩⟩ (by kernel_rfl) ?_
      refine TL_grow (.c (.lit (.bool (true)))) (by kernel_rfl) (by kernel_rfl) (grow_bool (e := (decide (s3.2.1 < 125))) (by kernel_rfl) hb5) ?_
      refine TL_runs 2 ⟨[(14, .agg [.lit (.int .i64 (s3.2.2.State)), .lit (.int .i64 (s3.2.2.Busy)), .lit (.int .i64 (s3.2.2.Exponent)), .lit (.int .i64 (s3.2.2.Clear)), .lit (.int .i64 (s3.2.2.Wait))]), (13, .c (.lit (.bool (true)))), (12, .c (.lit (.bool (true)))), (11, .c (.lit (.int .i64 (s3.2.1)))), (0, .c (.slc 1 0 (List.map (ecI .u32) (a0)))), (1, .c (.slc 1 0 (List.map (ecI .u8) (a1)))), (5, .c (.box 5 0)), (6, .c (.lit (.int .i64 (s3.1)))), (7, .c (.lit (.int .i64 (s3.2.1))))], ⟨[(5, [.lit (.int .i64 (s3.2.2.State)), .lit (.int .i64 (s3.2.2.Busy)), .lit (.int .i64 (s3.2.2.Exponent)), .lit (.int .i64 (s3.2.2.Clear)), .lit (.int .i64 (s3.2.2.Wait))])], []⟩⟩ (by kernel_rfl) ?_
      refine TL_grow (.c (.lit (.bool (v6)))) (by kernel_rfl) (by kernel_rfl) (grow_call 14 Try.f14 [[0, 0, 0, 0, 0]] [.agg (S_Backoff.cs s3.2.2)] rfl (by kernel_rfl) Try.func14 (by kernel_rfl) (by kernel_rfl) (by kernel_rfl) (ok_backoff_Ended s3.2.2 v6 hv6)) ?_
      refine TL_end ⟨[(17, .c (.lit (.bool ((!v6))))), (16, .c (.lit (.bool ((!v6))))), (15, .c (.lit (.bool (v6)))), (14, .agg [.lit (.int .i64 (s3.2.2.State)), .lit (.int .i64 (s3.2.2.Busy)), .lit (.int .i64 (s3.2.2.Exponent)), .lit (.int .i64 (s3.2.2.Clear)), .lit (.int .i64 (s3.2.2.Wait))]), (13, .c (.lit (.bool (true)))), (12, .c (.lit (.bool (true)))), (11, .c (.lit (.int .i64 (s3.2.1)))), (0, .c (.slc 1 0 (List.map (ecI .u32) (a0)))), (1, .c (.slc 1 0 (List.map (ecI .u8) (a1)))), (5, .c (.box 5 0)), (6, .c (.lit (.int .i64 (s3.1)))), (7, .c (.lit (.int .i64 (s3.2.1))))], ⟨[(5, [.lit (.int .i64 (s3.2.2.State)), .lit (.int .i64 (s3.2.2.Busy)), .lit (.int .i64 (s3.2.2.Exponent)), .lit (.int .i64 (s3.2.2.Clear)), .lit (.int .i64 (s3.2.2.Wait))])], []⟩⟩ (by kernel_rfl) ?_
      refine T_keep [17, 0, 1, 5, 6, 7] [5] [] ?_
      replace h := condO h
      rcases h with ⟨hb7, h⟩ | ⟨hb7, h⟩
      · subst hb7
        refine T_condF (by kernel_rfl) ?_
        refine T_exit ?_
        refine thenQ_exit ?_
        obtain rfl := Option.some.inj h
        exact ⟨_, rfl, rfl, by kernel_rfl⟩
      · subst hb7
        refine T_condT (by kernel_rfl) ?_
        refine T_skip ?_
        refine T_seq ?_
        refine T_block ?_
        refine T_seq ?_
        replace h := bindO h
        obtain ⟨v8, hv8, h⟩ := h
        replace h := bindO h
        obtain ⟨v9, hv9, h⟩ := h
        replace h := bindO h
        obtain ⟨v10, hv10, h⟩ := h
        refine T_drawX 9 ⟨[(28, .agg [.lit (.int .i64 (v10.State)), .lit (.int .i64 (v10.Busy)), .lit (.int .i64 (v10.Exponent)), .lit (.int .i64 (v10.Clear)), .lit (.int .i64 (v10.Wait))]), (27, .c (.lit (.int .u32 (v9)))), (26, .c (.lit (.int .i64 (IntKind.wrap .i64 (s3.2.1 + 1))))), (25, .c (.lit (.int .i64 (s3.2.1)))), (24, .c (.slc 1 0 (List.map (ecI .u32) (a0)))), (23, .c (.lit (.bool (v8)))), (22, .c (.lit (.int .i64 (s3.2.1)))), (21, .c (.slc 1 0 (List.map (ecI .u8) (a1)))), (20, .agg [.lit (.int .i64 (s3.2.2.State)), .lit (.int .i64 (s3.2.2.Busy)), .lit (.int .i64 (s3.2.2.Exponent)), .lit (.int .i64 (s3.2.2.Clear)), .lit (.int .i64 (s3.2.2.Wait))]), (17, .c (.lit (.bool (true)))), (0, .c (.slc 1 0 (List.map (ecI .u32) (a0)))), (1, .c (.slc 1 0 (List.map (ecI .u8) (a1)))), (5, .c (.box 5 0)), (6, .c (.lit (.int .i64 (s3.1)))), (7, .c (.lit (.int .i64 (s3.2.1))))], ⟨[(5, [.lit (.int .i64 (s3.2.2.State)), .lit (.int .i64 (s3.2.2.Busy)), .lit (.int .i64 (s3.2.2.Exponent)), .lit (.int .i64 (s3.2.2.Clear)), .lit (.int .i64 (s3.2.2.Wait))])], []⟩⟩ (by kernel_rfl) (by kernel_rfl) ?_ ?_
        · refine HeadX_runs 3 ⟨[(22, .c (.lit (.int .i64 (s3.2.1)))), (21, .c (.slc 1 0 (List.map (ecI .u8) (a1)))), (20, .agg [.lit (.int .i64 (s3.2.2.State)), .lit (.int .i64 (s3.2.2.Busy)), .lit (.int .i64 (s3.2.2.Exponent)), .lit (.int .i64 (s3.2.2.Clear)), .lit (.int .i64 (s3.2.2.Wait))]), (17, .c (.lit (.bool (true)))), (0, .c (.slc 1 0 (List.map (ecI .u32) (a0)))), (1, .c (.slc 1 0 (List.map (ecI .u8) (a1)))), (5, .c (.box 5 0)), (6, .c (.lit (.int .i64 (s3.1)))), (7, .c (.lit (.int .i64 (s3.2.1))))], ⟨[(5, [.lit (.int .i64 (s3.2.2.State)), .lit (.int .i64 (s3.2.2.Busy)), .lit (.int .i64 (s3.2.2.Exponent)), .lit (.int .i64 (s3.2.2.Clear)), .lit (.int .i64 (s3.2.2.Wait))])], []⟩⟩ (by kernel_rfl) ?_
          refine HeadX_op (.c (.lit (.bool (v8)))) (by kernel_rfl) (by kernel_rfl) (grow_call 22 Try.f22 [[2], [0]] [.c (.slc 1 0 (List.map (ecI .u8) (a1))), .c (.lit (.int .i64 (s3.2.1)))] rfl (by kernel_rfl) Try.func22 (by kernel_rfl) (by kernel_rfl) (by kernel_rfl) (ok_law08_busy a1 s3.2.1 v8 hv8)) ?_
          refine HeadX_runs 3 ⟨[(26, .c (.lit (.int .i64 (IntKind.wrap .i64 (s3.2.1 + 1))))), (25, .c (.lit (.int .i64 (s3.2.1)))), (24, .c (.slc 1 0 (List.map (ecI .u32) (a0)))), (23, .c (.lit (.bool (v8)))), (22, .c (.lit (.int .i64 (s3.2.1)))), (21, .c (.slc 1 0 (List.map (ecI .u8) (a1)))), (20, .agg [.lit (.int .i64 (s3.2.2.State)), .lit (.int .i64 (s3.2.2.Busy)), .lit (.int .i64 (s3.2.2.Exponent)), .lit (.int .i64 (s3.2.2.Clear)), .lit (.int .i64 (s3.2.2.Wait))]), (17, .c (.lit (.bool (true)))), (0, .c (.slc 1 0 (List.map (ecI .u32) (a0)))), (1, .c (.slc 1 0 (List.map (ecI .u8) (a1)))), (5, .c (.box 5 0)), (6, .c (.lit (.int .i64 (s3.1)))), (7, .c (.lit (.int .i64 (s3.2.1))))], ⟨[(5, [.lit (.int .i64 (s3.2.2.State)), .lit (.int .i64 (s3.2.2.Busy)), .lit (.int .i64 (s3.2.2.Exponent)), .lit (.int .i64 (s3.2.2.Clear)), .lit (.int .i64 (s3.2.2.Wait))])], []⟩⟩ (by kernel_rfl) ?_
          refine HeadX_op (.c (.lit (.int .u32 (v9)))) (by kernel_rfl) (by kernel_rfl) (grow_call 21 Try.f21 [[2], [0]] [.c (.slc 1 0 (List.map (ecI .u32) (a0))), .c (.lit (.int .i64 ((IntKind.wrap .i64 (s3.2.1 + 1)))))] rfl (by kernel_rfl) Try.func21 (by kernel_rfl) (by kernel_rfl) (by kernel_rfl) (ok_law08_at a0 (IntKind.wrap .i64 (s3.2.1 + 1)) v9 hv9)) ?_
          refine HeadX_op (.agg [.lit (.int .i64 (v10.State)), .lit (.int .i64 (v10.Busy)), .lit (.int .i64 (v10.Exponent)), .lit (.int .i64 (v10.Clear)), .lit (.int .i64 (v10.Wait))]) (by kernel_rfl) (by kernel_rfl) (grow_call 16 Try.f16 [[0, 0, 0, 0, 0], [0], [0]] [.agg (S_Backoff.cs s3.2.2), .c (.lit (.bool (v8))), .c (.lit (.int .u32 (v9)))] rfl (by kernel_rfl) Try.func16 (by kernel_rfl) (by kernel_rfl) (by kernel_rfl) (ok_backoff_Step s3.2.2 v8 v9 v10 hv10)) ?_
          exact HeadX_end (by kernel_rfl)
        · refine TL_end ⟨[(28, .agg [.lit (.int .i64 (v10.State)), .lit (.int .i64 (v10.Busy)), .lit (.int .i64 (v10.Exponent)), .lit (.int .i64 (v10.Clear)), .lit (.int .i64 (v10.Wait))]), (27, .c (.lit (.int .u32 (v9)))), (26, .c (.lit (.int .i64 (IntKind.wrap .i64 (s3.2.1 + 1))))), (25, .c (.lit (.int .i64 (s3.2.1)))), (24, .c (.slc 1 0 (List.map (ecI .u32) (a0)))), (23, .c (.lit (.bool (v8)))), (22, .c (.lit (.int .i64 (s3.2.1)))), (21, .c (.slc 1 0 (List.map (ecI .u8) (a1)))), (20, .agg [.lit (.int .i64 (s3.2.2.State)), .lit (.int .i64 (s3.2.2.Busy)), .lit (.int .i64 (s3.2.2.Exponent)), .lit (.int .i64 (s3.2.2.Clear)), .lit (.int .i64 (s3.2.2.Wait))]), (17, .c (.lit (.bool (true)))), (0, .c (.slc 1 0 (List.map (ecI .u32) (a0)))), (1, .c (.slc 1 0 (List.map (ecI .u8) (a1)))), (5, .c (.box 5 0)), (6, .c (.lit (.int .i64 (s3.1)))), (7, .c (.lit (.int .i64 (s3.2.1))))], ⟨[(5, [.lit (.int .i64 (v10.State)), .lit (.int .i64 (v10.Busy)), .lit (.int .i64 (v10.Exponent)), .lit (.int .i64 (v10.Clear)), .lit (.int .i64 (v10.Wait))])], []⟩⟩ (by kernel_rfl) ?_
          refine T_keep [0, 1, 5, 6, 7] [5] [] ?_
          refine T_seq ?_
          refine T_runs ⟨[(6, .c (.lit (.int .i64 (IntKind.wrap .i64 (s3.1 + 1))))), (30, .c (.lit (.int .i64 (IntKind.wrap .i64 (s3.1 + 1))))), (29, .c (.lit (.int .i64 (s3.1)))), (0, .c (.slc 1 0 (List.map (ecI .u32) (a0)))), (1, .c (.slc 1 0 (List.map (ecI .u8) (a1)))), (5, .c (.box 5 0)), (7, .c (.lit (.int .i64 (s3.2.1))))], ⟨[(5, [.lit (.int .i64 (v10.State)), .lit (.int .i64 (v10.Busy)), .lit (.int .i64 (v10.Exponent)), .lit (.int .i64 (v10.Clear)), .lit (.int .i64 (v10.Wait))])], []⟩⟩ (by kernel_rfl) ?_
          refine T_join [0, 1, 5, 6, 7] [5] (fun (v12 : Int) => ⟨[(0, .c (.slc 1 0 (List.map (ecI .u32) (a0)))), (1, .c (.slc 1 0 (List.map (ecI .u8) (a1)))), (5, .c (.box 5 0)), (6, .c (.lit (.int .i64 (v12)))), (7, .c (.lit (.int .i64 (s3.2.1))))], ⟨[(5, [.lit (.int .i64 (v10.State)), .lit (.int .i64 (v10.Busy)), .lit (.int .i64 (v10.Exponent)), .lit (.int .i64 (v10.Clear)), .lit (.int .i64 (v10.Wait))])], []⟩⟩) (F_law08_BackoffClear_j4 v10 s3) x ?_ ?_
          · intro v12 h
            unfold F_law08_BackoffClear_j4 at h
            refine T_seq ?_
            replace h := condO h
            rcases h with ⟨hb13, h⟩ | ⟨hb13, h⟩
            · refine T_region ?_
              refine TL_runs 2 ⟨[(35, .c (.lit (.int .i64 (v10.State)))), (34, .c (.box 5 0)), (0, .c (.slc 1 0 (List.map (ecI .u32) (a0)))), (1, .c (.slc 1 0 (List.map (ecI .u8) (a1)))), (5, .c (.box 5 0)), (6, .c (.lit (.int .i64 (v12)))), (7, .c (.lit (.int .i64 (s3.2.1))))], ⟨[(5, [.lit (.int .i64 (v10.State)), .lit (.int .i64 (v10.Busy)), .lit (.int .i64 (v10.Exponent)), .lit (.int .i64 (v10.Clear)), .lit (.int .i64 (v10.Wait))])], []⟩⟩ (by kernel_rfl) ?_
              refine TL_grow (.c (.lit (.bool (true)))) (by kernel_rfl) (by kernel_rfl) (grow_bool (e := (v10.State == 3)) (by kernel_rfl) hb13) ?_
              refine TL_end ⟨[(40, .c (.lit (.bool ((decide (v12 < 2)))))), (39, .c (.lit (.bool ((decide (v12 < 2)))))), (38, .c (.lit (.int .i64 (v12)))), (37, .c (.lit (.bool (true)))), (36, .c (.lit (.bool (true)))), (35, .c (.lit (.int .i64 (v10.State)))), (34, .c (.box 5 0)), (0, .c (.slc 1 0 (List.map (ecI .u32) (a0)))), (1, .c (.slc 1 0 (List.map (ecI .u8) (a1)))), (5, .c (.box 5 0)), (6, .c (.lit (.int .i64 (v12)))), (7, .c (.lit (.int .i64 (s3.2.1))))], ⟨[(5, [.lit (.int .i64 (v10.State)), .lit (.int .i64 (v10.Busy)), .lit (.int .i64 (v10.Exponent)), .lit (.int .i64 (v10.Clear)), .lit (.int .i64 (v10.Wait))])], []⟩⟩ (by kernel_rfl) ?_
              refine T_keep [40, 0, 1, 5, 6, 7] [5] [] ?_
              replace h := condO h
              rcases h with ⟨hb14, h⟩ | ⟨hb14, h⟩
              · refine T_condT' (e := (decide (v12 < 2))) (by kernel_rfl) hb14 ?_
                refine T_seq ?_
                refine T_runs ⟨[(4, .c (.lit (.bool (false)))), (40, .c (.lit (.bool ((decide (v12 < 2)))))), (0, .c (.slc 1 0 (List.map (ecI .u32) (a0)))), (1, .c (.slc 1 0 (List.map (ecI .u8) (a1)))), (5, .c (.box 5 0)), (6, .c (.lit (.int .i64 (v12)))), (7, .c (.lit (.int .i64 (s3.2.1))))], ⟨[(5, [.lit (.int .i64 (v10.State)), .lit (.int .i64 (v10.Busy)), .lit (.int .i64 (v10.Exponent)), .lit (.int .i64 (v10.Clear)), .lit (.int .i64 (v10.Wait))])], []⟩⟩ (by kernel_rfl) ?_
                refine T_keep [4] [] [] ?_
                refine T_ret ?_
                refine blockQ_ret ?_
                refine thenQ_ret ?_
                obtain rfl := Option.some.inj h
                exact ⟨_, rfl, rfl, [(false, [.lit (.bool (false))])], by kernel_rfl, by kernel_rfl⟩
              · refine T_condF' (e := (decide (v12 < 2))) (by kernel_rfl) hb14 ?_
                refine T_skip ?_
                refine blockQ_normal ?_
                refine T_runs ⟨[(7, .c (.lit (.int .i64 (IntKind.wrap .i64 (s3.2.1 + 1))))), (19, .c (.lit (.int .i64 (IntKind.wrap .i64 (s3.2.1 + 1))))), (18, .c (.lit (.int .i64 (s3.2.1)))), (40, .c (.lit (.bool ((decide (v12 < 2)))))), (0, .c (.slc 1 0 (List.map (ecI .u32) (a0)))), (1, .c (.slc 1 0 (List.map (ecI .u8) (a1)))), (5, .c (.box 5 0)), (6, .c (.lit (.int .i64 (v12))))], ⟨[(5, [.lit (.int .i64 (v10.State)), .lit (.int .i64 (v10.Busy)), .lit (.int .i64 (v10.Exponent)), .lit (.int .i64 (v10.Clear)), .lit (.int .i64 (v10.Wait))])], []⟩⟩ (by kernel_rfl) ?_
                obtain rfl := Option.some.inj h
                exact ⟨_, rfl, by kernel_rfl⟩
            · refine T_region ?_
              refine TL_runs 2 ⟨[(35, .c (.lit (.int .i64 (v10.State)))), (34, .c (.box 5 0)), (0, .c (.slc 1 0 (List.map (ecI .u32) (a0)))), (1, .c (.slc 1 0 (List.map (ecI .u8) (a1)))), (5, .c (.box 5 0)), (6, .c (.lit (.int .i64 (v12)))), (7, .c (.lit (.int .i64 (s3.2.1))))], ⟨[(5, [.lit (.int .i64 (v10.State)), .lit (.int .i64 (v10.Busy)), .lit (.int .i64 (v10.Exponent)), .lit (.int .i64 (v10.Clear)), .lit (.int .i64 (v10.Wait))])], []⟩⟩ (by kernel_rfl) ?_
              refine TL_grow (.c (.lit (.bool (false)))) (by kernel_rfl) (by kernel_rfl) (grow_bool (e := (v10.State == 3)) (by kernel_rfl) hb13) ?_
              refine TL_end ⟨[(40, .c (.lit (.bool (false)))), (39, .tup []), (38, .tup []), (37, .c (.lit (.bool (false)))), (36, .c (.lit (.bool (false)))), (35, .c (.lit (.int .i64 (v10.State)))), (34, .c (.box 5 0)), (0, .c (.slc 1 0 (List.map (ecI .u32) (a0)))), (1, .c (.slc 1 0 (List.map (ecI .u8) (a1)))), (5, .c (.box 5 0)), (6, .c (.lit (.int .i64 (v12)))), (7, .c (.lit (.int .i64 (s3.2.1))))], ⟨[(5, [.lit (.int .i64 (v10.State)), .lit (.int .i64 (v10.Busy)), .lit (.int .i64 (v10.Exponent)), .lit (.int .i64 (v10.Clear)), .lit (.int .i64 (v10.Wait))])], []⟩⟩ (by kernel_rfl) ?_
              refine T_keep [40, 0, 1, 5, 6, 7] [5] [] ?_
              refine T_condF (by kernel_rfl) ?_
              refine T_skip ?_
              refine blockQ_normal ?_
              refine T_runs ⟨[(7, .c (.lit (.int .i64 (IntKind.wrap .i64 (s3.2.1 + 1))))), (19, .c (.lit (.int .i64 (IntKind.wrap .i64 (s3.2.1 + 1))))), (18, .c (.lit (.int .i64 (s3.2.1)))), (40, .c (.lit (.bool (false)))), (0, .c (.slc 1 0 (List.map (ecI .u32) (a0)))), (1, .c (.slc 1 0 (List.map (ecI .u8) (a1)))), (5, .c (.box 5 0)), (6, .c (.lit (.int .i64 (v12))))], ⟨[(5, [.lit (.int .i64 (v10.State)), .lit (.int .i64 (v10.Busy)), .lit (.int .i64 (v10.Exponent)), .lit (.int .i64 (v10.Clear)), .lit (.int .i64 (v10.Wait))])], []⟩⟩ (by kernel_rfl) ?_
              obtain rfl := Option.some.inj h
              exact ⟨_, rfl, by kernel_rfl⟩
          · refine T_seq ?_
            replace h := bindO h
            obtain ⟨v15, hv15, h⟩ := h
            refine T_region ?_
            refine TL_runs 2 ⟨[(32, .c (.lit (.int .i64 (s3.2.1)))), (31, .c (.slc 1 0 (List.map (ecI .u8) (a1)))), (6, .c (.lit (.int .i64 (IntKind.wrap .i64 (s3.1 + 1))))), (30, .c (.lit (.int .i64 (IntKind.wrap .i64 (s3.1 + 1))))), (29, .c (.lit (.int .i64 (s3.1)))), (0, .c (.slc 1 0 (List.map (ecI .u32) (a0)))), (1, .c (.slc 1 0 (List.map (ecI .u8) (a1)))), (5, .c (.box 5 0)), (7, .c (.lit (.int .i64 (s3.2.1))))], ⟨[(5, [.lit (.int .i64 (v10.State)), .lit (.int .i64 (v10.Busy)), .lit (.int .i64 (v10.Exponent)), .lit (.int .i64 (v10.Clear)), .lit (.int .i64 (v10.Wait))])], []⟩⟩ (by kernel_rfl) ?_
            refine TL_grow (.c (.lit (.bool (v15)))) (by kernel_rfl) (by kernel_rfl) (grow_call 22 Try.f22 [[2], [0]] [.c (.slc 1 0 (List.map (ecI .u8) (a1))), .c (.lit (.int .i64 (s3.2.1)))] rfl (by kernel_rfl) Try.func22 (by kernel_rfl) (by kernel_rfl) (by kernel_rfl) (ok_law08_busy a1 s3.2.1 v15 hv15)) ?_
            refine TL_end ⟨[(33, .c (.lit (.bool (v15)))), (32, .c (.lit (.int .i64 (s3.2.1)))), (31, .c (.slc 1 0 (List.map (ecI .u8) (a1)))), (6, .c (.lit (.int .i64 (IntKind.wrap .i64 (s3.1 + 1))))), (30, .c (.lit (.int .i64 (IntKind.wrap .i64 (s3.1 + 1))))), (29, .c (.lit (.int .i64 (s3.1)))), (0, .c (.slc 1 0 (List.map (ecI .u32) (a0)))), (1, .c (.slc 1 0 (List.map (ecI .u8) (a1)))), (5, .c (.box 5 0)), (7, .c (.lit (.int .i64 (s3.2.1))))], ⟨[(5, [.lit (.int .i64 (v10.State)), .lit (.int .i64 (v10.Busy)), .lit (.int .i64 (v10.Exponent)), .lit (.int .i64 (v10.Clear)), .lit (.int .i64 (v10.Wait))])], []⟩⟩ (by kernel_rfl) ?_
            refine T_keep [33, 6, 0, 1, 5, 7] [5] [] ?_
            replace h := condO h
            rcases h with ⟨hb16, h⟩ | ⟨hb16, h⟩
            · subst hb16
              refine T_condT (by kernel_rfl) ?_
              refine T_runs ⟨[(6, .c (.lit (.int .i64 (0)))), (33, .c (.lit (.bool (true)))), (0, .c (.slc 1 0 (List.map (ecI .u32) (a0)))), (1, .c (.slc 1 0 (List.map (ecI .u8) (a1)))), (5, .c (.box 5 0)), (7, .c (.lit (.int .i64 (s3.2.1))))], ⟨[(5, [.lit (.int .i64 (v10.State)), .lit (.int .i64 (v10.Busy)), .lit (.int .i64 (v10.Exponent)), .lit (.int .i64 (v10.Clear)), .lit (.int .i64 (v10.Wait))])], []⟩⟩ (by kernel_rfl) ?_
              exact ⟨0, h, by kernel_rfl⟩
            · subst hb16
              refine T_condF (by kernel_rfl) ?_
              refine T_skip ?_
              exact ⟨IntKind.wrap .i64 (s3.1 + 1), h, by kernel_rfl⟩
    · refine T_region ?_
      refine TL_runs 1 ⟨[(11, .c (.lit (.int .i64 (s3.2.1)))), (0, .c (.slc 1 0 (List.map (ecI .u32) (a0)))), (1, .c (.slc 1 0 (List.map (ecI .u8) (a1)))), (5, .c (.box 5 0)), (6, .c (.lit (.int .i64 (s3.1)))), (7, .c (.lit (.int .i64 (s3.2.1))))], ⟨[(5, [.lit (.int .i64 (s3.2.2.State)), .lit (.int .i64 (s3.2.2.Busy)), .lit (.int .i64 (s3.2.2.Exponent)), .lit (.int .i64 (s3.2.2.Clear)), .lit (.int .i64 (s3.2.2.Wait))])], []⟩⟩ (by kernel_rfl) ?_
      refine TL_grow (.c (.lit (.bool (false)))) (by kernel_rfl) (by kernel_rfl) (grow_bool (e := (decide (s3.2.1 < 125))) (by kernel_rfl) hb5) ?_
      refine TL_end ⟨[(17, .c (.lit (.bool (false)))), (16, .tup []), (15, .tup []), (14, .tup []), (13, .c (.lit (.bool (false)))), (12, .c (.lit (.bool (false)))), (11, .c (.lit (.int .i64 (s3.2.1)))), (0, .c (.slc 1 0 (List.map (ecI .u32) (a0)))), (1, .c (.slc 1 0 (List.map (ecI .u8) (a1)))), (5, .c (.box 5 0)), (6, .c (.lit (.int .i64 (s3.1)))), (7, .c (.lit (.int .i64 (s3.2.1))))], ⟨[(5, [.lit (.int .i64 (s3.2.2.State)), .lit (.int .i64 (s3.2.2.Busy)), .lit (.int .i64 (s3.2.2.Exponent)), .lit (.int .i64 (s3.2.2.Clear)), .lit (.int .i64 (s3.2.2.Wait))])], []⟩⟩ (by kernel_rfl) ?_
      refine T_keep [17, 0, 1, 5, 6, 7] [5] [] ?_
      refine T_condF (by kernel_rfl) ?_
      refine T_exit ?_
      refine thenQ_exit ?_
      obtain rfl := Option.some.inj h
      exact ⟨_, rfl, rfl, by kernel_rfl⟩
  · intro e st hq
    cases y17 with
    | inl b4 =>
      obtain ⟨rfl, hst⟩ := hq
      refine blockQ_exit ?_
      refine T_keepS [5] [5] ?_
      refine T_sub hst ?_
      refine T_seq ?_
      replace h := bindO h
      obtain ⟨v19, hv19, h⟩ := h
      replace h := condO h
      rcases h with ⟨hb20, h⟩ | ⟨hb20, h⟩
      · subst hb20
        replace h := bindO h
        obtain ⟨v21, hv21, h⟩ := h
        refine T_region ?_
        refine TL_grow (.c (.lit (.bool (true)))) (by kernel_rfl) (by kernel_rfl) (grow_call 18 Try.f18 [] [] rfl (by kernel_rfl) Try.func18 (by kernel_rfl) (by kernel_rfl) (by kernel_rfl) (ok_law08_known  true hv19)) ?_
        refine TL_runs 2 ⟨[(43, .agg [.lit (.int .i64 (b4.State)), .lit (.int .i64 (b4.Busy)), .lit (.int .i64 (b4.Exponent)), .lit (.int .i64 (b4.Clear)), .lit (.int .i64 (b4.Wait))]), (42, .c (.lit (.bool (true)))), (41, .c (.lit (.bool (true)))), (5, .c (.box 5 0))], ⟨[(5, [.lit (.int .i64 (b4.State)), .lit (.int .i64 (b4.Busy)), .lit (.int .i64 (b4.Exponent)), .lit (.int .i64 (b4.Clear)), .lit (.int .i64 (b4.Wait))])], []⟩⟩ (by kernel_rfl) ?_
        refine TL_grow (.c (.lit (.bool (v21)))) (by kernel_rfl) (by kernel_rfl) (grow_call 14 Try.f14 [[0, 0, 0, 0, 0]] [.agg (S_Backoff.cs b4)] rfl (by kernel_rfl) Try.func14 (by kernel_rfl) (by kernel_rfl) (by kernel_rfl) (ok_backoff_Ended b4 v21 hv21)) ?_
        refine TL_end ⟨[(4, .c (.lit (.bool (v21)))), (45, .c (.lit (.bool (v21)))), (44, .c (.lit (.bool (v21)))), (43, .agg [.lit (.int .i64 (b4.State)), .lit (.int .i64 (b4.Busy)), .lit (.int .i64 (b4.Exponent)), .lit (.int .i64 (b4.Clear)), .lit (.int .i64 (b4.Wait))]), (42, .c (.lit (.bool (true)))), (41, .c (.lit (.bool (true)))), (5, .c (.box 5 0))], ⟨[(5, [.lit (.int .i64 (b4.State)), .lit (.int .i64 (b4.Busy)), .lit (.int .i64 (b4.Exponent)), .lit (.int .i64 (b4.Clear)), .lit (.int .i64 (b4.Wait))])], []⟩⟩ (by kernel_rfl) ?_
        refine T_keep [4] [] [] ?_
        refine T_ret ?_
        obtain rfl := Option.some.inj h
        exact ⟨[(false, [.lit (.bool (v21))])], by kernel_rfl, by kernel_rfl⟩
      · subst hb20
        refine T_region ?_
        refine TL_grow (.c (.lit (.bool (false)))) (by kernel_rfl) (by kernel_rfl) (grow_call 18 Try.f18 [] [] rfl (by kernel_rfl) Try.func18 (by kernel_rfl) (by kernel_rfl) (by kernel_rfl) (ok_law08_known  false hv19)) ?_
        refine TL_end ⟨[(4, .c (.lit (.bool (false)))), (45, .c (.lit (.bool (false)))), (44, .tup []), (43, .tup []), (42, .c (.lit (.bool (false)))), (41, .c (.lit (.bool (false)))), (5, .c (.box 5 0))], ⟨[(5, [.lit (.int .i64 (b4.State)), .lit (.int .i64 (b4.Busy)), .lit (.int .i64 (b4.Exponent)), .lit (.int .i64 (b4.Clear)), .lit (.int .i64 (b4.Wait))])], []⟩⟩ (by kernel_rfl) ?_
        refine T_keep [4] [] [] ?_
        refine T_ret ?_
        obtain rfl := Option.some.inj h
        exact ⟨[(false, [.lit (.bool (false))])], by kernel_rfl, by kernel_rfl⟩
    | inr v =>
      obtain ⟨rfl, hq⟩ := hq
      obtain rfl := Option.some.inj h
      repeat (first | refine thenQ_ret ?_ | refine blockQ_ret ?_)
      exact hq

/-- multihop/multihoplaw08.BackoffFails -/
noncomputable def F_law08_BackoffFails_j4 (a1 : List Int) (s3 : Int × Int × S_Backoff) (a0 : List Int) (v9 : Int) : Option ((Int × Int × S_Backoff) ⊕ ((Int) ⊕ (Bool))) :=
  (F_law08_busy a1 s3.2.1).bind fun v10 =>
  (F_law08_at a0 (IntKind.wrap .i64 (s3.2.1 + 1))).bind fun v11 =>
  (F_backoff_Step s3.2.2 v10 v11).bind fun v12 =>
  bif (v12.Busy != v9) then
    some (Sum.inr (Sum.inr (false)))
  else
    bif ((v12.State == 4) == (v9 == 5)) then
      some (Sum.inl (v9, IntKind.wrap .i64 (s3.2.1 + 1), v12))
    else
      some (Sum.inr (Sum.inr (false)))
noncomputable def F_law08_BackoffFails_l1 (a1 : List Int) (a0 : List Int) (s3 : Int × Int × S_Backoff) : Option ((Int × Int × S_Backoff) ⊕ ((Int) ⊕ (Bool))) :=
  bif (decide (s3.2.1 < 125)) then
    (F_backoff_Ended s3.2.2).bind fun v6 =>
    bif v6 then
      some (Sum.inr (Sum.inl s3.1))
    else
      bif (s3.2.2.State == 2) then
        (F_law08_busy a1 s3.2.1).bind fun v16 =>
        bif v16 then
          (F_law08_BackoffFails_j4 a1 s3 a0) (IntKind.wrap .i64 (s3.1 + 1))
        else
          (F_law08_BackoffFails_j4 a1 s3 a0) s3.1
      else
        (F_law08_BackoffFails_j4 a1 s3 a0) s3.1
  else
    some (Sum.inr (Sum.inl s3.1))
noncomputable def F_law08_BackoffFails (a0 : List Int) (a1 : List Int) : Option (Bool) :=
  (F_law08_at a0 0).bind fun v1 =>
  (F_backoff_Begin v1).bind fun v2 =>
  (loopO (F_law08_BackoffFails_l1 a1 a0) (0, 0, v2)).bind fun y18 =>
  match y18 with
  | Sum.inl b4 =>
    (F_law08_known ).bind fun v20 =>
    bif v20 then
      some ((decide (b4 ≤ 5)))
    else
      some (false)
  | Sum.inr v => some v
set_option maxRecDepth 100000 in
theorem ok_law08_BackoffFails (a0 : List Int) (a1 : List Int) (r : Bool) (h : F_law08_BackoffFails a0 a1 = some r) : Pure Try.prog 7 [.c (.slc 1 0 (List.map (ecI .u32) (a0))), .c (.slc 1 0 (List.map (ecI .u8) (a1)))] (.c (.lit (.bool (r)))) := by
  unfold F_law08_BackoffFails at h
  refine pure_of [[0]] 56 Try.func7 rfl rfl rfl (by kernel_rfl) (fun K => ?_)
  refine T_seq ?_
  refine T_runs ⟨[(4, .c (.lit (.bool (false)))), (0, .c (.slc 1 0 (List.map (ecI .u32) (a0)))), (1, .c (.slc 1 0 (List.map (ecI .u8) (a1))))], ⟨[], []⟩⟩ (by kernel_rfl) ?_
  refine T_seq ?_
  replace h := bindO h
  obtain ⟨v1, hv1, h⟩ := h
  replace h := bindO h
  obtain ⟨v2, hv2, h⟩ := h
  refine T_region ?_
  refine TL_runs 1 ⟨[(8, .c (.slc 1 0 (List.map (ecI .u32) (a0)))), (4, .c (.lit (.bool (false)))), (0, .c (.slc 1 0 (List.map (ecI .u32) (a0)))), (1, .c (.slc 1 0 (List.map (ecI .u8) (a1))))], ⟨[], []⟩⟩ (by kernel_rfl) ?_
  refine TL_grow (.c (.lit (.int .u32 (v1)))) (by kernel_rfl) (by kernel_rfl) (grow_call 21 Try.f21 [[2], [0]] [.c (.slc 1 0 (List.map (ecI .u32) (a0))), .c (.lit (.int .i64 (0)))] rfl (by kernel_rfl) Try.func21 (by kernel_rfl) (by kernel_rfl) (by kernel_rfl) (ok_law08_at a0 0 v1 hv1)) ?_
  refine TL_grow (.agg [.lit (.int .i64 (v2.State)), .lit (.int .i64 (v2.Busy)), .lit (.int .i64 (v2.Exponent)), .lit (.int .i64 (v2.Clear)), .lit (.int .i64 (v2.Wait))]) (by kernel_rfl) (by kernel_rfl) (grow_call 19 Try.f19 [[0]] [.c (.lit (.int .u32 (v1)))] rfl (by kernel_rfl) Try.func19 (by kernel_rfl) (by kernel_rfl) (by kernel_rfl) (ok_backoff_Begin v1 v2 hv2)) ?_
  refine TL_end ⟨[(5, .c (.box 5 0)), (10, .agg [.lit (.int .i64 (v2.State)), .lit (.int .i64 (v2.Busy)), .lit (.int .i64 (v2.Exponent)), .lit (.int .i64 (v2.Clear)), .lit (.int .i64 (v2.Wait))]), (9, .c (.lit (.int .u32 (v1)))), (8, .c (.slc 1 0 (List.map (ecI .u32) (a0)))), (4, .c (.lit (.bool (false)))), (0, .c (.slc 1 0 (List.map (ecI .u32) (a0)))), (1, .c (.slc 1 0 (List.map (ecI .u8) (a1))))], ⟨[(5, [.lit (.int .i64 (v2.State)), .lit (.int .i64 (v2.Busy)), .lit (.int .i64 (v2.Exponent)), .lit (.int .i64 (v2.Clear)), .lit (.int .i64 (v2.Wait))])], []⟩⟩ (by kernel_rfl) ?_
  refine T_keep [5, 0, 1] [5] [] ?_
  refine T_seq ?_
  refine T_runs ⟨[(6, .c (.lit (.int .i64 (0)))), (5, .c (.box 5 0)), (0, .c (.slc 1 0 (List.map (ecI .u32) (a0)))), (1, .c (.slc 1 0 (List.map (ecI .u8) (a1))))], ⟨[(5, [.lit (.int .i64 (v2.State)), .lit (.int .i64 (v2.Busy)), .lit (.int .i64 (v2.Exponent)), .lit (.int .i64 (v2.Clear)), .lit (.int .i64 (v2.Wait))])], []⟩⟩ (by kernel_rfl) ?_
  refine T_seq ?_
  refine T_seq ?_
  refine T_runs ⟨[(7, .c (.lit (.int .i64 (0)))), (6, .c (.lit (.int .i64 (0)))), (5, .c (.box 5 0)), (0, .c (.slc 1 0 (List.map (ecI .u32) (a0)))), (1, .c (.slc 1 0 (List.map (ecI .u8) (a1))))], ⟨[(5, [.lit (.int .i64 (v2.State)), .lit (.int .i64 (v2.Busy)), .lit (.int .i64 (v2.Exponent)), .lit (.int .i64 (v2.Clear)), .lit (.int .i64 (v2.Wait))])], []⟩⟩ (by kernel_rfl) ?_
  refine T_block ?_
  refine T_keepS [0, 1, 5, 6, 7] [5] ?_
  refine T_sub (by kernel_rfl : _ = (fun (s3 : Int × Int × S_Backoff) => ⟨[(0, .c (.slc 1 0 (List.map (ecI .u32) (a0)))), (1, .c (.slc 1 0 (List.map (ecI .u8) (a1)))), (5, .c (.box 5 0)), (6, .c (.lit (.int .i64 (s3.1)))), (7, .c (.lit (.int .i64 (s3.2.1))))], ⟨[(5, [.lit (.int .i64 (s3.2.2.State)), .lit (.int .i64 (s3.2.2.Busy)), .lit (.int .i64 (s3.2.2.Exponent)), .lit (.int .i64 (s3.2.2.Clear)), .lit (.int .i64 (s3.2.2.Wait))])], []⟩⟩) (0, 0, v2)) ?_
  replace h := bindO h
  obtain ⟨y18, hl19, h⟩ := h
  refine T_loopS [0, 1, 5, 6, 7] [5] (F_law08_BackoffFails_l1 a1 a0) (fun (s3 : Int × Int × S_Backoff) => ⟨[(0, .c (.slc 1 0 (List.map (ecI .u32) (a0)))), (1, .c (.slc 1 0 (List.map (ecI .u8) (a1)))), (5, .c (.box 5 0)), (6, .c (.lit (.int .i64 (s3.1)))), (7, .c (.lit (.int .i64 (s3.2.1))))], ⟨[(5, [.lit (.int .i64 (s3.2.2.State)), .lit (.int .i64 (s3.2.2.Busy)), .lit (.int .i64 (s3.2.2.Exponent)), .lit (.int .i64 (s3.2.2.Clear)), .lit (.int .i64 (s3.2.2.Wait))])], []⟩⟩) (fun y18 e st => match y18 with | Sum.inl b4 => e = .exit 0 ∧ St.keepS st [6] [] = ⟨[(6, .c (.lit (.int .i64 (b4))))], ⟨[], []⟩⟩ | Sum.inr v => e = .ret ∧ ∃ xs, resL Try.prog st [[0]] Try.f7.results.toList = some xs ∧ resV xs = some (.c (.lit (.bool (v))))) (0, 0, v2) _ hl19 ?_ ?_
  · intro s3 x h
    unfold F_law08_BackoffFails_l1 at h
    refine T_seq ?_
    refine T_seq ?_
    replace h := condO h
    rcases h with ⟨hb5, h⟩ | ⟨hb5, h⟩
    · replace h := bindO h
      obtain ⟨v6, hv6, h⟩ := h
      refine T_region ?_
      refine TL_runs 1 ⟨[(11, .c (.lit (.int .i64 (s3.2.1)))), (0, .c (.slc 1 0 (List.map (ecI .u32) (a0)))), (1, .c (.slc 1 0 (List.map (ecI .u8) (a1)))), (5, .c (.box 5 0)), (6, .c (.lit (.int .i64 (s3.1)))), (7, .c (.lit (.int .i64 (s3.2.1))))], ⟨[(5, [.lit (.int .i64 (s3.2.2.State)), .lit (.int .i64 (s3.2.2.Busy)), .lit (.int .i64 (s3.2.2.Exponent)), .lit (.int .i64 (s3.2.2.Clear)), .lit (.int .i64 (s3.2.2.Wait))])], []⟩⟩ (by kernel_rfl) ?_
      refine TL_grow (.c (.lit (.bool (true)))) (by kernel_rfl) (by kernel_rfl) (grow_bool (e := (decide (s3.2.1 < 125))) (by kernel_rfl) hb5) ?_
      refine TL_runs 2 ⟨[(14, .agg [.lit (.int .i64 (s3.2.2.State)), .lit (.int .i64 (s3.2.2.Busy)), .lit (.int .i64 (s3.2.2.Exponent)), .lit (.int .i64 (s3.2.2.Clear)), .lit (.int .i64 (s3.2.2.Wait))]), (13, .c (.lit (.bool (true)))), (12, .c (.lit (.bool (true)))), (11, .c (.lit (.int .i64 (s3.2.1)))), (0, .c (.slc 1 0 (List.map (ecI .u32) (a0)))), (1, .c (.slc 1 0 (List.map (ecI .u8) (a1)))), (5, .c (.box 5 0)), (6, .c (.lit (.int .i64 (s3.1)))), (7, .c (.lit (.int .i64 (s3.2.1))))], ⟨[(5, [.lit (.int .i64 (s3.2.2.State)), .lit (.int .i64 (s3.2.2.Busy)), .lit (.int .i64 (s3.2.2.Exponent)), .lit (.int .i64 (s3.2.2.Clear)), .lit (.int .i64 (s3.2.2.Wait))])], []⟩⟩ (by kernel_rfl) ?_
      refine TL_grow (.c (.lit (.bool (v6)))) (by kernel_rfl) (by kernel_rfl) (grow_call 14 Try.f14 [[0, 0, 0, 0, 0]] [.agg (S_Backoff.cs s3.2.2)] rfl (by kernel_rfl) Try.func14 (by kernel_rfl) (by kernel_rfl) (by kernel_rfl) (ok_backoff_Ended s3.2.2 v6 hv6)) ?_
      refine TL_end ⟨[(17, .c (.lit (.bool ((!v6))))), (16, .c (.lit (.bool ((!v6))))), (15, .c (.lit (.bool (v6)))), (14, .agg [.lit (.int .i64 (s3.2.2.State)), .lit (.int .i64 (s3.2.2.Busy)), .lit (.int .i64 (s3.2.2.Exponent)), .lit (.int .i64 (s3.2.2.Clear)), .lit (.int .i64 (s3.2.2.Wait))]), (13, .c (.lit (.bool (true)))), (12, .c (.lit (.bool (true)))), (11, .c (.lit (.int .i64 (s3.2.1)))), (0, .c (.slc 1 0 (List.map (ecI .u32) (a0)))), (1, .c (.slc 1 0 (List.map (ecI .u8) (a1)))), (5, .c (.box 5 0)), (6, .c (.lit (.int .i64 (s3.1)))), (7, .c (.lit (.int .i64 (s3.2.1))))], ⟨[(5, [.lit (.int .i64 (s3.2.2.State)), .lit (.int .i64 (s3.2.2.Busy)), .lit (.int .i64 (s3.2.2.Exponent)), .lit (.int .i64 (s3.2.2.Clear)), .lit (.int .i64 (s3.2.2.Wait))])], []⟩⟩ (by kernel_rfl) ?_
      refine T_keep [17, 0, 1, 5, 6, 7] [5] [] ?_
      replace h := condO h
      rcases h with ⟨hb7, h⟩ | ⟨hb7, h⟩
      · subst hb7
        refine T_condF (by kernel_rfl) ?_
        refine T_exit ?_
        refine thenQ_exit ?_
        obtain rfl := Option.some.inj h
        exact ⟨_, rfl, rfl, by kernel_rfl⟩
      · subst hb7
        refine T_condT (by kernel_rfl) ?_
        refine T_skip ?_
        refine T_seq ?_
        refine T_block ?_
        refine T_join [0, 1, 5, 6, 7] [5] (fun (v9 : Int) => ⟨[(0, .c (.slc 1 0 (List.map (ecI .u32) (a0)))), (1, .c (.slc 1 0 (List.map (ecI .u8) (a1)))), (5, .c (.box 5 0)), (6, .c (.lit (.int .i64 (v9)))), (7, .c (.lit (.int .i64 (s3.2.1))))], ⟨[(5, [.lit (.int .i64 (s3.2.2.State)), .lit (.int .i64 (s3.2.2.Busy)), .lit (.int .i64 (s3.2.2.Exponent)), .lit (.int .i64 (s3.2.2.Clear)), .lit (.int .i64 (s3.2.2.Wait))])], []⟩⟩) (F_law08_BackoffFails_j4 a1 s3 a0) x ?_ ?_
        · intro v9 h
          unfold F_law08_BackoffFails_j4 at h
          refine T_seq ?_
          replace h := bindO h
          obtain ⟨v10, hv10, h⟩ := h
          replace h := bindO h
          obtain ⟨v11, hv11, h⟩ := h
          replace h := bindO h
          obtain ⟨v12, hv12, h⟩ := h
          refine T_drawX 9 ⟨[(38, .agg [.lit (.int .i64 (v12.State)), .lit (.int .i64 (v12.Busy)), .lit (.int .i64 (v12.Exponent)), .lit (.int .i64 (v12.Clear)), .lit (.int .i64 (v12.Wait))]), (37, .c (.lit (.int .u32 (v11)))), (36, .c (.lit (.int .i64 (IntKind.wrap .i64 (s3.2.1 + 1))))), (35, .c (.lit (.int .i64 (s3.2.1)))), (34, .c (.slc 1 0 (List.map (ecI .u32) (a0)))), (33, .c (.lit (.bool (v10)))), (32, .c (.lit (.int .i64 (s3.2.1)))), (31, .c (.slc 1 0 (List.map (ecI .u8) (a1)))), (30, .agg [.lit (.int .i64 (s3.2.2.State)), .lit (.int .i64 (s3.2.2.Busy)), .lit (.int .i64 (s3.2.2.Exponent)), .lit (.int .i64 (s3.2.2.Clear)), .lit (.int .i64 (s3.2.2.Wait))]), (0, .c (.slc 1 0 (List.map (ecI .u32) (a0)))), (1, .c (.slc 1 0 (List.map (ecI .u8) (a1)))), (5, .c (.box 5 0)), (6, .c (.lit (.int .i64 (v9)))), (7, .c (.lit (.int .i64 (s3.2.1))))], ⟨[(5, [.lit (.int .i64 (s3.2.2.State)), .lit (.int .i64 (s3.2.2.Busy)), .lit (.int .i64 (s3.2.2.Exponent)), .lit (.int .i64 (s3.2.2.Clear)), .lit (.int .i64 (s3.2.2.Wait))])], []⟩⟩ (by kernel_rfl) (by kernel_rfl) ?_ ?_
          · refine HeadX_runs 3 ⟨[(32, .c (.lit (.int .i64 (s3.2.1)))), (31, .c (.slc 1 0 (List.map (ecI .u8) (a1)))), (30, .agg [.lit (.int .i64 (s3.2.2.State)), .lit (.int .i64 (s3.2.2.Busy)), .lit (.int .i64 (s3.2.2.Exponent)), .lit (.int .i64 (s3.2.2.Clear)), .lit (.int .i64 (s3.2.2.Wait))]), (0, .c (.slc 1 0 (List.map (ecI .u32) (a0)))), (1, .c (.slc 1 0 (List.map (ecI .u8) (a1)))), (5, .c (.box 5 0)), (6, .c (.lit (.int .i64 (v9)))), (7, .c (.lit (.int .i64 (s3.2.1))))], ⟨[(5, [.lit (.int .i64 (s3.2.2.State)), .lit (.int .i64 (s3.2.2.Busy)), .lit (.int .i64 (s3.2.2.Exponent)), .lit (.int .i64 (s3.2.2.Clear)), .lit (.int .i64 (s3.2.2.Wait))])], []⟩⟩ (by kernel_rfl) ?_
            refine HeadX_op (.c (.lit (.bool (v10)))) (by kernel_rfl) (by kernel_rfl) (grow_call 22 Try.f22 [[2], [0]] [.c (.slc 1 0 (List.map (ecI .u8) (a1))), .c (.lit (.int .i64 (s3.2.1)))] rfl (by kernel_rfl) Try.func22 (by kernel_rfl) (by kernel_rfl) (by kernel_rfl) (ok_law08_busy a1 s3.2.1 v10 hv10)) ?_
            refine HeadX_runs 3 ⟨[(36, .c (.lit (.int .i64 (IntKind.wrap .i64 (s3.2.1 + 1))))), (35, .c (.lit (.int .i64 (s3.2.1)))), (34, .c (.slc 1 0 (List.map (ecI .u32) (a0)))), (33, .c (.lit (.bool (v10)))), (32, .c (.lit (.int .i64 (s3.2.1)))), (31, .c (.slc 1 0 (List.map (ecI .u8) (a1)))), (30, .agg [.lit (.int .i64 (s3.2.2.State)), .lit (.int .i64 (s3.2.2.Busy)), .lit (.int .i64 (s3.2.2.Exponent)), .lit (.int .i64 (s3.2.2.Clear)), .lit (.int .i64 (s3.2.2.Wait))]), (0, .c (.slc 1 0 (List.map (ecI .u32) (a0)))), (1, .c (.slc 1 0 (List.map (ecI .u8) (a1)))), (5, .c (.box 5 0)), (6, .c (.lit (.int .i64 (v9)))), (7, .c (.lit (.int .i64 (s3.2.1))))], ⟨[(5, [.lit (.int .i64 (s3.2.2.State)), .lit (.int .i64 (s3.2.2.Busy)), .lit (.int .i64 (s3.2.2.Exponent)), .lit (.int .i64 (s3.2.2.Clear)), .lit (.int .i64 (s3.2.2.Wait))])], []⟩⟩ (by kernel_rfl) ?_
            refine HeadX_op (.c (.lit (.int .u32 (v11)))) (by kernel_rfl) (by kernel_rfl) (grow_call 21 Try.f21 [[2], [0]] [.c (.slc 1 0 (List.map (ecI .u32) (a0))), .c (.lit (.int .i64 ((IntKind.wrap .i64 (s3.2.1 + 1)))))] rfl (by kernel_rfl) Try.func21 (by kernel_rfl) (by kernel_rfl) (by kernel_rfl) (ok_law08_at a0 (IntKind.wrap .i64 (s3.2.1 + 1)) v11 hv11)) ?_
            refine HeadX_op (.agg [.lit (.int .i64 (v12.State)), .lit (.int .i64 (v12.Busy)), .lit (.int .i64 (v12.Exponent)), .lit (.int .i64 (v12.Clear)), .lit (.int .i64 (v12.Wait))]) (by kernel_rfl) (by kernel_rfl) (grow_call 16 Try.f16 [[0, 0, 0, 0, 0], [0], [0]] [.agg (S_Backoff.cs s3.2.2), .c (.lit (.bool (v10))), .c (.lit (.int .u32 (v11)))] rfl (by kernel_rfl) Try.func16 (by kernel_rfl) (by kernel_rfl) (by kernel_rfl) (ok_backoff_Step s3.2.2 v10 v11 v12 hv12)) ?_
            exact HeadX_end (by kernel_rfl)
          · refine TL_end ⟨[(38, .agg [.lit (.int .i64 (v12.State)), .lit (.int .i64 (v12.Busy)), .lit (.int .i64 (v12.Exponent)), .lit (.int .i64 (v12.Clear)), .lit (.int .i64 (v12.Wait))]), (37, .c (.lit (.int .u32 (v11)))), (36, .c (.lit (.int .i64 (IntKind.wrap .i64 (s3.2.1 + 1))))), (35, .c (.lit (.int .i64 (s3.2.1)))), (34, .c (.slc 1 0 (List.map (ecI .u32) (a0)))), (33, .c (.lit (.bool (v10)))), (32, .c (.lit (.int .i64 (s3.2.1)))), (31, .c (.slc 1 0 (List.map (ecI .u8) (a1)))), (30, .agg [.lit (.int .i64 (s3.2.2.State)), .lit (.int .i64 (s3.2.2.Busy)), .lit (.int .i64 (s3.2.2.Exponent)), .lit (.int .i64 (s3.2.2.Clear)), .lit (.int .i64 (s3.2.2.Wait))]), (0, .c (.slc 1 0 (List.map (ecI .u32) (a0)))), (1, .c (.slc 1 0 (List.map (ecI .u8) (a1)))), (5, .c (.box 5 0)), (6, .c (.lit (.int .i64 (v9)))), (7, .c (.lit (.int .i64 (s3.2.1))))], ⟨[(5, [.lit (.int .i64 (v12.State)), .lit (.int .i64 (v12.Busy)), .lit (.int .i64 (v12.Exponent)), .lit (.int .i64 (v12.Clear)), .lit (.int .i64 (v12.Wait))])], []⟩⟩ (by kernel_rfl) ?_
            refine T_keep [0, 1, 5, 6, 7] [5] [] ?_
            refine T_seq ?_
            replace h := condO h
            rcases h with ⟨hb13, h⟩ | ⟨hb13, h⟩
            · refine T_region ?_
              refine TL_runs 3 ⟨[(41, .c (.lit (.int .i64 (v9)))), (40, .c (.lit (.int .i64 (v12.Busy)))), (39, .c (.box 5 1)), (0, .c (.slc 1 0 (List.map (ecI .u32) (a0)))), (1, .c (.slc 1 0 (List.map (ecI .u8) (a1)))), (5, .c (.box 5 0)), (6, .c (.lit (.int .i64 (v9)))), (7, .c (.lit (.int .i64 (s3.2.1))))], ⟨[(5, [.lit (.int .i64 (v12.State)), .lit (.int .i64 (v12.Busy)), .lit (.int .i64 (v12.Exponent)), .lit (.int .i64 (v12.Clear)), .lit (.int .i64 (v12.Wait))])], []⟩⟩ (by kernel_rfl) ?_
              refine TL_grow (.c (.lit (.bool (true)))) (by kernel_rfl) (by kernel_rfl) (grow_bool (e := (v12.Busy != v9)) (by kernel_rfl) hb13) ?_
              refine TL_end ⟨[(50, .c (.lit (.bool (true)))), (49, .tup []), (48, .tup []), (47, .tup []), (46, .tup []), (45, .tup []), (44, .tup []), (43, .c (.lit (.bool (true)))), (42, .c (.lit (.bool (true)))), (41, .c (.lit (.int .i64 (v9)))), (40, .c (.lit (.int .i64 (v12.Busy)))), (39, .c (.box 5 1)), (0, .c (.slc 1 0 (List.map (ecI .u32) (a0)))), (1, .c (.slc 1 0 (List.map (ecI .u8) (a1)))), (5, .c (.box 5 0)), (6, .c (.lit (.int .i64 (v9)))), (7, .c (.lit (.int .i64 (s3.2.1))))], ⟨[(5, [.lit (.int .i64 (v12.State)), .lit (.int .i64 (v12.Busy)), .lit (.int .i64 (v12.Exponent)), .lit (.int .i64 (v12.Clear)), .lit (.int .i64 (v12.Wait))])], []⟩⟩ (by kernel_rfl) ?_
              refine T_keep [50, 0, 1, 5, 6, 7] [5] [] ?_
              refine T_condT (by kernel_rfl) ?_
              refine T_seq ?_
              refine T_runs ⟨[(4, .c (.lit (.bool (false)))), (50, .c (.lit (.bool (true)))), (0, .c (.slc 1 0 (List.map (ecI .u32) (a0)))), (1, .c (.slc 1 0 (List.map (ecI .u8) (a1)))), (5, .c (.box 5 0)), (6, .c (.lit (.int .i64 (v9)))), (7, .c (.lit (.int .i64 (s3.2.1))))], ⟨[(5, [.lit (.int .i64 (v12.State)), .lit (.int .i64 (v12.Busy)), .lit (.int .i64 (v12.Exponent)), .lit (.int .i64 (v12.Clear)), .lit (.int .i64 (v12.Wait))])], []⟩⟩ (by kernel_rfl) ?_
              refine T_keep [4] [] [] ?_
              refine T_ret ?_
              refine blockQ_ret ?_
              refine thenQ_ret ?_
              obtain rfl := Option.some.inj h
              exact ⟨_, rfl, rfl, [(false, [.lit (.bool (false))])], by kernel_rfl, by kernel_rfl⟩
            · refine T_region ?_
              refine TL_runs 3 ⟨[(41, .c (.lit (.int .i64 (v9)))), (40, .c (.lit (.int .i64 (v12.Busy)))), (39, .c (.box 5 1)), (0, .c (.slc 1 0 (List.map (ecI .u32) (a0)))), (1, .c (.slc 1 0 (List.map (ecI .u8) (a1)))), (5, .c (.box 5 0)), (6, .c (.lit (.int .i64 (v9)))), (7, .c (.lit (.int .i64 (s3.2.1))))], ⟨[(5, [.lit (.int .i64 (v12.State)), .lit (.int .i64 (v12.Busy)), .lit (.int .i64 (v12.Exponent)), .lit (.int .i64 (v12.Clear)), .lit (.int .i64 (v12.Wait))])], []⟩⟩ (by kernel_rfl) ?_
              refine TL_grow (.c (.lit (.bool (false)))) (by kernel_rfl) (by kernel_rfl) (grow_bool (e := (v12.Busy != v9)) (by kernel_rfl) hb13) ?_
              refine TL_end ⟨[(50, .c (.lit (.bool ((!((v12.State == 4) == (v9 == 5))))))), (49, .c (.lit (.bool ((!((v12.State == 4) == (v9 == 5))))))), (48, .c (.lit (.bool ((v9 == 5))))), (47, .c (.lit (.int .i64 (v9)))), (46, .c (.lit (.bool ((v12.State == 4))))), (45, .c (.lit (.int .i64 (v12.State)))), (44, .c (.box 5 0)), (43, .c (.lit (.bool (false)))), (42, .c (.lit (.bool (false)))), (41, .c (.lit (.int .i64 (v9)))), (40, .c (.lit (.int .i64 (v12.Busy)))), (39, .c (.box 5 1)), (0, .c (.slc 1 0 (List.map (ecI .u32) (a0)))), (1, .c (.slc 1 0 (List.map (ecI .u8) (a1)))), (5, .c (.box 5 0)), (6, .c (.lit (.int .i64 (v9)))), (7, .c (.lit (.int .i64 (s3.2.1))))], ⟨[(5, [.lit (.int .i64 (v12.State)), .lit (.int .i64 (v12.Busy)), .lit (.int .i64 (v12.Exponent)), .lit (.int .i64 (v12.Clear)), .lit (.int .i64 (v12.Wait))])], []⟩⟩ (by kernel_rfl) ?_
              refine T_keep [50, 0, 1, 5, 6, 7] [5] [] ?_
              replace h := condO h
              rcases h with ⟨hb14, h⟩ | ⟨hb14, h⟩
              · refine T_condF' (e := (!((v12.State == 4) == (v9 == 5)))) (by kernel_rfl) (notF hb14) ?_
                refine T_skip ?_
                refine blockQ_normal ?_
                refine T_runs ⟨[(7, .c (.lit (.int .i64 (IntKind.wrap .i64 (s3.2.1 + 1))))), (19, .c (.lit (.int .i64 (IntKind.wrap .i64 (s3.2.1 + 1))))), (18, .c (.lit (.int .i64 (s3.2.1)))), (50, .c (.lit (.bool ((!((v12.State == 4) == (v9 == 5))))))), (0, .c (.slc 1 0 (List.map (ecI .u32) (a0)))), (1, .c (.slc 1 0 (List.map (ecI .u8) (a1)))), (5, .c (.box 5 0)), (6, .c (.lit (.int .i64 (v9))))], ⟨[(5, [.lit (.int .i64 (v12.State)), .lit (.int .i64 (v12.Busy)), .lit (.int .i64 (v12.Exponent)), .lit (.int .i64 (v12.Clear)), .lit (.int .i64 (v12.Wait))])], []⟩⟩ (by kernel_rfl) ?_
                obtain rfl := Option.some.inj h
                exact ⟨_, rfl, by kernel_rfl⟩
              · refine T_condT' (e := (!((v12.State == 4) == (v9 == 5)))) (by kernel_rfl) (notT hb14) ?_
                refine T_seq ?_
                refine T_runs ⟨[(4, .c (.lit (.bool (false)))), (50, .c (.lit (.bool ((!((v12.State == 4) == (v9 == 5))))))), (0, .c (.slc 1 0 (List.map (ecI .u32) (a0)))), (1, .c (.slc 1 0 (List.map (ecI .u8) (a1)))), (5, .c (.box 5 0)), (6, .c (.lit (.int .i64 (v9)))), (7, .c (.lit (.int .i64 (s3.2.1))))], ⟨[(5, [.lit (.int .i64 (v12.State)), .lit (.int .i64 (v12.Busy)), .lit (.int .i64 (v12.Exponent)), .lit (.int .i64 (v12.Clear)), .lit (.int .i64 (v12.Wait))])], []⟩⟩ (by kernel_rfl) ?_
                refine T_keep [4] [] [] ?_
                refine T_ret ?_
                refine blockQ_ret ?_
                refine thenQ_ret ?_
                obtain rfl := Option.some.inj h
                exact ⟨_, rfl, rfl, [(false, [.lit (.bool (false))])], by kernel_rfl, by kernel_rfl⟩
        · refine T_seq ?_
          replace h := condO h
          rcases h with ⟨hb15, h⟩ | ⟨hb15, h⟩
          · replace h := bindO h
            obtain ⟨v16, hv16, h⟩ := h
            refine T_region ?_
            refine TL_runs 2 ⟨[(21, .c (.lit (.int .i64 (s3.2.2.State)))), (20, .c (.box 5 0)), (17, .c (.lit (.bool (true)))), (0, .c (.slc 1 0 (List.map (ecI .u32) (a0)))), (1, .c (.slc 1 0 (List.map (ecI .u8) (a1)))), (5, .c (.box 5 0)), (6, .c (.lit (.int .i64 (s3.1)))), (7, .c (.lit (.int .i64 (s3.2.1))))], ⟨[(5, [.lit (.int .i64 (s3.2.2.State)), .lit (.int .i64 (s3.2.2.Busy)), .lit (.int .i64 (s3.2.2.Exponent)), .lit (.int .i64 (s3.2.2.Clear)), .lit (.int .i64 (s3.2.2.Wait))])], []⟩⟩ (by kernel_rfl) ?_
            refine TL_grow (.c (.lit (.bool (true)))) (by kernel_rfl) (by kernel_rfl) (grow_bool (e := (s3.2.2.State == 2)) (by kernel_rfl) hb15) ?_
            refine TL_runs 3 ⟨[(25, .c (.lit (.int .i64 (s3.2.1)))), (24, .c (.slc 1 0 (List.map (ecI .u8) (a1)))), (23, .c (.lit (.bool (true)))), (22, .c (.lit (.bool (true)))), (21, .c (.lit (.int .i64 (s3.2.2.State)))), (20, .c (.box 5 0)), (17, .c (.lit (.bool (true)))), (0, .c (.slc 1 0 (List.map (ecI .u32) (a0)))), (1, .c (.slc 1 0 (List.map (ecI .u8) (a1)))), (5, .c (.box 5 0)), (6, .c (.lit (.int .i64 (s3.1)))), (7, .c (.lit (.int .i64 (s3.2.1))))], ⟨[(5, [.lit (.int .i64 (s3.2.2.State)), .lit (.int .i64 (s3.2.2.Busy)), .lit (.int .i64 (s3.2.2.Exponent)), .lit (.int .i64 (s3.2.2.Clear)), .lit (.int .i64 (s3.2.2.Wait))])], []⟩⟩ (by kernel_rfl) ?_
            refine TL_grow (.c (.lit (.bool (v16)))) (by kernel_rfl) (by kernel_rfl) (grow_call 22 Try.f22 [[2], [0]] [.c (.slc 1 0 (List.map (ecI .u8) (a1))), .c (.lit (.int .i64 (s3.2.1)))] rfl (by kernel_rfl) Try.func22 (by kernel_rfl) (by kernel_rfl) (by kernel_rfl) (ok_law08_busy a1 s3.2.1 v16 hv16)) ?_
            refine TL_end ⟨[(27, .c (.lit (.bool (v16)))), (26, .c (.lit (.bool (v16)))), (25, .c (.lit (.int .i64 (s3.2.1)))), (24, .c (.slc 1 0 (List.map (ecI .u8) (a1)))), (23, .c (.lit (.bool (true)))), (22, .c (.lit (.bool (true)))), (21, .c (.lit (.int .i64 (s3.2.2.State)))), (20, .c (.box 5 0)), (17, .c (.lit (.bool (true)))), (0, .c (.slc 1 0 (List.map (ecI .u32) (a0)))), (1, .c (.slc 1 0 (List.map (ecI .u8) (a1)))), (5, .c (.box 5 0)), (6, .c (.lit (.int .i64 (s3.1)))), (7, .c (.lit (.int .i64 (s3.2.1))))], ⟨[(5, [.lit (.int .i64 (s3.2.2.State)), .lit (.int .i64 (s3.2.2.Busy)), .lit (.int .i64 (s3.2.2.Exponent)), .lit (.int .i64 (s3.2.2.Clear)), .lit (.int .i64 (s3.2.2.Wait))])], []⟩⟩ (by kernel_rfl) ?_
            refine T_keep [27, 0, 1, 5, 6, 7] [5] [] ?_
            replace h := condO h
            rcases h with ⟨hb17, h⟩ | ⟨hb17, h⟩
            · subst hb17
              refine T_condT (by kernel_rfl) ?_
              refine T_runs ⟨[(6, .c (.lit (.int .i64 (IntKind.wrap .i64 (s3.1 + 1))))), (29, .c (.lit (.int .i64 (IntKind.wrap .i64 (s3.1 + 1))))), (28, .c (.lit (.int .i64 (s3.1)))), (27, .c (.lit (.bool (true)))), (0, .c (.slc 1 0 (List.map (ecI .u32) (a0)))), (1, .c (.slc 1 0 (List.map (ecI .u8) (a1)))), (5, .c (.box 5 0)), (7, .c (.lit (.int .i64 (s3.2.1))))], ⟨[(5, [.lit (.int .i64 (s3.2.2.State)), .lit (.int .i64 (s3.2.2.Busy)), .lit (.int .i64 (s3.2.2.Exponent)), .lit (.int .i64 (s3.2.2.Clear)), .lit (.int .i64 (s3.2.2.Wait))])], []⟩⟩ (by kernel_rfl) ?_
              exact ⟨IntKind.wrap .i64 (s3.1 + 1), h, by kernel_rfl⟩
            · subst hb17
              refine T_condF (by kernel_rfl) ?_
              refine T_skip ?_
              exact ⟨s3.1, h, by kernel_rfl⟩
          · refine T_region ?_
            refine TL_runs 2 ⟨[(21, .c (.lit (.int .i64 (s3.2.2.State)))), (20, .c (.box 5 0)), (17, .c (.lit (.bool (true)))), (0, .c (.slc 1 0 (List.map (ecI .u32) (a0)))), (1, .c (.slc 1 0 (List.map (ecI .u8) (a1)))), (5, .c (.box 5 0)), (6, .c (.lit (.int .i64 (s3.1)))), (7, .c (.lit (.int .i64 (s3.2.1))))], ⟨[(5, [.lit (.int .i64 (s3.2.2.State)), .lit (.int .i64 (s3.2.2.Busy)), .lit (.int .i64 (s3.2.2.Exponent)), .lit (.int .i64 (s3.2.2.Clear)), .lit (.int .i64 (s3.2.2.Wait))])], []⟩⟩ (by kernel_rfl) ?_
            refine TL_grow (.c (.lit (.bool (false)))) (by kernel_rfl) (by kernel_rfl) (grow_bool (e := (s3.2.2.State == 2)) (by kernel_rfl) hb15) ?_
            refine TL_end ⟨[(27, .c (.lit (.bool (false)))), (26, .tup []), (25, .tup []), (24, .tup []), (23, .c (.lit (.bool (false)))), (22, .c (.lit (.bool (false)))), (21, .c (.lit (.int .i64 (s3.2.2.State)))), (20, .c (.box 5 0)), (17, .c (.lit (.bool (true)))), (0, .c (.slc 1 0 (List.map (ecI .u32) (a0)))), (1, .c (.slc 1 0 (List.map (ecI .u8) (a1)))), (5, .c (.box 5 0)), (6, .c (.lit (.int .i64 (s3.1)))), (7, .c (.lit (.int .i64 (s3.2.1))))], ⟨[(5, [.lit (.int .i64 (s3.2.2.State)), .lit (.int .i64 (s3.2.2.Busy)), .lit (.int .i64 (s3.2.2.Exponent)), .lit (.int .i64 (s3.2.2.Clear)), .lit (.int .i64 (s3.2.2.Wait))])], []⟩⟩ (by kernel_rfl) ?_
            refine T_keep [27, 0, 1, 5, 6, 7] [5] [] ?_
            refine T_condF (by kernel_rfl) ?_
            refine T_skip ?_
            exact ⟨s3.1, h, by kernel_rfl⟩
    · refine T_region ?_
      refine TL_runs 1 ⟨[(11, .c (.lit (.int .i64 (s3.2.1)))), (0, .c (.slc 1 0 (List.map (ecI .u32) (a0)))), (1, .c (.slc 1 0 (List.map (ecI .u8) (a1)))), (5, .c (.box 5 0)), (6, .c (.lit (.int .i64 (s3.1)))), (7, .c (.lit (.int .i64 (s3.2.1))))], ⟨[(5, [.lit (.int .i64 (s3.2.2.State)), .lit (.int .i64 (s3.2.2.Busy)), .lit (.int .i64 (s3.2.2.Exponent)), .lit (.int .i64 (s3.2.2.Clear)), .lit (.int .i64 (s3.2.2.Wait))])], []⟩⟩ (by kernel_rfl) ?_
      refine TL_grow (.c (.lit (.bool (false)))) (by kernel_rfl) (by kernel_rfl) (grow_bool (e := (decide (s3.2.1 < 125))) (by kernel_rfl) hb5) ?_
      refine TL_end ⟨[(17, .c (.lit (.bool (false)))), (16, .tup []), (15, .tup []), (14, .tup []), (13, .c (.lit (.bool (false)))), (12, .c (.lit (.bool (false)))), (11, .c (.lit (.int .i64 (s3.2.1)))), (0, .c (.slc 1 0 (List.map (ecI .u32) (a0)))), (1, .c (.slc 1 0 (List.map (ecI .u8) (a1)))), (5, .c (.box 5 0)), (6, .c (.lit (.int .i64 (s3.1)))), (7, .c (.lit (.int .i64 (s3.2.1))))], ⟨[(5, [.lit (.int .i64 (s3.2.2.State)), .lit (.int .i64 (s3.2.2.Busy)), .lit (.int .i64 (s3.2.2.Exponent)), .lit (.int .i64 (s3.2.2.Clear)), .lit (.int .i64 (s3.2.2.Wait))])], []⟩⟩ (by kernel_rfl) ?_
      refine T_keep [17, 0, 1, 5, 6, 7] [5] [] ?_
      refine T_condF (by kernel_rfl) ?_
      refine T_exit ?_
      refine thenQ_exit ?_
      obtain rfl := Option.some.inj h
      exact ⟨_, rfl, rfl, by kernel_rfl⟩
  · intro e st hq
    cases y18 with
    | inl b4 =>
      obtain ⟨rfl, hst⟩ := hq
      refine blockQ_exit ?_
      refine T_keepS [6] [] ?_
      refine T_sub hst ?_
      refine T_seq ?_
      replace h := bindO h
      obtain ⟨v20, hv20, h⟩ := h
      replace h := condO h
      rcases h with ⟨hb21, h⟩ | ⟨hb21, h⟩
      · subst hb21
        refine T_region ?_
        refine TL_grow (.c (.lit (.bool (true)))) (by kernel_rfl) (by kernel_rfl) (grow_call 18 Try.f18 [] [] rfl (by kernel_rfl) Try.func18 (by kernel_rfl) (by kernel_rfl) (by kernel_rfl) (ok_law08_known  true hv20)) ?_
        refine TL_end ⟨[(4, .c (.lit (.bool ((decide (b4 ≤ 5)))))), (55, .c (.lit (.bool ((decide (b4 ≤ 5)))))), (54, .c (.lit (.bool ((decide (b4 ≤ 5)))))), (53, .c (.lit (.int .i64 (b4)))), (52, .c (.lit (.bool (true)))), (51, .c (.lit (.bool (true)))), (6, .c (.lit (.int .i64 (b4))))], ⟨[], []⟩⟩ (by kernel_rfl) ?_
        refine T_keep [4] [] [] ?_
        refine T_ret ?_
        obtain rfl := Option.some.inj h
        exact ⟨[(false, [.lit (.bool ((decide (b4 ≤ 5))))])], by kernel_rfl, by kernel_rfl⟩
      · subst hb21
        refine T_region ?_
        refine TL_grow (.c (.lit (.bool (false)))) (by kernel_rfl) (by kernel_rfl) (grow_call 18 Try.f18 [] [] rfl (by kernel_rfl) Try.func18 (by kernel_rfl) (by kernel_rfl) (by kernel_rfl) (ok_law08_known  false hv20)) ?_
        refine TL_end ⟨[(4, .c (.lit (.bool (false)))), (55, .c (.lit (.bool (false)))), (54, .tup []), (53, .tup []), (52, .c (.lit (.bool (false)))), (51, .c (.lit (.bool (false)))), (6, .c (.lit (.int .i64 (b4))))], ⟨[], []⟩⟩ (by kernel_rfl) ?_
        refine T_keep [4] [] [] ?_
        refine T_ret ?_
        obtain rfl := Option.some.inj h
        exact ⟨[(false, [.lit (.bool (false))])], by kernel_rfl, by kernel_rfl⟩
    | inr v =>
      obtain ⟨rfl, hq⟩ := hq
      obtain rfl := Option.some.inj h
      repeat (first | refine thenQ_ret ?_ | refine blockQ_ret ?_)
      exact hq

/-- multihop/multihoplaw08.BackoffQuiet -/
noncomputable def F_law08_BackoffQuiet_l1 (a0 : Int) (a1 : List Int) (s2 : Int × S_Backoff) : Option ((Int × S_Backoff) ⊕ ((S_Backoff) ⊕ (Bool))) :=
  bif (decide (s2.1 < (IntKind.wrap .i64 ((IntKind.wrap .i64 (Int.tmod a0 8)) + 2)))) then
    (F_backoff_Ended s2.2).bind fun v5 =>
    bif v5 then
      some (Sum.inr (Sum.inr (false)))
    else
      (F_law08_at a1 s2.1).bind fun v7 =>
      (F_backoff_Step s2.2 false v7).bind fun v8 =>
      some (Sum.inl (IntKind.wrap .i64 (s2.1 + 1), v8))
  else
    some (Sum.inr (Sum.inl s2.2))
noncomputable def F_law08_BackoffQuiet (a0 : Int) (a1 : List Int) : Option (Bool) :=
  (F_backoff_Begin a0).bind fun v1 =>
  (loopO (F_law08_BackoffQuiet_l1 a0 a1) (0, v1)).bind fun y9 =>
  match y9 with
  | Sum.inl b3 =>
    (F_law08_known ).bind fun v11 =>
    bif v11 then
      some ((b3.State == 3))
    else
      some (false)
  | Sum.inr v => some v
set_option maxRecDepth 100000 in
theorem ok_law08_BackoffQuiet (a0 : Int) (a1 : List Int) (r : Bool) (h : F_law08_BackoffQuiet a0 a1 = some r) : Pure Try.prog 8 [.c (.lit (.int .u32 (a0))), .c (.slc 1 0 (List.map (ecI .u32) (a1)))] (.c (.lit (.bool (r)))) := by
  unfold F_law08_BackoffQuiet at h
  refine pure_of [[0]] 32 Try.func8 rfl rfl rfl (by kernel_rfl) (fun K => ?_)
  refine T_seq ?_
  refine T_runs ⟨[(4, .c (.lit (.bool (false)))), (0, .c (.lit (.int .u32 (a0)))), (1, .c (.slc 1 0 (List.map (ecI .u32) (a1))))], ⟨[], []⟩⟩ (by kernel_rfl) ?_
  refine T_seq ?_
  refine T_runs ⟨[(5, .c (.lit (.int .i64 (IntKind.wrap .i64 ((IntKind.wrap .i64 (Int.tmod a0 8)) + 2))))), (11, .c (.lit (.int .i64 (IntKind.wrap .i64 ((IntKind.wrap .i64 (Int.tmod a0 8)) + 2))))), (10, .c (.lit (.int .i64 (IntKind.wrap .i64 (Int.tmod a0 8))))), (9, .c (.lit (.int .u32 (Int.tmod a0 8)))), (8, .c (.lit (.int .u32 (a0)))), (4, .c (.lit (.bool (false)))), (0, .c (.lit (.int .u32 (a0)))), (1, .c (.slc 1 0 (List.map (ecI .u32) (a1))))], ⟨[], []⟩⟩ (by kernel_rfl) ?_
  refine T_keep [5, 0, 1] [] [] ?_
  refine T_seq ?_
  replace h := bindO h
  obtain ⟨v1, hv1, h⟩ := h
  refine T_region ?_
  refine TL_runs 1 ⟨[(12, .c (.lit (.int .u32 (a0)))), (5, .c (.lit (.int .i64 (IntKind.wrap .i64 ((IntKind.wrap .i64 (Int.tmod a0 8)) + 2))))), (0, .c (.lit (.int .u32 (a0)))), (1, .c (.slc 1 0 (List.map (ecI .u32) (a1))))], ⟨[], []⟩⟩ (by kernel_rfl) ?_
  refine TL_grow (.agg [.lit (.int .i64 (v1.State)), .lit (.int .i64 (v1.Busy)), .lit (.int .i64 (v1.Exponent)), .lit (.int .i64 (v1.Clear)), .lit (.int .i64 (v1.Wait))]) (by kernel_rfl) (by kernel_rfl) (grow_call 19 Try.f19 [[0]] [.c (.lit (.int .u32 (a0)))] rfl (by kernel_rfl) Try.func19 (by kernel_rfl) (by kernel_rfl) (by kernel_rfl) (ok_backoff_Begin a0 v1 hv1)) ?_
  refine TL_end ⟨[(6, .c (.box 6 0)), (13, .agg [.lit (.int .i64 (v1.State)), .lit (.int .i64 (v1.Busy)), .lit (.int .i64 (v1.Exponent)), .lit (.int .i64 (v1.Clear)), .lit (.int .i64 (v1.Wait))]), (12, .c (.lit (.int .u32 (a0)))), (5, .c (.lit (.int .i64 (IntKind.wrap .i64 ((IntKind.wrap .i64 (Int.tmod a0 8)) + 2))))), (0, .c (.lit (.int .u32 (a0)))), (1, .c (.slc 1 0 (List.map (ecI .u32) (a1))))], ⟨[(6, [.lit (.int .i64 (v1.State)), .lit (.int .i64 (v1.Busy)), .lit (.int .i64 (v1.Exponent)), .lit (.int .i64 (v1.Clear)), .lit (.int .i64 (v1.Wait))])], []⟩⟩ (by kernel_rfl) ?_
  refine T_keep [6, 5, 1] [6] [] ?_
  refine T_seq ?_
  refine T_seq ?_
  refine T_runs ⟨[(7, .c (.lit (.int .i64 (0)))), (6, .c (.box 6 0)), (5, .c (.lit (.int .i64 (IntKind.wrap .i64 ((IntKind.wrap .i64 (Int.tmod a0 8)) + 2))))), (1, .c (.slc 1 0 (List.map (ecI .u32) (a1))))], ⟨[(6, [.lit (.int .i64 (v1.State)), .lit (.int .i64 (v1.Busy)), .lit (.int .i64 (v1.Exponent)), .lit (.int .i64 (v1.Clear)), .lit (.int .i64 (v1.Wait))])], []⟩⟩ (by kernel_rfl) ?_
  refine T_block ?_
  refine T_keepS [1, 5, 6, 7] [6] ?_
  refine T_sub (by kernel_rfl : _ = (fun (s2 : Int × S_Backoff) => ⟨[(1, .c (.slc 1 0 (List.map (ecI .u32) (a1)))), (5, .c (.lit (.int .i64 (IntKind.wrap .i64 ((IntKind.wrap .i64 (Int.tmod a0 8)) + 2))))), (6, .c (.box 6 0)), (7, .c (.lit (.int .i64 (s2.1))))], ⟨[(6, [.lit (.int .i64 (s2.2.State)), .lit (.int .i64 (s2.2.Busy)), .lit (.int .i64 (s2.2.Exponent)), .lit (.int .i64 (s2.2.Clear)), .lit (.int .i64 (s2.2.Wait))])], []⟩⟩) (0, v1)) ?_
  replace h := bindO h
  obtain ⟨y9, hl10, h⟩ := h
  refine T_loopS [1, 5, 6, 7] [6] (F_law08_BackoffQuiet_l1 a0 a1) (fun (s2 : Int × S_Backoff) => ⟨[(1, .c (.slc 1 0 (List.map (ecI .u32) (a1)))), (5, .c (.lit (.int .i64 (IntKind.wrap .i64 ((IntKind.wrap .i64 (Int.tmod a0 8)) + 2))))), (6, .c (.box 6 0)), (7, .c (.lit (.int .i64 (s2.1))))], ⟨[(6, [.lit (.int .i64 (s2.2.State)), .lit (.int .i64 (s2.2.Busy)), .lit (.int .i64 (s2.2.Exponent)), .lit (.int .i64 (s2.2.Clear)), .lit (.int .i64 (s2.2.Wait))])], []⟩⟩) (fun y9 e st => match y9 with | Sum.inl b3 => e = .exit 0 ∧ St.keepS st [6] [6] = ⟨[(6, .c (.box 6 0))], ⟨[(6, [.lit (.int .i64 (b3.State)), .lit (.int .i64 (b3.Busy)), .lit (.int .i64 (b3.Exponent)), .lit (.int .i64 (b3.Clear)), .lit (.int .i64 (b3.Wait))])], []⟩⟩ | Sum.inr v => e = .ret ∧ ∃ xs, resL Try.prog st [[0]] Try.f8.results.toList = some xs ∧ resV xs = some (.c (.lit (.bool (v))))) (0, v1) _ hl10 ?_ ?_
  · intro s2 x h
    unfold F_law08_BackoffQuiet_l1 at h
    refine T_seq ?_
    refine T_seq ?_
    refine T_runs ⟨[(16, .c (.lit (.bool ((decide (s2.1 < (IntKind.wrap .i64 ((IntKind.wrap .i64 (Int.tmod a0 8)) + 2)))))))), (15, .c (.lit (.int .i64 (IntKind.wrap .i64 ((IntKind.wrap .i64 (Int.tmod a0 8)) + 2))))), (14, .c (.lit (.int .i64 (s2.1)))), (1, .c (.slc 1 0 (List.map (ecI .u32) (a1)))), (5, .c (.lit (.int .i64 (IntKind.wrap .i64 ((IntKind.wrap .i64 (Int.tmod a0 8)) + 2))))), (6, .c (.box 6 0)), (7, .c (.lit (.int .i64 (s2.1))))], ⟨[(6, [.lit (.int .i64 (s2.2.State)), .lit (.int .i64 (s2.2.Busy)), .lit (.int .i64 (s2.2.Exponent)), .lit (.int .i64 (s2.2.Clear)), .lit (.int .i64 (s2.2.Wait))])], []⟩⟩ (by kernel_rfl) ?_
    replace h := condO h
    rcases h with ⟨hb4, h⟩ | ⟨hb4, h⟩
    · refine T_condT' (e := (decide (s2.1 < (IntKind.wrap .i64 ((IntKind.wrap .i64 (Int.tmod a0 8)) + 2))))) (by kernel_rfl) hb4 ?_
      refine T_skip ?_
      refine T_keep [1, 5, 6, 7] [6] [] ?_
      refine T_seq ?_
      refine T_block ?_
      refine T_seq ?_
      refine T_seq ?_
      replace h := bindO h
      obtain ⟨v5, hv5, h⟩ := h
      refine T_region ?_
      refine TL_runs 1 ⟨[(19, .agg [.lit (.int .i64 (s2.2.State)), .lit (.int .i64 (s2.2.Busy)), .lit (.int .i64 (s2.2.Exponent)), .lit (.int .i64 (s2.2.Clear)), .lit (.int .i64 (s2.2.Wait))]), (1, .c (.slc 1 0 (List.map (ecI .u32) (a1)))), (5, .c (.lit (.int .i64 (IntKind.wrap .i64 ((IntKind.wrap .i64 (Int.tmod a0 8)) + 2))))), (6, .c (.box 6 0)), (7, .c (.lit (.int .i64 (s2.1))))], ⟨[(6, [.lit (.int .i64 (s2.2.State)), .lit (.int .i64 (s2.2.Busy)), .lit (.int .i64 (s2.2.Exponent)), .lit (.int .i64 (s2.2.Clear)), .lit (.int .i64 (s2.2.Wait))])], []⟩⟩ (by kernel_rfl) ?_
      refine TL_grow (.c (.lit (.bool (v5)))) (by kernel_rfl) (by kernel_rfl) (grow_call 14 Try.f14 [[0, 0, 0, 0, 0]] [.agg (S_Backoff.cs s2.2)] rfl (by kernel_rfl) Try.func14 (by kernel_rfl) (by kernel_rfl) (by kernel_rfl) (ok_backoff_Ended s2.2 v5 hv5)) ?_
      refine TL_end ⟨[(20, .c (.lit (.bool (v5)))), (19, .agg [.lit (.int .i64 (s2.2.State)), .lit (.int .i64 (s2.2.Busy)), .lit (.int .i64 (s2.2.Exponent)), .lit (.int .i64 (s2.2.Clear)), .lit (.int .i64 (s2.2.Wait))]), (1, .c (.slc 1 0 (List.map (ecI .u32) (a1)))), (5, .c (.lit (.int .i64 (IntKind.wrap .i64 ((IntKind.wrap .i64 (Int.tmod a0 8)) + 2))))), (6, .c (.box 6 0)), (7, .c (.lit (.int .i64 (s2.1))))], ⟨[(6, [.lit (.int .i64 (s2.2.State)), .lit (.int .i64 (s2.2.Busy)), .lit (.int .i64 (s2.2.Exponent)), .lit (.int .i64 (s2.2.Clear)), .lit (.int .i64 (s2.2.Wait))])], []⟩⟩ (by kernel_rfl) ?_
      replace h := condO h
      rcases h with ⟨hb6, h⟩ | ⟨hb6, h⟩
      · subst hb6
        refine T_condT (by kernel_rfl) ?_
        refine T_seq ?_
        refine T_runs ⟨[(4, .c (.lit (.bool (false)))), (20, .c (.lit (.bool (true)))), (19, .agg [.lit (.int .i64 (s2.2.State)), .lit (.int .i64 (s2.2.Busy)), .lit (.int .i64 (s2.2.Exponent)), .lit (.int .i64 (s2.2.Clear)), .lit (.int .i64 (s2.2.Wait))]), (1, .c (.slc 1 0 (List.map (ecI .u32) (a1)))), (5, .c (.lit (.int .i64 (IntKind.wrap .i64 ((IntKind.wrap .i64 (Int.tmod a0 8)) + 2))))), (6, .c (.box 6 0)), (7, .c (.lit (.int .i64 (s2.1))))], ⟨[(6, [.lit (.int .i64 (s2.2.State)), .lit (.int .i64 (s2.2.Busy)), .lit (.int .i64 (s2.2.Exponent)), .lit (.int .i64 (s2.2.Clear)), .lit (.int .i64 (s2.2.Wait))])], []⟩⟩ (by kernel_rfl) ?_
        refine T_keep [4] [] [] ?_
        refine T_ret ?_
        refine thenQ_ret ?_
        refine blockQ_ret ?_
        refine thenQ_ret ?_
        obtain rfl := Option.some.inj h
        exact ⟨_, rfl, rfl, [(false, [.lit (.bool (false))])], by kernel_rfl, by kernel_rfl⟩
      · subst hb6
        refine T_condF (by kernel_rfl) ?_
        refine T_skip ?_
        replace h := bindO h
        obtain ⟨v7, hv7, h⟩ := h
        replace h := bindO h
        obtain ⟨v8, hv8, h⟩ := h
        refine T_drawX 5 ⟨[(25, .agg [.lit (.int .i64 (v8.State)), .lit (.int .i64 (v8.Busy)), .lit (.int .i64 (v8.Exponent)), .lit (.int .i64 (v8.Clear)), .lit (.int .i64 (v8.Wait))]), (24, .c (.lit (.int .u32 (v7)))), (23, .c (.lit (.int .i64 (s2.1)))), (22, .c (.slc 1 0 (List.map (ecI .u32) (a1)))), (21, .agg [.lit (.int .i64 (s2.2.State)), .lit (.int .i64 (s2.2.Busy)), .lit (.int .i64 (s2.2.Exponent)), .lit (.int .i64 (s2.2.Clear)), .lit (.int .i64 (s2.2.Wait))]), (20, .c (.lit (.bool (false)))), (19, .agg [.lit (.int .i64 (s2.2.State)), .lit (.int .i64 (s2.2.Busy)), .lit (.int .i64 (s2.2.Exponent)), .lit (.int .i64 (s2.2.Clear)), .lit (.int .i64 (s2.2.Wait))]), (1, .c (.slc 1 0 (List.map (ecI .u32) (a1)))), (5, .c (.lit (.int .i64 (IntKind.wrap .i64 ((IntKind.wrap .i64 (Int.tmod a0 8)) + 2))))), (6, .c (.box 6 0)), (7, .c (.lit (.int .i64 (s2.1))))], ⟨[(6, [.lit (.int .i64 (s2.2.State)), .lit (.int .i64 (s2.2.Busy)), .lit (.int .i64 (s2.2.Exponent)), .lit (.int .i64 (s2.2.Clear)), .lit (.int .i64 (s2.2.Wait))])], []⟩⟩ (by kernel_rfl) (by kernel_rfl) ?_ ?_
        · refine HeadX_runs 3 ⟨[(23, .c (.lit (.int .i64 (s2.1)))), (22, .c (.slc 1 0 (List.map (ecI .u32) (a1)))), (21, .agg [.lit (.int .i64 (s2.2.State)), .lit (.int .i64 (s2.2.Busy)), .lit (.int .i64 (s2.2.Exponent)), .lit (.int .i64 (s2.2.Clear)), .lit (.int .i64 (s2.2.Wait))]), (20, .c (.lit (.bool (false)))), (19, .agg [.lit (.int .i64 (s2.2.State)), .lit (.int .i64 (s2.2.Busy)), .lit (.int .i64 (s2.2.Exponent)), .lit (.int .i64 (s2.2.Clear)), .lit (.int .i64 (s2.2.Wait))]), (1, .c (.slc 1 0 (List.map (ecI .u32) (a1)))), (5, .c (.lit (.int .i64 (IntKind.wrap .i64 ((IntKind.wrap .i64 (Int.tmod a0 8)) + 2))))), (6, .c (.box 6 0)), (7, .c (.lit (.int .i64 (s2.1))))], ⟨[(6, [.lit (.int .i64 (s2.2.State)), .lit (.int .i64 (s2.2.Busy)), .lit (.int .i64 (s2.2.Exponent)), .lit (.int .i64 (s2.2.Clear)), .lit (.int .i64 (s2.2.Wait))])], []⟩⟩ (by kernel_rfl) ?_
          refine HeadX_op (.c (.lit (.int .u32 (v7)))) (by kernel_rfl) (by kernel_rfl) (grow_call 21 Try.f21 [[2], [0]] [.c (.slc 1 0 (List.map (ecI .u32) (a1))), .c (.lit (.int .i64 (s2.1)))] rfl (by kernel_rfl) Try.func21 (by kernel_rfl) (by kernel_rfl) (by kernel_rfl) (ok_law08_at a1 s2.1 v7 hv7)) ?_
          refine HeadX_op (.agg [.lit (.int .i64 (v8.State)), .lit (.int .i64 (v8.Busy)), .lit (.int .i64 (v8.Exponent)), .lit (.int .i64 (v8.Clear)), .lit (.int .i64 (v8.Wait))]) (by kernel_rfl) (by kernel_rfl) (grow_call 16 Try.f16 [[0, 0, 0, 0, 0], [0], [0]] [.agg (S_Backoff.cs s2.2), .c (.lit (.bool (false))), .c (.lit (.int .u32 (v7)))] rfl (by kernel_rfl) Try.func16 (by kernel_rfl) (by kernel_rfl) (by kernel_rfl) (ok_backoff_Step s2.2 false v7 v8 hv8)) ?_
          exact HeadX_end (by kernel_rfl)
        · refine TL_end ⟨[(25, .agg [.lit (.int .i64 (v8.State)), .lit (.int .i64 (v8.Busy)), .lit (.int .i64 (v8.Exponent)), .lit (.int .i64 (v8.Clear)), .lit (.int .i64 (v8.Wait))]), (24, .c (.lit (.int .u32 (v7)))), (23, .c (.lit (.int .i64 (s2.1)))), (22, .c (.slc 1 0 (List.map (ecI .u32) (a1)))), (21, .agg [.lit (.int .i64 (s2.2.State)), .lit (.int .i64 (s2.2.Busy)), .lit (.int .i64 (s2.2.Exponent)), .lit (.int .i64 (s2.2.Clear)), .lit (.int .i64 (s2.2.Wait))]), (20, .c (.lit (.bool (false)))), (19, .agg [.lit (.int .i64 (s2.2.State)), .lit (.int .i64 (s2.2.Busy)), .lit (.int .i64 (s2.2.Exponent)), .lit (.int .i64 (s2.2.Clear)), .lit (.int .i64 (s2.2.Wait))]), (1, .c (.slc 1 0 (List.map (ecI .u32) (a1)))), (5, .c (.lit (.int .i64 (IntKind.wrap .i64 ((IntKind.wrap .i64 (Int.tmod a0 8)) + 2))))), (6, .c (.box 6 0)), (7, .c (.lit (.int .i64 (s2.1))))], ⟨[(6, [.lit (.int .i64 (v8.State)), .lit (.int .i64 (v8.Busy)), .lit (.int .i64 (v8.Exponent)), .lit (.int .i64 (v8.Clear)), .lit (.int .i64 (v8.Wait))])], []⟩⟩ (by kernel_rfl) ?_
          refine blockQ_normal ?_
          refine T_keep [1, 5, 6, 7] [6] [] ?_
          refine T_runs ⟨[(7, .c (.lit (.int .i64 (IntKind.wrap .i64 (s2.1 + 1))))), (18, .c (.lit (.int .i64 (IntKind.wrap .i64 (s2.1 + 1))))), (17, .c (.lit (.int .i64 (s2.1)))), (1, .c (.slc 1 0 (List.map (ecI .u32) (a1)))), (5, .c (.lit (.int .i64 (IntKind.wrap .i64 ((IntKind.wrap .i64 (Int.tmod a0 8)) + 2))))), (6, .c (.box 6 0))], ⟨[(6, [.lit (.int .i64 (v8.State)), .lit (.int .i64 (v8.Busy)), .lit (.int .i64 (v8.Exponent)), .lit (.int .i64 (v8.Clear)), .lit (.int .i64 (v8.Wait))])], []⟩⟩ (by kernel_rfl) ?_
          obtain rfl := Option.some.inj h
          exact ⟨_, rfl, by kernel_rfl⟩
    · refine T_condF' (e := (decide (s2.1 < (IntKind.wrap .i64 ((IntKind.wrap .i64 (Int.tmod a0 8)) + 2))))) (by kernel_rfl) hb4 ?_
      refine T_exit ?_
      refine thenQ_exit ?_
      obtain rfl := Option.some.inj h
      exact ⟨_, rfl, rfl, by kernel_rfl⟩
  · intro e st hq
    cases y9 with
    | inl b3 =>
      obtain ⟨rfl, hst⟩ := hq
      refine blockQ_exit ?_
      refine T_keepS [6] [6] ?_
      refine T_sub hst ?_
      refine T_seq ?_
      replace h := bindO h
      obtain ⟨v11, hv11, h⟩ := h
      replace h := condO h
      rcases h with ⟨hb12, h⟩ | ⟨hb12, h⟩
      · subst hb12
        refine T_region ?_
        refine TL_grow (.c (.lit (.bool (true)))) (by kernel_rfl) (by kernel_rfl) (grow_call 18 Try.f18 [] [] rfl (by kernel_rfl) Try.func18 (by kernel_rfl) (by kernel_rfl) (by kernel_rfl) (ok_law08_known  true hv11)) ?_
        refine TL_end ⟨[(4, .c (.lit (.bool ((b3.State == 3))))), (31, .c (.lit (.bool ((b3.State == 3))))), (30, .c (.lit (.bool ((b3.State == 3))))), (29, .c (.lit (.int .i64 (b3.State)))), (28, .c (.box 6 0)), (27, .c (.lit (.bool (true)))), (26, .c (.lit (.bool (true)))), (6, .c (.box 6 0))], ⟨[(6, [.lit (.int .i64 (b3.State)), .lit (.int .i64 (b3.Busy)), .lit (.int .i64 (b3.Exponent)), .lit (.int .i64 (b3.Clear)), .lit (.int .i64 (b3.Wait))])], []⟩⟩ (by kernel_rfl) ?_
        refine T_keep [4] [] [] ?_
        refine T_ret ?_
        obtain rfl := Option.some.inj h
        exact ⟨[(false, [.lit (.bool ((b3.State == 3)))])], by kernel_rfl, by kernel_rfl⟩
      · subst hb12
        refine T_region ?_
        refine TL_grow (.c (.lit (.bool (false)))) (by kernel_rfl) (by kernel_rfl) (grow_call 18 Try.f18 [] [] rfl (by kernel_rfl) Try.func18 (by kernel_rfl) (by kernel_rfl) (by kernel_rfl) (ok_law08_known  false hv11)) ?_
        refine TL_end ⟨[(4, .c (.lit (.bool (false)))), (31, .c (.lit (.bool (false)))), (30, .tup []), (29, .tup []), (28, .tup []), (27, .c (.lit (.bool (false)))), (26, .c (.lit (.bool (false)))), (6, .c (.box 6 0))], ⟨[(6, [.lit (.int .i64 (b3.State)), .lit (.int .i64 (b3.Busy)), .lit (.int .i64 (b3.Exponent)), .lit (.int .i64 (b3.Clear)), .lit (.int .i64 (b3.Wait))])], []⟩⟩ (by kernel_rfl) ?_
        refine T_keep [4] [] [] ?_
        refine T_ret ?_
        obtain rfl := Option.some.inj h
        exact ⟨[(false, [.lit (.bool (false))])], by kernel_rfl, by kernel_rfl⟩
    | inr v =>
      obtain ⟨rfl, hq⟩ := hq
      obtain rfl := Option.some.inj h
      repeat (first | refine thenQ_ret ?_ | refine blockQ_ret ?_)
      exact hq

end Go.Proofs.Ytohhaibbbnobpaa
