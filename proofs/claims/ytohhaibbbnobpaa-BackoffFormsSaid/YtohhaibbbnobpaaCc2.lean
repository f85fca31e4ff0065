/-
  Written by cc.py: what the Go functions compute, as plain functions, and that they do.
-/
import Derived.Test.YtohhaibbbnobpaaCc1
namespace Go.Proofs.Ytohhaibbbnobpaa
open Go.RowKit

/-- multihop/backoff.Valid -/
noncomputable def F_backoff_Valid (a0 : S_Backoff) : Option (Bool) :=
  bif (decide (a0.Busy < 0)) then
    some (false)
  else
    bif (decide (a0.Busy > 5)) then
      some (false)
    else
      (F_backoff_exponent a0.Busy).bind fun v3 =>
      bif (a0.Exponent != v3) then
        some (false)
      else
        bif (a0.State == 4) then
          bif (a0.Busy == 5) then
            bif (a0.Clear == 2) then
              some ((a0.Wait == 0))
            else
              some (false)
          else
            some (false)
        else
          bif (decide (a0.Busy > 4)) then
            some (false)
          else
            bif (a0.State == 1) then
              bif (a0.Clear == 2) then
                bif (decide (a0.Wait ≥ 1)) then
                  bif decide (0 ≤ a0.Exponent) then
                    some ((decide (a0.Wait ≤ (IntKind.wrap .i64 ((ishl .i64 1 a0.Exponent) - 1)))))
                  else none
                else
                  some (false)
              else
                some (false)
            else
              bif (a0.State == 2) then
                bif (decide (a0.Clear ≥ 1)) then
                  bif (decide (a0.Clear ≤ 2)) then
                    some ((a0.Wait == 0))
                  else
                    some (false)
                else
                  some (false)
              else
                bif (a0.State == 3) then
                  bif (a0.Clear == 0) then
                    some ((a0.Wait == 0))
                  else
                    some (false)
                else
                  some (false)
set_option maxRecDepth 100000 in
theorem ok_backoff_Valid (a0 : S_Backoff) (r : Bool) (h : F_backoff_Valid a0 = some r) : Pure Try.prog 12 [.agg (S_Backoff.cs a0)] (.c (.lit (.bool (r)))) := by
  unfold F_backoff_Valid at h
  refine pure_of [[0]] 84 Try.func12 rfl rfl rfl (by kernel_rfl) (fun K => ?_)
  refine T_seq ?_
  refine T_runs ⟨[(2, .c (.lit (.bool (false)))), (1, .c (.box 1 0)), (0, .agg [.lit (.int .i64 (a0.State)), .lit (.int .i64 (a0.Busy)), .lit (.int .i64 (a0.Exponent)), .lit (.int .i64 (a0.Clear)), .lit (.int .i64 (a0.Wait))])], ⟨[(1, [.lit (.int .i64 (a0.State)), .lit (.int .i64 (a0.Busy)), .lit (.int .i64 (a0.Exponent)), .lit (.int .i64 (a0.Clear)), .lit (.int .i64 (a0.Wait))])], []⟩⟩ (by kernel_rfl) ?_
  refine T_seq ?_
  refine T_seq ?_
  replace h := condO h
  rcases h with ⟨hb1, h⟩ | ⟨hb1, h⟩
  · refine T_drawAllX ⟨[(18, .c (.lit (.bool (true)))), (17, .tup []), (16, .tup []), (15, .tup []), (14, .tup []), (13, .tup []), (12, .tup []), (11, .c (.lit (.bool (true)))), (10, .c (.lit (.bool (true)))), (9, .tup []), (8, .tup []), (7, .tup []), (6, .c (.lit (.bool (true)))), (5, .c (.lit (.bool (true)))), (4, .c (.lit (.int .i64 (a0.Busy)))), (3, .c (.box 1 1)), (2, .c (.lit (.bool (false)))), (1, .c (.box 1 0)), (0, .agg [.lit (.int .i64 (a0.State)), .lit (.int .i64 (a0.Busy)), .lit (.int .i64 (a0.Exponent)), .lit (.int .i64 (a0.Clear)), .lit (.int .i64 (a0.Wait))])], ⟨[(1, [.lit (.int .i64 (a0.State)), .lit (.int .i64 (a0.Busy)), .lit (.int .i64 (a0.Exponent)), .lit (.int .i64 (a0.Clear)), .lit (.int .i64 (a0.Wait))])], []⟩⟩ (by kernel_rfl) (by kernel_rfl) ?_ ?_
    · refine HeadX_runs 2 ⟨[(4, .c (.lit (.int .i64 (a0.Busy)))), (3, .c (.box 1 1)), (2, .c (.lit (.bool (false)))), (1, .c (.box 1 0)), (0, .agg [.lit (.int .i64 (a0.State)), .lit (.int .i64 (a0.Busy)), .lit (.int .i64 (a0.Exponent)), .lit (.int .i64 (a0.Clear)), .lit (.int .i64 (a0.Wait))])], ⟨[(1, [.lit (.int .i64 (a0.State)), .lit (.int .i64 (a0.Busy)), .lit (.int .i64 (a0.Exponent)), .lit (.int .i64 (a0.Clear)), .lit (.int .i64 (a0.Wait))])], []⟩⟩ (by kernel_rfl) ?_
      refine HeadX_op (.c (.lit (.bool (true)))) (by kernel_rfl) (by kernel_rfl) (grow_bool (e := (decide (a0.Busy < 0))) (by kernel_rfl) hb1) ?_
      exact HeadX_end (by kernel_rfl)
    · refine T_keep [18, 1] [1] [] ?_
      refine T_condT (by kernel_rfl) ?_
      refine T_seq ?_
      refine T_runs ⟨[(2, .c (.lit (.bool (false)))), (18, .c (.lit (.bool (true)))), (1, .c (.box 1 0))], ⟨[(1, [.lit (.int .i64 (a0.State)), .lit (.int .i64 (a0.Busy)), .lit (.int .i64 (a0.Exponent)), .lit (.int .i64 (a0.Clear)), .lit (.int .i64 (a0.Wait))])], []⟩⟩ (by kernel_rfl) ?_
      refine T_keep [2] [] [] ?_
      refine T_ret ?_
      refine thenQ_ret ?_
      obtain rfl := Option.some.inj h
      exact ⟨[(false, [.lit (.bool (false))])], by kernel_rfl, by kernel_rfl⟩
  · replace h := condO h
    rcases h with ⟨hb2, h⟩ | ⟨hb2, h⟩
    · refine T_drawAllX ⟨[(18, .c (.lit (.bool (true)))), (17, .tup []), (16, .tup []), (15, .tup []), (14, .tup []), (13, .tup []), (12, .tup []), (11, .c (.lit (.bool (true)))), (10, .c (.lit (.bool (true)))), (9, .c (.lit (.bool (true)))), (8, .c (.lit (.int .i64 (a0.Busy)))), (7, .c (.box 1 1)), (6, .c (.lit (.bool (false)))), (5, .c (.lit (.bool (false)))), (4, .c (.lit (.int .i64 (a0.Busy)))), (3, .c (.box 1 1)), (2, .c (.lit (.bool (false)))), (1, .c (.box 1 0)), (0, .agg [.lit (.int .i64 (a0.State)), .lit (.int .i64 (a0.Busy)), .lit (.int .i64 (a0.Exponent)), .lit (.int .i64 (a0.Clear)), .lit (.int .i64 (a0.Wait))])], ⟨[(1, [.lit (.int .i64 (a0.State)), .lit (.int .i64 (a0.Busy)), .lit (.int .i64 (a0.Exponent)), .lit (.int .i64 (a0.Clear)), .lit (.int .i64 (a0.Wait))])], []⟩⟩ (by kernel_rfl) (by kernel_rfl) ?_ ?_
      · refine HeadX_runs 2 ⟨[(4, .c (.lit (.int .i64 (a0.Busy)))), (3, .c (.box 1 1)), (2, .c (.lit (.bool (false)))), (1, .c (.box 1 0)), (0, .agg [.lit (.int .i64 (a0.State)), .lit (.int .i64 (a0.Busy)), .lit (.int .i64 (a0.Exponent)), .lit (.int .i64 (a0.Clear)), .lit (.int .i64 (a0.Wait))])], ⟨[(1, [.lit (.int .i64 (a0.State)), .lit (.int .i64 (a0.Busy)), .lit (.int .i64 (a0.Exponent)), .lit (.int .i64 (a0.Clear)), .lit (.int .i64 (a0.Wait))])], []⟩⟩ (by kernel_rfl) ?_
        refine HeadX_op (.c (.lit (.bool (false)))) (by kernel_rfl) (by kernel_rfl) (grow_bool (e := (decide (a0.Busy < 0))) (by kernel_rfl) hb1) ?_
        refine HeadX_runs 3 ⟨[(8, .c (.lit (.int .i64 (a0.Busy)))), (7, .c (.box 1 1)), (6, .c (.lit (.bool (false)))), (5, .c (.lit (.bool (false)))), (4, .c (.lit (.int .i64 (a0.Busy)))), (3, .c (.box 1 1)), (2, .c (.lit (.bool (false)))), (1, .c (.box 1 0)), (0, .agg [.lit (.int .i64 (a0.State)), .lit (.int .i64 (a0.Busy)), .lit (.int .i64 (a0.Exponent)), .lit (.int .i64 (a0.Clear)), .lit (.int .i64 (a0.Wait))])], ⟨[(1, [.lit (.int .i64 (a0.State)), .lit (.int .i64 (a0.Busy)), .lit (.int .i64 (a0.Exponent)), .lit (.int .i64 (a0.Clear)), .lit (.int .i64 (a0.Wait))])], []⟩⟩ (by kernel_rfl) ?_
        refine HeadX_op (.c (.lit (.bool (true)))) (by kernel_rfl) (by kernel_rfl) (grow_bool (e := (decide (a0.Busy > 5))) (by kernel_rfl) hb2) ?_
        exact HeadX_end (by kernel_rfl)
      · refine T_keep [18, 1] [1] [] ?_
        refine T_condT (by kernel_rfl) ?_
        refine T_seq ?_
        refine T_runs ⟨[(2, .c (.lit (.bool (false)))), (18, .c (.lit (.bool (true)))), (1, .c (.box 1 0))], ⟨[(1, [.lit (.int .i64 (a0.State)), .lit (.int .i64 (a0.Busy)), .lit (.int .i64 (a0.Exponent)), .lit (.int .i64 (a0.Clear)), .lit (.int .i64 (a0.Wait))])], []⟩⟩ (by kernel_rfl) ?_
        refine T_keep [2] [] [] ?_
        refine T_ret ?_
        refine thenQ_ret ?_
        obtain rfl := Option.some.inj h
        exact ⟨[(false, [.lit (.bool (false))])], by kernel_rfl, by kernel_rfl⟩
    · replace h := bindO h
      obtain ⟨v3, hv3, h⟩ := h
      refine T_drawAllX ⟨[(18, .c (.lit (.bool ((a0.Exponent != v3))))), (17, .c (.lit (.bool ((a0.Exponent != v3))))), (16, .c (.lit (.int .i64 (v3)))), (15, .c (.lit (.int .i64 (a0.Busy)))), (14, .c (.box 1 1)), (13, .c (.lit (.int .i64 (a0.Exponent)))), (12, .c (.box 1 2)), (11, .c (.lit (.bool (false)))), (10, .c (.lit (.bool (false)))), (9, .c (.lit (.bool (false)))), (8, .c (.lit (.int .i64 (a0.Busy)))), (7, .c (.box 1 1)), (6, .c (.lit (.bool (false)))), (5, .c (.lit (.bool (false)))), (4, .c (.lit (.int .i64 (a0.Busy)))), (3, .c (.box 1 1)), (2, .c (.lit (.bool (false)))), (1, .c (.box 1 0)), (0, .agg [.lit (.int .i64 (a0.State)), .lit (.int .i64 (a0.Busy)), .lit (.int .i64 (a0.Exponent)), .lit (.int .i64 (a0.Clear)), .lit (.int .i64 (a0.Wait))])], ⟨[(1, [.lit (.int .i64 (a0.State)), .lit (.int .i64 (a0.Busy)), .lit (.int .i64 (a0.Exponent)), .lit (.int .i64 (a0.Clear)), .lit (.int .i64 (a0.Wait))])], []⟩⟩ (by kernel_rfl) (by kernel_rfl) ?_ ?_
      · refine HeadX_runs 2 ⟨[(4, .c (.lit (.int .i64 (a0.Busy)))), (3, .c (.box 1 1)), (2, .c (.lit (.bool (false)))), (1, .c (.box 1 0)), (0, .agg [.lit (.int .i64 (a0.State)), .lit (.int .i64 (a0.Busy)), .lit (.int .i64 (a0.Exponent)), .lit (.int .i64 (a0.Clear)), .lit (.int .i64 (a0.Wait))])], ⟨[(1, [.lit (.int .i64 (a0.State)), .lit (.int .i64 (a0.Busy)), .lit (.int .i64 (a0.Exponent)), .lit (.int .i64 (a0.Clear)), .lit (.int .i64 (a0.Wait))])], []⟩⟩ (by kernel_rfl) ?_
        refine HeadX_op (.c (.lit (.bool (false)))) (by kernel_rfl) (by kernel_rfl) (grow_bool (e := (decide (a0.Busy < 0))) (by kernel_rfl) hb1) ?_
        refine HeadX_runs 3 ⟨[(8, .c (.lit (.int .i64 (a0.Busy)))), (7, .c (.box 1 1)), (6, .c (.lit (.bool (false)))), (5, .c (.lit (.bool (false)))), (4, .c (.lit (.int .i64 (a0.Busy)))), (3, .c (.box 1 1)), (2, .c (.lit (.bool (false)))), (1, .c (.box 1 0)), (0, .agg [.lit (.int .i64 (a0.State)), .lit (.int .i64 (a0.Busy)), .lit (.int .i64 (a0.Exponent)), .lit (.int .i64 (a0.Clear)), .lit (.int .i64 (a0.Wait))])], ⟨[(1, [.lit (.int .i64 (a0.State)), .lit (.int .i64 (a0.Busy)), .lit (.int .i64 (a0.Exponent)), .lit (.int .i64 (a0.Clear)), .lit (.int .i64 (a0.Wait))])], []⟩⟩ (by kernel_rfl) ?_
        refine HeadX_op (.c (.lit (.bool (false)))) (by kernel_rfl) (by kernel_rfl) (grow_bool (e := (decide (a0.Busy > 5))) (by kernel_rfl) hb2) ?_
        refine HeadX_runs 6 ⟨[(15, .c (.lit (.int .i64 (a0.Busy)))), (14, .c (.box 1 1)), (13, .c (.lit (.int .i64 (a0.Exponent)))), (12, .c (.box 1 2)), (11, .c (.lit (.bool (false)))), (10, .c (.lit (.bool (false)))), (9, .c (.lit (.bool (false)))), (8, .c (.lit (.int .i64 (a0.Busy)))), (7, .c (.box 1 1)), (6, .c (.lit (.bool (false)))), (5, .c (.lit (.bool (false)))), (4, .c (.lit (.int .i64 (a0.Busy)))), (3, .c (.box 1 1)), (2, .c (.lit (.bool (false)))), (1, .c (.box 1 0)), (0, .agg [.lit (.int .i64 (a0.State)), .lit (.int .i64 (a0.Busy)), .lit (.int .i64 (a0.Exponent)), .lit (.int .i64 (a0.Clear)), .lit (.int .i64 (a0.Wait))])], ⟨[(1, [.lit (.int .i64 (a0.State)), .lit (.int .i64 (a0.Busy)), .lit (.int .i64 (a0.Exponent)), .lit (.int .i64 (a0.Clear)), .lit (.int .i64 (a0.Wait))])], []⟩⟩ (by kernel_rfl) ?_
        refine HeadX_op (.c (.lit (.int .i64 (v3)))) (by kernel_rfl) (by kernel_rfl) (grow_call 24 Try.f24 [[0]] [.c (.lit (.int .i64 (a0.Busy)))] rfl (by kernel_rfl) Try.func24 (by kernel_rfl) (by kernel_rfl) (by kernel_rfl) (ok_backoff_exponent a0.Busy v3 hv3)) ?_
        exact HeadX_end (by kernel_rfl)
      · refine T_keep [18, 1] [1] [] ?_
        replace h := condO h
        rcases h with ⟨hb4, h⟩ | ⟨hb4, h⟩
        · refine T_condT' (e := (a0.Exponent != v3)) (by kernel_rfl) hb4 ?_
          refine T_seq ?_
          refine T_runs ⟨[(2, .c (.lit (.bool (false)))), (18, .c (.lit (.bool ((a0.Exponent != v3))))), (1, .c (.box 1 0))], ⟨[(1, [.lit (.int .i64 (a0.State)), .lit (.int .i64 (a0.Busy)), .lit (.int .i64 (a0.Exponent)), .lit (.int .i64 (a0.Clear)), .lit (.int .i64 (a0.Wait))])], []⟩⟩ (by kernel_rfl) ?_
          refine T_keep [2] [] [] ?_
          refine T_ret ?_
          refine thenQ_ret ?_
          obtain rfl := Option.some.inj h
          exact ⟨[(false, [.lit (.bool (false))])], by kernel_rfl, by kernel_rfl⟩
        · refine T_condF' (e := (a0.Exponent != v3)) (by kernel_rfl) hb4 ?_
          refine T_skip ?_
          refine T_seq ?_
          refine T_seq ?_
          refine T_runs ⟨[(21, .c (.lit (.bool ((a0.State == 4))))), (20, .c (.lit (.int .i64 (a0.State)))), (19, .c (.box 1 0)), (18, .c (.lit (.bool ((a0.Exponent != v3))))), (1, .c (.box 1 0))], ⟨[(1, [.lit (.int .i64 (a0.State)), .lit (.int .i64 (a0.Busy)), .lit (.int .i64 (a0.Exponent)), .lit (.int .i64 (a0.Clear)), .lit (.int .i64 (a0.Wait))])], []⟩⟩ (by kernel_rfl) ?_
          refine T_keep [21, 1] [1] [] ?_
          replace h := condO h
          rcases h with ⟨hb5, h⟩ | ⟨hb5, h⟩
          · refine T_condT' (e := (a0.State == 4)) (by kernel_rfl) hb5 ?_
            refine T_seq ?_
            replace h := condO h
            rcases h with ⟨hb6, h⟩ | ⟨hb6, h⟩
            · replace h := condO h
              rcases h with ⟨hb7, h⟩ | ⟨hb7, h⟩
              · refine T_region ?_
                refine TL_runs 2 ⟨[(23, .c (.lit (.int .i64 (a0.Busy)))), (22, .c (.box 1 1)), (21, .c (.lit (.bool ((a0.State == 4))))), (1, .c (.box 1 0))], ⟨[(1, [.lit (.int .i64 (a0.State)), .lit (.int .i64 (a0.Busy)), .lit (.int .i64 (a0.Exponent)), .lit (.int .i64 (a0.Clear)), .lit (.int .i64 (a0.Wait))])], []⟩⟩ (by kernel_rfl) ?_
                refine TL_grow (.c (.lit (.bool (true)))) (by kernel_rfl) (by kernel_rfl) (grow_bool (e := (a0.Busy == 5)) (by kernel_rfl) hb6) ?_
                refine TL_runs 3 ⟨[(27, .c (.lit (.int .i64 (a0.Clear)))), (26, .c (.box 1 3)), (25, .c (.lit (.bool (true)))), (24, .c (.lit (.bool (true)))), (23, .c (.lit (.int .i64 (a0.Busy)))), (22, .c (.box 1 1)), (21, .c (.lit (.bool ((a0.State == 4))))), (1, .c (.box 1 0))], ⟨[(1, [.lit (.int .i64 (a0.State)), .lit (.int .i64 (a0.Busy)), .lit (.int .i64 (a0.Exponent)), .lit (.int .i64 (a0.Clear)), .lit (.int .i64 (a0.Wait))])], []⟩⟩ (by kernel_rfl) ?_
                refine TL_grow (.c (.lit (.bool (true)))) (by kernel_rfl) (by kernel_rfl) (grow_bool (e := (a0.Clear == 2)) (by kernel_rfl) hb7) ?_
                refine TL_end ⟨[(2, .c (.lit (.bool ((a0.Wait == 0))))), (34, .c (.lit (.bool ((a0.Wait == 0))))), (33, .c (.lit (.bool ((a0.Wait == 0))))), (32, .c (.lit (.int .i64 (a0.Wait)))), (31, .c (.box 1 4)), (30, .c (.lit (.bool (true)))), (29, .c (.lit (.bool (true)))), (28, .c (.lit (.bool (true)))), (27, .c (.lit (.int .i64 (a0.Clear)))), (26, .c (.box 1 3)), (25, .c (.lit (.bool (true)))), (24, .c (.lit (.bool (true)))), (23, .c (.lit (.int .i64 (a0.Busy)))), (22, .c (.box 1 1)), (21, .c (.lit (.bool ((a0.State == 4))))), (1, .c (.box 1 0))], ⟨[(1, [.lit (.int .i64 (a0.State)), .lit (.int .i64 (a0.Busy)), .lit (.int .i64 (a0.Exponent)), .lit (.int .i64 (a0.Clear)), .lit (.int .i64 (a0.Wait))])], []⟩⟩ (by kernel_rfl) ?_
                refine T_keep [2] [] [] ?_
                refine T_ret ?_
                refine thenQ_ret ?_
                obtain rfl := Option.some.inj h
                exact ⟨[(false, [.lit (.bool ((a0.Wait == 0)))])], by kernel_rfl, by kernel_rfl⟩
              · refine T_region ?_
                refine TL_runs 2 ⟨[(23, .c (.lit (.int .i64 (a0.Busy)))), (22, .c (.box 1 1)), (21, .c (.lit (.bool ((a0.State == 4))))), (1, .c (.box 1 0))], ⟨[(1, [.lit (.int .i64 (a0.State)), .lit (.int .i64 (a0.Busy)), .lit (.int .i64 (a0.Exponent)), .lit (.int .i64 (a0.Clear)), .lit (.int .i64 (a0.Wait))])], []⟩⟩ (by kernel_rfl) ?_
                refine TL_grow (.c (.lit (.bool (true)))) (by kernel_rfl) (by kernel_rfl) (grow_bool (e := (a0.Busy == 5)) (by kernel_rfl) hb6) ?_
                refine TL_runs 3 ⟨[(27, .c (.lit (.int .i64 (a0.Clear)))), (26, .c (.box 1 3)), (25, .c (.lit (.bool (true)))), (24, .c (.lit (.bool (true)))), (23, .c (.lit (.int .i64 (a0.Busy)))), (22, .c (.box 1 1)), (21, .c (.lit (.bool ((a0.State == 4))))), (1, .c (.box 1 0))], ⟨[(1, [.lit (.int .i64 (a0.State)), .lit (.int .i64 (a0.Busy)), .lit (.int .i64 (a0.Exponent)), .lit (.int .i64 (a0.Clear)), .lit (.int .i64 (a0.Wait))])], []⟩⟩ (by kernel_rfl) ?_
                refine TL_grow (.c (.lit (.bool (false)))) (by kernel_rfl) (by kernel_rfl) (grow_bool (e := (a0.Clear == 2)) (by kernel_rfl) hb7) ?_
                refine TL_end ⟨[(2, .c (.lit (.bool (false)))), (34, .c (.lit (.bool (false)))), (33, .tup []), (32, .tup []), (31, .tup []), (30, .c (.lit (.bool (false)))), (29, .c (.lit (.bool (false)))), (28, .c (.lit (.bool (false)))), (27, .c (.lit (.int .i64 (a0.Clear)))), (26, .c (.box 1 3)), (25, .c (.lit (.bool (true)))), (24, .c (.lit (.bool (true)))), (23, .c (.lit (.int .i64 (a0.Busy)))), (22, .c (.box 1 1)), (21, .c (.lit (.bool ((a0.State == 4))))), (1, .c (.box 1 0))], ⟨[(1, [.lit (.int .i64 (a0.State)), .lit (.int .i64 (a0.Busy)), .lit (.int .i64 (a0.Exponent)), .lit (.int .i64 (a0.Clear)), .lit (.int .i64 (a0.Wait))])], []⟩⟩ (by kernel_rfl) ?_
                refine T_keep [2] [] [] ?_
                refine T_ret ?_
                refine thenQ_ret ?_
                obtain rfl := Option.some.inj h
                exact ⟨[(false, [.lit (.bool (false))])], by kernel_rfl, by kernel_rfl⟩
            · refine T_region ?_
              refine TL_runs 2 ⟨[(23, .c (.lit (.int .i64 (a0.Busy)))), (22, .c (.box 1 1)), (21, .c (.lit (.bool ((a0.State == 4))))), (1, .c (.box 1 0))], ⟨[(1, [.lit (.int .i64 (a0.State)), .lit (.int .i64 (a0.Busy)), .lit (.int .i64 (a0.Exponent)), .lit (.int .i64 (a0.Clear)), .lit (.int .i64 (a0.Wait))])], []⟩⟩ (by kernel_rfl) ?_
              refine TL_grow (.c (.lit (.bool (false)))) (by kernel_rfl) (by kernel_rfl) (grow_bool (e := (a0.Busy == 5)) (by kernel_rfl) hb6) ?_
              refine TL_end ⟨[(2, .c (.lit (.bool (false)))), (34, .c (.lit (.bool (false)))), (33, .tup []), (32, .tup []), (31, .tup []), (30, .c (.lit (.bool (false)))), (29, .c (.lit (.bool (false)))), (28, .tup []), (27, .tup []), (26, .tup []), (25, .c (.lit (.bool (false)))), (24, .c (.lit (.bool (false)))), (23, .c (.lit (.int .i64 (a0.Busy)))), (22, .c (.box 1 1)), (21, .c (.lit (.bool ((a0.State == 4))))), (1, .c (.box 1 0))], ⟨[(1, [.lit (.int .i64 (a0.State)), .lit (.int .i64 (a0.Busy)), .lit (.int .i64 (a0.Exponent)), .lit (.int .i64 (a0.Clear)), .lit (.int .i64 (a0.Wait))])], []⟩⟩ (by kernel_rfl) ?_
              refine T_keep [2] [] [] ?_
              refine T_ret ?_
              refine thenQ_ret ?_
              obtain rfl := Option.some.inj h
              exact ⟨[(false, [.lit (.bool (false))])], by kernel_rfl, by kernel_rfl⟩
          · refine T_condF' (e := (a0.State == 4)) (by kernel_rfl) hb5 ?_
            refine T_skip ?_
            refine T_seq ?_
            refine T_seq ?_
            refine T_runs ⟨[(37, .c (.lit (.bool ((decide (a0.Busy > 4)))))), (36, .c (.lit (.int .i64 (a0.Busy)))), (35, .c (.box 1 1)), (21, .c (.lit (.bool ((a0.State == 4))))), (1, .c (.box 1 0))], ⟨[(1, [.lit (.int .i64 (a0.State)), .lit (.int .i64 (a0.Busy)), .lit (.int .i64 (a0.Exponent)), .lit (.int .i64 (a0.Clear)), .lit (.int .i64 (a0.Wait))])], []⟩⟩ (by kernel_rfl) ?_
            refine T_keep [37, 1] [1] [] ?_
            replace h := condO h
            rcases h with ⟨hb8, h⟩ | ⟨hb8, h⟩
            · refine T_condT' (e := (decide (a0.Busy > 4))) (by kernel_rfl) hb8 ?_
              refine T_seq ?_
              refine T_runs ⟨[(2, .c (.lit (.bool (false)))), (37, .c (.lit (.bool ((decide (a0.Busy > 4)))))), (1, .c (.box 1 0))], ⟨[(1, [.lit (.int .i64 (a0.State)), .lit (.int .i64 (a0.Busy)), .lit (.int .i64 (a0.Exponent)), .lit (.int .i64 (a0.Clear)), .lit (.int .i64 (a0.Wait))])], []⟩⟩ (by kernel_rfl) ?_
              refine T_keep [2] [] [] ?_
              refine T_ret ?_
              refine thenQ_ret ?_
              obtain rfl := Option.some.inj h
              exact ⟨[(false, [.lit (.bool (false))])], by kernel_rfl, by kernel_rfl⟩
            · refine T_condF' (e := (decide (a0.Busy > 4))) (by kernel_rfl) hb8 ?_
              refine T_skip ?_
              refine T_seq ?_
              refine T_seq ?_
              refine T_runs ⟨[(39, .c (.lit (.int .i64 (a0.State)))), (38, .c (.box 1 0)), (37, .c (.lit (.bool ((decide (a0.Busy > 4)))))), (1, .c (.box 1 0))], ⟨[(1, [.lit (.int .i64 (a0.State)), .lit (.int .i64 (a0.Busy)), .lit (.int .i64 (a0.Exponent)), .lit (.int .i64 (a0.Clear)), .lit (.int .i64 (a0.Wait))])], []⟩⟩ (by kernel_rfl) ?_
              refine T_block ?_
              refine T_seq ?_
              refine T_runs ⟨[(40, .c (.lit (.bool ((a0.State == 1))))), (41, .c (.lit (.bool ((a0.State == 1))))), (39, .c (.lit (.int .i64 (a0.State)))), (38, .c (.box 1 0)), (37, .c (.lit (.bool ((decide (a0.Busy > 4)))))), (1, .c (.box 1 0))], ⟨[(1, [.lit (.int .i64 (a0.State)), .lit (.int .i64 (a0.Busy)), .lit (.int .i64 (a0.Exponent)), .lit (.int .i64 (a0.Clear)), .lit (.int .i64 (a0.Wait))])], []⟩⟩ (by kernel_rfl) ?_
              refine T_keep [40, 39, 1] [1] [] ?_
              replace h := condO h
              rcases h with ⟨hb9, h⟩ | ⟨hb9, h⟩
              · refine T_condT' (e := (a0.State == 1)) (by kernel_rfl) hb9 ?_
                refine T_seq ?_
                replace h := condO h
                rcases h with ⟨hb10, h⟩ | ⟨hb10, h⟩
                · replace h := condO h
                  rcases h with ⟨hb11, h⟩ | ⟨hb11, h⟩
                  · replace h := chkO h
                    obtain ⟨hc12, h⟩ := h
                    refine T_drawAllX ⟨[(2, .c (.lit (.bool ((decide (a0.Wait ≤ (IntKind.wrap .i64 ((ishl .i64 1 a0.Exponent) - 1)))))))), (58, .c (.lit (.bool ((decide (a0.Wait ≤ (IntKind.wrap .i64 ((ishl .i64 1 a0.Exponent) - 1)))))))), (57, .c (.lit (.bool ((decide (a0.Wait ≤ (IntKind.wrap .i64 ((ishl .i64 1 a0.Exponent) - 1)))))))), (56, .c (.lit (.int .i64 (IntKind.wrap .i64 ((ishl .i64 1 a0.Exponent) - 1))))), (55, .c (.lit (.int .i64 (ishl .i64 1 a0.Exponent)))), (54, .c (.lit (.int .i64 (a0.Exponent)))), (53, .c (.box 1 2)), (52, .c (.lit (.int .i64 (a0.Wait)))), (51, .c (.box 1 4)), (50, .c (.lit (.bool (true)))), (49, .c (.lit (.bool (true)))), (48, .c (.lit (.bool (true)))), (47, .c (.lit (.int .i64 (a0.Wait)))), (46, .c (.box 1 4)), (45, .c (.lit (.bool (true)))), (44, .c (.lit (.bool (true)))), (43, .c (.lit (.int .i64 (a0.Clear)))), (42, .c (.box 1 3)), (40, .c (.lit (.bool ((a0.State == 1))))), (39, .c (.lit (.int .i64 (a0.State)))), (1, .c (.box 1 0))], ⟨[(1, [.lit (.int .i64 (a0.State)), .lit (.int .i64 (a0.Busy)), .lit (.int .i64 (a0.Exponent)), .lit (.int .i64 (a0.Clear)), .lit (.int .i64 (a0.Wait))])], []⟩⟩ (by kernel_rfl) (by kernel_rfl) ?_ ?_
                    · refine HeadX_runs 2 ⟨[(43, .c (.lit (.int .i64 (a0.Clear)))), (42, .c (.box 1 3)), (40, .c (.lit (.bool ((a0.State == 1))))), (39, .c (.lit (.int .i64 (a0.State)))), (1, .c (.box 1 0))], ⟨[(1, [.lit (.int .i64 (a0.State)), .lit (.int .i64 (a0.Busy)), .lit (.int .i64 (a0.Exponent)), .lit (.int .i64 (a0.Clear)), .lit (.int .i64 (a0.Wait))])], []⟩⟩ (by kernel_rfl) ?_
                      refine HeadX_op (.c (.lit (.bool (true)))) (by kernel_rfl) (by kernel_rfl) (grow_bool (e := (a0.Clear == 2)) (by kernel_rfl) hb10) ?_
                      refine HeadX_runs 3 ⟨[(47, .c (.lit (.int .i64 (a0.Wait)))), (46, .c (.box 1 4)), (45, .c (.lit (.bool (true)))), (44, .c (.lit (.bool (true)))), (43, .c (.lit (.int .i64 (a0.Clear)))), (42, .c (.box 1 3)), (40, .c (.lit (.bool ((a0.State == 1))))), (39, .c (.lit (.int .i64 (a0.State)))), (1, .c (.box 1 0))], ⟨[(1, [.lit (.int .i64 (a0.State)), .lit (.int .i64 (a0.Busy)), .lit (.int .i64 (a0.Exponent)), .lit (.int .i64 (a0.Clear)), .lit (.int .i64 (a0.Wait))])], []⟩⟩ (by kernel_rfl) ?_
                      refine HeadX_op (.c (.lit (.bool (true)))) (by kernel_rfl) (by kernel_rfl) (grow_bool (e := (decide (a0.Wait ≥ 1))) (by kernel_rfl) hb11) ?_
                      refine HeadX_runs 6 ⟨[(54, .c (.lit (.int .i64 (a0.Exponent)))), (53, .c (.box 1 2)), (52, .c (.lit (.int .i64 (a0.Wait)))), (51, .c (.box 1 4)), (50, .c (.lit (.bool (true)))), (49, .c (.lit (.bool (true)))), (48, .c (.lit (.bool (true)))), (47, .c (.lit (.int .i64 (a0.Wait)))), (46, .c (.box 1 4)), (45, .c (.lit (.bool (true)))), (44, .c (.lit (.bool (true)))), (43, .c (.lit (.int .i64 (a0.Clear)))), (42, .c (.box 1 3)), (40, .c (.lit (.bool ((a0.State == 1))))), (39, .c (.lit (.int .i64 (a0.State)))), (1, .c (.box 1 0))], ⟨[(1, [.lit (.int .i64 (a0.State)), .lit (.int .i64 (a0.Busy)), .lit (.int .i64 (a0.Exponent)), .lit (.int .i64 (a0.Clear)), .lit (.int .i64 (a0.Wait))])], []⟩⟩ (by kernel_rfl) ?_
                      refine HeadX_op (.c (.lit (.int .i64 (ishl .i64 1 a0.Exponent)))) (by kernel_rfl) (by kernel_rfl) (PureOp.grow (pure_intC (k := .i64) (k' := .i64) (1) (a0.Exponent) (by simp) rfl (by kernel_rfl) (by kernel_rfl) rfl (of_decide_eq_true hc12))) ?_
                      exact HeadX_end (by kernel_rfl)
                    · refine T_keep [2] [] [] ?_
                      refine T_ret ?_
                      refine blockQ_ret ?_
                      refine thenQ_ret ?_
                      obtain rfl := Option.some.inj h
                      exact ⟨[(false, [.lit (.bool ((decide (a0.Wait ≤ (IntKind.wrap .i64 ((ishl .i64 1 a0.Exponent) - 1))))))])], by kernel_rfl, by kernel_rfl⟩
                  · refine T_drawAllX ⟨[(2, .c (.lit (.bool (false)))), (58, .c (.lit (.bool (false)))), (57, .tup []), (56, .tup []), (55, .tup []), (54, .tup []), (53, .tup []), (52, .tup []), (51, .tup []), (50, .c (.lit (.bool (false)))), (49, .c (.lit (.bool (false)))), (48, .c (.lit (.bool (false)))), (47, .c (.lit (.int .i64 (a0.Wait)))), (46, .c (.box 1 4)), (45, .c (.lit (.bool (true)))), (44, .c (.lit (.bool (true)))), (43, .c (.lit (.int .i64 (a0.Clear)))), (42, .c (.box 1 3)), (40, .c (.lit (.bool ((a0.State == 1))))), (39, .c (.lit (.int .i64 (a0.State)))), (1, .c (.box 1 0))], ⟨[(1, [.lit (.int .i64 (a0.State)), .lit (.int .i64 (a0.Busy)), .lit (.int .i64 (a0.Exponent)), .lit (.int .i64 (a0.Clear)), .lit (.int .i64 (a0.Wait))])], []⟩⟩ (by kernel_rfl) (by kernel_rfl) ?_ ?_
                    · refine HeadX_runs 2 ⟨[(43, .c (.lit (.int .i64 (a0.Clear)))), (42, .c (.box 1 3)), (40, .c (.lit (.bool ((a0.State == 1))))), (39, .c (.lit (.int .i64 (a0.State)))), (1, .c (.box 1 0))], ⟨[(1, [.lit (.int .i64 (a0.State)), .lit (.int .i64 (a0.Busy)), .lit (.int .i64 (a0.Exponent)), .lit (.int .i64 (a0.Clear)), .lit (.int .i64 (a0.Wait))])], []⟩⟩ (by kernel_rfl) ?_
                      refine HeadX_op (.c (.lit (.bool (true)))) (by kernel_rfl) (by kernel_rfl) (grow_bool (e := (a0.Clear == 2)) (by kernel_rfl) hb10) ?_
                      refine HeadX_runs 3 ⟨[(47, .c (.lit (.int .i64 (a0.Wait)))), (46, .c (.box 1 4)), (45, .c (.lit (.bool (true)))), (44, .c (.lit (.bool (true)))), (43, .c (.lit (.int .i64 (a0.Clear)))), (42, .c (.box 1 3)), (40, .c (.lit (.bool ((a0.State == 1))))), (39, .c (.lit (.int .i64 (a0.State)))), (1, .c (.box 1 0))], ⟨[(1, [.lit (.int .i64 (a0.State)), .lit (.int .i64 (a0.Busy)), .lit (.int .i64 (a0.Exponent)), .lit (.int .i64 (a0.Clear)), .lit (.int .i64 (a0.Wait))])], []⟩⟩ (by kernel_rfl) ?_
                      refine HeadX_op (.c (.lit (.bool (false)))) (by kernel_rfl) (by kernel_rfl) (grow_bool (e := (decide (a0.Wait ≥ 1))) (by kernel_rfl) hb11) ?_
                      exact HeadX_end (by kernel_rfl)
                    · refine T_keep [2] [] [] ?_
                      refine T_ret ?_
                      refine blockQ_ret ?_
                      refine thenQ_ret ?_
                      obtain rfl := Option.some.inj h
                      exact ⟨[(false, [.lit (.bool (false))])], by kernel_rfl, by kernel_rfl⟩
                · refine T_drawAllX ⟨[(2, .c (.lit (.bool (false)))), (58, .c (.lit (.bool (false)))), (57, .tup []), (56, .tup []), (55, .tup []), (54, .tup []), (53, .tup []), (52, .tup []), (51, .tup []), (50, .c (.lit (.bool (false)))), (49, .c (.lit (.bool (false)))), (48, .tup []), (47, .tup []), (46, .tup []), (45, .c (.lit (.bool (false)))), (44, .c (.lit (.bool (false)))), (43, .c (.lit (.int .i64 (a0.Clear)))), (42, .c (.box 1 3)), (40, .c (.lit (.bool ((a0.State == 1))))), (39, .c (.lit (.int .i64 (a0.State)))), (1, .c (.box 1 0))], ⟨[(1, [.lit (.int .i64 (a0.State)), .lit (.int .i64 (a0.Busy)), .lit (.int .i64 (a0.Exponent)), .lit (.int .i64 (a0.Clear)), .lit (.int .i64 (a0.Wait))])], []⟩⟩ (by kernel_rfl) (by kernel_rfl) ?_ ?_
                  · refine HeadX_runs 2 ⟨[(43, .c (.lit (.int .i64 (a0.Clear)))), (42, .c (.box 1 3)), (40, .c (.lit (.bool ((a0.State == 1))))), (39, .c (.lit (.int .i64 (a0.State)))), (1, .c (.box 1 0))], ⟨[(1, [.lit (.int .i64 (a0.State)), .lit (.int .i64 (a0.Busy)), .lit (.int .i64 (a0.Exponent)), .lit (.int .i64 (a0.Clear)), .lit (.int .i64 (a0.Wait))])], []⟩⟩ (by kernel_rfl) ?_
                    refine HeadX_op (.c (.lit (.bool (false)))) (by kernel_rfl) (by kernel_rfl) (grow_bool (e := (a0.Clear == 2)) (by kernel_rfl) hb10) ?_
                    exact HeadX_end (by kernel_rfl)
                  · refine T_keep [2] [] [] ?_
                    refine T_ret ?_
                    refine blockQ_ret ?_
                    refine thenQ_ret ?_
                    obtain rfl := Option.some.inj h
                    exact ⟨[(false, [.lit (.bool (false))])], by kernel_rfl, by kernel_rfl⟩
              · refine T_condF' (e := (a0.State == 1)) (by kernel_rfl) hb9 ?_
                refine T_seq ?_
                refine T_runs ⟨[(59, .c (.lit (.bool ((a0.State == 2))))), (60, .c (.lit (.bool ((a0.State == 2))))), (40, .c (.lit (.bool ((a0.State == 1))))), (39, .c (.lit (.int .i64 (a0.State)))), (1, .c (.box 1 0))], ⟨[(1, [.lit (.int .i64 (a0.State)), .lit (.int .i64 (a0.Busy)), .lit (.int .i64 (a0.Exponent)), .lit (.int .i64 (a0.Clear)), .lit (.int .i64 (a0.Wait))])], []⟩⟩ (by kernel_rfl) ?_
                replace h := condO h
                rcases h with ⟨hb13, h⟩ | ⟨hb13, h⟩
                · refine T_condT' (e := (a0.State == 2)) (by kernel_rfl) hb13 ?_
                  refine T_seq ?_
                  replace h := condO h
                  rcases h with ⟨hb14, h⟩ | ⟨hb14, h⟩
                  · replace h := condO h
                    rcases h with ⟨hb15, h⟩ | ⟨hb15, h⟩
                    · refine T_region ?_
                      refine TL_runs 2 ⟨[(62, .c (.lit (.int .i64 (a0.Clear)))), (61, .c (.box 1 3)), (59, .c (.lit (.bool ((a0.State == 2))))), (60, .c (.lit (.bool ((a0.State == 2))))), (40, .c (.lit (.bool ((a0.State == 1))))), (39, .c (.lit (.int .i64 (a0.State)))), (1, .c (.box 1 0))], ⟨[(1, [.lit (.int .i64 (a0.State)), .lit (.int .i64 (a0.Busy)), .lit (.int .i64 (a0.Exponent)), .lit (.int .i64 (a0.Clear)), .lit (.int .i64 (a0.Wait))])], []⟩⟩ (by kernel_rfl) ?_
                      refine TL_grow (.c (.lit (.bool (true)))) (by kernel_rfl) (by kernel_rfl) (grow_bool (e := (decide (a0.Clear ≥ 1))) (by kernel_rfl) hb14) ?_
                      refine TL_runs 3 ⟨[(66, .c (.lit (.int .i64 (a0.Clear)))), (65, .c (.box 1 3)), (64, .c (.lit (.bool (true)))), (63, .c (.lit (.bool (true)))), (62, .c (.lit (.int .i64 (a0.Clear)))), (61, .c (.box 1 3)), (59, .c (.lit (.bool ((a0.State == 2))))), (60, .c (.lit (.bool ((a0.State == 2))))), (40, .c (.lit (.bool ((a0.State == 1))))), (39, .c (.lit (.int .i64 (a0.State)))), (1, .c (.box 1 0))], ⟨[(1, [.lit (.int .i64 (a0.State)), .lit (.int .i64 (a0.Busy)), .lit (.int .i64 (a0.Exponent)), .lit (.int .i64 (a0.Clear)), .lit (.int .i64 (a0.Wait))])], []⟩⟩ (by kernel_rfl) ?_
                      refine TL_grow (.c (.lit (.bool (true)))) (by kernel_rfl) (by kernel_rfl) (grow_bool (e := (decide (a0.Clear ≤ 2))) (by kernel_rfl) hb15) ?_
                      refine TL_end ⟨[(2, .c (.lit (.bool ((a0.Wait == 0))))), (73, .c (.lit (.bool ((a0.Wait == 0))))), (72, .c (.lit (.bool ((a0.Wait == 0))))), (71, .c (.lit (.int .i64 (a0.Wait)))), (70, .c (.box 1 4)), (69, .c (.lit (.bool (true)))), (68, .c (.lit (.bool (true)))), (67, .c (.lit (.bool (true)))), (66, .c (.lit (.int .i64 (a0.Clear)))), (65, .c (.box 1 3)), (64, .c (.lit (.bool (true)))), (63, .c (.lit (.bool (true)))), (62, .c (.lit (.int .i64 (a0.Clear)))), (61, .c (.box 1 3)), (59, .c (.lit (.bool ((a0.State == 2))))), (60, .c (.lit (.bool ((a0.State == 2))))), (40, .c (.lit (.bool ((a0.State == 1))))), (39, .c (.lit (.int .i64 (a0.State)))), (1, .c (.box 1 0))], ⟨[(1, [.lit (.int .i64 (a0.State)), .lit (.int .i64 (a0.Busy)), .lit (.int .i64 (a0.Exponent)), .lit (.int .i64 (a0.Clear)), .lit (.int .i64 (a0.Wait))])], []⟩⟩ (by kernel_rfl) ?_
                      refine T_keep [2] [] [] ?_
                      refine T_ret ?_
                      refine blockQ_ret ?_
                      refine thenQ_ret ?_
                      obtain rfl := Option.some.inj h
                      exact ⟨[(false, [.lit (.bool ((a0.Wait == 0)))])], by kernel_rfl, by kernel_rfl⟩
                    · refine T_region ?_
                      refine TL_runs 2 ⟨[(62, .c (.lit (.int .i64 (a0.Clear)))), (61, .c (.box 1 3)), (59, .c (.lit (.bool ((a0.State == 2))))), (60, .c (.lit (.bool ((a0.State == 2))))), (40, .c (.lit (.bool ((a0.State == 1))))), (39, .c (.lit (.int .i64 (a0.State)))), (1, .c (.box 1 0))], ⟨[(1, [.lit (.int .i64 (a0.State)), .lit (.int .i64 (a0.Busy)), .lit (.int .i64 (a0.Exponent)), .lit (.int .i64 (a0.Clear)), .lit (.int .i64 (a0.Wait))])], []⟩⟩ (by kernel_rfl) ?_
                      refine TL_grow (.c (.lit (.bool (true)))) (by kernel_rfl) (by kernel_rfl) (grow_bool (e := (decide (a0.Clear ≥ 1))) (by kernel_rfl) hb14) ?_
                      refine TL_runs 3 ⟨[(66, .c (.lit (.int .i64 (a0.Clear)))), (65, .c (.box 1 3)), (64, .c (.lit (.bool (true)))), (63, .c (.lit (.bool (true)))), (62, .c (.lit (.int .i64 (a0.Clear)))), (61, .c (.box 1 3)), (59, .c (.lit (.bool ((a0.State == 2))))), (60, .c (.lit (.bool ((a0.State == 2))))), (40, .c (.lit (.bool ((a0.State == 1))))), (39, .c (.lit (.int .i64 (a0.State)))), (1, .c (.box 1 0))], ⟨[(1, [.lit (.int .i64 (a0.State)), .lit (.int .i64 (a0.Busy)), .lit (.int .i64 (a0.Exponent)), .lit (.int .i64 (a0.Clear)), .lit (.int .i64 (a0.Wait))])], []⟩⟩ (by kernel_rfl) ?_
                      refine TL_grow (.c (.lit (.bool (false)))) (by kernel_rfl) (by kernel_rfl) (grow_bool (e := (decide (a0.Clear ≤ 2))) (by kernel_rfl) hb15) ?_
                      refine TL_end ⟨[(2, .c (.lit (.bool (false)))), (73, .c (.lit (.bool (false)))), (72, .tup []), (71, .tup []), (70, .tup []), (69, .c (.lit (.bool (false)))), (68, .c (.lit (.bool (false)))), (67, .c (.lit (.bool (false)))), (66, .c (.lit (.int .i64 (a0.Clear)))), (65, .c (.box 1 3)), (64, .c (.lit (.bool (true)))), (63, .c (.lit (.bool (true)))), (62, .c (.lit (.int .i64 (a0.Clear)))), (61, .c (.box 1 3)), (59, .c (.lit (.bool ((a0.State == 2))))), (60, .c (.lit (.bool ((a0.State == 2))))), (40, .c (.lit (.bool ((a0.State == 1))))), (39, .c (.lit (.int .i64 (a0.State)))), (1, .c (.box 1 0))], ⟨[(1, [.lit (.int .i64 (a0.State)), .lit (.int .i64 (a0.Busy)), .lit (.int .i64 (a0.Exponent)), .lit (.int .i64 (a0.Clear)), .lit (.int .i64 (a0.Wait))])], []⟩⟩ (by kernel_rfl) ?_
                      refine T_keep [2] [] [] ?_
                      refine T_ret ?_
                      refine blockQ_ret ?_
                      refine thenQ_ret ?_
                      obtain rfl := Option.some.inj h
                      exact ⟨[(false, [.lit (.bool (false))])], by kernel_rfl, by kernel_rfl⟩
                  · refine T_region ?_
                    refine TL_runs 2 ⟨[(62, .c (.lit (.int .i64 (a0.Clear)))), (61, .c (.box 1 3)), (59, .c (.lit (.bool ((a0.State == 2))))), (60, .c (.lit (.bool ((a0.State == 2))))), (40, .c (.lit (.bool ((a0.State == 1))))), (39, .c (.lit (.int .i64 (a0.State)))), (1, .c (.box 1 0))], ⟨[(1, [.lit (.int .i64 (a0.State)), .lit (.int .i64 (a0.Busy)), .lit (.int .i64 (a0.Exponent)), .lit (.int .i64 (a0.Clear)), .lit (.int .i64 (a0.Wait))])], []⟩⟩ (by kernel_rfl) ?_
                    refine TL_grow (.c (.lit (.bool (false)))) (by kernel_rfl) (by kernel_rfl) (grow_bool (e := (decide (a0.Clear ≥ 1))) (by kernel_rfl) hb14) ?_
                    refine TL_end ⟨[(2, .c (.lit (.bool (false)))), (73, .c (.lit (.bool (false)))), (72, .tup []), (71, .tup []), (70, .tup []), (69, .c (.lit (.bool (false)))), (68, .c (.lit (.bool (false)))), (67, .tup []), (66, .tup []), (65, .tup []), (64, .c (.lit (.bool (false)))), (63, .c (.lit (.bool (false)))), (62, .c (.lit (.int .i64 (a0.Clear)))), (61, .c (.box 1 3)), (59, .c (.lit (.bool ((a0.State == 2))))), (60, .c (.lit (.bool ((a0.State == 2))))), (40, .c (.lit (.bool ((a0.State == 1))))), (39, .c (.lit (.int .i64 (a0.State)))), (1, .c (.box 1 0))], ⟨[(1, [.lit (.int .i64 (a0.State)), .lit (.int .i64 (a0.Busy)), .lit (.int .i64 (a0.Exponent)), .lit (.int .i64 (a0.Clear)), .lit (.int .i64 (a0.Wait))])], []⟩⟩ (by kernel_rfl) ?_
                    refine T_keep [2] [] [] ?_
                    refine T_ret ?_
                    refine blockQ_ret ?_
                    refine thenQ_ret ?_
                    obtain rfl := Option.some.inj h
                    exact ⟨[(false, [.lit (.bool (false))])], by kernel_rfl, by kernel_rfl⟩
                · refine T_condF' (e := (a0.State == 2)) (by kernel_rfl) hb13 ?_
                  refine T_seq ?_
                  refine T_runs ⟨[(74, .c (.lit (.bool ((a0.State == 3))))), (75, .c (.lit (.bool ((a0.State == 3))))), (59, .c (.lit (.bool ((a0.State == 2))))), (60, .c (.lit (.bool ((a0.State == 2))))), (40, .c (.lit (.bool ((a0.State == 1))))), (39, .c (.lit (.int .i64 (a0.State)))), (1, .c (.box 1 0))], ⟨[(1, [.lit (.int .i64 (a0.State)), .lit (.int .i64 (a0.Busy)), .lit (.int .i64 (a0.Exponent)), .lit (.int .i64 (a0.Clear)), .lit (.int .i64 (a0.Wait))])], []⟩⟩ (by kernel_rfl) ?_
                  refine T_keep [74, 1] [1] [] ?_
                  replace h := condO h
                  rcases h with ⟨hb16, h⟩ | ⟨hb16, h⟩
                  · refine T_condT' (e := (a0.State == 3)) (by kernel_rfl) hb16 ?_
                    refine T_seq ?_
                    replace h := condO h
                    rcases h with ⟨hb17, h⟩ | ⟨hb17, h⟩
                    · refine T_region ?_
                      refine TL_runs 2 ⟨[(77, .c (.lit (.int .i64 (a0.Clear)))), (76, .c (.box 1 3)), (74, .c (.lit (.bool ((a0.State == 3))))), (1, .c (.box 1 0))], ⟨[(1, [.lit (.int .i64 (a0.State)), .lit (.int .i64 (a0.Busy)), .lit (.int .i64 (a0.Exponent)), .lit (.int .i64 (a0.Clear)), .lit (.int .i64 (a0.Wait))])], []⟩⟩ (by kernel_rfl) ?_
                      refine TL_grow (.c (.lit (.bool (true)))) (by kernel_rfl) (by kernel_rfl) (grow_bool (e := (a0.Clear == 0)) (by kernel_rfl) hb17) ?_
                      refine TL_end ⟨[(2, .c (.lit (.bool ((a0.Wait == 0))))), (83, .c (.lit (.bool ((a0.Wait == 0))))), (82, .c (.lit (.bool ((a0.Wait == 0))))), (81, .c (.lit (.int .i64 (a0.Wait)))), (80, .c (.box 1 4)), (79, .c (.lit (.bool (true)))), (78, .c (.lit (.bool (true)))), (77, .c (.lit (.int .i64 (a0.Clear)))), (76, .c (.box 1 3)), (74, .c (.lit (.bool ((a0.State == 3))))), (1, .c (.box 1 0))], ⟨[(1, [.lit (.int .i64 (a0.State)), .lit (.int .i64 (a0.Busy)), .lit (.int .i64 (a0.Exponent)), .lit (.int .i64 (a0.Clear)), .lit (.int .i64 (a0.Wait))])], []⟩⟩ (by kernel_rfl) ?_
                      refine T_keep [2] [] [] ?_
                      refine T_ret ?_
                      refine blockQ_ret ?_
                      refine thenQ_ret ?_
                      obtain rfl := Option.some.inj h
                      exact ⟨[(false, [.lit (.bool ((a0.Wait == 0)))])], by kernel_rfl, by kernel_rfl⟩
                    · refine T_region ?_
                      refine TL_runs 2 ⟨[(77, .c (.lit (.int .i64 (a0.Clear)))), (76, .c (.box 1 3)), (74, .c (.lit (.bool ((a0.State == 3))))), (1, .c (.box 1 0))], ⟨[(1, [.lit (.int .i64 (a0.State)), .lit (.int .i64 (a0.Busy)), .lit (.int .i64 (a0.Exponent)), .lit (.int .i64 (a0.Clear)), .lit (.int .i64 (a0.Wait))])], []⟩⟩ (by kernel_rfl) ?_
                      refine TL_grow (.c (.lit (.bool (false)))) (by kernel_rfl) (by kernel_rfl) (grow_bool (e := (a0.Clear == 0)) (by kernel_rfl) hb17) ?_
                      refine TL_end ⟨[(2, .c (.lit (.bool (false)))), (83, .c (.lit (.bool (false)))), (82, .tup []), (81, .tup []), (80, .tup []), (79, .c (.lit (.bool (false)))), (78, .c (.lit (.bool (false)))), (77, .c (.lit (.int .i64 (a0.Clear)))), (76, .c (.box 1 3)), (74, .c (.lit (.bool ((a0.State == 3))))), (1, .c (.box 1 0))], ⟨[(1, [.lit (.int .i64 (a0.State)), .lit (.int .i64 (a0.Busy)), .lit (.int .i64 (a0.Exponent)), .lit (.int .i64 (a0.Clear)), .lit (.int .i64 (a0.Wait))])], []⟩⟩ (by kernel_rfl) ?_
                      refine T_keep [2] [] [] ?_
                      refine T_ret ?_
                      refine blockQ_ret ?_
                      refine thenQ_ret ?_
                      obtain rfl := Option.some.inj h
                      exact ⟨[(false, [.lit (.bool (false))])], by kernel_rfl, by kernel_rfl⟩
                  · refine T_condF' (e := (a0.State == 3)) (by kernel_rfl) hb16 ?_
                    refine T_skip ?_
                    refine blockQ_normal ?_
                    refine T_keep [] [] [] ?_
                    refine T_seq ?_
                    refine T_runs ⟨[(2, .c (.lit (.bool (false))))], ⟨[], []⟩⟩ (by kernel_rfl) ?_
                    refine T_ret ?_
                    obtain rfl := Option.some.inj h
                    exact ⟨[(false, [.lit (.bool (false))])], by kernel_rfl, by kernel_rfl⟩

/-- multihop/backoff.Ended -/
noncomputable def F_backoff_Ended (a0 : S_Backoff) : Option (Bool) :=
  (F_backoff_Valid a0).bind fun v1 =>
  bif v1 then
    bif (a0.State == 3) then
      some (true)
    else
      some ((a0.State == 4))
  else
    some (false)
set_option maxRecDepth 100000 in
theorem ok_backoff_Ended (a0 : S_Backoff) (r : Bool) (h : F_backoff_Ended a0 = some r) : Pure Try.prog 14 [.agg (S_Backoff.cs a0)] (.c (.lit (.bool (r)))) := by
  unfold F_backoff_Ended at h
  refine pure_of [[0]] 15 Try.func14 rfl rfl rfl (by kernel_rfl) (fun K => ?_)
  refine T_seq ?_
  refine T_runs ⟨[(2, .c (.lit (.bool (false)))), (1, .c (.box 1 0)), (0, .agg [.lit (.int .i64 (a0.State)), .lit (.int .i64 (a0.Busy)), .lit (.int .i64 (a0.Exponent)), .lit (.int .i64 (a0.Clear)), .lit (.int .i64 (a0.Wait))])], ⟨[(1, [.lit (.int .i64 (a0.State)), .lit (.int .i64 (a0.Busy)), .lit (.int .i64 (a0.Exponent)), .lit (.int .i64 (a0.Clear)), .lit (.int .i64 (a0.Wait))])], []⟩⟩ (by kernel_rfl) ?_
  refine T_seq ?_
  replace h := bindO h
  obtain ⟨v1, hv1, h⟩ := h
  replace h := condO h
  rcases h with ⟨hb2, h⟩ | ⟨hb2, h⟩
  · subst hb2
    replace h := condO h
    rcases h with ⟨hb3, h⟩ | ⟨hb3, h⟩
    · refine T_region ?_
      refine TL_runs 1 ⟨[(3, .agg [.lit (.int .i64 (a0.State)), .lit (.int .i64 (a0.Busy)), .lit (.int .i64 (a0.Exponent)), .lit (.int .i64 (a0.Clear)), .lit (.int .i64 (a0.Wait))]), (2, .c (.lit (.bool (false)))), (1, .c (.box 1 0)), (0, .agg [.lit (.int .i64 (a0.State)), .lit (.int .i64 (a0.Busy)), .lit (.int .i64 (a0.Exponent)), .lit (.int .i64 (a0.Clear)), .lit (.int .i64 (a0.Wait))])], ⟨[(1, [.lit (.int .i64 (a0.State)), .lit (.int .i64 (a0.Busy)), .lit (.int .i64 (a0.Exponent)), .lit (.int .i64 (a0.Clear)), .lit (.int .i64 (a0.Wait))])], []⟩⟩ (by kernel_rfl) ?_
      refine TL_grow (.c (.lit (.bool (true)))) (by kernel_rfl) (by kernel_rfl) (grow_call 12 Try.f12 [[0, 0, 0, 0, 0]] [.agg (S_Backoff.cs a0)] rfl (by kernel_rfl) Try.func12 (by kernel_rfl) (by kernel_rfl) (by kernel_rfl) (ok_backoff_Valid a0 true hv1)) ?_
      refine TL_runs 3 ⟨[(7, .c (.lit (.int .i64 (a0.State)))), (6, .c (.box 1 0)), (5, .c (.lit (.bool (true)))), (4, .c (.lit (.bool (true)))), (3, .agg [.lit (.int .i64 (a0.State)), .lit (.int .i64 (a0.Busy)), .lit (.int .i64 (a0.Exponent)), .lit (.int .i64 (a0.Clear)), .lit (.int .i64 (a0.Wait))]), (2, .c (.lit (.bool (false)))), (1, .c (.box 1 0)), (0, .agg [.lit (.int .i64 (a0.State)), .lit (.int .i64 (a0.Busy)), .lit (.int .i64 (a0.Exponent)), .lit (.int .i64 (a0.Clear)), .lit (.int .i64 (a0.Wait))])], ⟨[(1, [.lit (.int .i64 (a0.State)), .lit (.int .i64 (a0.Busy)), .lit (.int .i64 (a0.Exponent)), .lit (.int .i64 (a0.Clear)), .lit (.int .i64 (a0.Wait))])], []⟩⟩ (by kernel_rfl) ?_
      refine TL_grow (.c (.lit (.bool (true)))) (by kernel_rfl) (by kernel_rfl) (grow_bool (e := (a0.State == 3)) (by kernel_rfl) hb3) ?_
      refine TL_end ⟨[(2, .c (.lit (.bool (true)))), (14, .c (.lit (.bool (true)))), (13, .c (.lit (.bool (true)))), (12, .tup []), (11, .tup []), (10, .tup []), (9, .c (.lit (.bool (true)))), (8, .c (.lit (.bool (true)))), (7, .c (.lit (.int .i64 (a0.State)))), (6, .c (.box 1 0)), (5, .c (.lit (.bool (true)))), (4, .c (.lit (.bool (true)))), (3, .agg [.lit (.int .i64 (a0.State)), .lit (.int .i64 (a0.Busy)), .lit (.int .i64 (a0.Exponent)), .lit (.int .i64 (a0.Clear)), .lit (.int .i64 (a0.Wait))]), (1, .c (.box 1 0)), (0, .agg [.lit (.int .i64 (a0.State)), .lit (.int .i64 (a0.Busy)), .lit (.int .i64 (a0.Exponent)), .lit (.int .i64 (a0.Clear)), .lit (.int .i64 (a0.Wait))])], ⟨[(1, [.lit (.int .i64 (a0.State)), .lit (.int .i64 (a0.Busy)), .lit (.int .i64 (a0.Exponent)), .lit (.int .i64 (a0.Clear)), .lit (.int .i64 (a0.Wait))])], []⟩⟩ (by kernel_rfl) ?_
      refine T_keep [2] [] [] ?_
      refine T_ret ?_
      obtain rfl := Option.some.inj h
      exact ⟨[(false, [.lit (.bool (true))])], by kernel_rfl, by kernel_rfl⟩
    · refine T_region ?_
      refine TL_runs 1 ⟨[(3, .agg [.lit (.int .i64 (a0.State)), .lit (.int .i64 (a0.Busy)), .lit (.int .i64 (a0.Exponent)), .lit (.int .i64 (a0.Clear)), .lit (.int .i64 (a0.Wait))]), (2, .c (.lit (.bool (false)))), (1, .c (.box 1 0)), (0, .agg [.lit (.int .i64 (a0.State)), .lit (.int .i64 (a0.Busy)), .lit (.int .i64 (a0.Exponent)), .lit (.int .i64 (a0.Clear)), .lit (.int .i64 (a0.Wait))])], ⟨[(1, [.lit (.int .i64 (a0.State)), .lit (.int .i64 (a0.Busy)), .lit (.int .i64 (a0.Exponent)), .lit (.int .i64 (a0.Clear)), .lit (.int .i64 (a0.Wait))])], []⟩⟩ (by kernel_rfl) ?_
      refine TL_grow (.c (.lit (.bool (true)))) (by kernel_rfl) (by kernel_rfl) (grow_call 12 Try.f12 [[0, 0, 0, 0, 0]] [.agg (S_Backoff.cs a0)] rfl (by kernel_rfl) Try.func12 (by kernel_rfl) (by kernel_rfl) (by kernel_rfl) (ok_backoff_Valid a0 true hv1)) ?_
      refine TL_runs 3 ⟨[(7, .c (.lit (.int .i64 (a0.State)))), (6, .c (.box 1 0)), (5, .c (.lit (.bool (true)))), (4, .c (.lit (.bool (true)))), (3, .agg [.lit (.int .i64 (a0.State)), .lit (.int .i64 (a0.Busy)), .lit (.int .i64 (a0.Exponent)), .lit (.int .i64 (a0.Clear)), .lit (.int .i64 (a0.Wait))]), (2, .c (.lit (.bool (false)))), (1, .c (.box 1 0)), (0, .agg [.lit (.int .i64 (a0.State)), .lit (.int .i64 (a0.Busy)), .lit (.int .i64 (a0.Exponent)), .lit (.int .i64 (a0.Clear)), .lit (.int .i64 (a0.Wait))])], ⟨[(1, [.lit (.int .i64 (a0.State)), .lit (.int .i64 (a0.Busy)), .lit (.int .i64 (a0.Exponent)), .lit (.int .i64 (a0.Clear)), .lit (.int .i64 (a0.Wait))])], []⟩⟩ (by kernel_rfl) ?_
      refine TL_grow (.c (.lit (.bool (false)))) (by kernel_rfl) (by kernel_rfl) (grow_bool (e := (a0.State == 3)) (by kernel_rfl) hb3) ?_
      refine TL_end ⟨[(2, .c (.lit (.bool ((a0.State == 4))))), (14, .c (.lit (.bool ((a0.State == 4))))), (13, .c (.lit (.bool ((a0.State == 4))))), (12, .c (.lit (.bool ((a0.State == 4))))), (11, .c (.lit (.int .i64 (a0.State)))), (10, .c (.box 1 0)), (9, .c (.lit (.bool (false)))), (8, .c (.lit (.bool (false)))), (7, .c (.lit (.int .i64 (a0.State)))), (6, .c (.box 1 0)), (5, .c (.lit (.bool (true)))), (4, .c (.lit (.bool (true)))), (3, .agg [.lit (.int .i64 (a0.State)), .lit (.int .i64 (a0.Busy)), .lit (.int .i64 (a0.Exponent)), .lit (.int .i64 (a0.Clear)), .lit (.int .i64 (a0.Wait))]), (1, .c (.box 1 0)), (0, .agg [.lit (.int .i64 (a0.State)), .lit (.int .i64 (a0.Busy)), .lit (.int .i64 (a0.Exponent)), .lit (.int .i64 (a0.Clear)), .lit (.int .i64 (a0.Wait))])], ⟨[(1, [.lit (.int .i64 (a0.State)), .lit (.int .i64 (a0.Busy)), .lit (.int .i64 (a0.Exponent)), .lit (.int .i64 (a0.Clear)), .lit (.int .i64 (a0.Wait))])], []⟩⟩ (by kernel_rfl) ?_
      refine T_keep [2] [] [] ?_
      refine T_ret ?_
      obtain rfl := Option.some.inj h
      exact ⟨[(false, [.lit (.bool ((a0.State == 4)))])], by kernel_rfl, by kernel_rfl⟩
  · subst hb2
    refine T_region ?_
    refine TL_runs 1 ⟨[(3, .agg [.lit (.int .i64 (a0.State)), .lit (.int .i64 (a0.Busy)), .lit (.int .i64 (a0.Exponent)), .lit (.int .i64 (a0.Clear)), .lit (.int .i64 (a0.Wait))]), (2, .c (.lit (.bool (false)))), (1, .c (.box 1 0)), (0, .agg [.lit (.int .i64 (a0.State)), .lit (.int .i64 (a0.Busy)), .lit (.int .i64 (a0.Exponent)), .lit (.int .i64 (a0.Clear)), .lit (.int .i64 (a0.Wait))])], ⟨[(1, [.lit (.int .i64 (a0.State)), .lit (.int .i64 (a0.Busy)), .lit (.int .i64 (a0.Exponent)), .lit (.int .i64 (a0.Clear)), .lit (.int .i64 (a0.Wait))])], []⟩⟩ (by kernel_rfl) ?_
    refine TL_grow (.c (.lit (.bool (false)))) (by kernel_rfl) (by kernel_rfl) (grow_call 12 Try.f12 [[0, 0, 0, 0, 0]] [.agg (S_Backoff.cs a0)] rfl (by kernel_rfl) Try.func12 (by kernel_rfl) (by kernel_rfl) (by kernel_rfl) (ok_backoff_Valid a0 false hv1)) ?_
    refine TL_end ⟨[(2, .c (.lit (.bool (false)))), (14, .c (.lit (.bool (false)))), (13, .tup []), (12, .tup []), (11, .tup []), (10, .tup []), (9, .tup []), (8, .tup []), (7, .tup []), (6, .tup []), (5, .c (.lit (.bool (false)))), (4, .c (.lit (.bool (false)))), (3, .agg [.lit (.int .i64 (a0.State)), .lit (.int .i64 (a0.Busy)), .lit (.int .i64 (a0.Exponent)), .lit (.int .i64 (a0.Clear)), .lit (.int .i64 (a0.Wait))]), (1, .c (.box 1 0)), (0, .agg [.lit (.int .i64 (a0.State)), .lit (.int .i64 (a0.Busy)), .lit (.int .i64 (a0.Exponent)), .lit (.int .i64 (a0.Clear)), .lit (.int .i64 (a0.Wait))])], ⟨[(1, [.lit (.int .i64 (a0.State)), .lit (.int .i64 (a0.Busy)), .lit (.int .i64 (a0.Exponent)), .lit (.int .i64 (a0.Clear)), .lit (.int .i64 (a0.Wait))])], []⟩⟩ (by kernel_rfl) ?_
    refine T_keep [2] [] [] ?_
    refine T_ret ?_
    obtain rfl := Option.some.inj h
    exact ⟨[(false, [.lit (.bool (false))])], by kernel_rfl, by kernel_rfl⟩

/-- multihop/multihopref08.Ended -/
noncomputable def F_ref08_Ended (a0 : S_Backoff) : Option (Bool) :=
  (F_ref08_Valid a0).bind fun v1 =>
  bif v1 then
    bif (a0.State == 3) then
      some (true)
    else
      some ((a0.State == 4))
  else
    some (false)
set_option maxRecDepth 100000 in
theorem ok_ref08_Ended (a0 : S_Backoff) (r : Bool) (h : F_ref08_Ended a0 = some r) : Pure Try.prog 15 [.agg (S_Backoff.cs a0)] (.c (.lit (.bool (r)))) := by
  unfold F_ref08_Ended at h
  refine pure_of [[0]] 15 Try.func15 rfl rfl rfl (by kernel_rfl) (fun K => ?_)
  refine T_seq ?_
  refine T_runs ⟨[(2, .c (.lit (.bool (false)))), (1, .c (.box 1 0)), (0, .agg [.lit (.int .i64 (a0.State)), .lit (.int .i64 (a0.Busy)), .lit (.int .i64 (a0.Exponent)), .lit (.int .i64 (a0.Clear)), .lit (.int .i64 (a0.Wait))])], ⟨[(1, [.lit (.int .i64 (a0.State)), .lit (.int .i64 (a0.Busy)), .lit (.int .i64 (a0.Exponent)), .lit (.int .i64 (a0.Clear)), .lit (.int .i64 (a0.Wait))])], []⟩⟩ (by kernel_rfl) ?_
  refine T_seq ?_
  replace h := bindO h
  obtain ⟨v1, hv1, h⟩ := h
  replace h := condO h
  rcases h with ⟨hb2, h⟩ | ⟨hb2, h⟩
  · subst hb2
    replace h := condO h
    rcases h with ⟨hb3, h⟩ | ⟨hb3, h⟩
    · refine T_region ?_
      refine TL_runs 1 ⟨[(3, .agg [.lit (.int .i64 (a0.State)), .lit (.int .i64 (a0.Busy)), .lit (.int .i64 (a0.Exponent)), .lit (.int .i64 (a0.Clear)), .lit (.int .i64 (a0.Wait))]), (2, .c (.lit (.bool (false)))), (1, .c (.box 1 0)), (0, .agg [.lit (.int .i64 (a0.State)), .lit (.int .i64 (a0.Busy)), .lit (.int .i64 (a0.Exponent)), .lit (.int .i64 (a0.Clear)), .lit (.int .i64 (a0.Wait))])], ⟨[(1, [.lit (.int .i64 (a0.State)), .lit (.int .i64 (a0.Busy)), .lit (.int .i64 (a0.Exponent)), .lit (.int .i64 (a0.Clear)), .lit (.int .i64 (a0.Wait))])], []⟩⟩ (by kernel_rfl) ?_
      refine TL_grow (.c (.lit (.bool (true)))) (by kernel_rfl) (by kernel_rfl) (grow_call 13 Try.f13 [[0, 0, 0, 0, 0]] [.agg (S_Backoff.cs a0)] rfl (by kernel_rfl) Try.func13 (by kernel_rfl) (by kernel_rfl) (by kernel_rfl) (ok_ref08_Valid a0 true hv1)) ?_
      refine TL_runs 3 ⟨[(7, .c (.lit (.int .i64 (a0.State)))), (6, .c (.box 1 0)), (5, .c (.lit (.bool (true)))), (4, .c (.lit (.bool (true)))), (3, .agg [.lit (.int .i64 (a0.State)), .lit (.int .i64 (a0.Busy)), .lit (.int .i64 (a0.Exponent)), .lit (.int .i64 (a0.Clear)), .lit (.int .i64 (a0.Wait))]), (2, .c (.lit (.bool (false)))), (1, .c (.box 1 0)), (0, .agg [.lit (.int .i64 (a0.State)), .lit (.int .i64 (a0.Busy)), .lit (.int .i64 (a0.Exponent)), .lit (.int .i64 (a0.Clear)), .lit (.int .i64 (a0.Wait))])], ⟨[(1, [.lit (.int .i64 (a0.State)), .lit (.int .i64 (a0.Busy)), .lit (.int .i64 (a0.Exponent)), .lit (.int .i64 (a0.Clear)), .lit (.int .i64 (a0.Wait))])], []⟩⟩ (by kernel_rfl) ?_
      refine TL_grow (.c (.lit (.bool (true)))) (by kernel_rfl) (by kernel_rfl) (grow_bool (e := (a0.State == 3)) (by kernel_rfl) hb3) ?_
      refine TL_end ⟨[(2, .c (.lit (.bool (true)))), (14, .c (.lit (.bool (true)))), (13, .c (.lit (.bool (true)))), (12, .tup []), (11, .tup []), (10, .tup []), (9, .c (.lit (.bool (true)))), (8, .c (.lit (.bool (true)))), (7, .c (.lit (.int .i64 (a0.State)))), (6, .c (.box 1 0)), (5, .c (.lit (.bool (true)))), (4, .c (.lit (.bool (true)))), (3, .agg [.lit (.int .i64 (a0.State)), .lit (.int .i64 (a0.Busy)), .lit (.int .i64 (a0.Exponent)), .lit (.int .i64 (a0.Clear)), .lit (.int .i64 (a0.Wait))]), (1, .c (.box 1 0)), (0, .agg [.lit (.int .i64 (a0.State)), .lit (.int .i64 (a0.Busy)), .lit (.int .i64 (a0.Exponent)), .lit (.int .i64 (a0.Clear)), .lit (.int .i64 (a0.Wait))])], ⟨[(1, [.lit (.int .i64 (a0.State)), .lit (.int .i64 (a0.Busy)), .lit (.int .i64 (a0.Exponent)), .lit (.int .i64 (a0.Clear)), .lit (.int .i64 (a0.Wait))])], []⟩⟩ (by kernel_rfl) ?_
      refine T_keep [2] [] [] ?_
      refine T_ret ?_
      obtain rfl := Option.some.inj h
      exact ⟨[(false, [.lit (.bool (true))])], by kernel_rfl, by kernel_rfl⟩
    · refine T_region ?_
      refine TL_runs 1 ⟨[(3, .agg [.lit (.int .i64 (a0.State)), .lit (.int .i64 (a0.Busy)), .lit (.int .i64 (a0.Exponent)), .lit (.int .i64 (a0.Clear)), .lit (.int .i64 (a0.Wait))]), (2, .c (.lit (.bool (false)))), (1, .c (.box 1 0)), (0, .agg [.lit (.int .i64 (a0.State)), .lit (.int .i64 (a0.Busy)), .lit (.int .i64 (a0.Exponent)), .lit (.int .i64 (a0.Clear)), .lit (.int .i64 (a0.Wait))])], ⟨[(1, [.lit (.int .i64 (a0.State)), .lit (.int .i64 (a0.Busy)), .lit (.int .i64 (a0.Exponent)), .lit (.int .i64 (a0.Clear)), .lit (.int .i64 (a0.Wait))])], []⟩⟩ (by kernel_rfl) ?_
      refine TL_grow (.c (.lit (.bool (true)))) (by kernel_rfl) (by kernel_rfl) (grow_call 13 Try.f13 [[0, 0, 0, 0, 0]] [.agg (S_Backoff.cs a0)] rfl (by kernel_rfl) Try.func13 (by kernel_rfl) (by kernel_rfl) (by kernel_rfl) (ok_ref08_Valid a0 true hv1)) ?_
      refine TL_runs 3 ⟨[(7, .c (.lit (.int .i64 (a0.State)))), (6, .c (.box 1 0)), (5, .c (.lit (.bool (true)))), (4, .c (.lit (.bool (true)))), (3, .agg [.lit (.int .i64 (a0.State)), .lit (.int .i64 (a0.Busy)), .lit (.int .i64 (a0.Exponent)), .lit (.int .i64 (a0.Clear)), .lit (.int .i64 (a0.Wait))]), (2, .c (.lit (.bool (false)))), (1, .c (.box 1 0)), (0, .agg [.lit (.int .i64 (a0.State)), .lit (.int .i64 (a0.Busy)), .lit (.int .i64 (a0.Exponent)), .lit (.int .i64 (a0.Clear)), .lit (.int .i64 (a0.Wait))])], ⟨[(1, [.lit (.int .i64 (a0.State)), .lit (.int .i64 (a0.Busy)), .lit (.int .i64 (a0.Exponent)), .lit (.int .i64 (a0.Clear)), .lit (.int .i64 (a0.Wait))])], []⟩⟩ (by kernel_rfl) ?_
      refine TL_grow (.c (.lit (.bool (false)))) (by kernel_rfl) (by kernel_rfl) (grow_bool (e := (a0.State == 3)) (by kernel_rfl) hb3) ?_
      refine TL_end ⟨[(2, .c (.lit (.bool ((a0.State == 4))))), (14, .c (.lit (.bool ((a0.State == 4))))), (13, .c (.lit (.bool ((a0.State == 4))))), (12, .c (.lit (.bool ((a0.State == 4))))), (11, .c (.lit (.int .i64 (a0.State)))), (10, .c (.box 1 0)), (9, .c (.lit (.bool (false)))), (8, .c (.lit (.bool (false)))), (7, .c (.lit (.int .i64 (a0.State)))), (6, .c (.box 1 0)), (5, .c (.lit (.bool (true)))), (4, .c (.lit (.bool (true)))), (3, .agg [.lit (.int .i64 (a0.State)), .lit (.int .i64 (a0.Busy)), .lit (.int .i64 (a0.Exponent)), .lit (.int .i64 (a0.Clear)), .lit (.int .i64 (a0.Wait))]), (1, .c (.box 1 0)), (0, .agg [.lit (.int .i64 (a0.State)), .lit (.int .i64 (a0.Busy)), .lit (.int .i64 (a0.Exponent)), .lit (.int .i64 (a0.Clear)), .lit (.int .i64 (a0.Wait))])], ⟨[(1, [.lit (.int .i64 (a0.State)), .lit (.int .i64 (a0.Busy)), .lit (.int .i64 (a0.Exponent)), .lit (.int .i64 (a0.Clear)), .lit (.int .i64 (a0.Wait))])], []⟩⟩ (by kernel_rfl) ?_
      refine T_keep [2] [] [] ?_
      refine T_ret ?_
      obtain rfl := Option.some.inj h
      exact ⟨[(false, [.lit (.bool ((a0.State == 4)))])], by kernel_rfl, by kernel_rfl⟩
  · subst hb2
    refine T_region ?_
    refine TL_runs 1 ⟨[(3, .agg [.lit (.int .i64 (a0.State)), .lit (.int .i64 (a0.Busy)), .lit (.int .i64 (a0.Exponent)), .lit (.int .i64 (a0.Clear)), .lit (.int .i64 (a0.Wait))]), (2, .c (.lit (.bool (false)))), (1, .c (.box 1 0)), (0, .agg [.lit (.int .i64 (a0.State)), .lit (.int .i64 (a0.Busy)), .lit (.int .i64 (a0.Exponent)), .lit (.int .i64 (a0.Clear)), .lit (.int .i64 (a0.Wait))])], ⟨[(1, [.lit (.int .i64 (a0.State)), .lit (.int .i64 (a0.Busy)), .lit (.int .i64 (a0.Exponent)), .lit (.int .i64 (a0.Clear)), .lit (.int .i64 (a0.Wait))])], []⟩⟩ (by kernel_rfl) ?_
    refine TL_grow (.c (.lit (.bool (false)))) (by kernel_rfl) (by kernel_rfl) (grow_call 13 Try.f13 [[0, 0, 0, 0, 0]] [.agg (S_Backoff.cs a0)] rfl (by kernel_rfl) Try.func13 (by kernel_rfl) (by kernel_rfl) (by kernel_rfl) (ok_ref08_Valid a0 false hv1)) ?_
    refine TL_end ⟨[(2, .c (.lit (.bool (false)))), (14, .c (.lit (.bool (false)))), (13, .tup []), (12, .tup []), (11, .tup []), (10, .tup []), (9, .tup []), (8, .tup []), (7, .tup []), (6, .tup []), (5, .c (.lit (.bool (false)))), (4, .c (.lit (.bool (false)))), (3, .agg [.lit (.int .i64 (a0.State)), .lit (.int .i64 (a0.Busy)), .lit (.int .i64 (a0.Exponent)), .lit (.int .i64 (a0.Clear)), .lit (.int .i64 (a0.Wait))]), (1, .c (.box 1 0)), (0, .agg [.lit (.int .i64 (a0.State)), .lit (.int .i64 (a0.Busy)), .lit (.int .i64 (a0.Exponent)), .lit (.int .i64 (a0.Clear)), .lit (.int .i64 (a0.Wait))])], ⟨[(1, [.lit (.int .i64 (a0.State)), .lit (.int .i64 (a0.Busy)), .lit (.int .i64 (a0.Exponent)), .lit (.int .i64 (a0.Clear)), .lit (.int .i64 (a0.Wait))])], []⟩⟩ (by kernel_rfl) ?_
    refine T_keep [2] [] [] ?_
    refine T_ret ?_
    obtain rfl := Option.some.inj h
    exact ⟨[(false, [.lit (.bool (false))])], by kernel_rfl, by kernel_rfl⟩

/-- multihop/backoff.drawn -/
noncomputable def F_backoff_drawn_j1 (a0 : S_Backoff) (a1 : Int) (v4 : Int) : Option (S_Backoff) :=
  some ((S_Backoff.mk v4 a0.Busy a0.Exponent 2 (IntKind.wrap .i64 (Int.tmod a1 (ishl .u32 1 a0.Exponent)))))
noncomputable def F_backoff_drawn (a0 : S_Backoff) (a1 : Int) : Option (S_Backoff) :=
  bif decide (0 ≤ a0.Exponent) then
    bif decide ((ishl .u32 1 a0.Exponent) ≠ 0) then
      bif (decide ((IntKind.wrap .i64 (Int.tmod a1 (ishl .u32 1 a0.Exponent))) > 0)) then
        (F_backoff_drawn_j1 a0 a1) 1
      else
        (F_backoff_drawn_j1 a0 a1) 2
    else none
  else none
set_option maxRecDepth 100000 in
theorem ok_backoff_drawn (a0 : S_Backoff) (a1 : Int) (r : S_Backoff) (h : F_backoff_drawn a0 a1 = some r) : Pure Try.prog 28 [.agg (S_Backoff.cs a0), .c (.lit (.int .u32 (a1)))] (.agg (S_Backoff.cs r)) := by
  unfold F_backoff_drawn at h
  refine pure_of [[0, 0, 0, 0, 0]] 19 Try.func28 rfl rfl rfl (by kernel_rfl) (fun K => ?_)
  refine T_seq ?_
  refine T_runs ⟨[(4, .c (.box 4 0)), (2, .c (.box 2 0)), (0, .agg [.lit (.int .i64 (a0.State)), .lit (.int .i64 (a0.Busy)), .lit (.int .i64 (a0.Exponent)), .lit (.int .i64 (a0.Clear)), .lit (.int .i64 (a0.Wait))]), (1, .c (.lit (.int .u32 (a1))))], ⟨[(4, [.lit (.int .i64 (0)), .lit (.int .i64 (0)), .lit (.int .i64 (0)), .lit (.int .i64 (0)), .lit (.int .i64 (0))]), (2, [.lit (.int .i64 (a0.State)), .lit (.int .i64 (a0.Busy)), .lit (.int .i64 (a0.Exponent)), .lit (.int .i64 (a0.Clear)), .lit (.int .i64 (a0.Wait))])], []⟩⟩ (by kernel_rfl) ?_
  refine T_seq ?_
  refine T_runs ⟨[(5, .c (.box 2 3)), (4, .c (.box 4 0)), (2, .c (.box 2 0)), (0, .agg [.lit (.int .i64 (a0.State)), .lit (.int .i64 (a0.Busy)), .lit (.int .i64 (a0.Exponent)), .lit (.int .i64 (a0.Clear)), .lit (.int .i64 (a0.Wait))]), (1, .c (.lit (.int .u32 (a1))))], ⟨[(2, [.lit (.int .i64 (a0.State)), .lit (.int .i64 (a0.Busy)), .lit (.int .i64 (a0.Exponent)), .lit (.int .i64 (2)), .lit (.int .i64 (a0.Wait))]), (4, [.lit (.int .i64 (0)), .lit (.int .i64 (0)), .lit (.int .i64 (0)), .lit (.int .i64 (0)), .lit (.int .i64 (0))])], []⟩⟩ (by kernel_rfl) ?_
  refine T_seq ?_
  replace h := chkO h
  obtain ⟨hc1, h⟩ := h
  replace h := chkO h
  obtain ⟨hc2, h⟩ := h
  refine T_region ?_
  refine TL_runs 3 ⟨[(8, .c (.lit (.int .i64 (a0.Exponent)))), (7, .c (.box 2 2)), (6, .c (.lit (.int .u32 (a1)))), (5, .c (.box 2 3)), (4, .c (.box 4 0)), (2, .c (.box 2 0)), (0, .agg [.lit (.int .i64 (a0.State)), .lit (.int .i64 (a0.Busy)), .lit (.int .i64 (a0.Exponent)), .lit (.int .i64 (a0.Clear)), .lit (.int .i64 (a0.Wait))]), (1, .c (.lit (.int .u32 (a1))))], ⟨[(2, [.lit (.int .i64 (a0.State)), .lit (.int .i64 (a0.Busy)), .lit (.int .i64 (a0.Exponent)), .lit (.int .i64 (2)), .lit (.int .i64 (a0.Wait))]), (4, [.lit (.int .i64 (0)), .lit (.int .i64 (0)), .lit (.int .i64 (0)), .lit (.int .i64 (0)), .lit (.int .i64 (0))])], []⟩⟩ (by kernel_rfl) ?_
  refine TL_grow (.c (.lit (.int .u32 (ishl .u32 1 a0.Exponent)))) (by kernel_rfl) (by kernel_rfl) (PureOp.grow (pure_intC (k := .u32) (k' := .i64) (1) (a0.Exponent) (by simp) rfl (by kernel_rfl) (by kernel_rfl) rfl (of_decide_eq_true hc1))) ?_
  refine TL_grow (.c (.lit (.int .u32 (Int.tmod a1 (ishl .u32 1 a0.Exponent))))) (by kernel_rfl) (by kernel_rfl) (PureOp.grow (pure_intC (k := .u32) (k' := .u32) (a1) (ishl .u32 1 a0.Exponent) (by simp) rfl (by kernel_rfl) (by kernel_rfl) rfl (of_decide_eq_true hc2))) ?_
  refine TL_end ⟨[(12, .c (.box 2 4)), (11, .c (.lit (.int .i64 (IntKind.wrap .i64 (Int.tmod a1 (ishl .u32 1 a0.Exponent)))))), (10, .c (.lit (.int .u32 (Int.tmod a1 (ishl .u32 1 a0.Exponent))))), (9, .c (.lit (.int .u32 (ishl .u32 1 a0.Exponent)))), (8, .c (.lit (.int .i64 (a0.Exponent)))), (7, .c (.box 2 2)), (6, .c (.lit (.int .u32 (a1)))), (5, .c (.box 2 3)), (4, .c (.box 4 0)), (2, .c (.box 2 0)), (0, .agg [.lit (.int .i64 (a0.State)), .lit (.int .i64 (a0.Busy)), .lit (.int .i64 (a0.Exponent)), .lit (.int .i64 (a0.Clear)), .lit (.int .i64 (a0.Wait))]), (1, .c (.lit (.int .u32 (a1))))], ⟨[(2, [.lit (.int .i64 (a0.State)), .lit (.int .i64 (a0.Busy)), .lit (.int .i64 (a0.Exponent)), .lit (.int .i64 (2)), .lit (.int .i64 (IntKind.wrap .i64 (Int.tmod a1 (ishl .u32 1 a0.Exponent))))]), (4, [.lit (.int .i64 (0)), .lit (.int .i64 (0)), .lit (.int .i64 (0)), .lit (.int .i64 (0)), .lit (.int .i64 (0))])], []⟩⟩ (by kernel_rfl) ?_
  refine T_keep [4, 2] [2, 4] [] ?_
  refine T_seq ?_
  refine T_runs ⟨[(13, .c (.box 2 0)), (4, .c (.box 4 0)), (2, .c (.box 2 0))], ⟨[(2, [.lit (.int .i64 (2)), .lit (.int .i64 (a0.Busy)), .lit (.int .i64 (a0.Exponent)), .lit (.int .i64 (2)), .lit (.int .i64 (IntKind.wrap .i64 (Int.tmod a1 (ishl .u32 1 a0.Exponent))))]), (4, [.lit (.int .i64 (0)), .lit (.int .i64 (0)), .lit (.int .i64 (0)), .lit (.int .i64 (0)), .lit (.int .i64 (0))])], []⟩⟩ (by kernel_rfl) ?_
  refine T_join [2, 4] [2, 4] (fun (v4 : Int) => ⟨[(2, .c (.box 2 0)), (4, .c (.box 4 0))], ⟨[(2, [.lit (.int .i64 (v4)), .lit (.int .i64 (a0.Busy)), .lit (.int .i64 (a0.Exponent)), .lit (.int .i64 (2)), .lit (.int .i64 (IntKind.wrap .i64 (Int.tmod a1 (ishl .u32 1 a0.Exponent))))]), (4, [.lit (.int .i64 (0)), .lit (.int .i64 (0)), .lit (.int .i64 (0)), .lit (.int .i64 (0)), .lit (.int .i64 (0))])], []⟩⟩) (F_backoff_drawn_j1 a0 a1) r ?_ ?_
  · intro v4 h
    unfold F_backoff_drawn_j1 at h
    refine T_seq ?_
    refine T_runs ⟨[(18, .agg [.lit (.int .i64 (v4)), .lit (.int .i64 (a0.Busy)), .lit (.int .i64 (a0.Exponent)), .lit (.int .i64 (2)), .lit (.int .i64 (IntKind.wrap .i64 (Int.tmod a1 (ishl .u32 1 a0.Exponent))))]), (2, .c (.box 2 0)), (4, .c (.box 4 0))], ⟨[(4, [.lit (.int .i64 (v4)), .lit (.int .i64 (a0.Busy)), .lit (.int .i64 (a0.Exponent)), .lit (.int .i64 (2)), .lit (.int .i64 (IntKind.wrap .i64 (Int.tmod a1 (ishl .u32 1 a0.Exponent))))]), (2, [.lit (.int .i64 (v4)), .lit (.int .i64 (a0.Busy)), .lit (.int .i64 (a0.Exponent)), .lit (.int .i64 (2)), .lit (.int .i64 (IntKind.wrap .i64 (Int.tmod a1 (ishl .u32 1 a0.Exponent))))])], []⟩⟩ (by kernel_rfl) ?_
    refine T_keep [4] [4] [] ?_
    refine T_ret ?_
    obtain rfl := Option.some.inj h
    exact ⟨[(true, [.lit (.int .i64 (v4)), .lit (.int .i64 (a0.Busy)), .lit (.int .i64 (a0.Exponent)), .lit (.int .i64 (2)), .lit (.int .i64 (IntKind.wrap .i64 (Int.tmod a1 (ishl .u32 1 a0.Exponent))))])], by kernel_rfl, by kernel_rfl⟩
  · refine T_seq ?_
    refine T_runs ⟨[(16, .c (.lit (.bool ((decide ((IntKind.wrap .i64 (Int.tmod a1 (ishl .u32 1 a0.Exponent))) > 0)))))), (15, .c (.lit (.int .i64 (IntKind.wrap .i64 (Int.tmod a1 (ishl .u32 1 a0.Exponent)))))), (14, .c (.box 2 4)), (13, .c (.box 2 0)), (4, .c (.box 4 0)), (2, .c (.box 2 0))], ⟨[(2, [.lit (.int .i64 (2)), .lit (.int .i64 (a0.Busy)), .lit (.int .i64 (a0.Exponent)), .lit (.int .i64 (2)), .lit (.int .i64 (IntKind.wrap .i64 (Int.tmod a1 (ishl .u32 1 a0.Exponent))))]), (4, [.lit (.int .i64 (0)), .lit (.int .i64 (0)), .lit (.int .i64 (0)), .lit (.int .i64 (0)), .lit (.int .i64 (0))])], []⟩⟩ (by kernel_rfl) ?_
    refine T_keep [16, 4, 2] [2, 4] [] ?_
    replace h := condO h
    rcases h with ⟨hb5, h⟩ | ⟨hb5, h⟩
    · refine T_condT' (e := (decide ((IntKind.wrap .i64 (Int.tmod a1 (ishl .u32 1 a0.Exponent))) > 0))) (by kernel_rfl) hb5 ?_
      refine T_runs ⟨[(17, .c (.box 2 0)), (16, .c (.lit (.bool ((decide ((IntKind.wrap .i64 (Int.tmod a1 (ishl .u32 1 a0.Exponent))) > 0)))))), (4, .c (.box 4 0)), (2, .c (.box 2 0))], ⟨[(2, [.lit (.int .i64 (1)), .lit (.int .i64 (a0.Busy)), .lit (.int .i64 (a0.Exponent)), .lit (.int .i64 (2)), .lit (.int .i64 (IntKind.wrap .i64 (Int.tmod a1 (ishl .u32 1 a0.Exponent))))]), (4, [.lit (.int .i64 (0)), .lit (.int .i64 (0)), .lit (.int .i64 (0)), .lit (.int .i64 (0)), .lit (.int .i64 (0))])], []⟩⟩ (by kernel_rfl) ?_
      exact ⟨1, h, by kernel_rfl⟩
    · refine T_condF' (e := (decide ((IntKind.wrap .i64 (Int.tmod a1 (ishl .u32 1 a0.Exponent))) > 0))) (by kernel_rfl) hb5 ?_
      refine T_skip ?_
      exact ⟨2, h, by kernel_rfl⟩

/-- multihop/backoff.sense -/
noncomputable def F_backoff_sense_j1 (a0 : S_Backoff) (v6 : Int) : Option (S_Backoff) :=
  some ((S_Backoff.mk v6 a0.Busy a0.Exponent (IntKind.wrap .i64 (a0.Clear - 1)) a0.Wait))
noncomputable def F_backoff_sense (a0 : S_Backoff) (a1 : Bool) (a2 : Int) : Option (S_Backoff) :=
  bif a1 then
    (F_backoff_exponent (IntKind.wrap .i64 (a0.Busy + 1))).bind fun v2 =>
    bif (decide ((IntKind.wrap .i64 (a0.Busy + 1)) ≤ 4)) then
      (F_backoff_drawn (S_Backoff.mk a0.State (IntKind.wrap .i64 (a0.Busy + 1)) v2 a0.Clear a0.Wait) a2).bind fun v4 =>
      some (v4)
    else
      some ((S_Backoff.mk 4 (IntKind.wrap .i64 (a0.Busy + 1)) v2 2 a0.Wait))
  else
    bif ((IntKind.wrap .i64 (a0.Clear - 1)) == 0) then
      (F_backoff_sense_j1 a0) 3
    else
      (F_backoff_sense_j1 a0) a0.State
set_option maxRecDepth 100000 in
theorem ok_backoff_sense (a0 : S_Backoff) (a1 : Bool) (a2 : Int) (r : S_Backoff) (h : F_backoff_sense a0 a1 a2 = some r) : Pure Try.prog 26 [.agg (S_Backoff.cs a0), .c (.lit (.bool (a1))), .c (.lit (.int .u32 (a2)))] (.agg (S_Backoff.cs r)) := by
  unfold F_backoff_sense at h
  refine pure_of [[0, 0, 0, 0, 0]] 35 Try.func26 rfl rfl rfl (by kernel_rfl) (fun K => ?_)
  refine T_seq ?_
  refine T_runs ⟨[(6, .c (.box 6 0)), (3, .c (.box 3 0)), (0, .agg [.lit (.int .i64 (a0.State)), .lit (.int .i64 (a0.Busy)), .lit (.int .i64 (a0.Exponent)), .lit (.int .i64 (a0.Clear)), .lit (.int .i64 (a0.Wait))]), (1, .c (.lit (.bool (a1)))), (2, .c (.lit (.int .u32 (a2))))], ⟨[(6, [.lit (.int .i64 (0)), .lit (.int .i64 (0)), .lit (.int .i64 (0)), .lit (.int .i64 (0)), .lit (.int .i64 (0))]), (3, [.lit (.int .i64 (a0.State)), .lit (.int .i64 (a0.Busy)), .lit (.int .i64 (a0.Exponent)), .lit (.int .i64 (a0.Clear)), .lit (.int .i64 (a0.Wait))])], []⟩⟩ (by kernel_rfl) ?_
  refine T_seq ?_
  refine T_seq ?_
  refine T_runs ⟨[(8, .c (.lit (.bool ((!a1))))), (7, .c (.lit (.bool (a1)))), (6, .c (.box 6 0)), (3, .c (.box 3 0)), (0, .agg [.lit (.int .i64 (a0.State)), .lit (.int .i64 (a0.Busy)), .lit (.int .i64 (a0.Exponent)), .lit (.int .i64 (a0.Clear)), .lit (.int .i64 (a0.Wait))]), (1, .c (.lit (.bool (a1)))), (2, .c (.lit (.int .u32 (a2))))], ⟨[(6, [.lit (.int .i64 (0)), .lit (.int .i64 (0)), .lit (.int .i64 (0)), .lit (.int .i64 (0)), .lit (.int .i64 (0))]), (3, [.lit (.int .i64 (a0.State)), .lit (.int .i64 (a0.Busy)), .lit (.int .i64 (a0.Exponent)), .lit (.int .i64 (a0.Clear)), .lit (.int .i64 (a0.Wait))])], []⟩⟩ (by kernel_rfl) ?_
  refine T_keep [8, 6, 3, 2] [6, 3] [] ?_
  replace h := condO h
  rcases h with ⟨hb1, h⟩ | ⟨hb1, h⟩
  · subst hb1
    refine T_condF (by kernel_rfl) ?_
    refine T_skip ?_
    refine T_seq ?_
    refine T_runs ⟨[(21, .c (.box 3 1)), (20, .c (.lit (.int .i64 (IntKind.wrap .i64 (a0.Busy + 1))))), (19, .c (.lit (.int .i64 (a0.Busy)))), (18, .c (.box 3 1)), (8, .c (.lit (.bool (false)))), (6, .c (.box 6 0)), (3, .c (.box 3 0)), (2, .c (.lit (.int .u32 (a2))))], ⟨[(3, [.lit (.int .i64 (a0.State)), .lit (.int .i64 (IntKind.wrap .i64 (a0.Busy + 1))), .lit (.int .i64 (a0.Exponent)), .lit (.int .i64 (a0.Clear)), .lit (.int .i64 (a0.Wait))]), (6, [.lit (.int .i64 (0)), .lit (.int .i64 (0)), .lit (.int .i64 (0)), .lit (.int .i64 (0)), .lit (.int .i64 (0))])], []⟩⟩ (by kernel_rfl) ?_
    refine T_keep [6, 3, 2] [3, 6] [] ?_
    refine T_seq ?_
    replace h := bindO h
    obtain ⟨v2, hv2, h⟩ := h
    refine T_region ?_
    refine TL_runs 2 ⟨[(23, .c (.lit (.int .i64 (IntKind.wrap .i64 (a0.Busy + 1))))), (22, .c (.box 3 1)), (6, .c (.box 6 0)), (3, .c (.box 3 0)), (2, .c (.lit (.int .u32 (a2))))], ⟨[(3, [.lit (.int .i64 (a0.State)), .lit (.int .i64 (IntKind.wrap .i64 (a0.Busy + 1))), .lit (.int .i64 (a0.Exponent)), .lit (.int .i64 (a0.Clear)), .lit (.int .i64 (a0.Wait))]), (6, [.lit (.int .i64 (0)), .lit (.int .i64 (0)), .lit (.int .i64 (0)), .lit (.int .i64 (0)), .lit (.int .i64 (0))])], []⟩⟩ (by kernel_rfl) ?_
    refine TL_grow (.c (.lit (.int .i64 (v2)))) (by kernel_rfl) (by kernel_rfl) (grow_call 24 Try.f24 [[0]] [.c (.lit (.int .i64 ((IntKind.wrap .i64 (a0.Busy + 1)))))] rfl (by kernel_rfl) Try.func24 (by kernel_rfl) (by kernel_rfl) (by kernel_rfl) (ok_backoff_exponent (IntKind.wrap .i64 (a0.Busy + 1)) v2 hv2)) ?_
    refine TL_end ⟨[(25, .c (.box 3 2)), (24, .c (.lit (.int .i64 (v2)))), (23, .c (.lit (.int .i64 (IntKind.wrap .i64 (a0.Busy + 1))))), (22, .c (.box 3 1)), (6, .c (.box 6 0)), (3, .c (.box 3 0)), (2, .c (.lit (.int .u32 (a2))))], ⟨[(3, [.lit (.int .i64 (a0.State)), .lit (.int .i64 (IntKind.wrap .i64 (a0.Busy + 1))), .lit (.int .i64 (v2)), .lit (.int .i64 (a0.Clear)), .lit (.int .i64 (a0.Wait))]), (6, [.lit (.int .i64 (0)), .lit (.int .i64 (0)), .lit (.int .i64 (0)), .lit (.int .i64 (0)), .lit (.int .i64 (0))])], []⟩⟩ (by kernel_rfl) ?_
    refine T_keep [6, 3, 2] [3, 6] [] ?_
    refine T_seq ?_
    refine T_seq ?_
    refine T_runs ⟨[(28, .c (.lit (.bool ((decide ((IntKind.wrap .i64 (a0.Busy + 1)) ≤ 4)))))), (27, .c (.lit (.int .i64 (IntKind.wrap .i64 (a0.Busy + 1))))), (26, .c (.box 3 1)), (6, .c (.box 6 0)), (3, .c (.box 3 0)), (2, .c (.lit (.int .u32 (a2))))], ⟨[(3, [.lit (.int .i64 (a0.State)), .lit (.int .i64 (IntKind.wrap .i64 (a0.Busy + 1))), .lit (.int .i64 (v2)), .lit (.int .i64 (a0.Clear)), .lit (.int .i64 (a0.Wait))]), (6, [.lit (.int .i64 (0)), .lit (.int .i64 (0)), .lit (.int .i64 (0)), .lit (.int .i64 (0)), .lit (.int .i64 (0))])], []⟩⟩ (by kernel_rfl) ?_
    replace h := condO h
    rcases h with ⟨hb3, h⟩ | ⟨hb3, h⟩
    · refine T_condT' (e := (decide ((IntKind.wrap .i64 (a0.Busy + 1)) ≤ 4))) (by kernel_rfl) hb3 ?_
      refine T_seq ?_
      replace h := bindO h
      obtain ⟨v4, hv4, h⟩ := h
      refine T_region ?_
      refine TL_runs 2 ⟨[(30, .c (.lit (.int .u32 (a2)))), (29, .agg [.lit (.int .i64 (a0.State)), .lit (.int .i64 (IntKind.wrap .i64 (a0.Busy + 1))), .lit (.int .i64 (v2)), .lit (.int .i64 (a0.Clear)), .lit (.int .i64 (a0.Wait))]), (28, .c (.lit (.bool ((decide ((IntKind.wrap .i64 (a0.Busy + 1)) ≤ 4)))))), (27, .c (.lit (.int .i64 (IntKind.wrap .i64 (a0.Busy + 1))))), (26, .c (.box 3 1)), (6, .c (.box 6 0)), (3, .c (.box 3 0)), (2, .c (.lit (.int .u32 (a2))))], ⟨[(3, [.lit (.int .i64 (a0.State)), .lit (.int .i64 (IntKind.wrap .i64 (a0.Busy + 1))), .lit (.int .i64 (v2)), .lit (.int .i64 (a0.Clear)), .lit (.int .i64 (a0.Wait))]), (6, [.lit (.int .i64 (0)), .lit (.int .i64 (0)), .lit (.int .i64 (0)), .lit (.int .i64 (0)), .lit (.int .i64 (0))])], []⟩⟩ (by kernel_rfl) ?_
      refine TL_grow (.agg [.lit (.int .i64 (v4.State)), .lit (.int .i64 (v4.Busy)), .lit (.int .i64 (v4.Exponent)), .lit (.int .i64 (v4.Clear)), .lit (.int .i64 (v4.Wait))]) (by kernel_rfl) (by kernel_rfl) (grow_call 28 Try.f28 [[0, 0, 0, 0, 0], [0]] [.agg (S_Backoff.cs (S_Backoff.mk a0.State (IntKind.wrap .i64 (a0.Busy + 1)) v2 a0.Clear a0.Wait)), .c (.lit (.int .u32 (a2)))] rfl (by kernel_rfl) Try.func28 (by kernel_rfl) (by kernel_rfl) (by kernel_rfl) (ok_backoff_drawn (S_Backoff.mk a0.State (IntKind.wrap .i64 (a0.Busy + 1)) v2 a0.Clear a0.Wait) a2 v4 hv4)) ?_
      refine TL_end ⟨[(31, .agg [.lit (.int .i64 (v4.State)), .lit (.int .i64 (v4.Busy)), .lit (.int .i64 (v4.Exponent)), .lit (.int .i64 (v4.Clear)), .lit (.int .i64 (v4.Wait))]), (30, .c (.lit (.int .u32 (a2)))), (29, .agg [.lit (.int .i64 (a0.State)), .lit (.int .i64 (IntKind.wrap .i64 (a0.Busy + 1))), .lit (.int .i64 (v2)), .lit (.int .i64 (a0.Clear)), .lit (.int .i64 (a0.Wait))]), (28, .c (.lit (.bool ((decide ((IntKind.wrap .i64 (a0.Busy + 1)) ≤ 4)))))), (27, .c (.lit (.int .i64 (IntKind.wrap .i64 (a0.Busy + 1))))), (26, .c (.box 3 1)), (6, .c (.box 6 0)), (3, .c (.box 3 0)), (2, .c (.lit (.int .u32 (a2))))], ⟨[(6, [.lit (.int .i64 (v4.State)), .lit (.int .i64 (v4.Busy)), .lit (.int .i64 (v4.Exponent)), .lit (.int .i64 (v4.Clear)), .lit (.int .i64 (v4.Wait))]), (3, [.lit (.int .i64 (a0.State)), .lit (.int .i64 (IntKind.wrap .i64 (a0.Busy + 1))), .lit (.int .i64 (v2)), .lit (.int .i64 (a0.Clear)), .lit (.int .i64 (a0.Wait))])], []⟩⟩ (by kernel_rfl) ?_
      refine T_keep [6] [6] [] ?_
      refine T_ret ?_
      refine thenQ_ret ?_
      obtain rfl := Option.some.inj h
      exact ⟨[(true, [.lit (.int .i64 (v4.State)), .lit (.int .i64 (v4.Busy)), .lit (.int .i64 (v4.Exponent)), .lit (.int .i64 (v4.Clear)), .lit (.int .i64 (v4.Wait))])], by kernel_rfl, by kernel_rfl⟩
    · refine T_condF' (e := (decide ((IntKind.wrap .i64 (a0.Busy + 1)) ≤ 4))) (by kernel_rfl) hb3 ?_
      refine T_skip ?_
      refine T_keep [6, 3] [3, 6] [] ?_
      refine T_seq ?_
      refine T_runs ⟨[(32, .c (.box 3 0)), (6, .c (.box 6 0)), (3, .c (.box 3 0))], ⟨[(3, [.lit (.int .i64 (4)), .lit (.int .i64 (IntKind.wrap .i64 (a0.Busy + 1))), .lit (.int .i64 (v2)), .lit (.int .i64 (a0.Clear)), .lit (.int .i64 (a0.Wait))]), (6, [.lit (.int .i64 (0)), .lit (.int .i64 (0)), .lit (.int .i64 (0)), .lit (.int .i64 (0)), .lit (.int .i64 (0))])], []⟩⟩ (by kernel_rfl) ?_
      refine T_seq ?_
      refine T_runs ⟨[(33, .c (.box 3 3)), (32, .c (.box 3 0)), (6, .c (.box 6 0)), (3, .c (.box 3 0))], ⟨[(3, [.lit (.int .i64 (4)), .lit (.int .i64 (IntKind.wrap .i64 (a0.Busy + 1))), .lit (.int .i64 (v2)), .lit (.int .i64 (2)), .lit (.int .i64 (a0.Wait))]), (6, [.lit (.int .i64 (0)), .lit (.int .i64 (0)), .lit (.int .i64 (0)), .lit (.int .i64 (0)), .lit (.int .i64 (0))])], []⟩⟩ (by kernel_rfl) ?_
      refine T_seq ?_
      refine T_runs ⟨[(34, .agg [.lit (.int .i64 (4)), .lit (.int .i64 (IntKind.wrap .i64 (a0.Busy + 1))), .lit (.int .i64 (v2)), .lit (.int .i64 (2)), .lit (.int .i64 (a0.Wait))]), (33, .c (.box 3 3)), (32, .c (.box 3 0)), (6, .c (.box 6 0)), (3, .c (.box 3 0))], ⟨[(6, [.lit (.int .i64 (4)), .lit (.int .i64 (IntKind.wrap .i64 (a0.Busy + 1))), .lit (.int .i64 (v2)), .lit (.int .i64 (2)), .lit (.int .i64 (a0.Wait))]), (3, [.lit (.int .i64 (4)), .lit (.int .i64 (IntKind.wrap .i64 (a0.Busy + 1))), .lit (.int .i64 (v2)), .lit (.int .i64 (2)), .lit (.int .i64 (a0.Wait))])], []⟩⟩ (by kernel_rfl) ?_
      refine T_keep [6] [6] [] ?_
      refine T_ret ?_
      obtain rfl := Option.some.inj h
      exact ⟨[(true, [.lit (.int .i64 (4)), .lit (.int .i64 (IntKind.wrap .i64 (a0.Busy + 1))), .lit (.int .i64 (v2)), .lit (.int .i64 (2)), .lit (.int .i64 (a0.Wait))])], by kernel_rfl, by kernel_rfl⟩
  · subst hb1
    refine T_condT (by kernel_rfl) ?_
    refine T_seq ?_
    refine T_runs ⟨[(12, .c (.box 3 3)), (11, .c (.lit (.int .i64 (IntKind.wrap .i64 (a0.Clear - 1))))), (10, .c (.lit (.int .i64 (a0.Clear)))), (9, .c (.box 3 3)), (8, .c (.lit (.bool (true)))), (6, .c (.box 6 0)), (3, .c (.box 3 0)), (2, .c (.lit (.int .u32 (a2))))], ⟨[(3, [.lit (.int .i64 (a0.State)), .lit (.int .i64 (a0.Busy)), .lit (.int .i64 (a0.Exponent)), .lit (.int .i64 (IntKind.wrap .i64 (a0.Clear - 1))), .lit (.int .i64 (a0.Wait))]), (6, [.lit (.int .i64 (0)), .lit (.int .i64 (0)), .lit (.int .i64 (0)), .lit (.int .i64 (0)), .lit (.int .i64 (0))])], []⟩⟩ (by kernel_rfl) ?_
    refine T_keep [6, 3] [3, 6] [] ?_
    refine T_join [3, 6] [3, 6] (fun (v6 : Int) => ⟨[(3, .c (.box 3 0)), (6, .c (.box 6 0))], ⟨[(3, [.lit (.int .i64 (v6)), .lit (.int .i64 (a0.Busy)), .lit (.int .i64 (a0.Exponent)), .lit (.int .i64 (IntKind.wrap .i64 (a0.Clear - 1))), .lit (.int .i64 (a0.Wait))]), (6, [.lit (.int .i64 (0)), .lit (.int .i64 (0)), .lit (.int .i64 (0)), .lit (.int .i64 (0)), .lit (.int .i64 (0))])], []⟩⟩) (F_backoff_sense_j1 a0) r ?_ ?_
    · intro v6 h
      unfold F_backoff_sense_j1 at h
      refine T_seq ?_
      refine T_runs ⟨[(17, .agg [.lit (.int .i64 (v6)), .lit (.int .i64 (a0.Busy)), .lit (.int .i64 (a0.Exponent)), .lit (.int .i64 (IntKind.wrap .i64 (a0.Clear - 1))), .lit (.int .i64 (a0.Wait))]), (3, .c (.box 3 0)), (6, .c (.box 6 0))], ⟨[(6, [.lit (.int .i64 (v6)), .lit (.int .i64 (a0.Busy)), .lit (.int .i64 (a0.Exponent)), .lit (.int .i64 (IntKind.wrap .i64 (a0.Clear - 1))), .lit (.int .i64 (a0.Wait))]), (3, [.lit (.int .i64 (v6)), .lit (.int .i64 (a0.Busy)), .lit (.int .i64 (a0.Exponent)), .lit (.int .i64 (IntKind.wrap .i64 (a0.Clear - 1))), .lit (.int .i64 (a0.Wait))])], []⟩⟩ (by kernel_rfl) ?_
      refine T_keep [6] [6] [] ?_
      refine T_ret ?_
      refine thenQ_ret ?_
      obtain rfl := Option.some.inj h
      exact ⟨[(true, [.lit (.int .i64 (v6)), .lit (.int .i64 (a0.Busy)), .lit (.int .i64 (a0.Exponent)), .lit (.int .i64 (IntKind.wrap .i64 (a0.Clear - 1))), .lit (.int .i64 (a0.Wait))])], by kernel_rfl, by kernel_rfl⟩
    · refine T_seq ?_
      refine T_runs ⟨[(15, .c (.lit (.bool (((IntKind.wrap .i64 (a0.Clear - 1)) == 0))))), (14, .c (.lit (.int .i64 (IntKind.wrap .i64 (a0.Clear - 1))))), (13, .c (.box 3 3)), (6, .c (.box 6 0)), (3, .c (.box 3 0))], ⟨[(3, [.lit (.int .i64 (a0.State)), .lit (.int .i64 (a0.Busy)), .lit (.int .i64 (a0.Exponent)), .lit (.int .i64 (IntKind.wrap .i64 (a0.Clear - 1))), .lit (.int .i64 (a0.Wait))]), (6, [.lit (.int .i64 (0)), .lit (.int .i64 (0)), .lit (.int .i64 (0)), .lit (.int .i64 (0)), .lit (.int .i64 (0))])], []⟩⟩ (by kernel_rfl) ?_
      replace h := condO h
      rcases h with ⟨hb7, h⟩ | ⟨hb7, h⟩
      · refine T_condT' (e := ((IntKind.wrap .i64 (a0.Clear - 1)) == 0)) (by kernel_rfl) hb7 ?_
        refine T_runs ⟨[(16, .c (.box 3 0)), (15, .c (.lit (.bool (((IntKind.wrap .i64 (a0.Clear - 1)) == 0))))), (14, .c (.lit (.int .i64 (IntKind.wrap .i64 (a0.Clear - 1))))), (13, .c (.box 3 3)), (6, .c (.box 6 0)), (3, .c (.box 3 0))], ⟨[(3, [.lit (.int .i64 (3)), .lit (.int .i64 (a0.Busy)), .lit (.int .i64 (a0.Exponent)), .lit (.int .i64 (IntKind.wrap .i64 (a0.Clear - 1))), .lit (.int .i64 (a0.Wait))]), (6, [.lit (.int .i64 (0)), .lit (.int .i64 (0)), .lit (.int .i64 (0)), .lit (.int .i64 (0)), .lit (.int .i64 (0))])], []⟩⟩ (by kernel_rfl) ?_
        exact ⟨3, h, by kernel_rfl⟩
      · refine T_condF' (e := ((IntKind.wrap .i64 (a0.Clear - 1)) == 0)) (by kernel_rfl) hb7 ?_
        refine T_skip ?_
        exact ⟨a0.State, h, by kernel_rfl⟩

/-- multihop/backoff.Step -/
noncomputable def F_backoff_Step_j1 (a0 : S_Backoff) (v4 : Int × Int) : Option (S_Backoff) :=
  some ((S_Backoff.mk v4.1 a0.Busy a0.Exponent a0.Clear v4.2))
noncomputable def F_backoff_Step (a0 : S_Backoff) (a1 : Bool) (a2 : Int) : Option (S_Backoff) :=
  (F_backoff_Valid a0).bind fun v1 =>
  bif v1 then
    bif (a0.State == 1) then
      bif ((IntKind.wrap .i64 (a0.Wait - 1)) == 0) then
        (F_backoff_Step_j1 a0) (2, IntKind.wrap .i64 (a0.Wait - 1))
      else
        (F_backoff_Step_j1 a0) (a0.State, IntKind.wrap .i64 (a0.Wait - 1))
    else
      bif (a0.State == 2) then
        (F_backoff_sense a0 a1 a2).bind fun v8 =>
        some (v8)
      else
        (F_backoff_Step_j1 a0) (a0.State, a0.Wait)
  else
    some ((S_Backoff.mk 0 0 0 0 0))
set_option maxRecDepth 100000 in
theorem ok_backoff_Step (a0 : S_Backoff) (a1 : Bool) (a2 : Int) (r : S_Backoff) (h : F_backoff_Step a0 a1 a2 = some r) : Pure Try.prog 16 [.agg (S_Backoff.cs a0), .c (.lit (.bool (a1))), .c (.lit (.int .u32 (a2)))] (.agg (S_Backoff.cs r)) := by
  unfold F_backoff_Step at h
  refine pure_of [[0, 0, 0, 0, 0]] 30 Try.func16 rfl rfl rfl (by kernel_rfl) (fun K => ?_)
  refine T_seq ?_
  refine T_runs ⟨[(6, .c (.box 6 0)), (3, .c (.box 3 0)), (0, .agg [.lit (.int .i64 (a0.State)), .lit (.int .i64 (a0.Busy)), .lit (.int .i64 (a0.Exponent)), .lit (.int .i64 (a0.Clear)), .lit (.int .i64 (a0.Wait))]), (1, .c (.lit (.bool (a1)))), (2, .c (.lit (.int .u32 (a2))))], ⟨[(6, [.lit (.int .i64 (0)), .lit (.int .i64 (0)), .lit (.int .i64 (0)), .lit (.int .i64 (0)), .lit (.int .i64 (0))]), (3, [.lit (.int .i64 (a0.State)), .lit (.int .i64 (a0.Busy)), .lit (.int .i64 (a0.Exponent)), .lit (.int .i64 (a0.Clear)), .lit (.int .i64 (a0.Wait))])], []⟩⟩ (by kernel_rfl) ?_
  refine T_seq ?_
  refine T_seq ?_
  replace h := bindO h
  obtain ⟨v1, hv1, h⟩ := h
  refine T_region ?_
  refine TL_runs 1 ⟨[(7, .agg [.lit (.int .i64 (a0.State)), .lit (.int .i64 (a0.Busy)), .lit (.int .i64 (a0.Exponent)), .lit (.int .i64 (a0.Clear)), .lit (.int .i64 (a0.Wait))]), (6, .c (.box 6 0)), (3, .c (.box 3 0)), (0, .agg [.lit (.int .i64 (a0.State)), .lit (.int .i64 (a0.Busy)), .lit (.int .i64 (a0.Exponent)), .lit (.int .i64 (a0.Clear)), .lit (.int .i64 (a0.Wait))]), (1, .c (.lit (.bool (a1)))), (2, .c (.lit (.int .u32 (a2))))], ⟨[(6, [.lit (.int .i64 (0)), .lit (.int .i64 (0)), .lit (.int .i64 (0)), .lit (.int .i64 (0)), .lit (.int .i64 (0))]), (3, [.lit (.int .i64 (a0.State)), .lit (.int .i64 (a0.Busy)), .lit (.int .i64 (a0.Exponent)), .lit (.int .i64 (a0.Clear)), .lit (.int .i64 (a0.Wait))])], []⟩⟩ (by kernel_rfl) ?_
  refine TL_grow (.c (.lit (.bool (v1)))) (by kernel_rfl) (by kernel_rfl) (grow_call 12 Try.f12 [[0, 0, 0, 0, 0]] [.agg (S_Backoff.cs a0)] rfl (by kernel_rfl) Try.func12 (by kernel_rfl) (by kernel_rfl) (by kernel_rfl) (ok_backoff_Valid a0 v1 hv1)) ?_
  refine TL_end ⟨[(9, .c (.lit (.bool ((!v1))))), (8, .c (.lit (.bool (v1)))), (7, .agg [.lit (.int .i64 (a0.State)), .lit (.int .i64 (a0.Busy)), .lit (.int .i64 (a0.Exponent)), .lit (.int .i64 (a0.Clear)), .lit (.int .i64 (a0.Wait))]), (6, .c (.box 6 0)), (3, .c (.box 3 0)), (0, .agg [.lit (.int .i64 (a0.State)), .lit (.int .i64 (a0.Busy)), .lit (.int .i64 (a0.Exponent)), .lit (.int .i64 (a0.Clear)), .lit (.int .i64 (a0.Wait))]), (1, .c (.lit (.bool (a1)))), (2, .c (.lit (.int .u32 (a2))))], ⟨[(6, [.lit (.int .i64 (0)), .lit (.int .i64 (0)), .lit (.int .i64 (0)), .lit (.int .i64 (0)), .lit (.int .i64 (0))]), (3, [.lit (.int .i64 (a0.State)), .lit (.int .i64 (a0.Busy)), .lit (.int .i64 (a0.Exponent)), .lit (.int .i64 (a0.Clear)), .lit (.int .i64 (a0.Wait))])], []⟩⟩ (by kernel_rfl) ?_
  refine T_keep [9, 6, 3, 1, 2] [6, 3] [] ?_
  replace h := condO h
  rcases h with ⟨hb2, h⟩ | ⟨hb2, h⟩
  · subst hb2
    refine T_condF (by kernel_rfl) ?_
    refine T_skip ?_
    refine T_join [3, 6] [3, 6] (fun (v4 : Int × Int) => ⟨[(3, .c (.box 3 0)), (6, .c (.box 6 0))], ⟨[(3, [.lit (.int .i64 (v4.1)), .lit (.int .i64 (a0.Busy)), .lit (.int .i64 (a0.Exponent)), .lit (.int .i64 (a0.Clear)), .lit (.int .i64 (v4.2))]), (6, [.lit (.int .i64 (0)), .lit (.int .i64 (0)), .lit (.int .i64 (0)), .lit (.int .i64 (0)), .lit (.int .i64 (0))])], []⟩⟩) (F_backoff_Step_j1 a0) r ?_ ?_
    · intro v4 h
      unfold F_backoff_Step_j1 at h
      refine T_seq ?_
      refine T_runs ⟨[(29, .agg [.lit (.int .i64 (v4.1)), .lit (.int .i64 (a0.Busy)), .lit (.int .i64 (a0.Exponent)), .lit (.int .i64 (a0.Clear)), .lit (.int .i64 (v4.2))]), (3, .c (.box 3 0)), (6, .c (.box 6 0))], ⟨[(6, [.lit (.int .i64 (v4.1)), .lit (.int .i64 (a0.Busy)), .lit (.int .i64 (a0.Exponent)), .lit (.int .i64 (a0.Clear)), .lit (.int .i64 (v4.2))]), (3, [.lit (.int .i64 (v4.1)), .lit (.int .i64 (a0.Busy)), .lit (.int .i64 (a0.Exponent)), .lit (.int .i64 (a0.Clear)), .lit (.int .i64 (v4.2))])], []⟩⟩ (by kernel_rfl) ?_
      refine T_keep [6] [6] [] ?_
      refine T_ret ?_
      obtain rfl := Option.some.inj h
      exact ⟨[(true, [.lit (.int .i64 (v4.1)), .lit (.int .i64 (a0.Busy)), .lit (.int .i64 (a0.Exponent)), .lit (.int .i64 (a0.Clear)), .lit (.int .i64 (v4.2))])], by kernel_rfl, by kernel_rfl⟩
    · refine T_seq ?_
      refine T_runs ⟨[(12, .c (.lit (.int .i64 (a0.State)))), (11, .c (.box 3 0)), (9, .c (.lit (.bool (false)))), (6, .c (.box 6 0)), (3, .c (.box 3 0)), (1, .c (.lit (.bool (a1)))), (2, .c (.lit (.int .u32 (a2))))], ⟨[(6, [.lit (.int .i64 (0)), .lit (.int .i64 (0)), .lit (.int .i64 (0)), .lit (.int .i64 (0)), .lit (.int .i64 (0))]), (3, [.lit (.int .i64 (a0.State)), .lit (.int .i64 (a0.Busy)), .lit (.int .i64 (a0.Exponent)), .lit (.int .i64 (a0.Clear)), .lit (.int .i64 (a0.Wait))])], []⟩⟩ (by kernel_rfl) ?_
      refine T_block ?_
      refine T_seq ?_
      refine T_runs ⟨[(13, .c (.lit (.bool ((a0.State == 1))))), (14, .c (.lit (.bool ((a0.State == 1))))), (12, .c (.lit (.int .i64 (a0.State)))), (11, .c (.box 3 0)), (9, .c (.lit (.bool (false)))), (6, .c (.box 6 0)), (3, .c (.box 3 0)), (1, .c (.lit (.bool (a1)))), (2, .c (.lit (.int .u32 (a2))))], ⟨[(6, [.lit (.int .i64 (0)), .lit (.int .i64 (0)), .lit (.int .i64 (0)), .lit (.int .i64 (0)), .lit (.int .i64 (0))]), (3, [.lit (.int .i64 (a0.State)), .lit (.int .i64 (a0.Busy)), .lit (.int .i64 (a0.Exponent)), .lit (.int .i64 (a0.Clear)), .lit (.int .i64 (a0.Wait))])], []⟩⟩ (by kernel_rfl) ?_
      refine T_keep [13, 12, 6, 3, 1, 2] [6, 3] [] ?_
      replace h := condO h
      rcases h with ⟨hb5, h⟩ | ⟨hb5, h⟩
      · refine T_condT' (e := (a0.State == 1)) (by kernel_rfl) hb5 ?_
        refine T_seq ?_
        refine T_runs ⟨[(18, .c (.box 3 4)), (17, .c (.lit (.int .i64 (IntKind.wrap .i64 (a0.Wait - 1))))), (16, .c (.lit (.int .i64 (a0.Wait)))), (15, .c (.box 3 4)), (13, .c (.lit (.bool ((a0.State == 1))))), (12, .c (.lit (.int .i64 (a0.State)))), (6, .c (.box 6 0)), (3, .c (.box 3 0)), (1, .c (.lit (.bool (a1)))), (2, .c (.lit (.int .u32 (a2))))], ⟨[(3, [.lit (.int .i64 (a0.State)), .lit (.int .i64 (a0.Busy)), .lit (.int .i64 (a0.Exponent)), .lit (.int .i64 (a0.Clear)), .lit (.int .i64 (IntKind.wrap .i64 (a0.Wait - 1)))]), (6, [.lit (.int .i64 (0)), .lit (.int .i64 (0)), .lit (.int .i64 (0)), .lit (.int .i64 (0)), .lit (.int .i64 (0))])], []⟩⟩ (by kernel_rfl) ?_
        refine T_keep [6, 3] [3, 6] [] ?_
        refine T_seq ?_
        refine T_runs ⟨[(21, .c (.lit (.bool (((IntKind.wrap .i64 (a0.Wait - 1)) == 0))))), (20, .c (.lit (.int .i64 (IntKind.wrap .i64 (a0.Wait - 1))))), (19, .c (.box 3 4)), (6, .c (.box 6 0)), (3, .c (.box 3 0))], ⟨[(3, [.lit (.int .i64 (a0.State)), .lit (.int .i64 (a0.Busy)), .lit (.int .i64 (a0.Exponent)), .lit (.int .i64 (a0.Clear)), .lit (.int .i64 (IntKind.wrap .i64 (a0.Wait - 1)))]), (6, [.lit (.int .i64 (0)), .lit (.int .i64 (0)), .lit (.int .i64 (0)), .lit (.int .i64 (0)), .lit (.int .i64 (0))])], []⟩⟩ (by kernel_rfl) ?_
        replace h := condO h
        rcases h with ⟨hb6, h⟩ | ⟨hb6, h⟩
        · refine T_condT' (e := ((IntKind.wrap .i64 (a0.Wait - 1)) == 0)) (by kernel_rfl) hb6 ?_
          refine T_runs ⟨[(22, .c (.box 3 0)), (21, .c (.lit (.bool (((IntKind.wrap .i64 (a0.Wait - 1)) == 0))))), (20, .c (.lit (.int .i64 (IntKind.wrap .i64 (a0.Wait - 1))))), (19, .c (.box 3 4)), (6, .c (.box 6 0)), (3, .c (.box 3 0))], ⟨[(3, [.lit (.int .i64 (2)), .lit (.int .i64 (a0.Busy)), .lit (.int .i64 (a0.Exponent)), .lit (.int .i64 (a0.Clear)), .lit (.int .i64 (IntKind.wrap .i64 (a0.Wait - 1)))]), (6, [.lit (.int .i64 (0)), .lit (.int .i64 (0)), .lit (.int .i64 (0)), .lit (.int .i64 (0)), .lit (.int .i64 (0))])], []⟩⟩ (by kernel_rfl) ?_
          refine blockQ_normal ?_
          exact ⟨(2, IntKind.wrap .i64 (a0.Wait - 1)), h, by kernel_rfl⟩
        · refine T_condF' (e := ((IntKind.wrap .i64 (a0.Wait - 1)) == 0)) (by kernel_rfl) hb6 ?_
          refine T_skip ?_
          refine blockQ_normal ?_
          exact ⟨(a0.State, IntKind.wrap .i64 (a0.Wait - 1)), h, by kernel_rfl⟩
      · refine T_condF' (e := (a0.State == 1)) (by kernel_rfl) hb5 ?_
        refine T_seq ?_
        refine T_runs ⟨[(23, .c (.lit (.bool ((a0.State == 2))))), (24, .c (.lit (.bool ((a0.State == 2))))), (13, .c (.lit (.bool ((a0.State == 1))))), (12, .c (.lit (.int .i64 (a0.State)))), (6, .c (.box 6 0)), (3, .c (.box 3 0)), (1, .c (.lit (.bool (a1)))), (2, .c (.lit (.int .u32 (a2))))], ⟨[(6, [.lit (.int .i64 (0)), .lit (.int .i64 (0)), .lit (.int .i64 (0)), .lit (.int .i64 (0)), .lit (.int .i64 (0))]), (3, [.lit (.int .i64 (a0.State)), .lit (.int .i64 (a0.Busy)), .lit (.int .i64 (a0.Exponent)), .lit (.int .i64 (a0.Clear)), .lit (.int .i64 (a0.Wait))])], []⟩⟩ (by kernel_rfl) ?_
        refine T_keep [23, 6, 3, 1, 2] [6, 3] [] ?_
        replace h := condO h
        rcases h with ⟨hb7, h⟩ | ⟨hb7, h⟩
        · refine T_condT' (e := (a0.State == 2)) (by kernel_rfl) hb7 ?_
          refine T_seq ?_
          replace h := bindO h
          obtain ⟨v8, hv8, h⟩ := h
          refine T_region ?_
          refine TL_runs 3 ⟨[(27, .c (.lit (.int .u32 (a2)))), (26, .c (.lit (.bool (a1)))), (25, .agg [.lit (.int .i64 (a0.State)), .lit (.int .i64 (a0.Busy)), .lit (.int .i64 (a0.Exponent)), .lit (.int .i64 (a0.Clear)), .lit (.int .i64 (a0.Wait))]), (23, .c (.lit (.bool ((a0.State == 2))))), (6, .c (.box 6 0)), (3, .c (.box 3 0)), (1, .c (.lit (.bool (a1)))), (2, .c (.lit (.int .u32 (a2))))], ⟨[(6, [.lit (.int .i64 (0)), .lit (.int .i64 (0)), .lit (.int .i64 (0)), .lit (.int .i64 (0)), .lit (.int .i64 (0))]), (3, [.lit (.int .i64 (a0.State)), .lit (.int .i64 (a0.Busy)), .lit (.int .i64 (a0.Exponent)), .lit (.int .i64 (a0.Clear)), .lit (.int .i64 (a0.Wait))])], []⟩⟩ (by kernel_rfl) ?_
          refine TL_grow (.agg [.lit (.int .i64 (v8.State)), .lit (.int .i64 (v8.Busy)), .lit (.int .i64 (v8.Exponent)), .lit (.int .i64 (v8.Clear)), .lit (.int .i64 (v8.Wait))]) (by kernel_rfl) (by kernel_rfl) (grow_call 26 Try.f26 [[0, 0, 0, 0, 0], [0], [0]] [.agg (S_Backoff.cs a0), .c (.lit (.bool (a1))), .c (.lit (.int .u32 (a2)))] rfl (by kernel_rfl) Try.func26 (by kernel_rfl) (by kernel_rfl) (by kernel_rfl) (ok_backoff_sense a0 a1 a2 v8 hv8)) ?_
          refine TL_end ⟨[(28, .agg [.lit (.int .i64 (v8.State)), .lit (.int .i64 (v8.Busy)), .lit (.int .i64 (v8.Exponent)), .lit (.int .i64 (v8.Clear)), .lit (.int .i64 (v8.Wait))]), (27, .c (.lit (.int .u32 (a2)))), (26, .c (.lit (.bool (a1)))), (25, .agg [.lit (.int .i64 (a0.State)), .lit (.int .i64 (a0.Busy)), .lit (.int .i64 (a0.Exponent)), .lit (.int .i64 (a0.Clear)), .lit (.int .i64 (a0.Wait))]), (23, .c (.lit (.bool ((a0.State == 2))))), (6, .c (.box 6 0)), (3, .c (.box 3 0)), (1, .c (.lit (.bool (a1)))), (2, .c (.lit (.int .u32 (a2))))], ⟨[(6, [.lit (.int .i64 (v8.State)), .lit (.int .i64 (v8.Busy)), .lit (.int .i64 (v8.Exponent)), .lit (.int .i64 (v8.Clear)), .lit (.int .i64 (v8.Wait))]), (3, [.lit (.int .i64 (a0.State)), .lit (.int .i64 (a0.Busy)), .lit (.int .i64 (a0.Exponent)), .lit (.int .i64 (a0.Clear)), .lit (.int .i64 (a0.Wait))])], []⟩⟩ (by kernel_rfl) ?_
          refine T_keep [6] [6] [] ?_
          refine T_ret ?_
          refine blockQ_ret ?_
          refine thenQ_ret ?_
          obtain rfl := Option.some.inj h
          exact ⟨[(true, [.lit (.int .i64 (v8.State)), .lit (.int .i64 (v8.Busy)), .lit (.int .i64 (v8.Exponent)), .lit (.int .i64 (v8.Clear)), .lit (.int .i64 (v8.Wait))])], by kernel_rfl, by kernel_rfl⟩
        · refine T_condF' (e := (a0.State == 2)) (by kernel_rfl) hb7 ?_
          refine T_skip ?_
          refine blockQ_normal ?_
          exact ⟨(a0.State, a0.Wait), h, by kernel_rfl⟩
  · subst hb2
    refine T_condT (by kernel_rfl) ?_
    refine T_seq ?_
    refine T_runs ⟨[(10, .agg [.lit (.int .i64 (0)), .lit (.int .i64 (0)), .lit (.int .i64 (0)), .lit (.int .i64 (0)), .lit (.int .i64 (0))]), (9, .c (.lit (.bool (true)))), (6, .c (.box 6 0)), (3, .c (.box 3 0)), (1, .c (.lit (.bool (a1)))), (2, .c (.lit (.int .u32 (a2))))], ⟨[(6, [.lit (.int .i64 (0)), .lit (.int .i64 (0)), .lit (.int .i64 (0)), .lit (.int .i64 (0)), .lit (.int .i64 (0))]), (3, [.lit (.int .i64 (a0.State)), .lit (.int .i64 (a0.Busy)), .lit (.int .i64 (a0.Exponent)), .lit (.int .i64 (a0.Clear)), .lit (.int .i64 (a0.Wait))])], []⟩⟩ (by kernel_rfl) ?_
    refine T_keep [6] [6] [] ?_
    refine T_ret ?_
    refine thenQ_ret ?_
    obtain rfl := Option.some.inj h
    exact ⟨[(true, [.lit (.int .i64 (0)), .lit (.int .i64 (0)), .lit (.int .i64 (0)), .lit (.int .i64 (0)), .lit (.int .i64 (0))])], by kernel_rfl, by kernel_rfl⟩

/-- multihop/backoff.Begin -/
noncomputable def F_backoff_Begin (a0 : Int) : Option (S_Backoff) :=
  (F_backoff_exponent 0).bind fun v1 =>
  (F_backoff_drawn (S_Backoff.mk 0 0 v1 0 0) a0).bind fun v2 =>
  some (v2)
set_option maxRecDepth 100000 in
theorem ok_backoff_Begin (a0 : Int) (r : S_Backoff) (h : F_backoff_Begin a0 = some r) : Pure Try.prog 19 [.c (.lit (.int .u32 (a0)))] (.agg (S_Backoff.cs r)) := by
  unfold F_backoff_Begin at h
  refine pure_of [[0, 0, 0, 0, 0]] 7 Try.func19 rfl rfl rfl (by kernel_rfl) (fun K => ?_)
  refine T_seq ?_
  refine T_runs ⟨[(2, .c (.box 2 0)), (0, .c (.lit (.int .u32 (a0))))], ⟨[(2, [.lit (.int .i64 (0)), .lit (.int .i64 (0)), .lit (.int .i64 (0)), .lit (.int .i64 (0)), .lit (.int .i64 (0))])], []⟩⟩ (by kernel_rfl) ?_
  refine T_seq ?_
  replace h := bindO h
  obtain ⟨v1, hv1, h⟩ := h
  replace h := bindO h
  obtain ⟨v2, hv2, h⟩ := h
  refine T_region ?_
  refine TL_grow (.c (.lit (.int .i64 (v1)))) (by kernel_rfl) (by kernel_rfl) (grow_call 24 Try.f24 [[0]] [.c (.lit (.int .i64 (0)))] rfl (by kernel_rfl) Try.func24 (by kernel_rfl) (by kernel_rfl) (by kernel_rfl) (ok_backoff_exponent 0 v1 hv1)) ?_
  refine TL_runs 2 ⟨[(5, .c (.lit (.int .u32 (a0)))), (4, .agg [.lit (.int .i64 (0)), .lit (.int .i64 (0)), .lit (.int .i64 (v1)), .lit (.int .i64 (0)), .lit (.int .i64 (0))]), (3, .c (.lit (.int .i64 (v1)))), (2, .c (.box 2 0)), (0, .c (.lit (.int .u32 (a0))))], ⟨[(2, [.lit (.int .i64 (0)), .lit (.int .i64 (0)), .lit (.int .i64 (0)), .lit (.int .i64 (0)), .lit (.int .i64 (0))])], []⟩⟩ (by kernel_rfl) ?_
  refine TL_grow (.agg [.lit (.int .i64 (v2.State)), .lit (.int .i64 (v2.Busy)), .lit (.int .i64 (v2.Exponent)), .lit (.int .i64 (v2.Clear)), .lit (.int .i64 (v2.Wait))]) (by kernel_rfl) (by kernel_rfl) (grow_call 28 Try.f28 [[0, 0, 0, 0, 0], [0]] [.agg (S_Backoff.cs (S_Backoff.mk 0 0 v1 0 0)), .c (.lit (.int .u32 (a0)))] rfl (by kernel_rfl) Try.func28 (by kernel_rfl) (by kernel_rfl) (by kernel_rfl) (ok_backoff_drawn (S_Backoff.mk 0 0 v1 0 0) a0 v2 hv2)) ?_
  refine TL_end ⟨[(6, .agg [.lit (.int .i64 (v2.State)), .lit (.int .i64 (v2.Busy)), .lit (.int .i64 (v2.Exponent)), .lit (.int .i64 (v2.Clear)), .lit (.int .i64 (v2.Wait))]), (5, .c (.lit (.int .u32 (a0)))), (4, .agg [.lit (.int .i64 (0)), .lit (.int .i64 (0)), .lit (.int .i64 (v1)), .lit (.int .i64 (0)), .lit (.int .i64 (0))]), (3, .c (.lit (.int .i64 (v1)))), (2, .c (.box 2 0)), (0, .c (.lit (.int .u32 (a0))))], ⟨[(2, [.lit (.int .i64 (v2.State)), .lit (.int .i64 (v2.Busy)), .lit (.int .i64 (v2.Exponent)), .lit (.int .i64 (v2.Clear)), .lit (.int .i64 (v2.Wait))])], []⟩⟩ (by kernel_rfl) ?_
  refine T_keep [2] [2] [] ?_
  refine T_ret ?_
  obtain rfl := Option.some.inj h
  exact ⟨[(true, [.lit (.int .i64 (v2.State)), .lit (.int .i64 (v2.Busy)), .lit (.int .i64 (v2.Exponent)), .lit (.int .i64 (v2.Clear)), .lit (.int .i64 (v2.Wait))])], by kernel_rfl, by kernel_rfl⟩

/-- multihop/multihoplaw08.known -/
noncomputable def F_law08_known_l1  (s2 : Int × S_Backoff) : Option ((Int × S_Backoff) ⊕ (S_Backoff)) :=
  bif (decide (s2.1 < 3)) then
    (F_backoff_Step s2.2 false 0).bind fun v5 =>
    some (Sum.inl (IntKind.wrap .i64 (s2.1 + 1), v5))
  else
    some (Sum.inr s2.2)
noncomputable def F_law08_known  : Option (Bool) :=
  (F_backoff_Begin 9).bind fun v1 =>
  (loopO (F_law08_known_l1) (0, v1)).bind fun b3 =>
  (F_backoff_Ended b3).bind fun v8 =>
  bif v8 then
    some ((b3.State == 3))
  else
    some (false)
set_option maxRecDepth 100000 in
theorem ok_law08_known  (r : Bool) (h : F_law08_known  = some r) : Pure Try.prog 18 [] (.c (.lit (.bool (r)))) := by
  unfold F_law08_known at h
  refine pure_of [[0]] 17 Try.func18 rfl rfl rfl (by kernel_rfl) (fun K => ?_)
  refine T_seq ?_
  refine T_runs ⟨[(0, .c (.lit (.bool (false))))], ⟨[], []⟩⟩ (by kernel_rfl) ?_
  refine T_seq ?_
  replace h := bindO h
  obtain ⟨v1, hv1, h⟩ := h
  refine T_region ?_
  refine TL_grow (.agg [.lit (.int .i64 (v1.State)), .lit (.int .i64 (v1.Busy)), .lit (.int .i64 (v1.Exponent)), .lit (.int .i64 (v1.Clear)), .lit (.int .i64 (v1.Wait))]) (by kernel_rfl) (by kernel_rfl) (grow_call 19 Try.f19 [[0]] [.c (.lit (.int .u32 (9)))] rfl (by kernel_rfl) Try.func19 (by kernel_rfl) (by kernel_rfl) (by kernel_rfl) (ok_backoff_Begin 9 v1 hv1)) ?_
  refine TL_end ⟨[(1, .c (.box 1 0)), (3, .agg [.lit (.int .i64 (v1.State)), .lit (.int .i64 (v1.Busy)), .lit (.int .i64 (v1.Exponent)), .lit (.int .i64 (v1.Clear)), .lit (.int .i64 (v1.Wait))]), (0, .c (.lit (.bool (false))))], ⟨[(1, [.lit (.int .i64 (v1.State)), .lit (.int .i64 (v1.Busy)), .lit (.int .i64 (v1.Exponent)), .lit (.int .i64 (v1.Clear)), .lit (.int .i64 (v1.Wait))])], []⟩⟩ (by kernel_rfl) ?_
  refine T_seq ?_
  refine T_seq ?_
  refine T_runs ⟨[(2, .c (.lit (.int .i64 (0)))), (1, .c (.box 1 0)), (3, .agg [.lit (.int .i64 (v1.State)), .lit (.int .i64 (v1.Busy)), .lit (.int .i64 (v1.Exponent)), .lit (.int .i64 (v1.Clear)), .lit (.int .i64 (v1.Wait))]), (0, .c (.lit (.bool (false))))], ⟨[(1, [.lit (.int .i64 (v1.State)), .lit (.int .i64 (v1.Busy)), .lit (.int .i64 (v1.Exponent)), .lit (.int .i64 (v1.Clear)), .lit (.int .i64 (v1.Wait))])], []⟩⟩ (by kernel_rfl) ?_
  refine T_block ?_
  refine T_keepS [1, 2] [1] ?_
  refine T_sub (by kernel_rfl : _ = (fun (s2 : Int × S_Backoff) => ⟨[(1, .c (.box 1 0)), (2, .c (.lit (.int .i64 (s2.1))))], ⟨[(1, [.lit (.int .i64 (s2.2.State)), .lit (.int .i64 (s2.2.Busy)), .lit (.int .i64 (s2.2.Exponent)), .lit (.int .i64 (s2.2.Clear)), .lit (.int .i64 (s2.2.Wait))])], []⟩⟩) (0, v1)) ?_
  replace h := bindO h
  obtain ⟨b3, hl7, h⟩ := h
  refine T_loopS [1, 2] [1] (F_law08_known_l1) (fun (s2 : Int × S_Backoff) => ⟨[(1, .c (.box 1 0)), (2, .c (.lit (.int .i64 (s2.1))))], ⟨[(1, [.lit (.int .i64 (s2.2.State)), .lit (.int .i64 (s2.2.Busy)), .lit (.int .i64 (s2.2.Exponent)), .lit (.int .i64 (s2.2.Clear)), .lit (.int .i64 (s2.2.Wait))])], []⟩⟩) (fun b3 e st => e = .exit 0 ∧ St.keepS st [1] [1] = ⟨[(1, .c (.box 1 0))], ⟨[(1, [.lit (.int .i64 (b3.State)), .lit (.int .i64 (b3.Busy)), .lit (.int .i64 (b3.Exponent)), .lit (.int .i64 (b3.Clear)), .lit (.int .i64 (b3.Wait))])], []⟩⟩) (0, v1) _ hl7 ?_ ?_
  · intro s2 x h
    unfold F_law08_known_l1 at h
    refine T_seq ?_
    refine T_seq ?_
    refine T_runs ⟨[(5, .c (.lit (.bool ((decide (s2.1 < 3)))))), (4, .c (.lit (.int .i64 (s2.1)))), (1, .c (.box 1 0)), (2, .c (.lit (.int .i64 (s2.1))))], ⟨[(1, [.lit (.int .i64 (s2.2.State)), .lit (.int .i64 (s2.2.Busy)), .lit (.int .i64 (s2.2.Exponent)), .lit (.int .i64 (s2.2.Clear)), .lit (.int .i64 (s2.2.Wait))])], []⟩⟩ (by kernel_rfl) ?_
    replace h := condO h
    rcases h with ⟨hb4, h⟩ | ⟨hb4, h⟩
    · refine T_condT' (e := (decide (s2.1 < 3))) (by kernel_rfl) hb4 ?_
      refine T_skip ?_
      refine T_seq ?_
      refine T_block ?_
      replace h := bindO h
      obtain ⟨v5, hv5, h⟩ := h
      refine T_region ?_
      refine TL_runs 1 ⟨[(8, .agg [.lit (.int .i64 (s2.2.State)), .lit (.int .i64 (s2.2.Busy)), .lit (.int .i64 (s2.2.Exponent)), .lit (.int .i64 (s2.2.Clear)), .lit (.int .i64 (s2.2.Wait))]), (5, .c (.lit (.bool ((decide (s2.1 < 3)))))), (4, .c (.lit (.int .i64 (s2.1)))), (1, .c (.box 1 0)), (2, .c (.lit (.int .i64 (s2.1))))], ⟨[(1, [.lit (.int .i64 (s2.2.State)), .lit (.int .i64 (s2.2.Busy)), .lit (.int .i64 (s2.2.Exponent)), .lit (.int .i64 (s2.2.Clear)), .lit (.int .i64 (s2.2.Wait))])], []⟩⟩ (by kernel_rfl) ?_
      refine TL_grow (.agg [.lit (.int .i64 (v5.State)), .lit (.int .i64 (v5.Busy)), .lit (.int .i64 (v5.Exponent)), .lit (.int .i64 (v5.Clear)), .lit (.int .i64 (v5.Wait))]) (by kernel_rfl) (by kernel_rfl) (grow_call 16 Try.f16 [[0, 0, 0, 0, 0], [0], [0]] [.agg (S_Backoff.cs s2.2), .c (.lit (.bool (false))), .c (.lit (.int .u32 (0)))] rfl (by kernel_rfl) Try.func16 (by kernel_rfl) (by kernel_rfl) (by kernel_rfl) (ok_backoff_Step s2.2 false 0 v5 hv5)) ?_
      refine TL_end ⟨[(9, .agg [.lit (.int .i64 (v5.State)), .lit (.int .i64 (v5.Busy)), .lit (.int .i64 (v5.Exponent)), .lit (.int .i64 (v5.Clear)), .lit (.int .i64 (v5.Wait))]), (8, .agg [.lit (.int .i64 (s2.2.State)), .lit (.int .i64 (s2.2.Busy)), .lit (.int .i64 (s2.2.Exponent)), .lit (.int .i64 (s2.2.Clear)), .lit (.int .i64 (s2.2.Wait))]), (5, .c (.lit (.bool ((decide (s2.1 < 3)))))), (4, .c (.lit (.int .i64 (s2.1)))), (1, .c (.box 1 0)), (2, .c (.lit (.int .i64 (s2.1))))], ⟨[(1, [.lit (.int .i64 (v5.State)), .lit (.int .i64 (v5.Busy)), .lit (.int .i64 (v5.Exponent)), .lit (.int .i64 (v5.Clear)), .lit (.int .i64 (v5.Wait))])], []⟩⟩ (by kernel_rfl) ?_
      refine blockQ_normal ?_
      refine T_keep [1, 2] [1] [] ?_
      refine T_runs ⟨[(2, .c (.lit (.int .i64 (IntKind.wrap .i64 (s2.1 + 1))))), (7, .c (.lit (.int .i64 (IntKind.wrap .i64 (s2.1 + 1))))), (6, .c (.lit (.int .i64 (s2.1)))), (1, .c (.box 1 0))], ⟨[(1, [.lit (.int .i64 (v5.State)), .lit (.int .i64 (v5.Busy)), .lit (.int .i64 (v5.Exponent)), .lit (.int .i64 (v5.Clear)), .lit (.int .i64 (v5.Wait))])], []⟩⟩ (by kernel_rfl) ?_
      obtain rfl := Option.some.inj h
      exact ⟨_, rfl, by kernel_rfl⟩
    · refine T_condF' (e := (decide (s2.1 < 3))) (by kernel_rfl) hb4 ?_
      refine T_exit ?_
      refine thenQ_exit ?_
      obtain rfl := Option.some.inj h
      exact ⟨_, rfl, rfl, by kernel_rfl⟩
  · intro e st hq
    obtain ⟨rfl, hst⟩ := hq
    refine blockQ_exit ?_
    refine T_keepS [1] [1] ?_
    refine T_sub hst ?_
    refine T_seq ?_
    replace h := bindO h
    obtain ⟨v8, hv8, h⟩ := h
    replace h := condO h
    rcases h with ⟨hb9, h⟩ | ⟨hb9, h⟩
    · subst hb9
      refine T_region ?_
      refine TL_runs 1 ⟨[(10, .agg [.lit (.int .i64 (b3.State)), .lit (.int .i64 (b3.Busy)), .lit (.int .i64 (b3.Exponent)), .lit (.int .i64 (b3.Clear)), .lit (.int .i64 (b3.Wait))]), (1, .c (.box 1 0))], ⟨[(1, [.lit (.int .i64 (b3.State)), .lit (.int .i64 (b3.Busy)), .lit (.int .i64 (b3.Exponent)), .lit (.int .i64 (b3.Clear)), .lit (.int .i64 (b3.Wait))])], []⟩⟩ (by kernel_rfl) ?_
      refine TL_grow (.c (.lit (.bool (true)))) (by kernel_rfl) (by kernel_rfl) (grow_call 14 Try.f14 [[0, 0, 0, 0, 0]] [.agg (S_Backoff.cs b3)] rfl (by kernel_rfl) Try.func14 (by kernel_rfl) (by kernel_rfl) (by kernel_rfl) (ok_backoff_Ended b3 true hv8)) ?_
      refine TL_end ⟨[(0, .c (.lit (.bool ((b3.State == 3))))), (16, .c (.lit (.bool ((b3.State == 3))))), (15, .c (.lit (.bool ((b3.State == 3))))), (14, .c (.lit (.int .i64 (b3.State)))), (13, .c (.box 1 0)), (12, .c (.lit (.bool (true)))), (11, .c (.lit (.bool (true)))), (10, .agg [.lit (.int .i64 (b3.State)), .lit (.int .i64 (b3.Busy)), .lit (.int .i64 (b3.Exponent)), .lit (.int .i64 (b3.Clear)), .lit (.int .i64 (b3.Wait))]), (1, .c (.box 1 0))], ⟨[(1, [.lit (.int .i64 (b3.State)), .lit (.int .i64 (b3.Busy)), .lit (.int .i64 (b3.Exponent)), .lit (.int .i64 (b3.Clear)), .lit (.int .i64 (b3.Wait))])], []⟩⟩ (by kernel_rfl) ?_
      refine T_keep [0] [] [] ?_
      refine T_ret ?_
      obtain rfl := Option.some.inj h
      exact ⟨[(false, [.lit (.bool ((b3.State == 3)))])], by kernel_rfl, by kernel_rfl⟩
    · subst hb9
      refine T_region ?_
      refine TL_runs 1 ⟨[(10, .agg [.lit (.int .i64 (b3.State)), .lit (.int .i64 (b3.Busy)), .lit (.int .i64 (b3.Exponent)), .lit (.int .i64 (b3.Clear)), .lit (.int .i64 (b3.Wait))]), (1, .c (.box 1 0))], ⟨[(1, [.lit (.int .i64 (b3.State)), .lit (.int .i64 (b3.Busy)), .lit (.int .i64 (b3.Exponent)), .lit (.int .i64 (b3.Clear)), .lit (.int .i64 (b3.Wait))])], []⟩⟩ (by kernel_rfl) ?_
      refine TL_grow (.c (.lit (.bool (false)))) (by kernel_rfl) (by kernel_rfl) (grow_call 14 Try.f14 [[0, 0, 0, 0, 0]] [.agg (S_Backoff.cs b3)] rfl (by kernel_rfl) Try.func14 (by kernel_rfl) (by kernel_rfl) (by kernel_rfl) (ok_backoff_Ended b3 false hv8)) ?_
      refine TL_end ⟨[(0, .c (.lit (.bool (false)))), (16, .c (.lit (.bool (false)))), (15, .tup []), (14, .tup []), (13, .tup []), (12, .c (.lit (.bool (false)))), (11, .c (.lit (.bool (false)))), (10, .agg [.lit (.int .i64 (b3.State)), .lit (.int .i64 (b3.Busy)), .lit (.int .i64 (b3.Exponent)), .lit (.int .i64 (b3.Clear)), .lit (.int .i64 (b3.Wait))]), (1, .c (.box 1 0))], ⟨[(1, [.lit (.int .i64 (b3.State)), .lit (.int .i64 (b3.Busy)), .lit (.int .i64 (b3.Exponent)), .lit (.int .i64 (b3.Clear)), .lit (.int .i64 (b3.Wait))])], []⟩⟩ (by kernel_rfl) ?_
      refine T_keep [0] [] [] ?_
      refine T_ret ?_
      obtain rfl := Option.some.inj h
      exact ⟨[(false, [.lit (.bool (false))])], by kernel_rfl, by kernel_rfl⟩

end Go.Proofs.Ytohhaibbbnobpaa
