/-
  Written by cc.py: what the Go functions compute, as plain functions, and that they do.
-/
import Derived.Test.YtohhaibbbnobpaaSh19
import Derived.Test.YtohhaibbbnobpaaChecked
namespace Go.Proofs.Ytohhaibbbnobpaa
open Go.RowKit

structure S_Backoff where
  State : Int
  Busy : Int
  Exponent : Int
  Clear : Int
  Wait : Int
def S_Backoff.cs (x : S_Backoff) : List SC := [.lit (.int .i64 (x.State))] ++ [.lit (.int .i64 (x.Busy))] ++ [.lit (.int .i64 (x.Exponent))] ++ [.lit (.int .i64 (x.Clear))] ++ [.lit (.int .i64 (x.Wait))]
def S_Backoff.eqb (x y : S_Backoff) : Bool := (x.State == y.State) && ((x.Busy == y.Busy) && ((x.Exponent == y.Exponent) && ((x.Clear == y.Clear) && ((x.Wait == y.Wait) && true))))

structure S_multihopmade_Tape where
  l : List Int
  at_ : Int
def S_multihopmade_Tape.cs (x : S_multihopmade_Tape) : List SC := [.slc 1 0 (List.map (ecI .i64) (x.l))] ++ [.lit (.int .i64 (x.at_))]

/-- multihop/multihopmade.New -/
noncomputable def F_made_New_j1  (v2 : (List (Int))) : Option (S_multihopmade_Tape) :=
  some ((S_multihopmade_Tape.mk v2 0))
noncomputable def F_made_New (a0 : List Int) : Option (S_multihopmade_Tape) :=
  bif (decide ((List.length a0 : Int) > 400)) then
    (subO a0 0 400).bind fun l4 =>
    (F_made_New_j1) l4
  else
    (F_made_New_j1) a0
set_option maxRecDepth 100000 in
theorem ok_made_New (a0 : List Int) (r : S_multihopmade_Tape) (h : F_made_New a0 = some r) : HoldsN Try.prog 9 [.c (.slc 1 0 (List.map (ecI .i64) (a0)))] (S_multihopmade_Tape.cs r) := by
  unfold F_made_New at h
  refine holdsN_of 10 [2, 0] 11 Try.func9 rfl rfl (by kernel_rfl) (by kernel_rfl) (by kernel_rfl) (fun K => ?_)
  refine T_seq ?_
  refine T_runs ⟨[(2, .c (.lit (.pointer none))), (0, .c (.slc 1 0 (List.map (ecI .i64) (a0))))], ⟨[], []⟩⟩ (by kernel_rfl) ?_
  refine T_join [0] [] (fun (v2 : (List (Int))) => ⟨[(0, .c (.slc 1 0 (List.map (ecI .i64) (v2))))], ⟨[], []⟩⟩) (F_made_New_j1) r ?_ ?_
  · intro v2 h
    unfold F_made_New_j1 at h
    refine T_seq ?_
    refine T_runs ⟨[(2, .c (.box 10 0)), (10, .c (.box 10 0)), (9, .agg [.slc 1 0 (List.map (ecI .i64) (v2)), .lit (.int .i64 (0))]), (8, .c (.slc 1 0 (List.map (ecI .i64) (v2)))), (0, .c (.slc 1 0 (List.map (ecI .i64) (v2))))], ⟨[(10, [.slc 1 0 (List.map (ecI .i64) (v2)), .lit (.int .i64 (0))])], []⟩⟩ (by kernel_rfl) ?_
    refine T_keep [2] [10] [] ?_
    refine T_ret ?_
    obtain rfl := Option.some.inj h
    exact ⟨by kernel_rfl, by kernel_rfl⟩
  · refine T_seq ?_
    refine T_region ?_
    refine TL_runs 1 ⟨[(3, .c (.slc 1 0 (List.map (ecI .i64) (a0)))), (2, .c (.lit (.pointer none))), (0, .c (.slc 1 0 (List.map (ecI .i64) (a0))))], ⟨[], []⟩⟩ (by kernel_rfl) ?_
    refine TL_grow (.c (.lit (.int .i64 ((List.length a0 : Int))))) (by kernel_rfl) (by kernel_rfl) (grow_len (e := 3) (f := (ecI .i64)) 1 0 (a0) rfl (by kernel_rfl) (by kernel_rfl)) ?_
    refine TL_end ⟨[(5, .c (.lit (.bool ((decide ((List.length a0 : Int) > 400)))))), (4, .c (.lit (.int .i64 ((List.length a0 : Int))))), (3, .c (.slc 1 0 (List.map (ecI .i64) (a0)))), (2, .c (.lit (.pointer none))), (0, .c (.slc 1 0 (List.map (ecI .i64) (a0))))], ⟨[], []⟩⟩ (by kernel_rfl) ?_
    refine T_keep [5, 0] [] [] ?_
    replace h := condO h
    rcases h with ⟨hb3, h⟩ | ⟨hb3, h⟩
    · refine T_condT' (e := (decide ((List.length a0 : Int) > 400))) (by kernel_rfl) hb3 ?_
      replace h := bindO h
      obtain ⟨l4, hl4, h⟩ := h
      refine T_region ?_
      refine TL_runs 1 ⟨[(6, .c (.slc 1 0 (List.map (ecI .i64) (a0)))), (5, .c (.lit (.bool ((decide ((List.length a0 : Int) > 400)))))), (0, .c (.slc 1 0 (List.map (ecI .i64) (a0))))], ⟨[], []⟩⟩ (by kernel_rfl) ?_
      refine TL_grow (.c (.slc 1 0 (List.map (ecI .i64) (l4)))) (by kernel_rfl) (by kernel_rfl) (grow_sliceO (e := 3) (f := (ecI .i64)) 1 0 a0 none (some (.i64, 400)) 0 400 hl4 rfl (by kernel_rfl) (by kernel_rfl) (by kernel_rfl) rfl rfl (by kernel_rfl) (by kernel_rfl)) ?_
      refine TL_end ⟨[(0, .c (.slc 1 0 (List.map (ecI .i64) (l4)))), (7, .c (.slc 1 0 (List.map (ecI .i64) (l4)))), (6, .c (.slc 1 0 (List.map (ecI .i64) (a0)))), (5, .c (.lit (.bool ((decide ((List.length a0 : Int) > 400))))))], ⟨[], []⟩⟩ (by kernel_rfl) ?_
      exact ⟨l4, h, by kernel_rfl⟩
    · refine T_condF' (e := (decide ((List.length a0 : Int) > 400))) (by kernel_rfl) hb3 ?_
      refine T_skip ?_
      exact ⟨a0, h, by kernel_rfl⟩

/-- (*multihop/multihopmade.Tape).Next -/
noncomputable def F_made_Tape_Next_j1 (a0 : S_multihopmade_Tape) (v5 : Int) : Option (Int × S_multihopmade_Tape) :=
  some ((v5, (S_multihopmade_Tape.mk a0.l (IntKind.wrap .i64 (a0.at_ + 1)))))
noncomputable def F_made_Tape_Next (a0 : S_multihopmade_Tape) (a1 : Int) : Option (Int × S_multihopmade_Tape) :=
  bif (decide (a0.at_ ≥ (List.length a0.l : Int))) then
    some ((0, a0))
  else
    (idx a0.l a0.at_).bind fun e2 =>
    bif decide (a1 ≠ 0) then
      bif (decide ((Int.tmod e2 a1) < 0)) then
        (F_made_Tape_Next_j1 a0) (IntKind.wrap .i64 ((Int.tmod e2 a1) + a1))
      else
        (F_made_Tape_Next_j1 a0) (Int.tmod e2 a1)
    else none
set_option maxRecDepth 100000 in
theorem ok_made_Tape_Next (a0 : S_multihopmade_Tape) (a1 : Int) (r : Int × S_multihopmade_Tape) (h : F_made_Tape_Next a0 a1 = some r) : Holds1 Try.prog 23 [.c (.box 1000000 0), .c (.lit (.int .i64 (a1)))] (S_multihopmade_Tape.cs a0) (.c (.lit (.int .i64 (r.1)))) (S_multihopmade_Tape.cs r.2) := by
  unfold F_made_Tape_Next at h
  refine holds1_of [[0]] [2, 0] 41 Try.func23 rfl rfl rfl (by kernel_rfl) (by kernel_rfl) (fun K => ?_)
  refine T_seq ?_
  refine T_runs ⟨[(4, .c (.lit (.int .i64 (0)))), (0, .c (.box 1000000 0)), (1, .c (.lit (.int .i64 (a1))))], ⟨[(1000000, [.slc 1 0 (List.map (ecI .i64) (a0.l)), .lit (.int .i64 (a0.at_))])], []⟩⟩ (by kernel_rfl) ?_
  refine T_seq ?_
  refine T_seq ?_
  refine T_drawAllX ⟨[(15, .c (.lit (.bool ((decide (a0.at_ ≥ (List.length a0.l : Int))))))), (14, .c (.lit (.int .i64 ((List.length a0.l : Int))))), (13, .c (.slc 1 0 (List.map (ecI .i64) (a0.l)))), (12, .c (.box 1000000 0)), (11, .c (.box 1000000 0)), (10, .c (.box 1000000 0)), (9, .c (.lit (.int .i64 (a0.at_)))), (8, .c (.box 1000000 1)), (7, .c (.box 1000000 0)), (6, .c (.box 1000000 0)), (4, .c (.lit (.int .i64 (0)))), (0, .c (.box 1000000 0)), (1, .c (.lit (.int .i64 (a1))))], ⟨[(1000000, [.slc 1 0 (List.map (ecI .i64) (a0.l)), .lit (.int .i64 (a0.at_))])], []⟩⟩ (by kernel_rfl) (by kernel_rfl) ?_ ?_
  · refine HeadX_runs 8 ⟨[(13, .c (.slc 1 0 (List.map (ecI .i64) (a0.l)))), (12, .c (.box 1000000 0)), (11, .c (.box 1000000 0)), (10, .c (.box 1000000 0)), (9, .c (.lit (.int .i64 (a0.at_)))), (8, .c (.box 1000000 1)), (7, .c (.box 1000000 0)), (6, .c (.box 1000000 0)), (4, .c (.lit (.int .i64 (0)))), (0, .c (.box 1000000 0)), (1, .c (.lit (.int .i64 (a1))))], ⟨[(1000000, [.slc 1 0 (List.map (ecI .i64) (a0.l)), .lit (.int .i64 (a0.at_))])], []⟩⟩ (by kernel_rfl) ?_
    refine HeadX_op (.c (.lit (.int .i64 ((List.length a0.l : Int))))) (by kernel_rfl) (by kernel_rfl) (grow_len (e := 3) (f := (ecI .i64)) 1 0 (a0.l) rfl (by kernel_rfl) (by kernel_rfl)) ?_
    exact HeadX_end (by kernel_rfl)
  · refine T_keep [15, 0, 1] [1000000] [] ?_
    replace h := condO h
    rcases h with ⟨hb1, h⟩ | ⟨hb1, h⟩
    · refine T_condT' (e := (decide (a0.at_ ≥ (List.length a0.l : Int)))) (by kernel_rfl) hb1 ?_
      refine T_seq ?_
      refine T_runs ⟨[(4, .c (.lit (.int .i64 (0)))), (15, .c (.lit (.bool ((decide (a0.at_ ≥ (List.length a0.l : Int))))))), (0, .c (.box 1000000 0)), (1, .c (.lit (.int .i64 (a1))))], ⟨[(1000000, [.slc 1 0 (List.map (ecI .i64) (a0.l)), .lit (.int .i64 (a0.at_))])], []⟩⟩ (by kernel_rfl) ?_
      refine T_keep [4] [1000000] [] ?_
      refine T_ret ?_
      refine thenQ_ret ?_
      obtain rfl := Option.some.inj h
      exact ⟨⟨[(false, [.lit (.int .i64 (0))])], by kernel_rfl, by kernel_rfl⟩, by kernel_rfl⟩
    · refine T_condF' (e := (decide (a0.at_ ≥ (List.length a0.l : Int)))) (by kernel_rfl) hb1 ?_
      refine T_skip ?_
      refine T_seq ?_
      replace h := bindO h
      obtain ⟨e2, he2, h⟩ := h
      replace h := chkO h
      obtain ⟨hc3, h⟩ := h
      refine T_drawAllX ⟨[(5, .c (.lit (.int .i64 (Int.tmod e2 a1)))), (27, .c (.lit (.int .i64 (Int.tmod e2 a1)))), (26, .c (.lit (.int .i64 (a1)))), (25, .c (.lit (.int .i64 (e2)))), (24, .c (.ref [.lit (.int .i64 (e2))])), (23, .c (.lit (.int .i64 (a0.at_)))), (22, .c (.box 1000000 1)), (21, .c (.box 1000000 0)), (20, .c (.box 1000000 0)), (19, .c (.slc 1 0 (List.map (ecI .i64) (a0.l)))), (18, .c (.box 1000000 0)), (17, .c (.box 1000000 0)), (16, .c (.box 1000000 0)), (15, .c (.lit (.bool ((decide (a0.at_ ≥ (List.length a0.l : Int))))))), (0, .c (.box 1000000 0)), (1, .c (.lit (.int .i64 (a1))))], ⟨[(1000000, [.slc 1 0 (List.map (ecI .i64) (a0.l)), .lit (.int .i64 (a0.at_))])], []⟩⟩ (by kernel_rfl) (by kernel_rfl) ?_ ?_
      · refine HeadX_runs 8 ⟨[(23, .c (.lit (.int .i64 (a0.at_)))), (22, .c (.box 1000000 1)), (21, .c (.box 1000000 0)), (20, .c (.box 1000000 0)), (19, .c (.slc 1 0 (List.map (ecI .i64) (a0.l)))), (18, .c (.box 1000000 0)), (17, .c (.box 1000000 0)), (16, .c (.box 1000000 0)), (15, .c (.lit (.bool ((decide (a0.at_ ≥ (List.length a0.l : Int))))))), (0, .c (.box 1000000 0)), (1, .c (.lit (.int .i64 (a1))))], ⟨[(1000000, [.slc 1 0 (List.map (ecI .i64) (a0.l)), .lit (.int .i64 (a0.at_))])], []⟩⟩ (by kernel_rfl) ?_
        refine HeadX_op (.c (.ref [.lit (.int .i64 (e2))])) (by kernel_rfl) (by kernel_rfl) (PureOp.grow (pure_indexSlc (e := 3) (k := .i64) 0 1 (List.map (ecI .i64) a0.l) (a0.at_) ((ecI .i64) e2) rfl (by kernel_rfl) (by kernel_rfl) (by kernel_rfl) (by kernel_rfl) (idx_spec he2).1 (map_get (idx_spec he2).2))) ?_
        refine HeadX_runs 2 ⟨[(26, .c (.lit (.int .i64 (a1)))), (25, .c (.lit (.int .i64 (e2)))), (24, .c (.ref [.lit (.int .i64 (e2))])), (23, .c (.lit (.int .i64 (a0.at_)))), (22, .c (.box 1000000 1)), (21, .c (.box 1000000 0)), (20, .c (.box 1000000 0)), (19, .c (.slc 1 0 (List.map (ecI .i64) (a0.l)))), (18, .c (.box 1000000 0)), (17, .c (.box 1000000 0)), (16, .c (.box 1000000 0)), (15, .c (.lit (.bool ((decide (a0.at_ ≥ (List.length a0.l : Int))))))), (0, .c (.box 1000000 0)), (1, .c (.lit (.int .i64 (a1))))], ⟨[(1000000, [.slc 1 0 (List.map (ecI .i64) (a0.l)), .lit (.int .i64 (a0.at_))])], []⟩⟩ (by kernel_rfl) ?_
        refine HeadX_op (.c (.lit (.int .i64 (Int.tmod e2 a1)))) (by kernel_rfl) (by kernel_rfl) (PureOp.grow (pure_intC (k := .i64) (k' := .i64) (e2) (a1) (by simp) rfl (by kernel_rfl) (by kernel_rfl) rfl (of_decide_eq_true hc3))) ?_
        exact HeadX_end (by kernel_rfl)
      · refine T_keep [5, 0, 1] [1000000] [] ?_
        refine T_seq ?_
        refine T_runs ⟨[(34, .c (.box 1000000 1)), (33, .c (.box 1000000 0)), (32, .c (.lit (.int .i64 (IntKind.wrap .i64 (a0.at_ + 1))))), (31, .c (.lit (.int .i64 (a0.at_)))), (30, .c (.box 1000000 1)), (29, .c (.box 1000000 0)), (28, .c (.box 1000000 0)), (5, .c (.lit (.int .i64 (Int.tmod e2 a1)))), (0, .c (.box 1000000 0)), (1, .c (.lit (.int .i64 (a1))))], ⟨[(1000000, [.slc 1 0 (List.map (ecI .i64) (a0.l)), .lit (.int .i64 (IntKind.wrap .i64 (a0.at_ + 1)))])], []⟩⟩ (by kernel_rfl) ?_
        refine T_keep [5, 1] [1000000] [] ?_
        refine T_join [5] [1000000] (fun (v5 : Int) => ⟨[(5, .c (.lit (.int .i64 (v5))))], ⟨[(1000000, [.slc 1 0 (List.map (ecI .i64) (a0.l)), .lit (.int .i64 (IntKind.wrap .i64 (a0.at_ + 1)))])], []⟩⟩) (F_made_Tape_Next_j1 a0) r ?_ ?_
        · intro v5 h
          unfold F_made_Tape_Next_j1 at h
          refine T_seq ?_
          refine T_runs ⟨[(4, .c (.lit (.int .i64 (v5)))), (40, .c (.lit (.int .i64 (v5)))), (5, .c (.lit (.int .i64 (v5))))], ⟨[(1000000, [.slc 1 0 (List.map (ecI .i64) (a0.l)), .lit (.int .i64 (IntKind.wrap .i64 (a0.at_ + 1)))])], []⟩⟩ (by kernel_rfl) ?_
          refine T_ret ?_
          obtain rfl := Option.some.inj h
          exact ⟨⟨[(false, [.lit (.int .i64 (v5))])], by kernel_rfl, by kernel_rfl⟩, by kernel_rfl⟩
        · refine T_seq ?_
          refine T_runs ⟨[(36, .c (.lit (.bool ((decide ((Int.tmod e2 a1) < 0)))))), (35, .c (.lit (.int .i64 (Int.tmod e2 a1)))), (5, .c (.lit (.int .i64 (Int.tmod e2 a1)))), (1, .c (.lit (.int .i64 (a1))))], ⟨[(1000000, [.slc 1 0 (List.map (ecI .i64) (a0.l)), .lit (.int .i64 (IntKind.wrap .i64 (a0.at_ + 1)))])], []⟩⟩ (by kernel_rfl) ?_
          replace h := condO h
          rcases h with ⟨hb6, h⟩ | ⟨hb6, h⟩
          · refine T_condT' (e := (decide ((Int.tmod e2 a1) < 0))) (by kernel_rfl) hb6 ?_
            refine T_runs ⟨[(5, .c (.lit (.int .i64 (IntKind.wrap .i64 ((Int.tmod e2 a1) + a1))))), (39, .c (.lit (.int .i64 (IntKind.wrap .i64 ((Int.tmod e2 a1) + a1))))), (38, .c (.lit (.int .i64 (a1)))), (37, .c (.lit (.int .i64 (Int.tmod e2 a1)))), (36, .c (.lit (.bool ((decide ((Int.tmod e2 a1) < 0)))))), (35, .c (.lit (.int .i64 (Int.tmod e2 a1)))), (1, .c (.lit (.int .i64 (a1))))], ⟨[(1000000, [.slc 1 0 (List.map (ecI .i64) (a0.l)), .lit (.int .i64 (IntKind.wrap .i64 (a0.at_ + 1)))])], []⟩⟩ (by kernel_rfl) ?_
            exact ⟨IntKind.wrap .i64 ((Int.tmod e2 a1) + a1), h, by kernel_rfl⟩
          · refine T_condF' (e := (decide ((Int.tmod e2 a1) < 0))) (by kernel_rfl) hb6 ?_
            refine T_skip ?_
            exact ⟨Int.tmod e2 a1, h, by kernel_rfl⟩

/-- multihop/multihopref08.drawn -/
noncomputable def F_ref08_drawn_j1 (a0 : S_Backoff) (a1 : Int) (v4 : Int) : Option (S_Backoff) :=
  some ((S_Backoff.mk v4 a0.Busy a0.Exponent 2 (IntKind.wrap .i64 (Int.tmod a1 (ishl .u32 1 (IntKind.wrap .u64 a0.Exponent))))))
noncomputable def F_ref08_drawn (a0 : S_Backoff) (a1 : Int) : Option (S_Backoff) :=
  bif decide (0 ≤ (IntKind.wrap .u64 a0.Exponent)) then
    bif decide ((ishl .u32 1 (IntKind.wrap .u64 a0.Exponent)) ≠ 0) then
      bif (decide ((IntKind.wrap .i64 (Int.tmod a1 (ishl .u32 1 (IntKind.wrap .u64 a0.Exponent)))) > 0)) then
        (F_ref08_drawn_j1 a0 a1) 1
      else
        (F_ref08_drawn_j1 a0 a1) 2
    else none
  else none
set_option maxRecDepth 100000 in
theorem ok_ref08_drawn (a0 : S_Backoff) (a1 : Int) (r : S_Backoff) (h : F_ref08_drawn a0 a1 = some r) : Pure Try.prog 27 [.agg (S_Backoff.cs a0), .c (.lit (.int .u32 (a1)))] (.agg (S_Backoff.cs r)) := by
  unfold F_ref08_drawn at h
  refine pure_of [[0, 0, 0, 0, 0]] 20 Try.func27 rfl rfl rfl (by kernel_rfl) (fun K => ?_)
  refine T_seq ?_
  refine T_runs ⟨[(4, .c (.box 4 0)), (2, .c (.box 2 0)), (0, .agg [.lit (.int .i64 (a0.State)), .lit (.int .i64 (a0.Busy)), .lit (.int .i64 (a0.Exponent)), .lit (.int .i64 (a0.Clear)), .lit (.int .i64 (a0.Wait))]), (1, .c (.lit (.int .u32 (a1))))], ⟨[(4, [.lit (.int .i64 (0)), .lit (.int .i64 (0)), .lit (.int .i64 (0)), .lit (.int .i64 (0)), .lit (.int .i64 (0))]), (2, [.lit (.int .i64 (a0.State)), .lit (.int .i64 (a0.Busy)), .lit (.int .i64 (a0.Exponent)), .lit (.int .i64 (a0.Clear)), .lit (.int .i64 (a0.Wait))])], []⟩⟩ (by kernel_rfl) ?_
  refine T_seq ?_
  refine T_runs ⟨[(5, .c (.box 2 3)), (4, .c (.box 4 0)), (2, .c (.box 2 0)), (0, .agg [.lit (.int .i64 (a0.State)), .lit (.int .i64 (a0.Busy)), .lit (.int .i64 (a0.Exponent)), .lit (.int .i64 (a0.Clear)), .lit (.int .i64 (a0.Wait))]), (1, .c (.lit (.int .u32 (a1))))], ⟨[(2, [.lit (.int .i64 (a0.State)), .lit (.int .i64 (a0.Busy)), .lit (.int .i64 (a0.Exponent)), .lit (.int .i64 (2)), .lit (.int .i64 (a0.Wait))]), (4, [.lit (.int .i64 (0)), .lit (.int .i64 (0)), .lit (.int .i64 (0)), .lit (.int .i64 (0)), .lit (.int .i64 (0))])], []⟩⟩ (by kernel_rfl) ?_
  refine T_seq ?_
  replace h := chkO h
  obtain ⟨hc1, h⟩ := h
  replace h := chkO h
  obtain ⟨hc2, h⟩ := h
  refine T_region ?_
  refine TL_runs 4 ⟨[(9, .c (.lit (.int .u64 (IntKind.wrap .u64 a0.Exponent)))), (8, .c (.lit (.int .i64 (a0.Exponent)))), (7, .c (.box 2 2)), (6, .c (.lit (.int .u32 (a1)))), (5, .c (.box 2 3)), (4, .c (.box 4 0)), (2, .c (.box 2 0)), (0, .agg [.lit (.int .i64 (a0.State)), .lit (.int .i64 (a0.Busy)), .lit (.int .i64 (a0.Exponent)), .lit (.int .i64 (a0.Clear)), .lit (.int .i64 (a0.Wait))]), (1, .c (.lit (.int .u32 (a1))))], ⟨[(2, [.lit (.int .i64 (a0.State)), .lit (.int .i64 (a0.Busy)), .lit (.int .i64 (a0.Exponent)), .lit (.int .i64 (2)), .lit (.int .i64 (a0.Wait))]), (4, [.lit (.int .i64 (0)), .lit (.int .i64 (0)), .lit (.int .i64 (0)), .lit (.int .i64 (0)), .lit (.int .i64 (0))])], []⟩⟩ (by kernel_rfl) ?_
  refine TL_grow (.c (.lit (.int .u32 (ishl .u32 1 (IntKind.wrap .u64 a0.Exponent))))) (by kernel_rfl) (by kernel_rfl) (PureOp.grow (pure_intC (k := .u32) (k' := .u64) (1) (IntKind.wrap .u64 a0.Exponent) (by simp) rfl (by kernel_rfl) (by kernel_rfl) rfl (of_decide_eq_true hc1))) ?_
  refine TL_grow (.c (.lit (.int .u32 (Int.tmod a1 (ishl .u32 1 (IntKind.wrap .u64 a0.Exponent)))))) (by kernel_rfl) (by kernel_rfl) (PureOp.grow (pure_intC (k := .u32) (k' := .u32) (a1) (ishl .u32 1 (IntKind.wrap .u64 a0.Exponent)) (by simp) rfl (by kernel_rfl) (by kernel_rfl) rfl (of_decide_eq_true hc2))) ?_
  refine TL_end ⟨[(13, .c (.box 2 4)), (12, .c (.lit (.int .i64 (IntKind.wrap .i64 (Int.tmod a1 (ishl .u32 1 (IntKind.wrap .u64 a0.Exponent))))))), (11, .c (.lit (.int .u32 (Int.tmod a1 (ishl .u32 1 (IntKind.wrap .u64 a0.Exponent)))))), (10, .c (.lit (.int .u32 (ishl .u32 1 (IntKind.wrap .u64 a0.Exponent))))), (9, .c (.lit (.int .u64 (IntKind.wrap .u64 a0.Exponent)))), (8, .c (.lit (.int .i64 (a0.Exponent)))), (7, .c (.box 2 2)), (6, .c (.lit (.int .u32 (a1)))), (5, .c (.box 2 3)), (4, .c (.box 4 0)), (2, .c (.box 2 0)), (0, .agg [.lit (.int .i64 (a0.State)), .lit (.int .i64 (a0.Busy)), .lit (.int .i64 (a0.Exponent)), .lit (.int .i64 (a0.Clear)), .lit (.int .i64 (a0.Wait))]), (1, .c (.lit (.int .u32 (a1))))], ⟨[(2, [.lit (.int .i64 (a0.State)), .lit (.int .i64 (a0.Busy)), .lit (.int .i64 (a0.Exponent)), .lit (.int .i64 (2)), .lit (.int .i64 (IntKind.wrap .i64 (Int.tmod a1 (ishl .u32 1 (IntKind.wrap .u64 a0.Exponent)))))]), (4, [.lit (.int .i64 (0)), .lit (.int .i64 (0)), .lit (.int .i64 (0)), .lit (.int .i64 (0)), .lit (.int .i64 (0))])], []⟩⟩ (by kernel_rfl) ?_
  refine T_keep [4, 2] [2, 4] [] ?_
  refine T_seq ?_
  refine T_runs ⟨[(14, .c (.box 2 0)), (4, .c (.box 4 0)), (2, .c (.box 2 0))], ⟨[(2, [.lit (.int .i64 (2)), .lit (.int .i64 (a0.Busy)), .lit (.int .i64 (a0.Exponent)), .lit (.int .i64 (2)), .lit (.int .i64 (IntKind.wrap .i64 (Int.tmod a1 (ishl .u32 1 (IntKind.wrap .u64 a0.Exponent)))))]), (4, [.lit (.int .i64 (0)), .lit (.int .i64 (0)), .lit (.int .i64 (0)), .lit (.int .i64 (0)), .lit (.int .i64 (0))])], []⟩⟩ (by kernel_rfl) ?_
  refine T_join [2, 4] [2, 4] (fun (v4 : Int) => ⟨[(2, .c (.box 2 0)), (4, .c (.box 4 0))], ⟨[(2, [.lit (.int .i64 (v4)), .lit (.int .i64 (a0.Busy)), .lit (.int .i64 (a0.Exponent)), .lit (.int .i64 (2)), .lit (.int .i64 (IntKind.wrap .i64 (Int.tmod a1 (ishl .u32 1 (IntKind.wrap .u64 a0.Exponent)))))]), (4, [.lit (.int .i64 (0)), .lit (.int .i64 (0)), .lit (.int .i64 (0)), .lit (.int .i64 (0)), .lit (.int .i64 (0))])], []⟩⟩) (F_ref08_drawn_j1 a0 a1) r ?_ ?_
  · intro v4 h
    unfold F_ref08_drawn_j1 at h
    refine T_seq ?_
    refine T_runs ⟨[(19, .agg [.lit (.int .i64 (v4)), .lit (.int .i64 (a0.Busy)), .lit (.int .i64 (a0.Exponent)), .lit (.int .i64 (2)), .lit (.int .i64 (IntKind.wrap .i64 (Int.tmod a1 (ishl .u32 1 (IntKind.wrap .u64 a0.Exponent)))))]), (2, .c (.box 2 0)), (4, .c (.box 4 0))], ⟨[(4, [.lit (.int .i64 (v4)), .lit (.int .i64 (a0.Busy)), .lit (.int .i64 (a0.Exponent)), .lit (.int .i64 (2)), .lit (.int .i64 (IntKind.wrap .i64 (Int.tmod a1 (ishl .u32 1 (IntKind.wrap .u64 a0.Exponent)))))]), (2, [.lit (.int .i64 (v4)), .lit (.int .i64 (a0.Busy)), .lit (.int .i64 (a0.Exponent)), .lit (.int .i64 (2)), .lit (.int .i64 (IntKind.wrap .i64 (Int.tmod a1 (ishl .u32 1 (IntKind.wrap .u64 a0.Exponent)))))])], []⟩⟩ (by kernel_rfl) ?_
    refine T_keep [4] [4] [] ?_
    refine T_ret ?_
    obtain rfl := Option.some.inj h
    exact ⟨[(true, [.lit (.int .i64 (v4)), .lit (.int .i64 (a0.Busy)), .lit (.int .i64 (a0.Exponent)), .lit (.int .i64 (2)), .lit (.int .i64 (IntKind.wrap .i64 (Int.tmod a1 (ishl .u32 1 (IntKind.wrap .u64 a0.Exponent)))))])], by kernel_rfl, by kernel_rfl⟩
  · refine T_seq ?_
    refine T_runs ⟨[(17, .c (.lit (.bool ((decide ((IntKind.wrap .i64 (Int.tmod a1 (ishl .u32 1 (IntKind.wrap .u64 a0.Exponent)))) > 0)))))), (16, .c (.lit (.int .i64 (IntKind.wrap .i64 (Int.tmod a1 (ishl .u32 1 (IntKind.wrap .u64 a0.Exponent))))))), (15, .c (.box 2 4)), (14, .c (.box 2 0)), (4, .c (.box 4 0)), (2, .c (.box 2 0))], ⟨[(2, [.lit (.int .i64 (2)), .lit (.int .i64 (a0.Busy)), .lit (.int .i64 (a0.Exponent)), .lit (.int .i64 (2)), .lit (.int .i64 (IntKind.wrap .i64 (Int.tmod a1 (ishl .u32 1 (IntKind.wrap .u64 a0.Exponent)))))]), (4, [.lit (.int .i64 (0)), .lit (.int .i64 (0)), .lit (.int .i64 (0)), .lit (.int .i64 (0)), .lit (.int .i64 (0))])], []⟩⟩ (by kernel_rfl) ?_
    refine T_keep [17, 4, 2] [2, 4] [] ?_
    replace h := condO h
    rcases h with ⟨hb5, h⟩ | ⟨hb5, h⟩
    · refine T_condT' (e := (decide ((IntKind.wrap .i64 (Int.tmod a1 (ishl .u32 1 (IntKind.wrap .u64 a0.Exponent)))) > 0))) (by kernel_rfl) hb5 ?_
      refine T_runs ⟨[(18, .c (.box 2 0)), (17, .c (.lit (.bool ((decide ((IntKind.wrap .i64 (Int.tmod a1 (ishl .u32 1 (IntKind.wrap .u64 a0.Exponent)))) > 0)))))), (4, .c (.box 4 0)), (2, .c (.box 2 0))], ⟨[(2, [.lit (.int .i64 (1)), .lit (.int .i64 (a0.Busy)), .lit (.int .i64 (a0.Exponent)), .lit (.int .i64 (2)), .lit (.int .i64 (IntKind.wrap .i64 (Int.tmod a1 (ishl .u32 1 (IntKind.wrap .u64 a0.Exponent)))))]), (4, [.lit (.int .i64 (0)), .lit (.int .i64 (0)), .lit (.int .i64 (0)), .lit (.int .i64 (0)), .lit (.int .i64 (0))])], []⟩⟩ (by kernel_rfl) ?_
      exact ⟨1, h, by kernel_rfl⟩
    · refine T_condF' (e := (decide ((IntKind.wrap .i64 (Int.tmod a1 (ishl .u32 1 (IntKind.wrap .u64 a0.Exponent)))) > 0))) (by kernel_rfl) hb5 ?_
      refine T_skip ?_
      exact ⟨2, h, by kernel_rfl⟩

/-- multihop/multihopref08.Begin -/
noncomputable def F_ref08_Begin (a0 : Int) : Option (S_Backoff) :=
  (F_ref08_drawn (S_Backoff.mk 0 0 3 0 0) a0).bind fun v1 =>
  some (v1)
set_option maxRecDepth 100000 in
theorem ok_ref08_Begin (a0 : Int) (r : S_Backoff) (h : F_ref08_Begin a0 = some r) : Pure Try.prog 20 [.c (.lit (.int .u32 (a0)))] (.agg (S_Backoff.cs r)) := by
  unfold F_ref08_Begin at h
  refine pure_of [[0, 0, 0, 0, 0]] 6 Try.func20 rfl rfl rfl (by kernel_rfl) (fun K => ?_)
  refine T_seq ?_
  refine T_runs ⟨[(2, .c (.box 2 0)), (0, .c (.lit (.int .u32 (a0))))], ⟨[(2, [.lit (.int .i64 (0)), .lit (.int .i64 (0)), .lit (.int .i64 (0)), .lit (.int .i64 (0)), .lit (.int .i64 (0))])], []⟩⟩ (by kernel_rfl) ?_
  refine T_seq ?_
  replace h := bindO h
  obtain ⟨v1, hv1, h⟩ := h
  refine T_region ?_
  refine TL_runs 2 ⟨[(4, .c (.lit (.int .u32 (a0)))), (3, .agg [.lit (.int .i64 (0)), .lit (.int .i64 (0)), .lit (.int .i64 (3)), .lit (.int .i64 (0)), .lit (.int .i64 (0))]), (2, .c (.box 2 0)), (0, .c (.lit (.int .u32 (a0))))], ⟨[(2, [.lit (.int .i64 (0)), .lit (.int .i64 (0)), .lit (.int .i64 (0)), .lit (.int .i64 (0)), .lit (.int .i64 (0))])], []⟩⟩ (by kernel_rfl) ?_
  refine TL_grow (.agg [.lit (.int .i64 (v1.State)), .lit (.int .i64 (v1.Busy)), .lit (.int .i64 (v1.Exponent)), .lit (.int .i64 (v1.Clear)), .lit (.int .i64 (v1.Wait))]) (by kernel_rfl) (by kernel_rfl) (grow_call 27 Try.f27 [[0, 0, 0, 0, 0], [0]] [.agg (S_Backoff.cs (S_Backoff.mk 0 0 3 0 0)), .c (.lit (.int .u32 (a0)))] rfl (by kernel_rfl) Try.func27 (by kernel_rfl) (by kernel_rfl) (by kernel_rfl) (ok_ref08_drawn (S_Backoff.mk 0 0 3 0 0) a0 v1 hv1)) ?_
  refine TL_end ⟨[(5, .agg [.lit (.int .i64 (v1.State)), .lit (.int .i64 (v1.Busy)), .lit (.int .i64 (v1.Exponent)), .lit (.int .i64 (v1.Clear)), .lit (.int .i64 (v1.Wait))]), (4, .c (.lit (.int .u32 (a0)))), (3, .agg [.lit (.int .i64 (0)), .lit (.int .i64 (0)), .lit (.int .i64 (3)), .lit (.int .i64 (0)), .lit (.int .i64 (0))]), (2, .c (.box 2 0)), (0, .c (.lit (.int .u32 (a0))))], ⟨[(2, [.lit (.int .i64 (v1.State)), .lit (.int .i64 (v1.Busy)), .lit (.int .i64 (v1.Exponent)), .lit (.int .i64 (v1.Clear)), .lit (.int .i64 (v1.Wait))])], []⟩⟩ (by kernel_rfl) ?_
  refine T_keep [2] [2] [] ?_
  refine T_ret ?_
  obtain rfl := Option.some.inj h
  exact ⟨[(true, [.lit (.int .i64 (v1.State)), .lit (.int .i64 (v1.Busy)), .lit (.int .i64 (v1.Exponent)), .lit (.int .i64 (v1.Clear)), .lit (.int .i64 (v1.Wait))])], by kernel_rfl, by kernel_rfl⟩

/-- multihop/multihopref08.exponent -/
noncomputable def F_ref08_exponent (a0 : Int) : Option (Int) :=
  some (if 5 < IntKind.wrap .i64 (3 + a0) then 5 else IntKind.wrap .i64 (3 + a0))
set_option maxRecDepth 100000 in
theorem ok_ref08_exponent (a0 : Int) (r : Int) (h : F_ref08_exponent a0 = some r) : Pure Try.prog 25 [.c (.lit (.int .i64 (a0)))] (.c (.lit (.int .i64 (r)))) := by
  unfold F_ref08_exponent at h
  refine pure_of [[0]] 6 Try.func25 rfl rfl rfl (by kernel_rfl) (fun K => ?_)
  refine T_seq ?_
  refine T_runs ⟨[(2, .c (.lit (.int .i64 (0)))), (0, .c (.lit (.int .i64 (a0))))], ⟨[], []⟩⟩ (by kernel_rfl) ?_
  refine T_seq ?_
  refine T_runs ⟨[(2, .c (.lit (.int .i64 (if 5 < IntKind.wrap .i64 (3 + a0) then 5 else IntKind.wrap .i64 (3 + a0))))), (5, .c (.lit (.int .i64 (if 5 < IntKind.wrap .i64 (3 + a0) then 5 else IntKind.wrap .i64 (3 + a0))))), (4, .c (.lit (.int .i64 (IntKind.wrap .i64 (3 + a0))))), (3, .c (.lit (.int .i64 (a0)))), (0, .c (.lit (.int .i64 (a0))))], ⟨[], []⟩⟩ (by kernel_rfl) ?_
  refine T_keep [2] [] [] ?_
  refine T_ret ?_
  obtain rfl := Option.some.inj h
  exact ⟨[(false, [.lit (.int .i64 (if 5 < IntKind.wrap .i64 (3 + a0) then 5 else IntKind.wrap .i64 (3 + a0)))])], by kernel_rfl, by kernel_rfl⟩

/-- multihop/multihopref08.Valid -/
noncomputable def F_ref08_Valid (a0 : S_Backoff) : Option (Bool) :=
  bif (decide (a0.Busy < 0)) then
    some (false)
  else
    bif (decide (a0.Busy > 5)) then
      some (false)
    else
      (F_ref08_exponent a0.Busy).bind fun v3 =>
      bif (a0.Exponent != v3) then
        some (false)
      else
        bif (a0.State == 1) then
          bif (decide (a0.Busy ≤ 4)) then
            bif (a0.Clear == 2) then
              bif (decide (a0.Wait ≥ 1)) then
                bif decide (0 ≤ (IntKind.wrap .u64 a0.Exponent)) then
                  some ((decide (a0.Wait < (ishl .i64 1 (IntKind.wrap .u64 a0.Exponent)))))
                else none
              else
                some (false)
            else
              some (false)
          else
            some (false)
        else
          bif (a0.State == 2) then
            bif (decide (a0.Busy ≤ 4)) then
              bif (decide (a0.Clear ≥ 1)) then
                bif (decide (a0.Clear ≤ 2)) then
                  some ((a0.Wait == 0))
                else
                  some (false)
              else
                some (false)
            else
              some (false)
          else
            bif (a0.State == 3) then
              bif (decide (a0.Busy ≤ 4)) then
                bif (a0.Clear == 0) then
                  some ((a0.Wait == 0))
                else
                  some (false)
              else
                some (false)
            else
              bif (a0.State == 4) then
                bif (a0.Busy == 5) then
                  bif (a0.Clear == 2) then
                    some ((a0.Wait == 0))
                  else
                    some (false)
                else
                  some (false)
              else
                some (false)
set_option maxRecDepth 100000 in
theorem ok_ref08_Valid (a0 : S_Backoff) (r : Bool) (h : F_ref08_Valid a0 = some r) : Pure Try.prog 13 [.agg (S_Backoff.cs a0)] (.c (.lit (.bool (r)))) := by
  unfold F_ref08_Valid at h
  refine pure_of [[0]] 95 Try.func13 rfl rfl rfl (by kernel_rfl) (fun K => ?_)
  refine T_seq ?_
  refine T_runs ⟨[(2, .c (.lit (.bool (false)))), (1, .c (.box 1 0)), (0, .agg [.lit (.int .i64 (a0.State)), .lit (.int .i64 (a0.Busy)), .lit (.int .i64 (a0.Exponent)), .lit (.int .i64 (a0.Clear)), .lit (.int .i64 (a0.Wait))])], ⟨[(1, [.lit (.int .i64 (a0.State)), .lit (.int .i64 (a0.Busy)), .lit (.int .i64 (a0.Exponent)), .lit (.int .i64 (a0.Clear)), .lit (.int .i64 (a0.Wait))])], []⟩⟩ (by kernel_rfl) ?_
  refine T_seq ?_
  refine T_seq ?_
  replace h := condO h
  rcases h with ⟨hb1, h⟩ | ⟨hb1, h⟩
  · refine T_drawAllX ⟨[(18, .c (.lit (.bool (true)))), (17, .tup []), (16, .tup []), (15, .tup []), (14, .tup []), (13, .tup []), (12, .tup []), (11, .c (.lit (.bool (true)))), (10, .c (.lit (.bool (true)))), (9, .tup []), (8, .tup []), (7, .tup []), (6, .c (.lit (.bool (true)))), (5, .c (.lit (.bool (true)))), (4, .c (.lit (.int .i64 (a0.Busy)))), (3, .c (.box 1 1)), (2, .c (.lit (.bool (false)))), (1, .c (.box 1 0)), (0, .agg [.lit (.int .i64 (a0.State)), .lit (.int .i64 (a0.Busy)), .lit (.int .i64 (a0.Exponent)), .lit (.int .i64 (a0.Clear)), .lit (.int .i64 (a0.Wait))])], ⟨[(1, [.lit (.int .i64 (a0.State)), .lit (.int .i64 (a0.Busy)), .lit (.int .i64 (a0.Exponent)), .lit (.int .i64 (a0.Clear)), .lit (.int .i64 (a0.Wait))])], []⟩⟩ (by kernel_rfl) (by kernel_rfl) ?_ ?_
    · refine HeadX_runs 2 ⟨[(4, .c (.lit (.int .i64 (a0.Busy)))), (3, .c (.box 1 1)), (2, .c (.lit (.bool (false)))), (1, .c (.box 1 0)), (0, .agg [.lit (.int .i64 (a0.State)), .lit (.int .i64 (a0.Busy)), .lit (.int .i64 (a0.Exponent)), .lit (.int .i64 (a0.Clear)), .lit (.int .i64 (a0.Wait))])], ⟨[(1, [.lit (.int .i64 (a0.State)), .lit (.int .i64 (a0.Busy)), .lit (.int .i64 (a0.Exponent)), .lit (.int .i64 (a0.Clear)), .lit (.int .i64 (a0.Wait))])], []⟩⟩ (by kernel_rfl) ?_
      refine HeadX_op (.c (.lit (.bool (true)))) (by kernel_rfl) (by kernel_rfl) (grow_bool (e := (decide (a0.Busy < 0))) (by kernel_rfl) hb1) ?_
      exact HeadX_end (by kernel_rfl)
    · refine T_keep [18, 1] [1] [] ?_
      refine T_condT (by kernel_rfl) ?_
      refine T_seq ?_
      refine T_runs ⟨[(2, .c (.lit (.bool (false)))), (18, .c (.lit (.bool (true)))), (1, .c (.box 1 0))], ⟨[(1, [.lit (.int .i64 (a0.State)), .lit (.int .i64 (a0.Busy)), .lit (.int .i64 (a0.Exponent)), .lit (.int .i64 (a0.Clear)), .lit (.int .i64 (a0.Wait))])], []⟩⟩ (by kernel_rfl) ?_
      refine T_keep [2] [] [] ?_
      refine T_ret ?_
      refine thenQ_ret ?_
      obtain rfl := Option.some.inj h
      exact ⟨[(false, [.lit (.bool (false))])], by kernel_rfl, by kernel_rfl⟩
  · replace h := condO h
    rcases h with ⟨hb2, h⟩ | ⟨hb2, h⟩
    · refine T_drawAllX ⟨[(18, .c (.lit (.bool (true)))), (17, .tup []), (16, .tup []), (15, .tup []), (14, .tup []), (13, .tup []), (12, .tup []), (11, .c (.lit (.bool (true)))), (10, .c (.lit (.bool (true)))), (9, .c (.lit (.bool (true)))), (8, .c (.lit (.int .i64 (a0.Busy)))), (7, .c (.box 1 1)), (6, .c (.lit (.bool (false)))), (5, .c (.lit (.bool (false)))), (4, .c (.lit (.int .i64 (a0.Busy)))), (3, .c (.box 1 1)), (2, .c (.lit (.bool (false)))), (1, .c (.box 1 0)), (0, .agg [.lit (.int .i64 (a0.State)), .lit (.int .i64 (a0.Busy)), .lit (.int .i64 (a0.Exponent)), .lit (.int .i64 (a0.Clear)), .lit (.int .i64 (a0.Wait))])], ⟨[(1, [.lit (.int .i64 (a0.State)), .lit (.int .i64 (a0.Busy)), .lit (.int .i64 (a0.Exponent)), .lit (.int .i64 (a0.Clear)), .lit (.int .i64 (a0.Wait))])], []⟩⟩ (by kernel_rfl) (by kernel_rfl) ?_ ?_
      · refine HeadX_runs 2 ⟨[(4, .c (.lit (.int .i64 (a0.Busy)))), (3, .c (.box 1 1)), (2, .c (.lit (.bool (false)))), (1, .c (.box 1 0)), (0, .agg [.lit (.int .i64 (a0.State)), .lit (.int .i64 (a0.Busy)), .lit (.int .i64 (a0.Exponent)), .lit (.int .i64 (a0.Clear)), .lit (.int .i64 (a0.Wait))])], ⟨[(1, [.lit (.int .i64 (a0.State)), .lit (.int .i64 (a0.Busy)), .lit (.int .i64 (a0.Exponent)), .lit (.int .i64 (a0.Clear)), .lit (.int .i64 (a0.Wait))])], []⟩⟩ (by kernel_rfl) ?_
        refine HeadX_op (.c (.lit (.bool (false)))) (by kernel_rfl) (by kernel_rfl) (grow_bool (e := (decide (a0.Busy < 0))) (by kernel_rfl) hb1) ?_
        refine HeadX_runs 3 ⟨[(8, .c (.lit (.int .i64 (a0.Busy)))), (7, .c (.box 1 1)), (6, .c (.lit (.bool (false)))), (5, .c (.lit (.bool (false)))), (4, .c (.lit (.int .i64 (a0.Busy)))), (3, .c (.box 1 1)), (2, .c (.lit (.bool (false)))), (1, .c (.box 1 0)), (0, .agg [.lit (.int .i64 (a0.State)), .lit (.int .i64 (a0.Busy)), .lit (.int .i64 (a0.Exponent)), .lit (.int .i64 (a0.Clear)), .lit (.int .i64 (a0.Wait))])], ⟨[(1, [.lit (.int .i64 (a0.State)), .lit (.int .i64 (a0.Busy)), .lit (.int .i64 (a0.Exponent)), .lit (.int .i64 (a0.Clear)), .lit (.int .i64 (a0.Wait))])], []⟩⟩ (by kernel_rfl) ?_
        refine HeadX_op (.c (.lit (.bool (true)))) (by kernel_rfl) (by kernel_rfl) (grow_bool (e := (decide (a0.Busy > 5))) (by kernel_rfl) hb2) ?_
        exact HeadX_end (by kernel_rfl)
      · refine T_keep [18, 1] [1] [] ?_
        refine T_condT (by kernel_rfl) ?_
        refine T_seq ?_
        refine T_runs ⟨[(2, .c (.lit (.bool (false)))), (18, .c (.lit (.bool (true)))), (1, .c (.box 1 0))], ⟨[(1, [.lit (.int .i64 (a0.State)), .lit (.int .i64 (a0.Busy)), .lit (.int .i64 (a0.Exponent)), .lit (.int .i64 (a0.Clear)), .lit (.int .i64 (a0.Wait))])], []⟩⟩ (by kernel_rfl) ?_
        refine T_keep [2] [] [] ?_
        refine T_ret ?_
        refine thenQ_ret ?_
        obtain rfl := Option.some.inj h
        exact ⟨[(false, [.lit (.bool (false))])], by kernel_rfl, by kernel_rfl⟩
    · replace h := bindO h
      obtain ⟨v3, hv3, h⟩ := h
      refine T_drawAllX ⟨[(18, .c (.lit (.bool ((a0.Exponent != v3))))), (17, .c (.lit (.bool ((a0.Exponent != v3))))), (16, .c (.lit (.int .i64 (v3)))), (15, .c (.lit (.int .i64 (a0.Busy)))), (14, .c (.box 1 1)), (13, .c (.lit (.int .i64 (a0.Exponent)))), (12, .c (.box 1 2)), (11, .c (.lit (.bool (false)))), (10, .c (.lit (.bool (false)))), (9, .c (.lit (.bool (false)))), (8, .c (.lit (.int .i64 (a0.Busy)))), (7, .c (.box 1 1)), (6, .c (.lit (.bool (false)))), (5, .c (.lit (.bool (false)))), (4, .c (.lit (.int .i64 (a0.Busy)))), (3, .c (.box 1 1)), (2, .c (.lit (.bool (false)))), (1, .c (.box 1 0)), (0, .agg [.lit (.int .i64 (a0.State)), .lit (.int .i64 (a0.Busy)), .lit (.int .i64 (a0.Exponent)), .lit (.int .i64 (a0.Clear)), .lit (.int .i64 (a0.Wait))])], ⟨[(1, [.lit (.int .i64 (a0.State)), .lit (.int .i64 (a0.Busy)), .lit (.int .i64 (a0.Exponent)), .lit (.int .i64 (a0.Clear)), .lit (.int .i64 (a0.Wait))])], []⟩⟩ (by kernel_rfl) (by kernel_rfl) ?_ ?_
      · refine HeadX_runs 2 ⟨[(4, .c (.lit (.int .i64 (a0.Busy)))), (3, .c (.box 1 1)), (2, .c (.lit (.bool (false)))), (1, .c (.box 1 0)), (0, .agg [.lit (.int .i64 (a0.State)), .lit (.int .i64 (a0.Busy)), .lit (.int .i64 (a0.Exponent)), .lit (.int .i64 (a0.Clear)), .lit (.int .i64 (a0.Wait))])], ⟨[(1, [.lit (.int .i64 (a0.State)), .lit (.int .i64 (a0.Busy)), .lit (.int .i64 (a0.Exponent)), .lit (.int .i64 (a0.Clear)), .lit (.int .i64 (a0.Wait))])], []⟩⟩ (by kernel_rfl) ?_
        refine HeadX_op (.c (.lit (.bool (false)))) (by kernel_rfl) (by kernel_rfl) (grow_bool (e := (decide (a0.Busy < 0))) (by kernel_rfl) hb1) ?_
        refine HeadX_runs 3 ⟨[(8, .c (.lit (.int .i64 (a0.Busy)))), (7, .c (.box 1 1)), (6, .c (.lit (.bool (false)))), (5, .c (.lit (.bool (false)))), (4, .c (.lit (.int .i64 (a0.Busy)))), (3, .c (.box 1 1)), (2, .c (.lit (.bool (false)))), (1, .c (.box 1 0)), (0, .agg [.lit (.int .i64 (a0.State)), .lit (.int .i64 (a0.Busy)), .lit (.int .i64 (a0.Exponent)), .lit (.int .i64 (a0.Clear)), .lit (.int .i64 (a0.Wait))])], ⟨[(1, [.lit (.int .i64 (a0.State)), .lit (.int .i64 (a0.Busy)), .lit (.int .i64 (a0.Exponent)), .lit (.int .i64 (a0.Clear)), .lit (.int .i64 (a0.Wait))])], []⟩⟩ (by kernel_rfl) ?_
        refine HeadX_op (.c (.lit (.bool (false)))) (by kernel_rfl) (by kernel_rfl) (grow_bool (e := (decide (a0.Busy > 5))) (by kernel_rfl) hb2) ?_
        refine HeadX_runs 6 ⟨[(15, .c (.lit (.int .i64 (a0.Busy)))), (14, .c (.box 1 1)), (13, .c (.lit (.int .i64 (a0.Exponent)))), (12, .c (.box 1 2)), (11, .c (.lit (.bool (false)))), (10, .c (.lit (.bool (false)))), (9, .c (.lit (.bool (false)))), (8, .c (.lit (.int .i64 (a0.Busy)))), (7, .c (.box 1 1)), (6, .c (.lit (.bool (false)))), (5, .c (.lit (.bool (false)))), (4, .c (.lit (.int .i64 (a0.Busy)))), (3, .c (.box 1 1)), (2, .c (.lit (.bool (false)))), (1, .c (.box 1 0)), (0, .agg [.lit (.int .i64 (a0.State)), .lit (.int .i64 (a0.Busy)), .lit (.int .i64 (a0.Exponent)), .lit (.int .i64 (a0.Clear)), .lit (.int .i64 (a0.Wait))])], ⟨[(1, [.lit (.int .i64 (a0.State)), .lit (.int .i64 (a0.Busy)), .lit (.int .i64 (a0.Exponent)), .lit (.int .i64 (a0.Clear)), .lit (.int .i64 (a0.Wait))])], []⟩⟩ (by kernel_rfl) ?_
        refine HeadX_op (.c (.lit (.int .i64 (v3)))) (by kernel_rfl) (by kernel_rfl) (grow_call 25 Try.f25 [[0]] [.c (.lit (.int .i64 (a0.Busy)))] rfl (by kernel_rfl) Try.func25 (by kernel_rfl) (by kernel_rfl) (by kernel_rfl) (ok_ref08_exponent a0.Busy v3 hv3)) ?_
        exact HeadX_end (by kernel_rfl)
      · refine T_keep [18, 1] [1] [] ?_
        replace h := condO h
        rcases h with ⟨hb4, h⟩ | ⟨hb4, h⟩
        · refine T_condT' (e := (a0.Exponent != v3)) (by kernel_rfl) hb4 ?_
          refine T_seq ?_
          refine T_runs ⟨[(2, .c (.lit (.bool (false)))), (18, .c (.lit (.bool ((a0.Exponent != v3))))), (1, .c (.box 1 0))], ⟨[(1, [.lit (.int .i64 (a0.State)), .lit (.int .i64 (a0.Busy)), .lit (.int .i64 (a0.Exponent)), .lit (.int .i64 (a0.Clear)), .lit (.int .i64 (a0.Wait))])], []⟩⟩ (by kernel_rfl) ?_
          refine T_keep [2] [] [] ?_
          refine T_ret ?_
          refine thenQ_ret ?_
          obtain rfl := Option.some.inj h
          exact ⟨[(false, [.lit (.bool (false))])], by kernel_rfl, by kernel_rfl⟩
        · refine T_condF' (e := (a0.Exponent != v3)) (by kernel_rfl) hb4 ?_
          refine T_skip ?_
          refine T_seq ?_
          refine T_seq ?_
          refine T_runs ⟨[(20, .c (.lit (.int .i64 (a0.State)))), (19, .c (.box 1 0)), (18, .c (.lit (.bool ((a0.Exponent != v3))))), (1, .c (.box 1 0))], ⟨[(1, [.lit (.int .i64 (a0.State)), .lit (.int .i64 (a0.Busy)), .lit (.int .i64 (a0.Exponent)), .lit (.int .i64 (a0.Clear)), .lit (.int .i64 (a0.Wait))])], []⟩⟩ (by kernel_rfl) ?_
          refine T_block ?_
          refine T_seq ?_
          refine T_runs ⟨[(21, .c (.lit (.bool ((a0.State == 1))))), (22, .c (.lit (.bool ((a0.State == 1))))), (20, .c (.lit (.int .i64 (a0.State)))), (19, .c (.box 1 0)), (18, .c (.lit (.bool ((a0.Exponent != v3))))), (1, .c (.box 1 0))], ⟨[(1, [.lit (.int .i64 (a0.State)), .lit (.int .i64 (a0.Busy)), .lit (.int .i64 (a0.Exponent)), .lit (.int .i64 (a0.Clear)), .lit (.int .i64 (a0.Wait))])], []⟩⟩ (by kernel_rfl) ?_
          refine T_keep [21, 20, 1] [1] [] ?_
          replace h := condO h
          rcases h with ⟨hb5, h⟩ | ⟨hb5, h⟩
          · refine T_condT' (e := (a0.State == 1)) (by kernel_rfl) hb5 ?_
            refine T_seq ?_
            replace h := condO h
            rcases h with ⟨hb6, h⟩ | ⟨hb6, h⟩
            · replace h := condO h
              rcases h with ⟨hb7, h⟩ | ⟨hb7, h⟩
              · replace h := condO h
                rcases h with ⟨hb8, h⟩ | ⟨hb8, h⟩
                · replace h := chkO h
                  obtain ⟨hc9, h⟩ := h
                  refine T_region ?_
                  refine TL_runs 2 ⟨[(24, .c (.lit (.int .i64 (a0.Busy)))), (23, .c (.box 1 1)), (21, .c (.lit (.bool ((a0.State == 1))))), (20, .c (.lit (.int .i64 (a0.State)))), (1, .c (.box 1 0))], ⟨[(1, [.lit (.int .i64 (a0.State)), .lit (.int .i64 (a0.Busy)), .lit (.int .i64 (a0.Exponent)), .lit (.int .i64 (a0.Clear)), .lit (.int .i64 (a0.Wait))])], []⟩⟩ (by kernel_rfl) ?_
                  refine TL_grow (.c (.lit (.bool (true)))) (by kernel_rfl) (by kernel_rfl) (grow_bool (e := (decide (a0.Busy ≤ 4))) (by kernel_rfl) hb6) ?_
                  refine TL_runs 3 ⟨[(28, .c (.lit (.int .i64 (a0.Clear)))), (27, .c (.box 1 3)), (26, .c (.lit (.bool (true)))), (25, .c (.lit (.bool (true)))), (24, .c (.lit (.int .i64 (a0.Busy)))), (23, .c (.box 1 1)), (21, .c (.lit (.bool ((a0.State == 1))))), (20, .c (.lit (.int .i64 (a0.State)))), (1, .c (.box 1 0))], ⟨[(1, [.lit (.int .i64 (a0.State)), .lit (.int .i64 (a0.Busy)), .lit (.int .i64 (a0.Exponent)), .lit (.int .i64 (a0.Clear)), .lit (.int .i64 (a0.Wait))])], []⟩⟩ (by kernel_rfl) ?_
                  refine TL_grow (.c (.lit (.bool (true)))) (by kernel_rfl) (by kernel_rfl) (grow_bool (e := (a0.Clear == 2)) (by kernel_rfl) hb7) ?_
                  refine TL_runs 4 ⟨[(33, .c (.lit (.int .i64 (a0.Wait)))), (32, .c (.box 1 4)), (31, .c (.lit (.bool (true)))), (30, .c (.lit (.bool (true)))), (29, .c (.lit (.bool (true)))), (28, .c (.lit (.int .i64 (a0.Clear)))), (27, .c (.box 1 3)), (26, .c (.lit (.bool (true)))), (25, .c (.lit (.bool (true)))), (24, .c (.lit (.int .i64 (a0.Busy)))), (23, .c (.box 1 1)), (21, .c (.lit (.bool ((a0.State == 1))))), (20, .c (.lit (.int .i64 (a0.State)))), (1, .c (.box 1 0))], ⟨[(1, [.lit (.int .i64 (a0.State)), .lit (.int .i64 (a0.Busy)), .lit (.int .i64 (a0.Exponent)), .lit (.int .i64 (a0.Clear)), .lit (.int .i64 (a0.Wait))])], []⟩⟩ (by kernel_rfl) ?_
                  refine TL_grow (.c (.lit (.bool (true)))) (by kernel_rfl) (by kernel_rfl) (grow_bool (e := (decide (a0.Wait ≥ 1))) (by kernel_rfl) hb8) ?_
                  refine TL_runs 7 ⟨[(41, .c (.lit (.int .u64 (IntKind.wrap .u64 a0.Exponent)))), (40, .c (.lit (.int .i64 (a0.Exponent)))), (39, .c (.box 1 2)), (38, .c (.lit (.int .i64 (a0.Wait)))), (37, .c (.box 1 4)), (36, .c (.lit (.bool (true)))), (35, .c (.lit (.bool (true)))), (34, .c (.lit (.bool (true)))), (33, .c (.lit (.int .i64 (a0.Wait)))), (32, .c (.box 1 4)), (31, .c (.lit (.bool (true)))), (30, .c (.lit (.bool (true)))), (29, .c (.lit (.bool (true)))), (28, .c (.lit (.int .i64 (a0.Clear)))), (27, .c (.box 1 3)), (26, .c (.lit (.bool (true)))), (25, .c (.lit (.bool (true)))), (24, .c (.lit (.int .i64 (a0.Busy)))), (23, .c (.box 1 1)), (21, .c (.lit (.bool ((a0.State == 1))))), (20, .c (.lit (.int .i64 (a0.State)))), (1, .c (.box 1 0))], ⟨[(1, [.lit (.int .i64 (a0.State)), .lit (.int .i64 (a0.Busy)), .lit (.int .i64 (a0.Exponent)), .lit (.int .i64 (a0.Clear)), .lit (.int .i64 (a0.Wait))])], []⟩⟩ (by kernel_rfl) ?_
                  refine TL_grow (.c (.lit (.int .i64 (ishl .i64 1 (IntKind.wrap .u64 a0.Exponent))))) (by kernel_rfl) (by kernel_rfl) (PureOp.grow (pure_intC (k := .i64) (k' := .u64) (1) (IntKind.wrap .u64 a0.Exponent) (by simp) rfl (by kernel_rfl) (by kernel_rfl) rfl (of_decide_eq_true hc9))) ?_
                  refine TL_end ⟨[(2, .c (.lit (.bool ((decide (a0.Wait < (ishl .i64 1 (IntKind.wrap .u64 a0.Exponent)))))))), (44, .c (.lit (.bool ((decide (a0.Wait < (ishl .i64 1 (IntKind.wrap .u64 a0.Exponent)))))))), (43, .c (.lit (.bool ((decide (a0.Wait < (ishl .i64 1 (IntKind.wrap .u64 a0.Exponent)))))))), (42, .c (.lit (.int .i64 (ishl .i64 1 (IntKind.wrap .u64 a0.Exponent))))), (41, .c (.lit (.int .u64 (IntKind.wrap .u64 a0.Exponent)))), (40, .c (.lit (.int .i64 (a0.Exponent)))), (39, .c (.box 1 2)), (38, .c (.lit (.int .i64 (a0.Wait)))), (37, .c (.box 1 4)), (36, .c (.lit (.bool (true)))), (35, .c (.lit (.bool (true)))), (34, .c (.lit (.bool (true)))), (33, .c (.lit (.int .i64 (a0.Wait)))), (32, .c (.box 1 4)), (31, .c (.lit (.bool (true)))), (30, .c (.lit (.bool (true)))), (29, .c (.lit (.bool (true)))), (28, .c (.lit (.int .i64 (a0.Clear)))), (27, .c (.box 1 3)), (26, .c (.lit (.bool (true)))), (25, .c (.lit (.bool (true)))), (24, .c (.lit (.int .i64 (a0.Busy)))), (23, .c (.box 1 1)), (21, .c (.lit (.bool ((a0.State == 1))))), (20, .c (.lit (.int .i64 (a0.State)))), (1, .c (.box 1 0))], ⟨[(1, [.lit (.int .i64 (a0.State)), .lit (.int .i64 (a0.Busy)), .lit (.int .i64 (a0.Exponent)), .lit (.int .i64 (a0.Clear)), .lit (.int .i64 (a0.Wait))])], []⟩⟩ (by kernel_rfl) ?_
                  refine T_keep [2] [] [] ?_
                  refine T_ret ?_
                  refine blockQ_ret ?_
                  refine thenQ_ret ?_
                  obtain rfl := Option.some.inj h
                  exact ⟨[(false, [.lit (.bool ((decide (a0.Wait < (ishl .i64 1 (IntKind.wrap .u64 a0.Exponent))))))])], by kernel_rfl, by kernel_rfl⟩
                · refine T_region ?_
                  refine TL_runs 2 ⟨[(24, .c (.lit (.int .i64 (a0.Busy)))), (23, .c (.box 1 1)), (21, .c (.lit (.bool ((a0.State == 1))))), (20, .c (.lit (.int .i64 (a0.State)))), (1, .c (.box 1 0))], ⟨[(1, [.lit (.int .i64 (a0.State)), .lit (.int .i64 (a0.Busy)), .lit (.int .i64 (a0.Exponent)), .lit (.int .i64 (a0.Clear)), .lit (.int .i64 (a0.Wait))])], []⟩⟩ (by kernel_rfl) ?_
                  refine TL_grow (.c (.lit (.bool (true)))) (by kernel_rfl) (by kernel_rfl) (grow_bool (e := (decide (a0.Busy ≤ 4))) (by kernel_rfl) hb6) ?_
                  refine TL_runs 3 ⟨[(28, .c (.lit (.int .i64 (a0.Clear)))), (27, .c (.box 1 3)), (26, .c (.lit (.bool (true)))), (25, .c (.lit (.bool (true)))), (24, .c (.lit (.int .i64 (a0.Busy)))), (23, .c (.box 1 1)), (21, .c (.lit (.bool ((a0.State == 1))))), (20, .c (.lit (.int .i64 (a0.State)))), (1, .c (.box 1 0))], ⟨[(1, [.lit (.int .i64 (a0.State)), .lit (.int .i64 (a0.Busy)), .lit (.int .i64 (a0.Exponent)), .lit (.int .i64 (a0.Clear)), .lit (.int .i64 (a0.Wait))])], []⟩⟩ (by kernel_rfl) ?_
                  refine TL_grow (.c (.lit (.bool (true)))) (by kernel_rfl) (by kernel_rfl) (grow_bool (e := (a0.Clear == 2)) (by kernel_rfl) hb7) ?_
                  refine TL_runs 4 ⟨[(33, .c (.lit (.int .i64 (a0.Wait)))), (32, .c (.box 1 4)), (31, .c (.lit (.bool (true)))), (30, .c (.lit (.bool (true)))), (29, .c (.lit (.bool (true)))), (28, .c (.lit (.int .i64 (a0.Clear)))), (27, .c (.box 1 3)), (26, .c (.lit (.bool (true)))), (25, .c (.lit (.bool (true)))), (24, .c (.lit (.int .i64 (a0.Busy)))), (23, .c (.box 1 1)), (21, .c (.lit (.bool ((a0.State == 1))))), (20, .c (.lit (.int .i64 (a0.State)))), (1, .c (.box 1 0))], ⟨[(1, [.lit (.int .i64 (a0.State)), .lit (.int .i64 (a0.Busy)), .lit (.int .i64 (a0.Exponent)), .lit (.int .i64 (a0.Clear)), .lit (.int .i64 (a0.Wait))])], []⟩⟩ (by kernel_rfl) ?_
                  refine TL_grow (.c (.lit (.bool (false)))) (by kernel_rfl) (by kernel_rfl) (grow_bool (e := (decide (a0.Wait ≥ 1))) (by kernel_rfl) hb8) ?_
                  refine TL_end ⟨[(2, .c (.lit (.bool (false)))), (44, .c (.lit (.bool (false)))), (43, .tup []), (42, .tup []), (41, .tup []), (40, .tup []), (39, .tup []), (38, .tup []), (37, .tup []), (36, .c (.lit (.bool (false)))), (35, .c (.lit (.bool (false)))), (34, .c (.lit (.bool (false)))), (33, .c (.lit (.int .i64 (a0.Wait)))), (32, .c (.box 1 4)), (31, .c (.lit (.bool (true)))), (30, .c (.lit (.bool (true)))), (29, .c (.lit (.bool (true)))), (28, .c (.lit (.int .i64 (a0.Clear)))), (27, .c (.box 1 3)), (26, .c (.lit (.bool (true)))), (25, .c (.lit (.bool (true)))), (24, .c (.lit (.int .i64 (a0.Busy)))), (23, .c (.box 1 1)), (21, .c (.lit (.bool ((a0.State == 1))))), (20, .c (.lit (.int .i64 (a0.State)))), (1, .c (.box 1 0))], ⟨[(1, [.lit (.int .i64 (a0.State)), .lit (.int .i64 (a0.Busy)), .lit (.int .i64 (a0.Exponent)), .lit (.int .i64 (a0.Clear)), .lit (.int .i64 (a0.Wait))])], []⟩⟩ (by kernel_rfl) ?_
                  refine T_keep [2] [] [] ?_
                  refine T_ret ?_
                  refine blockQ_ret ?_
                  refine thenQ_ret ?_
                  obtain rfl := Option.some.inj h
                  exact ⟨[(false, [.lit (.bool (false))])], by kernel_rfl, by kernel_rfl⟩
              · refine T_region ?_
                refine TL_runs 2 ⟨[(24, .c (.lit (.int .i64 (a0.Busy)))), (23, .c (.box 1 1)), (21, .c (.lit (.bool ((a0.State == 1))))), (20, .c (.lit (.int .i64 (a0.State)))), (1, .c (.box 1 0))], ⟨[(1, [.lit (.int .i64 (a0.State)), .lit (.int .i64 (a0.Busy)), .lit (.int .i64 (a0.Exponent)), .lit (.int .i64 (a0.Clear)), .lit (.int .i64 (a0.Wait))])], []⟩⟩ (by kernel_rfl) ?_
                refine TL_grow (.c (.lit (.bool (true)))) (by kernel_rfl) (by kernel_rfl) (grow_bool (e := (decide (a0.Busy ≤ 4))) (by kernel_rfl) hb6) ?_
                refine TL_runs 3 ⟨[(28, .c (.lit (.int .i64 (a0.Clear)))), (27, .c (.box 1 3)), (26, .c (.lit (.bool (true)))), (25, .c (.lit (.bool (true)))), (24, .c (.lit (.int .i64 (a0.Busy)))), (23, .c (.box 1 1)), (21, .c (.lit (.bool ((a0.State == 1))))), (20, .c (.lit (.int .i64 (a0.State)))), (1, .c (.box 1 0))], ⟨[(1, [.lit (.int .i64 (a0.State)), .lit (.int .i64 (a0.Busy)), .lit (.int .i64 (a0.Exponent)), .lit (.int .i64 (a0.Clear)), .lit (.int .i64 (a0.Wait))])], []⟩⟩ (by kernel_rfl) ?_
                refine TL_grow (.c (.lit (.bool (false)))) (by kernel_rfl) (by kernel_rfl) (grow_bool (e := (a0.Clear == 2)) (by kernel_rfl) hb7) ?_
                refine TL_end ⟨[(2, .c (.lit (.bool (false)))), (44, .c (.lit (.bool (false)))), (43, .tup []), (42, .tup []), (41, .tup []), (40, .tup []), (39, .tup []), (38, .tup []), (37, .tup []), (36, .c (.lit (.bool (false)))), (35, .c (.lit (.bool (false)))), (34, .tup []), (33, .tup []), (32, .tup []), (31, .c (.lit (.bool (false)))), (30, .c (.lit (.bool (false)))), (29, .c (.lit (.bool (false)))), (28, .c (.lit (.int .i64 (a0.Clear)))), (27, .c (.box 1 3)), (26, .c (.lit (.bool (true)))), (25, .c (.lit (.bool (true)))), (24, .c (.lit (.int .i64 (a0.Busy)))), (23, .c (.box 1 1)), (21, .c (.lit (.bool ((a0.State == 1))))), (20, .c (.lit (.int .i64 (a0.State)))), (1, .c (.box 1 0))], ⟨[(1, [.lit (.int .i64 (a0.State)), .lit (.int .i64 (a0.Busy)), .lit (.int .i64 (a0.Exponent)), .lit (.int .i64 (a0.Clear)), .lit (.int .i64 (a0.Wait))])], []⟩⟩ (by kernel_rfl) ?_
                refine T_keep [2] [] [] ?_
                refine T_ret ?_
                refine blockQ_ret ?_
                refine thenQ_ret ?_
                obtain rfl := Option.some.inj h
                exact ⟨[(false, [.lit (.bool (false))])], by kernel_rfl, by kernel_rfl⟩
            · refine T_region ?_
              refine TL_runs 2 ⟨[(24, .c (.lit (.int .i64 (a0.Busy)))), (23, .c (.box 1 1)), (21, .c (.lit (.bool ((a0.State == 1))))), (20, .c (.lit (.int .i64 (a0.State)))), (1, .c (.box 1 0))], ⟨[(1, [.lit (.int .i64 (a0.State)), .lit (.int .i64 (a0.Busy)), .lit (.int .i64 (a0.Exponent)), .lit (.int .i64 (a0.Clear)), .lit (.int .i64 (a0.Wait))])], []⟩⟩ (by kernel_rfl) ?_
              refine TL_grow (.c (.lit (.bool (false)))) (by kernel_rfl) (by kernel_rfl) (grow_bool (e := (decide (a0.Busy ≤ 4))) (by kernel_rfl) hb6) ?_
              refine TL_end ⟨[(2, .c (.lit (.bool (false)))), (44, .c (.lit (.bool (false)))), (43, .tup []), (42, .tup []), (41, .tup []), (40, .tup []), (39, .tup []), (38, .tup []), (37, .tup []), (36, .c (.lit (.bool (false)))), (35, .c (.lit (.bool (false)))), (34, .tup []), (33, .tup []), (32, .tup []), (31, .c (.lit (.bool (false)))), (30, .c (.lit (.bool (false)))), (29, .tup []), (28, .tup []), (27, .tup []), (26, .c (.lit (.bool (false)))), (25, .c (.lit (.bool (false)))), (24, .c (.lit (.int .i64 (a0.Busy)))), (23, .c (.box 1 1)), (21, .c (.lit (.bool ((a0.State == 1))))), (20, .c (.lit (.int .i64 (a0.State)))), (1, .c (.box 1 0))], ⟨[(1, [.lit (.int .i64 (a0.State)), .lit (.int .i64 (a0.Busy)), .lit (.int .i64 (a0.Exponent)), .lit (.int .i64 (a0.Clear)), .lit (.int .i64 (a0.Wait))])], []⟩⟩ (by kernel_rfl) ?_
              refine T_keep [2] [] [] ?_
              refine T_ret ?_
              refine blockQ_ret ?_
              refine thenQ_ret ?_
              obtain rfl := Option.some.inj h
              exact ⟨[(false, [.lit (.bool (false))])], by kernel_rfl, by kernel_rfl⟩
          · refine T_condF' (e := (a0.State == 1)) (by kernel_rfl) hb5 ?_
            refine T_seq ?_
            refine T_runs ⟨[(45, .c (.lit (.bool ((a0.State == 2))))), (46, .c (.lit (.bool ((a0.State == 2))))), (21, .c (.lit (.bool ((a0.State == 1))))), (20, .c (.lit (.int .i64 (a0.State)))), (1, .c (.box 1 0))], ⟨[(1, [.lit (.int .i64 (a0.State)), .lit (.int .i64 (a0.Busy)), .lit (.int .i64 (a0.Exponent)), .lit (.int .i64 (a0.Clear)), .lit (.int .i64 (a0.Wait))])], []⟩⟩ (by kernel_rfl) ?_
            replace h := condO h
            rcases h with ⟨hb10, h⟩ | ⟨hb10, h⟩
            · refine T_condT' (e := (a0.State == 2)) (by kernel_rfl) hb10 ?_
              refine T_seq ?_
              replace h := condO h
              rcases h with ⟨hb11, h⟩ | ⟨hb11, h⟩
              · replace h := condO h
                rcases h with ⟨hb12, h⟩ | ⟨hb12, h⟩
                · replace h := condO h
                  rcases h with ⟨hb13, h⟩ | ⟨hb13, h⟩
                  · refine T_region ?_
                    refine TL_runs 2 ⟨[(48, .c (.lit (.int .i64 (a0.Busy)))), (47, .c (.box 1 1)), (45, .c (.lit (.bool ((a0.State == 2))))), (46, .c (.lit (.bool ((a0.State == 2))))), (21, .c (.lit (.bool ((a0.State == 1))))), (20, .c (.lit (.int .i64 (a0.State)))), (1, .c (.box 1 0))], ⟨[(1, [.lit (.int .i64 (a0.State)), .lit (.int .i64 (a0.Busy)), .lit (.int .i64 (a0.Exponent)), .lit (.int .i64 (a0.Clear)), .lit (.int .i64 (a0.Wait))])], []⟩⟩ (by kernel_rfl) ?_
                    refine TL_grow (.c (.lit (.bool (true)))) (by kernel_rfl) (by kernel_rfl) (grow_bool (e := (decide (a0.Busy ≤ 4))) (by kernel_rfl) hb11) ?_
                    refine TL_runs 3 ⟨[(52, .c (.lit (.int .i64 (a0.Clear)))), (51, .c (.box 1 3)), (50, .c (.lit (.bool (true)))), (49, .c (.lit (.bool (true)))), (48, .c (.lit (.int .i64 (a0.Busy)))), (47, .c (.box 1 1)), (45, .c (.lit (.bool ((a0.State == 2))))), (46, .c (.lit (.bool ((a0.State == 2))))), (21, .c (.lit (.bool ((a0.State == 1))))), (20, .c (.lit (.int .i64 (a0.State)))), (1, .c (.box 1 0))], ⟨[(1, [.lit (.int .i64 (a0.State)), .lit (.int .i64 (a0.Busy)), .lit (.int .i64 (a0.Exponent)), .lit (.int .i64 (a0.Clear)), .lit (.int .i64 (a0.Wait))])], []⟩⟩ (by kernel_rfl) ?_
                    refine TL_grow (.c (.lit (.bool (true)))) (by kernel_rfl) (by kernel_rfl) (grow_bool (e := (decide (a0.Clear ≥ 1))) (by kernel_rfl) hb12) ?_
                    refine TL_runs 4 ⟨[(57, .c (.lit (.int .i64 (a0.Clear)))), (56, .c (.box 1 3)), (55, .c (.lit (.bool (true)))), (54, .c (.lit (.bool (true)))), (53, .c (.lit (.bool (true)))), (52, .c (.lit (.int .i64 (a0.Clear)))), (51, .c (.box 1 3)), (50, .c (.lit (.bool (true)))), (49, .c (.lit (.bool (true)))), (48, .c (.lit (.int .i64 (a0.Busy)))), (47, .c (.box 1 1)), (45, .c (.lit (.bool ((a0.State == 2))))), (46, .c (.lit (.bool ((a0.State == 2))))), (21, .c (.lit (.bool ((a0.State == 1))))), (20, .c (.lit (.int .i64 (a0.State)))), (1, .c (.box 1 0))], ⟨[(1, [.lit (.int .i64 (a0.State)), .lit (.int .i64 (a0.Busy)), .lit (.int .i64 (a0.Exponent)), .lit (.int .i64 (a0.Clear)), .lit (.int .i64 (a0.Wait))])], []⟩⟩ (by kernel_rfl) ?_
                    refine TL_grow (.c (.lit (.bool (true)))) (by kernel_rfl) (by kernel_rfl) (grow_bool (e := (decide (a0.Clear ≤ 2))) (by kernel_rfl) hb13) ?_
                    refine TL_end ⟨[(2, .c (.lit (.bool ((a0.Wait == 0))))), (64, .c (.lit (.bool ((a0.Wait == 0))))), (63, .c (.lit (.bool ((a0.Wait == 0))))), (62, .c (.lit (.int .i64 (a0.Wait)))), (61, .c (.box 1 4)), (60, .c (.lit (.bool (true)))), (59, .c (.lit (.bool (true)))), (58, .c (.lit (.bool (true)))), (57, .c (.lit (.int .i64 (a0.Clear)))), (56, .c (.box 1 3)), (55, .c (.lit (.bool (true)))), (54, .c (.lit (.bool (true)))), (53, .c (.lit (.bool (true)))), (52, .c (.lit (.int .i64 (a0.Clear)))), (51, .c (.box 1 3)), (50, .c (.lit (.bool (true)))), (49, .c (.lit (.bool (true)))), (48, .c (.lit (.int .i64 (a0.Busy)))), (47, .c (.box 1 1)), (45, .c (.lit (.bool ((a0.State == 2))))), (46, .c (.lit (.bool ((a0.State == 2))))), (21, .c (.lit (.bool ((a0.State == 1))))), (20, .c (.lit (.int .i64 (a0.State)))), (1, .c (.box 1 0))], ⟨[(1, [.lit (.int .i64 (a0.State)), .lit (.int .i64 (a0.Busy)), .lit (.int .i64 (a0.Exponent)), .lit (.int .i64 (a0.Clear)), .lit (.int .i64 (a0.Wait))])], []⟩⟩ (by kernel_rfl) ?_
                    refine T_keep [2] [] [] ?_
                    refine T_ret ?_
                    refine blockQ_ret ?_
                    refine thenQ_ret ?_
                    obtain rfl := Option.some.inj h
                    exact ⟨[(false, [.lit (.bool ((a0.Wait == 0)))])], by kernel_rfl, by kernel_rfl⟩
                  · refine T_region ?_
                    refine TL_runs 2 ⟨[(48, .c (.lit (.int .i64 (a0.Busy)))), (47, .c (.box 1 1)), (45, .c (.lit (.bool ((a0.State == 2))))), (46, .c (.lit (.bool ((a0.State == 2))))), (21, .c (.lit (.bool ((a0.State == 1))))), (20, .c (.lit (.int .i64 (a0.State)))), (1, .c (.box 1 0))], ⟨[(1, [.lit (.int .i64 (a0.State)), .lit (.int .i64 (a0.Busy)), .lit (.int .i64 (a0.Exponent)), .lit (.int .i64 (a0.Clear)), .lit (.int .i64 (a0.Wait))])], []⟩⟩ (by kernel_rfl) ?_
                    refine TL_grow (.c (.lit (.bool (true)))) (by kernel_rfl) (by kernel_rfl) (grow_bool (e := (decide (a0.Busy ≤ 4))) (by kernel_rfl) hb11) ?_
                    refine TL_runs 3 ⟨[(52, .c (.lit (.int .i64 (a0.Clear)))), (51, .c (.box 1 3)), (50, .c (.lit (.bool (true)))), (49, .c (.lit (.bool (true)))), (48, .c (.lit (.int .i64 (a0.Busy)))), (47, .c (.box 1 1)), (45, .c (.lit (.bool ((a0.State == 2))))), (46, .c (.lit (.bool ((a0.State == 2))))), (21, .c (.lit (.bool ((a0.State == 1))))), (20, .c (.lit (.int .i64 (a0.State)))), (1, .c (.box 1 0))], ⟨[(1, [.lit (.int .i64 (a0.State)), .lit (.int .i64 (a0.Busy)), .lit (.int .i64 (a0.Exponent)), .lit (.int .i64 (a0.Clear)), .lit (.int .i64 (a0.Wait))])], []⟩⟩ (by kernel_rfl) ?_
                    refine TL_grow (.c (.lit (.bool (true)))) (by kernel_rfl) (by kernel_rfl) (grow_bool (e := (decide (a0.Clear ≥ 1))) (by kernel_rfl) hb12) ?_
                    refine TL_runs 4 ⟨[(57, .c (.lit (.int .i64 (a0.Clear)))), (56, .c (.box 1 3)), (55, .c (.lit (.bool (true)))), (54, .c (.lit (.bool (true)))), (53, .c (.lit (.bool (true)))), (52, .c (.lit (.int .i64 (a0.Clear)))), (51, .c (.box 1 3)), (50, .c (.lit (.bool (true)))), (49, .c (.lit (.bool (true)))), (48, .c (.lit (.int .i64 (a0.Busy)))), (47, .c (.box 1 1)), (45, .c (.lit (.bool ((a0.State == 2))))), (46, .c (.lit (.bool ((a0.State == 2))))), (21, .c (.lit (.bool ((a0.State == 1))))), (20, .c (.lit (.int .i64 (a0.State)))), (1, .c (.box 1 0))], ⟨[(1, [.lit (.int .i64 (a0.State)), .lit (.int .i64 (a0.Busy)), .lit (.int .i64 (a0.Exponent)), .lit (.int .i64 (a0.Clear)), .lit (.int .i64 (a0.Wait))])], []⟩⟩ (by kernel_rfl) ?_
                    refine TL_grow (.c (.lit (.bool (false)))) (by kernel_rfl) (by kernel_rfl) (grow_bool (e := (decide (a0.Clear ≤ 2))) (by kernel_rfl) hb13) ?_
                    refine TL_end ⟨[(2, .c (.lit (.bool (false)))), (64, .c (.lit (.bool (false)))), (63, .tup []), (62, .tup []), (61, .tup []), (60, .c (.lit (.bool (false)))), (59, .c (.lit (.bool (false)))), (58, .c (.lit (.bool (false)))), (57, .c (.lit (.int .i64 (a0.Clear)))), (56, .c (.box 1 3)), (55, .c (.lit (.bool (true)))), (54, .c (.lit (.bool (true)))), (53, .c (.lit (.bool (true)))), (52, .c (.lit (.int .i64 (a0.Clear)))), (51, .c (.box 1 3)), (50, .c (.lit (.bool (true)))), (49, .c (.lit (.bool (true)))), (48, .c (.lit (.int .i64 (a0.Busy)))), (47, .c (.box 1 1)), (45, .c (.lit (.bool ((a0.State == 2))))), (46, .c (.lit (.bool ((a0.State == 2))))), (21, .c (.lit (.bool ((a0.State == 1))))), (20, .c (.lit (.int .i64 (a0.State)))), (1, .c (.box 1 0))], ⟨[(1, [.lit (.int .i64 (a0.State)), .lit (.int .i64 (a0.Busy)), .lit (.int .i64 (a0.Exponent)), .lit (.int .i64 (a0.Clear)), .lit (.int .i64 (a0.Wait))])], []⟩⟩ (by kernel_rfl) ?_
                    refine T_keep [2] [] [] ?_
                    refine T_ret ?_
                    refine blockQ_ret ?_
                    refine thenQ_ret ?_
                    obtain rfl := Option.some.inj h
                    exact ⟨[(false, [.lit (.bool (false))])], by kernel_rfl, by kernel_rfl⟩
                · refine T_region ?_
                  refine TL_runs 2 ⟨[(48, .c (.lit (.int .i64 (a0.Busy)))), (47, .c (.box 1 1)), (45, .c (.lit (.bool ((a0.State == 2))))), (46, .c (.lit (.bool ((a0.State == 2))))), (21, .c (.lit (.bool ((a0.State == 1))))), (20, .c (.lit (.int .i64 (a0.State)))), (1, .c (.box 1 0))], ⟨[(1, [.lit (.int .i64 (a0.State)), .lit (.int .i64 (a0.Busy)), .lit (.int .i64 (a0.Exponent)), .lit (.int .i64 (a0.Clear)), .lit (.int .i64 (a0.Wait))])], []⟩⟩ (by kernel_rfl) ?_
                  refine TL_grow (.c (.lit (.bool (true)))) (by kernel_rfl) (by kernel_rfl) (grow_bool (e := (decide (a0.Busy ≤ 4))) (by kernel_rfl) hb11) ?_
                  refine TL_runs 3 ⟨[(52, .c (.lit (.int .i64 (a0.Clear)))), (51, .c (.box 1 3)), (50, .c (.lit (.bool (true)))), (49, .c (.lit (.bool (true)))), (48, .c (.lit (.int .i64 (a0.Busy)))), (47, .c (.box 1 1)), (45, .c (.lit (.bool ((a0.State == 2))))), (46, .c (.lit (.bool ((a0.State == 2))))), (21, .c (.lit (.bool ((a0.State == 1))))), (20, .c (.lit (.int .i64 (a0.State)))), (1, .c (.box 1 0))], ⟨[(1, [.lit (.int .i64 (a0.State)), .lit (.int .i64 (a0.Busy)), .lit (.int .i64 (a0.Exponent)), .lit (.int .i64 (a0.Clear)), .lit (.int .i64 (a0.Wait))])], []⟩⟩ (by kernel_rfl) ?_
                  refine TL_grow (.c (.lit (.bool (false)))) (by kernel_rfl) (by kernel_rfl) (grow_bool (e := (decide (a0.Clear ≥ 1))) (by kernel_rfl) hb12) ?_
                  refine TL_end ⟨[(2, .c (.lit (.bool (false)))), (64, .c (.lit (.bool (false)))), (63, .tup []), (62, .tup []), (61, .tup []), (60, .c (.lit (.bool (false)))), (59, .c (.lit (.bool (false)))), (58, .tup []), (57, .tup []), (56, .tup []), (55, .c (.lit (.bool (false)))), (54, .c (.lit (.bool (false)))), (53, .c (.lit (.bool (false)))), (52, .c (.lit (.int .i64 (a0.Clear)))), (51, .c (.box 1 3)), (50, .c (.lit (.bool (true)))), (49, .c (.lit (.bool (true)))), (48, .c (.lit (.int .i64 (a0.Busy)))), (47, .c (.box 1 1)), (45, .c (.lit (.bool ((a0.State == 2))))), (46, .c (.lit (.bool ((a0.State == 2))))), (21, .c (.lit (.bool ((a0.State == 1))))), (20, .c (.lit (.int .i64 (a0.State)))), (1, .c (.box 1 0))], ⟨[(1, [.lit (.int .i64 (a0.State)), .lit (.int .i64 (a0.Busy)), .lit (.int .i64 (a0.Exponent)), .lit (.int .i64 (a0.Clear)), .lit (.int .i64 (a0.Wait))])], []⟩⟩ (by kernel_rfl) ?_
                  refine T_keep [2] [] [] ?_
                  refine T_ret ?_
                  refine blockQ_ret ?_
                  refine thenQ_ret ?_
                  obtain rfl := Option.some.inj h
                  exact ⟨[(false, [.lit (.bool (false))])], by kernel_rfl, by kernel_rfl⟩
              · refine T_region ?_
                refine TL_runs 2 ⟨[(48, .c (.lit (.int .i64 (a0.Busy)))), (47, .c (.box 1 1)), (45, .c (.lit (.bool ((a0.State == 2))))), (46, .c (.lit (.bool ((a0.State == 2))))), (21, .c (.lit (.bool ((a0.State == 1))))), (20, .c (.lit (.int .i64 (a0.State)))), (1, .c (.box 1 0))], ⟨[(1, [.lit (.int .i64 (a0.State)), .lit (.int .i64 (a0.Busy)), .lit (.int .i64 (a0.Exponent)), .lit (.int .i64 (a0.Clear)), .lit (.int .i64 (a0.Wait))])], []⟩⟩ (by kernel_rfl) ?_
                refine TL_grow (.c (.lit (.bool (false)))) (by kernel_rfl) (by kernel_rfl) (grow_bool (e := (decide (a0.Busy ≤ 4))) (by kernel_rfl) hb11) ?_
                refine TL_end ⟨[(2, .c (.lit (.bool (false)))), (64, .c (.lit (.bool (false)))), (63, .tup []), (62, .tup []), (61, .tup []), (60, .c (.lit (.bool (false)))), (59, .c (.lit (.bool (false)))), (58, .tup []), (57, .tup []), (56, .tup []), (55, .c (.lit (.bool (false)))), (54, .c (.lit (.bool (false)))), (53, .tup []), (52, .tup []), (51, .tup []), (50, .c (.lit (.bool (false)))), (49, .c (.lit (.bool (false)))), (48, .c (.lit (.int .i64 (a0.Busy)))), (47, .c (.box 1 1)), (45, .c (.lit (.bool ((a0.State == 2))))), (46, .c (.lit (.bool ((a0.State == 2))))), (21, .c (.lit (.bool ((a0.State == 1))))), (20, .c (.lit (.int .i64 (a0.State)))), (1, .c (.box 1 0))], ⟨[(1, [.lit (.int .i64 (a0.State)), .lit (.int .i64 (a0.Busy)), .lit (.int .i64 (a0.Exponent)), .lit (.int .i64 (a0.Clear)), .lit (.int .i64 (a0.Wait))])], []⟩⟩ (by kernel_rfl) ?_
                refine T_keep [2] [] [] ?_
                refine T_ret ?_
                refine blockQ_ret ?_
                refine thenQ_ret ?_
                obtain rfl := Option.some.inj h
                exact ⟨[(false, [.lit (.bool (false))])], by kernel_rfl, by kernel_rfl⟩
            · refine T_condF' (e := (a0.State == 2)) (by kernel_rfl) hb10 ?_
              refine T_seq ?_
              refine T_runs ⟨[(65, .c (.lit (.bool ((a0.State == 3))))), (66, .c (.lit (.bool ((a0.State == 3))))), (45, .c (.lit (.bool ((a0.State == 2))))), (46, .c (.lit (.bool ((a0.State == 2))))), (21, .c (.lit (.bool ((a0.State == 1))))), (20, .c (.lit (.int .i64 (a0.State)))), (1, .c (.box 1 0))], ⟨[(1, [.lit (.int .i64 (a0.State)), .lit (.int .i64 (a0.Busy)), .lit (.int .i64 (a0.Exponent)), .lit (.int .i64 (a0.Clear)), .lit (.int .i64 (a0.Wait))])], []⟩⟩ (by kernel_rfl) ?_
              refine T_keep [65, 20, 1] [1] [] ?_
              replace h := condO h
              rcases h with ⟨hb14, h⟩ | ⟨hb14, h⟩
              · refine T_condT' (e := (a0.State == 3)) (by kernel_rfl) hb14 ?_
                refine T_seq ?_
                replace h := condO h
                rcases h with ⟨hb15, h⟩ | ⟨hb15, h⟩
                · replace h := condO h
                  rcases h with ⟨hb16, h⟩ | ⟨hb16, h⟩
                  · refine T_region ?_
                    refine TL_runs 2 ⟨[(68, .c (.lit (.int .i64 (a0.Busy)))), (67, .c (.box 1 1)), (65, .c (.lit (.bool ((a0.State == 3))))), (20, .c (.lit (.int .i64 (a0.State)))), (1, .c (.box 1 0))], ⟨[(1, [.lit (.int .i64 (a0.State)), .lit (.int .i64 (a0.Busy)), .lit (.int .i64 (a0.Exponent)), .lit (.int .i64 (a0.Clear)), .lit (.int .i64 (a0.Wait))])], []⟩⟩ (by kernel_rfl) ?_
                    refine TL_grow (.c (.lit (.bool (true)))) (by kernel_rfl) (by kernel_rfl) (grow_bool (e := (decide (a0.Busy ≤ 4))) (by kernel_rfl) hb15) ?_
                    refine TL_runs 3 ⟨[(72, .c (.lit (.int .i64 (a0.Clear)))), (71, .c (.box 1 3)), (70, .c (.lit (.bool (true)))), (69, .c (.lit (.bool (true)))), (68, .c (.lit (.int .i64 (a0.Busy)))), (67, .c (.box 1 1)), (65, .c (.lit (.bool ((a0.State == 3))))), (20, .c (.lit (.int .i64 (a0.State)))), (1, .c (.box 1 0))], ⟨[(1, [.lit (.int .i64 (a0.State)), .lit (.int .i64 (a0.Busy)), .lit (.int .i64 (a0.Exponent)), .lit (.int .i64 (a0.Clear)), .lit (.int .i64 (a0.Wait))])], []⟩⟩ (by kernel_rfl) ?_
                    refine TL_grow (.c (.lit (.bool (true)))) (by kernel_rfl) (by kernel_rfl) (grow_bool (e := (a0.Clear == 0)) (by kernel_rfl) hb16) ?_
                    refine TL_end ⟨[(2, .c (.lit (.bool ((a0.Wait == 0))))), (79, .c (.lit (.bool ((a0.Wait == 0))))), (78, .c (.lit (.bool ((a0.Wait == 0))))), (77, .c (.lit (.int .i64 (a0.Wait)))), (76, .c (.box 1 4)), (75, .c (.lit (.bool (true)))), (74, .c (.lit (.bool (true)))), (73, .c (.lit (.bool (true)))), (72, .c (.lit (.int .i64 (a0.Clear)))), (71, .c (.box 1 3)), (70, .c (.lit (.bool (true)))), (69, .c (.lit (.bool (true)))), (68, .c (.lit (.int .i64 (a0.Busy)))), (67, .c (.box 1 1)), (65, .c (.lit (.bool ((a0.State == 3))))), (20, .c (.lit (.int .i64 (a0.State)))), (1, .c (.box 1 0))], ⟨[(1, [.lit (.int .i64 (a0.State)), .lit (.int .i64 (a0.Busy)), .lit (.int .i64 (a0.Exponent)), .lit (.int .i64 (a0.Clear)), .lit (.int .i64 (a0.Wait))])], []⟩⟩ (by kernel_rfl) ?_
                    refine T_keep [2] [] [] ?_
                    refine T_ret ?_
                    refine blockQ_ret ?_
                    refine thenQ_ret ?_
                    obtain rfl := Option.some.inj h
                    exact ⟨[(false, [.lit (.bool ((a0.Wait == 0)))])], by kernel_rfl, by kernel_rfl⟩
                  · refine T_region ?_
                    refine TL_runs 2 ⟨[(68, .c (.lit (.int .i64 (a0.Busy)))), (67, .c (.box 1 1)), (65, .c (.lit (.bool ((a0.State == 3))))), (20, .c (.lit (.int .i64 (a0.State)))), (1, .c (.box 1 0))], ⟨[(1, [.lit (.int .i64 (a0.State)), .lit (.int .i64 (a0.Busy)), .lit (.int .i64 (a0.Exponent)), .lit (.int .i64 (a0.Clear)), .lit (.int .i64 (a0.Wait))])], []⟩⟩ (by kernel_rfl) ?_
                    refine TL_grow (.c (.lit (.bool (true)))) (by kernel_rfl) (by kernel_rfl) (grow_bool (e := (decide (a0.Busy ≤ 4))) (by kernel_rfl) hb15) ?_
                    refine TL_runs 3 ⟨[(72, .c (.lit (.int .i64 (a0.Clear)))), (71, .c (.box 1 3)), (70, .c (.lit (.bool (true)))), (69, .c (.lit (.bool (true)))), (68, .c (.lit (.int .i64 (a0.Busy)))), (67, .c (.box 1 1)), (65, .c (.lit (.bool ((a0.State == 3))))), (20, .c (.lit (.int .i64 (a0.State)))), (1, .c (.box 1 0))], ⟨[(1, [.lit (.int .i64 (a0.State)), .lit (.int .i64 (a0.Busy)), .lit (.int .i64 (a0.Exponent)), .lit (.int .i64 (a0.Clear)), .lit (.int .i64 (a0.Wait))])], []⟩⟩ (by kernel_rfl) ?_
                    refine TL_grow (.c (.lit (.bool (false)))) (by kernel_rfl) (by kernel_rfl) (grow_bool (e := (a0.Clear == 0)) (by kernel_rfl) hb16) ?_
                    refine TL_end ⟨[(2, .c (.lit (.bool (false)))), (79, .c (.lit (.bool (false)))), (78, .tup []), (77, .tup []), (76, .tup []), (75, .c (.lit (.bool (false)))), (74, .c (.lit (.bool (false)))), (73, .c (.lit (.bool (false)))), (72, .c (.lit (.int .i64 (a0.Clear)))), (71, .c (.box 1 3)), (70, .c (.lit (.bool (true)))), (69, .c (.lit (.bool (true)))), (68, .c (.lit (.int .i64 (a0.Busy)))), (67, .c (.box 1 1)), (65, .c (.lit (.bool ((a0.State == 3))))), (20, .c (.lit (.int .i64 (a0.State)))), (1, .c (.box 1 0))], ⟨[(1, [.lit (.int .i64 (a0.State)), .lit (.int .i64 (a0.Busy)), .lit (.int .i64 (a0.Exponent)), .lit (.int .i64 (a0.Clear)), .lit (.int .i64 (a0.Wait))])], []⟩⟩ (by kernel_rfl) ?_
                    refine T_keep [2] [] [] ?_
                    refine T_ret ?_
                    refine blockQ_ret ?_
                    refine thenQ_ret ?_
                    obtain rfl := Option.some.inj h
                    exact ⟨[(false, [.lit (.bool (false))])], by kernel_rfl, by kernel_rfl⟩
                · refine T_region ?_
                  refine TL_runs 2 ⟨[(68, .c (.lit (.int .i64 (a0.Busy)))), (67, .c (.box 1 1)), (65, .c (.lit (.bool ((a0.State == 3))))), (20, .c (.lit (.int .i64 (a0.State)))), (1, .c (.box 1 0))], ⟨[(1, [.lit (.int .i64 (a0.State)), .lit (.int .i64 (a0.Busy)), .lit (.int .i64 (a0.Exponent)), .lit (.int .i64 (a0.Clear)), .lit (.int .i64 (a0.Wait))])], []⟩⟩ (by kernel_rfl) ?_
                  refine TL_grow (.c (.lit (.bool (false)))) (by kernel_rfl) (by kernel_rfl) (grow_bool (e := (decide (a0.Busy ≤ 4))) (by kernel_rfl) hb15) ?_
                  refine TL_end ⟨[(2, .c (.lit (.bool (false)))), (79, .c (.lit (.bool (false)))), (78, .tup []), (77, .tup []), (76, .tup []), (75, .c (.lit (.bool (false)))), (74, .c (.lit (.bool (false)))), (73, .tup []), (72, .tup []), (71, .tup []), (70, .c (.lit (.bool (false)))), (69, .c (.lit (.bool (false)))), (68, .c (.lit (.int .i64 (a0.Busy)))), (67, .c (.box 1 1)), (65, .c (.lit (.bool ((a0.State == 3))))), (20, .c (.lit (.int .i64 (a0.State)))), (1, .c (.box 1 0))], ⟨[(1, [.lit (.int .i64 (a0.State)), .lit (.int .i64 (a0.Busy)), .lit (.int .i64 (a0.Exponent)), .lit (.int .i64 (a0.Clear)), .lit (.int .i64 (a0.Wait))])], []⟩⟩ (by kernel_rfl) ?_
                  refine T_keep [2] [] [] ?_
                  refine T_ret ?_
                  refine blockQ_ret ?_
                  refine thenQ_ret ?_
                  obtain rfl := Option.some.inj h
                  exact ⟨[(false, [.lit (.bool (false))])], by kernel_rfl, by kernel_rfl⟩
              · refine T_condF' (e := (a0.State == 3)) (by kernel_rfl) hb14 ?_
                refine T_seq ?_
                refine T_runs ⟨[(80, .c (.lit (.bool ((a0.State == 4))))), (81, .c (.lit (.bool ((a0.State == 4))))), (65, .c (.lit (.bool ((a0.State == 3))))), (20, .c (.lit (.int .i64 (a0.State)))), (1, .c (.box 1 0))], ⟨[(1, [.lit (.int .i64 (a0.State)), .lit (.int .i64 (a0.Busy)), .lit (.int .i64 (a0.Exponent)), .lit (.int .i64 (a0.Clear)), .lit (.int .i64 (a0.Wait))])], []⟩⟩ (by kernel_rfl) ?_
                refine T_keep [80, 1] [1] [] ?_
                replace h := condO h
                rcases h with ⟨hb17, h⟩ | ⟨hb17, h⟩
                · refine T_condT' (e := (a0.State == 4)) (by kernel_rfl) hb17 ?_
                  refine T_seq ?_
                  replace h := condO h
                  rcases h with ⟨hb18, h⟩ | ⟨hb18, h⟩
                  · replace h := condO h
                    rcases h with ⟨hb19, h⟩ | ⟨hb19, h⟩
                    · refine T_region ?_
                      refine TL_runs 2 ⟨[(83, .c (.lit (.int .i64 (a0.Busy)))), (82, .c (.box 1 1)), (80, .c (.lit (.bool ((a0.State == 4))))), (1, .c (.box 1 0))], ⟨[(1, [.lit (.int .i64 (a0.State)), .lit (.int .i64 (a0.Busy)), .lit (.int .i64 (a0.Exponent)), .lit (.int .i64 (a0.Clear)), .lit (.int .i64 (a0.Wait))])], []⟩⟩ (by kernel_rfl) ?_
                      refine TL_grow (.c (.lit (.bool (true)))) (by kernel_rfl) (by kernel_rfl) (grow_bool (e := (a0.Busy == 5)) (by kernel_rfl) hb18) ?_
                      refine TL_runs 3 ⟨[(87, .c (.lit (.int .i64 (a0.Clear)))), (86, .c (.box 1 3)), (85, .c (.lit (.bool (true)))), (84, .c (.lit (.bool (true)))), (83, .c (.lit (.int .i64 (a0.Busy)))), (82, .c (.box 1 1)), (80, .c (.lit (.bool ((a0.State == 4))))), (1, .c (.box 1 0))], ⟨[(1, [.lit (.int .i64 (a0.State)), .lit (.int .i64 (a0.Busy)), .lit (.int .i64 (a0.Exponent)), .lit (.int .i64 (a0.Clear)), .lit (.int .i64 (a0.Wait))])], []⟩⟩ (by kernel_rfl) ?_
                      refine TL_grow (.c (.lit (.bool (true)))) (by kernel_rfl) (by kernel_rfl) (grow_bool (e := (a0.Clear == 2)) (by kernel_rfl) hb19) ?_
                      refine TL_end ⟨[(2, .c (.lit (.bool ((a0.Wait == 0))))), (94, .c (.lit (.bool ((a0.Wait == 0))))), (93, .c (.lit (.bool ((a0.Wait == 0))))), (92, .c (.lit (.int .i64 (a0.Wait)))), (91, .c (.box 1 4)), (90, .c (.lit (.bool (true)))), (89, .c (.lit (.bool (true)))), (88, .c (.lit (.bool (true)))), (87, .c (.lit (.int .i64 (a0.Clear)))), (86, .c (.box 1 3)), (85, .c (.lit (.bool (true)))), (84, .c (.lit (.bool (true)))), (83, .c (.lit (.int .i64 (a0.Busy)))), (82, .c (.box 1 1)), (80, .c (.lit (.bool ((a0.State == 4))))), (1, .c (.box 1 0))], ⟨[(1, [.lit (.int .i64 (a0.State)), .lit (.int .i64 (a0.Busy)), .lit (.int .i64 (a0.Exponent)), .lit (.int .i64 (a0.Clear)), .lit (.int .i64 (a0.Wait))])], []⟩⟩ (by kernel_rfl) ?_
                      refine T_keep [2] [] [] ?_
                      refine T_ret ?_
                      refine blockQ_ret ?_
                      refine thenQ_ret ?_
                      obtain rfl := Option.some.inj h
                      exact ⟨[(false, [.lit (.bool ((a0.Wait == 0)))])], by kernel_rfl, by kernel_rfl⟩
                    · refine T_region ?_
                      refine TL_runs 2 ⟨[(83, .c (.lit (.int .i64 (a0.Busy)))), (82, .c (.box 1 1)), (80, .c (.lit (.bool ((a0.State == 4))))), (1, .c (.box 1 0))], ⟨[(1, [.lit (.int .i64 (a0.State)), .lit (.int .i64 (a0.Busy)), .lit (.int .i64 (a0.Exponent)), .lit (.int .i64 (a0.Clear)), .lit (.int .i64 (a0.Wait))])], []⟩⟩ (by kernel_rfl) ?_
                      refine TL_grow (.c (.lit (.bool (true)))) (by kernel_rfl) (by kernel_rfl) (grow_bool (e := (a0.Busy == 5)) (by kernel_rfl) hb18) ?_
                      refine TL_runs 3 ⟨[(87, .c (.lit (.int .i64 (a0.Clear)))), (86, .c (.box 1 3)), (85, .c (.lit (.bool (true)))), (84, .c (.lit (.bool (true)))), (83, .c (.lit (.int .i64 (a0.Busy)))), (82, .c (.box 1 1)), (80, .c (.lit (.bool ((a0.State == 4))))), (1, .c (.box 1 0))], ⟨[(1, [.lit (.int .i64 (a0.State)), .lit (.int .i64 (a0.Busy)), .lit (.int .i64 (a0.Exponent)), .lit (.int .i64 (a0.Clear)), .lit (.int .i64 (a0.Wait))])], []⟩⟩ (by kernel_rfl) ?_
                      refine TL_grow (.c (.lit (.bool (false)))) (by kernel_rfl) (by kernel_rfl) (grow_bool (e := (a0.Clear == 2)) (by kernel_rfl) hb19) ?_
                      refine TL_end ⟨[(2, .c (.lit (.bool (false)))), (94, .c (.lit (.bool (false)))), (93, .tup []), (92, .tup []), (91, .tup []), (90, .c (.lit (.bool (false)))), (89, .c (.lit (.bool (false)))), (88, .c (.lit (.bool (false)))), (87, .c (.lit (.int .i64 (a0.Clear)))), (86, .c (.box 1 3)), (85, .c (.lit (.bool (true)))), (84, .c (.lit (.bool (true)))), (83, .c (.lit (.int .i64 (a0.Busy)))), (82, .c (.box 1 1)), (80, .c (.lit (.bool ((a0.State == 4))))), (1, .c (.box 1 0))], ⟨[(1, [.lit (.int .i64 (a0.State)), .lit (.int .i64 (a0.Busy)), .lit (.int .i64 (a0.Exponent)), .lit (.int .i64 (a0.Clear)), .lit (.int .i64 (a0.Wait))])], []⟩⟩ (by kernel_rfl) ?_
                      refine T_keep [2] [] [] ?_
                      refine T_ret ?_
                      refine blockQ_ret ?_
                      refine thenQ_ret ?_
                      obtain rfl := Option.some.inj h
                      exact ⟨[(false, [.lit (.bool (false))])], by kernel_rfl, by kernel_rfl⟩
                  · refine T_region ?_
                    refine TL_runs 2 ⟨[(83, .c (.lit (.int .i64 (a0.Busy)))), (82, .c (.box 1 1)), (80, .c (.lit (.bool ((a0.State == 4))))), (1, .c (.box 1 0))], ⟨[(1, [.lit (.int .i64 (a0.State)), .lit (.int .i64 (a0.Busy)), .lit (.int .i64 (a0.Exponent)), .lit (.int .i64 (a0.Clear)), .lit (.int .i64 (a0.Wait))])], []⟩⟩ (by kernel_rfl) ?_
                    refine TL_grow (.c (.lit (.bool (false)))) (by kernel_rfl) (by kernel_rfl) (grow_bool (e := (a0.Busy == 5)) (by kernel_rfl) hb18) ?_
                    refine TL_end ⟨[(2, .c (.lit (.bool (false)))), (94, .c (.lit (.bool (false)))), (93, .tup []), (92, .tup []), (91, .tup []), (90, .c (.lit (.bool (false)))), (89, .c (.lit (.bool (false)))), (88, .tup []), (87, .tup []), (86, .tup []), (85, .c (.lit (.bool (false)))), (84, .c (.lit (.bool (false)))), (83, .c (.lit (.int .i64 (a0.Busy)))), (82, .c (.box 1 1)), (80, .c (.lit (.bool ((a0.State == 4))))), (1, .c (.box 1 0))], ⟨[(1, [.lit (.int .i64 (a0.State)), .lit (.int .i64 (a0.Busy)), .lit (.int .i64 (a0.Exponent)), .lit (.int .i64 (a0.Clear)), .lit (.int .i64 (a0.Wait))])], []⟩⟩ (by kernel_rfl) ?_
                    refine T_keep [2] [] [] ?_
                    refine T_ret ?_
                    refine blockQ_ret ?_
                    refine thenQ_ret ?_
                    obtain rfl := Option.some.inj h
                    exact ⟨[(false, [.lit (.bool (false))])], by kernel_rfl, by kernel_rfl⟩
                · refine T_condF' (e := (a0.State == 4)) (by kernel_rfl) hb17 ?_
                  refine T_skip ?_
                  refine blockQ_normal ?_
                  refine T_keep [] [] [] ?_
                  refine T_seq ?_
                  refine T_runs ⟨[(2, .c (.lit (.bool (false))))], ⟨[], []⟩⟩ (by kernel_rfl) ?_
                  refine T_ret ?_
                  obtain rfl := Option.some.inj h
                  exact ⟨[(false, [.lit (.bool (false))])], by kernel_rfl, by kernel_rfl⟩

/-- multihop/multihopref08.Step -/
noncomputable def F_ref08_Step_j1  (v4 : Int × Int × Int × Int × Int) : Option (S_Backoff) :=
  some ((S_Backoff.mk v4.1 v4.2.1 v4.2.2.1 v4.2.2.2.1 v4.2.2.2.2))
noncomputable def F_ref08_Step (a0 : S_Backoff) (a1 : Bool) (a2 : Int) : Option (S_Backoff) :=
  (F_ref08_Valid a0).bind fun v1 =>
  bif v1 then
    bif (a0.State == 1) then
      bif ((IntKind.wrap .i64 (a0.Wait - 1)) == 0) then
        (F_ref08_Step_j1) (2, a0.Busy, a0.Exponent, a0.Clear, IntKind.wrap .i64 (a0.Wait - 1))
      else
        (F_ref08_Step_j1) (a0.State, a0.Busy, a0.Exponent, a0.Clear, IntKind.wrap .i64 (a0.Wait - 1))
    else
      bif (a0.State == 2) then
        bif a1 then
          (F_ref08_exponent (IntKind.wrap .i64 (a0.Busy + 1))).bind fun v9 =>
          bif (decide ((IntKind.wrap .i64 (a0.Busy + 1)) > 4)) then
            (F_ref08_Step_j1) (4, IntKind.wrap .i64 (a0.Busy + 1), v9, 2, a0.Wait)
          else
            (F_ref08_drawn (S_Backoff.mk a0.State (IntKind.wrap .i64 (a0.Busy + 1)) v9 a0.Clear a0.Wait) a2).bind fun v11 =>
            (F_ref08_Step_j1) (v11.State, v11.Busy, v11.Exponent, v11.Clear, v11.Wait)
        else
          bif ((IntKind.wrap .i64 (a0.Clear - 1)) == 0) then
            (F_ref08_Step_j1) (3, a0.Busy, a0.Exponent, IntKind.wrap .i64 (a0.Clear - 1), a0.Wait)
          else
            (F_ref08_Step_j1) (a0.State, a0.Busy, a0.Exponent, IntKind.wrap .i64 (a0.Clear - 1), a0.Wait)
      else
        (F_ref08_Step_j1) (a0.State, a0.Busy, a0.Exponent, a0.Clear, a0.Wait)
  else
    some ((S_Backoff.mk 0 0 0 0 0))
set_option maxRecDepth 100000 in
theorem ok_ref08_Step (a0 : S_Backoff) (a1 : Bool) (a2 : Int) (r : S_Backoff) (h : F_ref08_Step a0 a1 a2 = some r) : Pure Try.prog 17 [.agg (S_Backoff.cs a0), .c (.lit (.bool (a1))), .c (.lit (.int .u32 (a2)))] (.agg (S_Backoff.cs r)) := by
  unfold F_ref08_Step at h
  refine pure_of [[0, 0, 0, 0, 0]] 60 Try.func17 rfl rfl rfl (by kernel_rfl) (fun K => ?_)
  refine T_seq ?_
  refine T_runs ⟨[(6, .c (.box 6 0)), (3, .c (.box 3 0)), (0, .agg [.lit (.int .i64 (a0.State)), .lit (.int .i64 (a0.Busy)), .lit (.int .i64 (a0.Exponent)), .lit (.int .i64 (a0.Clear)), .lit (.int .i64 (a0.Wait))]), (1, .c (.lit (.bool (a1)))), (2, .c (.lit (.int .u32 (a2))))], ⟨[(6, [.lit (.int .i64 (0)), .lit (.int .i64 (0)), .lit (.int .i64 (0)), .lit (.int .i64 (0)), .lit (.int .i64 (0))]), (3, [.lit (.int .i64 (a0.State)), .lit (.int .i64 (a0.Busy)), .lit (.int .i64 (a0.Exponent)), .lit (.int .i64 (a0.Clear)), .lit (.int .i64 (a0.Wait))])], []⟩⟩ (by kernel_rfl) ?_
  refine T_seq ?_
  refine T_seq ?_
  replace h := bindO h
  obtain ⟨v1, hv1, h⟩ := h
  refine T_region ?_
  refine TL_runs 1 ⟨[(7, .agg [.lit (.int .i64 (a0.State)), .lit (.int .i64 (a0.Busy)), .lit (.int .i64 (a0.Exponent)), .lit (.int .i64 (a0.Clear)), .lit (.int .i64 (a0.Wait))]), (6, .c (.box 6 0)), (3, .c (.box 3 0)), (0, .agg [.lit (.int .i64 (a0.State)), .lit (.int .i64 (a0.Busy)), .lit (.int .i64 (a0.Exponent)), .lit (.int .i64 (a0.Clear)), .lit (.int .i64 (a0.Wait))]), (1, .c (.lit (.bool (a1)))), (2, .c (.lit (.int .u32 (a2))))], ⟨[(6, [.lit (.int .i64 (0)), .lit (.int .i64 (0)), .lit (.int .i64 (0)), .lit (.int .i64 (0)), .lit (.int .i64 (0))]), (3, [.lit (.int .i64 (a0.State)), .lit (.int .i64 (a0.Busy)), .lit (.int .i64 (a0.Exponent)), .lit (.int .i64 (a0.Clear)), .lit (.int .i64 (a0.Wait))])], []⟩⟩ (by kernel_rfl) ?_
  refine TL_grow (.c (.lit (.bool (v1)))) (by kernel_rfl) (by kernel_rfl) (grow_call 13 Try.f13 [[0, 0, 0, 0, 0]] [.agg (S_Backoff.cs a0)] rfl (by kernel_rfl) Try.func13 (by kernel_rfl) (by kernel_rfl) (by kernel_rfl) (ok_ref08_Valid a0 v1 hv1)) ?_
  refine TL_end ⟨[(9, .c (.lit (.bool ((!v1))))), (8, .c (.lit (.bool (v1)))), (7, .agg [.lit (.int .i64 (a0.State)), .lit (.int .i64 (a0.Busy)), .lit (.int .i64 (a0.Exponent)), .lit (.int .i64 (a0.Clear)), .lit (.int .i64 (a0.Wait))]), (6, .c (.box 6 0)), (3, .c (.box 3 0)), (0, .agg [.lit (.int .i64 (a0.State)), .lit (.int .i64 (a0.Busy)), .lit (.int .i64 (a0.Exponent)), .lit (.int .i64 (a0.Clear)), .lit (.int .i64 (a0.Wait))]), (1, .c (.lit (.bool (a1)))), (2, .c (.lit (.int .u32 (a2))))], ⟨[(6, [.lit (.int .i64 (0)), .lit (.int .i64 (0)), .lit (.int .i64 (0)), .lit (.int .i64 (0)), .lit (.int .i64 (0))]), (3, [.lit (.int .i64 (a0.State)), .lit (.int .i64 (a0.Busy)), .lit (.int .i64 (a0.Exponent)), .lit (.int .i64 (a0.Clear)), .lit (.int .i64 (a0.Wait))])], []⟩⟩ (by kernel_rfl) ?_
  refine T_keep [9, 6, 3, 1, 2] [6, 3] [] ?_
  replace h := condO h
  rcases h with ⟨hb2, h⟩ | ⟨hb2, h⟩
  · subst hb2
    refine T_condF (by kernel_rfl) ?_
    refine T_skip ?_
    refine T_join [3, 6] [3, 6] (fun (v4 : Int × Int × Int × Int × Int) => ⟨[(3, .c (.box 3 0)), (6, .c (.box 6 0))], ⟨[(3, [.lit (.int .i64 (v4.1)), .lit (.int .i64 (v4.2.1)), .lit (.int .i64 (v4.2.2.1)), .lit (.int .i64 (v4.2.2.2.1)), .lit (.int .i64 (v4.2.2.2.2))]), (6, [.lit (.int .i64 (0)), .lit (.int .i64 (0)), .lit (.int .i64 (0)), .lit (.int .i64 (0)), .lit (.int .i64 (0))])], []⟩⟩) (F_ref08_Step_j1) r ?_ ?_
    · intro v4 h
      unfold F_ref08_Step_j1 at h
      refine T_seq ?_
      refine T_runs ⟨[(59, .agg [.lit (.int .i64 (v4.1)), .lit (.int .i64 (v4.2.1)), .lit (.int .i64 (v4.2.2.1)), .lit (.int .i64 (v4.2.2.2.1)), .lit (.int .i64 (v4.2.2.2.2))]), (3, .c (.box 3 0)), (6, .c (.box 6 0))], ⟨[(6, [.lit (.int .i64 (v4.1)), .lit (.int .i64 (v4.2.1)), .lit (.int .i64 (v4.2.2.1)), .lit (.int .i64 (v4.2.2.2.1)), .lit (.int .i64 (v4.2.2.2.2))]), (3, [.lit (.int .i64 (v4.1)), .lit (.int .i64 (v4.2.1)), .lit (.int .i64 (v4.2.2.1)), .lit (.int .i64 (v4.2.2.2.1)), .lit (.int .i64 (v4.2.2.2.2))])], []⟩⟩ (by kernel_rfl) ?_
      refine T_keep [6] [6] [] ?_
      refine T_ret ?_
      obtain rfl := Option.some.inj h
      exact ⟨[(true, [.lit (.int .i64 (v4.1)), .lit (.int .i64 (v4.2.1)), .lit (.int .i64 (v4.2.2.1)), .lit (.int .i64 (v4.2.2.2.1)), .lit (.int .i64 (v4.2.2.2.2))])], by kernel_rfl, by kernel_rfl⟩
    · refine T_block ?_
      refine T_seq ?_
      refine T_runs ⟨[(11, .c (.lit (.bool ((a0.State == 1))))), (14, .c (.lit (.bool ((a0.State == 1))))), (13, .c (.lit (.int .i64 (a0.State)))), (12, .c (.box 3 0)), (9, .c (.lit (.bool (false)))), (6, .c (.box 6 0)), (3, .c (.box 3 0)), (1, .c (.lit (.bool (a1)))), (2, .c (.lit (.int .u32 (a2))))], ⟨[(6, [.lit (.int .i64 (0)), .lit (.int .i64 (0)), .lit (.int .i64 (0)), .lit (.int .i64 (0)), .lit (.int .i64 (0))]), (3, [.lit (.int .i64 (a0.State)), .lit (.int .i64 (a0.Busy)), .lit (.int .i64 (a0.Exponent)), .lit (.int .i64 (a0.Clear)), .lit (.int .i64 (a0.Wait))])], []⟩⟩ (by kernel_rfl) ?_
      refine T_keep [11, 6, 3, 1, 2] [6, 3] [] ?_
      replace h := condO h
      rcases h with ⟨hb5, h⟩ | ⟨hb5, h⟩
      · refine T_condT' (e := (a0.State == 1)) (by kernel_rfl) hb5 ?_
        refine T_seq ?_
        refine T_runs ⟨[(18, .c (.box 3 4)), (17, .c (.lit (.int .i64 (IntKind.wrap .i64 (a0.Wait - 1))))), (16, .c (.lit (.int .i64 (a0.Wait)))), (15, .c (.box 3 4)), (11, .c (.lit (.bool ((a0.State == 1))))), (6, .c (.box 6 0)), (3, .c (.box 3 0)), (1, .c (.lit (.bool (a1)))), (2, .c (.lit (.int .u32 (a2))))], ⟨[(3, [.lit (.int .i64 (a0.State)), .lit (.int .i64 (a0.Busy)), .lit (.int .i64 (a0.Exponent)), .lit (.int .i64 (a0.Clear)), .lit (.int .i64 (IntKind.wrap .i64 (a0.Wait - 1)))]), (6, [.lit (.int .i64 (0)), .lit (.int .i64 (0)), .lit (.int .i64 (0)), .lit (.int .i64 (0)), .lit (.int .i64 (0))])], []⟩⟩ (by kernel_rfl) ?_
        refine T_keep [6, 3] [3, 6] [] ?_
        refine T_seq ?_
        refine T_runs ⟨[(21, .c (.lit (.bool (((IntKind.wrap .i64 (a0.Wait - 1)) == 0))))), (20, .c (.lit (.int .i64 (IntKind.wrap .i64 (a0.Wait - 1))))), (19, .c (.box 3 4)), (6, .c (.box 6 0)), (3, .c (.box 3 0))], ⟨[(3, [.lit (.int .i64 (a0.State)), .lit (.int .i64 (a0.Busy)), .lit (.int .i64 (a0.Exponent)), .lit (.int .i64 (a0.Clear)), .lit (.int .i64 (IntKind.wrap .i64 (a0.Wait - 1)))]), (6, [.lit (.int .i64 (0)), .lit (.int .i64 (0)), .lit (.int .i64 (0)), .lit (.int .i64 (0)), .lit (.int .i64 (0))])], []⟩⟩ (by kernel_rfl) ?_
        replace h := condO h
        rcases h with ⟨hb6, h⟩ | ⟨hb6, h⟩
        · refine T_condT' (e := ((IntKind.wrap .i64 (a0.Wait - 1)) == 0)) (by kernel_rfl) hb6 ?_
          refine T_runs ⟨[(22, .c (.box 3 0)), (21, .c (.lit (.bool (((IntKind.wrap .i64 (a0.Wait - 1)) == 0))))), (20, .c (.lit (.int .i64 (IntKind.wrap .i64 (a0.Wait - 1))))), (19, .c (.box 3 4)), (6, .c (.box 6 0)), (3, .c (.box 3 0))], ⟨[(3, [.lit (.int .i64 (2)), .lit (.int .i64 (a0.Busy)), .lit (.int .i64 (a0.Exponent)), .lit (.int .i64 (a0.Clear)), .lit (.int .i64 (IntKind.wrap .i64 (a0.Wait - 1)))]), (6, [.lit (.int .i64 (0)), .lit (.int .i64 (0)), .lit (.int .i64 (0)), .lit (.int .i64 (0)), .lit (.int .i64 (0))])], []⟩⟩ (by kernel_rfl) ?_
          refine blockQ_normal ?_
          exact ⟨(2, a0.Busy, a0.Exponent, a0.Clear, IntKind.wrap .i64 (a0.Wait - 1)), h, by kernel_rfl⟩
        · refine T_condF' (e := ((IntKind.wrap .i64 (a0.Wait - 1)) == 0)) (by kernel_rfl) hb6 ?_
          refine T_skip ?_
          refine blockQ_normal ?_
          exact ⟨(a0.State, a0.Busy, a0.Exponent, a0.Clear, IntKind.wrap .i64 (a0.Wait - 1)), h, by kernel_rfl⟩
      · refine T_condF' (e := (a0.State == 1)) (by kernel_rfl) hb5 ?_
        refine T_seq ?_
        replace h := condO h
        rcases h with ⟨hb7, h⟩ | ⟨hb7, h⟩
        · refine T_region ?_
          refine TL_runs 2 ⟨[(25, .c (.lit (.int .i64 (a0.State)))), (24, .c (.box 3 0)), (11, .c (.lit (.bool ((a0.State == 1))))), (6, .c (.box 6 0)), (3, .c (.box 3 0)), (1, .c (.lit (.bool (a1)))), (2, .c (.lit (.int .u32 (a2))))], ⟨[(6, [.lit (.int .i64 (0)), .lit (.int .i64 (0)), .lit (.int .i64 (0)), .lit (.int .i64 (0)), .lit (.int .i64 (0))]), (3, [.lit (.int .i64 (a0.State)), .lit (.int .i64 (a0.Busy)), .lit (.int .i64 (a0.Exponent)), .lit (.int .i64 (a0.Clear)), .lit (.int .i64 (a0.Wait))])], []⟩⟩ (by kernel_rfl) ?_
          refine TL_grow (.c (.lit (.bool (true)))) (by kernel_rfl) (by kernel_rfl) (grow_bool (e := (a0.State == 2)) (by kernel_rfl) hb7) ?_
          refine TL_end ⟨[(23, .c (.lit (.bool ((!a1))))), (30, .c (.lit (.bool ((!a1))))), (29, .c (.lit (.bool ((!a1))))), (28, .c (.lit (.bool (a1)))), (27, .c (.lit (.bool (true)))), (26, .c (.lit (.bool (true)))), (25, .c (.lit (.int .i64 (a0.State)))), (24, .c (.box 3 0)), (11, .c (.lit (.bool ((a0.State == 1))))), (6, .c (.box 6 0)), (3, .c (.box 3 0)), (1, .c (.lit (.bool (a1)))), (2, .c (.lit (.int .u32 (a2))))], ⟨[(6, [.lit (.int .i64 (0)), .lit (.int .i64 (0)), .lit (.int .i64 (0)), .lit (.int .i64 (0)), .lit (.int .i64 (0))]), (3, [.lit (.int .i64 (a0.State)), .lit (.int .i64 (a0.Busy)), .lit (.int .i64 (a0.Exponent)), .lit (.int .i64 (a0.Clear)), .lit (.int .i64 (a0.Wait))])], []⟩⟩ (by kernel_rfl) ?_
          refine T_keep [23, 6, 3, 2] [6, 3] [] ?_
          replace h := condO h
          rcases h with ⟨hb8, h⟩ | ⟨hb8, h⟩
          · subst hb8
            refine T_condF (by kernel_rfl) ?_
            refine T_seq ?_
            refine T_region ?_
            refine TL_runs 2 ⟨[(41, .c (.lit (.int .i64 (a0.State)))), (40, .c (.box 3 0)), (23, .c (.lit (.bool (false)))), (6, .c (.box 6 0)), (3, .c (.box 3 0)), (2, .c (.lit (.int .u32 (a2))))], ⟨[(6, [.lit (.int .i64 (0)), .lit (.int .i64 (0)), .lit (.int .i64 (0)), .lit (.int .i64 (0)), .lit (.int .i64 (0))]), (3, [.lit (.int .i64 (a0.State)), .lit (.int .i64 (a0.Busy)), .lit (.int .i64 (a0.Exponent)), .lit (.int .i64 (a0.Clear)), .lit (.int .i64 (a0.Wait))])], []⟩⟩ (by kernel_rfl) ?_
            refine TL_grow (.c (.lit (.bool (true)))) (by kernel_rfl) (by kernel_rfl) (grow_bool (e := (a0.State == 2)) (by kernel_rfl) hb7) ?_
            refine TL_end ⟨[(39, .c (.lit (.bool (true)))), (42, .c (.lit (.bool (true)))), (41, .c (.lit (.int .i64 (a0.State)))), (40, .c (.box 3 0)), (23, .c (.lit (.bool (false)))), (6, .c (.box 6 0)), (3, .c (.box 3 0)), (2, .c (.lit (.int .u32 (a2))))], ⟨[(6, [.lit (.int .i64 (0)), .lit (.int .i64 (0)), .lit (.int .i64 (0)), .lit (.int .i64 (0)), .lit (.int .i64 (0))]), (3, [.lit (.int .i64 (a0.State)), .lit (.int .i64 (a0.Busy)), .lit (.int .i64 (a0.Exponent)), .lit (.int .i64 (a0.Clear)), .lit (.int .i64 (a0.Wait))])], []⟩⟩ (by kernel_rfl) ?_
            refine T_keep [39, 6, 3, 2] [6, 3] [] ?_
            refine T_condT (by kernel_rfl) ?_
            refine T_seq ?_
            refine T_runs ⟨[(46, .c (.box 3 1)), (45, .c (.lit (.int .i64 (IntKind.wrap .i64 (a0.Busy + 1))))), (44, .c (.lit (.int .i64 (a0.Busy)))), (43, .c (.box 3 1)), (39, .c (.lit (.bool (true)))), (6, .c (.box 6 0)), (3, .c (.box 3 0)), (2, .c (.lit (.int .u32 (a2))))], ⟨[(3, [.lit (.int .i64 (a0.State)), .lit (.int .i64 (IntKind.wrap .i64 (a0.Busy + 1))), .lit (.int .i64 (a0.Exponent)), .lit (.int .i64 (a0.Clear)), .lit (.int .i64 (a0.Wait))]), (6, [.lit (.int .i64 (0)), .lit (.int .i64 (0)), .lit (.int .i64 (0)), .lit (.int .i64 (0)), .lit (.int .i64 (0))])], []⟩⟩ (by kernel_rfl) ?_
            refine T_keep [6, 3, 2] [3, 6] [] ?_
            refine T_seq ?_
            replace h := bindO h
            obtain ⟨v9, hv9, h⟩ := h
            refine T_region ?_
            refine TL_runs 2 ⟨[(48, .c (.lit (.int .i64 (IntKind.wrap .i64 (a0.Busy + 1))))), (47, .c (.box 3 1)), (6, .c (.box 6 0)), (3, .c (.box 3 0)), (2, .c (.lit (.int .u32 (a2))))], ⟨[(3, [.lit (.int .i64 (a0.State)), .lit (.int .i64 (IntKind.wrap .i64 (a0.Busy + 1))), .lit (.int .i64 (a0.Exponent)), .lit (.int .i64 (a0.Clear)), .lit (.int .i64 (a0.Wait))]), (6, [.lit (.int .i64 (0)), .lit (.int .i64 (0)), .lit (.int .i64 (0)), .lit (.int .i64 (0)), .lit (.int .i64 (0))])], []⟩⟩ (by kernel_rfl) ?_
            refine TL_grow (.c (.lit (.int .i64 (v9)))) (by kernel_rfl) (by kernel_rfl) (grow_call 25 Try.f25 [[0]] [.c (.lit (.int .i64 ((IntKind.wrap .i64 (a0.Busy + 1)))))] rfl (by kernel_rfl) Try.func25 (by kernel_rfl) (by kernel_rfl) (by kernel_rfl) (ok_ref08_exponent (IntKind.wrap .i64 (a0.Busy + 1)) v9 hv9)) ?_
            refine TL_end ⟨[(50, .c (.box 3 2)), (49, .c (.lit (.int .i64 (v9)))), (48, .c (.lit (.int .i64 (IntKind.wrap .i64 (a0.Busy + 1))))), (47, .c (.box 3 1)), (6, .c (.box 6 0)), (3, .c (.box 3 0)), (2, .c (.lit (.int .u32 (a2))))], ⟨[(3, [.lit (.int .i64 (a0.State)), .lit (.int .i64 (IntKind.wrap .i64 (a0.Busy + 1))), .lit (.int .i64 (v9)), .lit (.int .i64 (a0.Clear)), .lit (.int .i64 (a0.Wait))]), (6, [.lit (.int .i64 (0)), .lit (.int .i64 (0)), .lit (.int .i64 (0)), .lit (.int .i64 (0)), .lit (.int .i64 (0))])], []⟩⟩ (by kernel_rfl) ?_
            refine T_keep [6, 3, 2] [3, 6] [] ?_
            refine T_seq ?_
            refine T_runs ⟨[(53, .c (.lit (.bool ((decide ((IntKind.wrap .i64 (a0.Busy + 1)) > 4)))))), (52, .c (.lit (.int .i64 (IntKind.wrap .i64 (a0.Busy + 1))))), (51, .c (.box 3 1)), (6, .c (.box 6 0)), (3, .c (.box 3 0)), (2, .c (.lit (.int .u32 (a2))))], ⟨[(3, [.lit (.int .i64 (a0.State)), .lit (.int .i64 (IntKind.wrap .i64 (a0.Busy + 1))), .lit (.int .i64 (v9)), .lit (.int .i64 (a0.Clear)), .lit (.int .i64 (a0.Wait))]), (6, [.lit (.int .i64 (0)), .lit (.int .i64 (0)), .lit (.int .i64 (0)), .lit (.int .i64 (0)), .lit (.int .i64 (0))])], []⟩⟩ (by kernel_rfl) ?_
            replace h := condO h
            rcases h with ⟨hb10, h⟩ | ⟨hb10, h⟩
            · refine T_condT' (e := (decide ((IntKind.wrap .i64 (a0.Busy + 1)) > 4))) (by kernel_rfl) hb10 ?_
              refine T_runs ⟨[(55, .c (.box 3 3)), (54, .c (.box 3 0)), (53, .c (.lit (.bool ((decide ((IntKind.wrap .i64 (a0.Busy + 1)) > 4)))))), (52, .c (.lit (.int .i64 (IntKind.wrap .i64 (a0.Busy + 1))))), (51, .c (.box 3 1)), (6, .c (.box 6 0)), (3, .c (.box 3 0)), (2, .c (.lit (.int .u32 (a2))))], ⟨[(3, [.lit (.int .i64 (4)), .lit (.int .i64 (IntKind.wrap .i64 (a0.Busy + 1))), .lit (.int .i64 (v9)), .lit (.int .i64 (2)), .lit (.int .i64 (a0.Wait))]), (6, [.lit (.int .i64 (0)), .lit (.int .i64 (0)), .lit (.int .i64 (0)), .lit (.int .i64 (0)), .lit (.int .i64 (0))])], []⟩⟩ (by kernel_rfl) ?_
              refine blockQ_normal ?_
              exact ⟨(4, IntKind.wrap .i64 (a0.Busy + 1), v9, 2, a0.Wait), h, by kernel_rfl⟩
            · refine T_condF' (e := (decide ((IntKind.wrap .i64 (a0.Busy + 1)) > 4))) (by kernel_rfl) hb10 ?_
              replace h := bindO h
              obtain ⟨v11, hv11, h⟩ := h
              refine T_region ?_
              refine TL_runs 2 ⟨[(57, .c (.lit (.int .u32 (a2)))), (56, .agg [.lit (.int .i64 (a0.State)), .lit (.int .i64 (IntKind.wrap .i64 (a0.Busy + 1))), .lit (.int .i64 (v9)), .lit (.int .i64 (a0.Clear)), .lit (.int .i64 (a0.Wait))]), (53, .c (.lit (.bool ((decide ((IntKind.wrap .i64 (a0.Busy + 1)) > 4)))))), (52, .c (.lit (.int .i64 (IntKind.wrap .i64 (a0.Busy + 1))))), (51, .c (.box 3 1)), (6, .c (.box 6 0)), (3, .c (.box 3 0)), (2, .c (.lit (.int .u32 (a2))))], ⟨[(3, [.lit (.int .i64 (a0.State)), .lit (.int .i64 (IntKind.wrap .i64 (a0.Busy + 1))), .lit (.int .i64 (v9)), .lit (.int .i64 (a0.Clear)), .lit (.int .i64 (a0.Wait))]), (6, [.lit (.int .i64 (0)), .lit (.int .i64 (0)), .lit (.int .i64 (0)), .lit (.int .i64 (0)), .lit (.int .i64 (0))])], []⟩⟩ (by kernel_rfl) ?_
              refine TL_grow (.agg [.lit (.int .i64 (v11.State)), .lit (.int .i64 (v11.Busy)), .lit (.int .i64 (v11.Exponent)), .lit (.int .i64 (v11.Clear)), .lit (.int .i64 (v11.Wait))]) (by kernel_rfl) (by kernel_rfl) (grow_call 27 Try.f27 [[0, 0, 0, 0, 0], [0]] [.agg (S_Backoff.cs (S_Backoff.mk a0.State (IntKind.wrap .i64 (a0.Busy + 1)) v9 a0.Clear a0.Wait)), .c (.lit (.int .u32 (a2)))] rfl (by kernel_rfl) Try.func27 (by kernel_rfl) (by kernel_rfl) (by kernel_rfl) (ok_ref08_drawn (S_Backoff.mk a0.State (IntKind.wrap .i64 (a0.Busy + 1)) v9 a0.Clear a0.Wait) a2 v11 hv11)) ?_
              refine TL_end ⟨[(58, .agg [.lit (.int .i64 (v11.State)), .lit (.int .i64 (v11.Busy)), .lit (.int .i64 (v11.Exponent)), .lit (.int .i64 (v11.Clear)), .lit (.int .i64 (v11.Wait))]), (57, .c (.lit (.int .u32 (a2)))), (56, .agg [.lit (.int .i64 (a0.State)), .lit (.int .i64 (IntKind.wrap .i64 (a0.Busy + 1))), .lit (.int .i64 (v9)), .lit (.int .i64 (a0.Clear)), .lit (.int .i64 (a0.Wait))]), (53, .c (.lit (.bool ((decide ((IntKind.wrap .i64 (a0.Busy + 1)) > 4)))))), (52, .c (.lit (.int .i64 (IntKind.wrap .i64 (a0.Busy + 1))))), (51, .c (.box 3 1)), (6, .c (.box 6 0)), (3, .c (.box 3 0)), (2, .c (.lit (.int .u32 (a2))))], ⟨[(3, [.lit (.int .i64 (v11.State)), .lit (.int .i64 (v11.Busy)), .lit (.int .i64 (v11.Exponent)), .lit (.int .i64 (v11.Clear)), .lit (.int .i64 (v11.Wait))]), (6, [.lit (.int .i64 (0)), .lit (.int .i64 (0)), .lit (.int .i64 (0)), .lit (.int .i64 (0)), .lit (.int .i64 (0))])], []⟩⟩ (by kernel_rfl) ?_
              refine blockQ_normal ?_
              exact ⟨(v11.State, v11.Busy, v11.Exponent, v11.Clear, v11.Wait), h, by kernel_rfl⟩
          · subst hb8
            refine T_condT (by kernel_rfl) ?_
            refine T_seq ?_
            refine T_runs ⟨[(34, .c (.box 3 3)), (33, .c (.lit (.int .i64 (IntKind.wrap .i64 (a0.Clear - 1))))), (32, .c (.lit (.int .i64 (a0.Clear)))), (31, .c (.box 3 3)), (23, .c (.lit (.bool (true)))), (6, .c (.box 6 0)), (3, .c (.box 3 0)), (2, .c (.lit (.int .u32 (a2))))], ⟨[(3, [.lit (.int .i64 (a0.State)), .lit (.int .i64 (a0.Busy)), .lit (.int .i64 (a0.Exponent)), .lit (.int .i64 (IntKind.wrap .i64 (a0.Clear - 1))), .lit (.int .i64 (a0.Wait))]), (6, [.lit (.int .i64 (0)), .lit (.int .i64 (0)), .lit (.int .i64 (0)), .lit (.int .i64 (0)), .lit (.int .i64 (0))])], []⟩⟩ (by kernel_rfl) ?_
            refine T_keep [6, 3] [3, 6] [] ?_
            refine T_seq ?_
            refine T_runs ⟨[(37, .c (.lit (.bool (((IntKind.wrap .i64 (a0.Clear - 1)) == 0))))), (36, .c (.lit (.int .i64 (IntKind.wrap .i64 (a0.Clear - 1))))), (35, .c (.box 3 3)), (6, .c (.box 6 0)), (3, .c (.box 3 0))], ⟨[(3, [.lit (.int .i64 (a0.State)), .lit (.int .i64 (a0.Busy)), .lit (.int .i64 (a0.Exponent)), .lit (.int .i64 (IntKind.wrap .i64 (a0.Clear - 1))), .lit (.int .i64 (a0.Wait))]), (6, [.lit (.int .i64 (0)), .lit (.int .i64 (0)), .lit (.int .i64 (0)), .lit (.int .i64 (0)), .lit (.int .i64 (0))])], []⟩⟩ (by kernel_rfl) ?_
            replace h := condO h
            rcases h with ⟨hb12, h⟩ | ⟨hb12, h⟩
            · refine T_condT' (e := ((IntKind.wrap .i64 (a0.Clear - 1)) == 0)) (by kernel_rfl) hb12 ?_
              refine T_runs ⟨[(38, .c (.box 3 0)), (37, .c (.lit (.bool (((IntKind.wrap .i64 (a0.Clear - 1)) == 0))))), (36, .c (.lit (.int .i64 (IntKind.wrap .i64 (a0.Clear - 1))))), (35, .c (.box 3 3)), (6, .c (.box 6 0)), (3, .c (.box 3 0))], ⟨[(3, [.lit (.int .i64 (3)), .lit (.int .i64 (a0.Busy)), .lit (.int .i64 (a0.Exponent)), .lit (.int .i64 (IntKind.wrap .i64 (a0.Clear - 1))), .lit (.int .i64 (a0.Wait))]), (6, [.lit (.int .i64 (0)), .lit (.int .i64 (0)), .lit (.int .i64 (0)), .lit (.int .i64 (0)), .lit (.int .i64 (0))])], []⟩⟩ (by kernel_rfl) ?_
              refine blockQ_normal ?_
              exact ⟨(3, a0.Busy, a0.Exponent, IntKind.wrap .i64 (a0.Clear - 1), a0.Wait), h, by kernel_rfl⟩
            · refine T_condF' (e := ((IntKind.wrap .i64 (a0.Clear - 1)) == 0)) (by kernel_rfl) hb12 ?_
              refine T_skip ?_
              refine blockQ_normal ?_
              exact ⟨(a0.State, a0.Busy, a0.Exponent, IntKind.wrap .i64 (a0.Clear - 1), a0.Wait), h, by kernel_rfl⟩
        · refine T_region ?_
          refine TL_runs 2 ⟨[(25, .c (.lit (.int .i64 (a0.State)))), (24, .c (.box 3 0)), (11, .c (.lit (.bool ((a0.State == 1))))), (6, .c (.box 6 0)), (3, .c (.box 3 0)), (1, .c (.lit (.bool (a1)))), (2, .c (.lit (.int .u32 (a2))))], ⟨[(6, [.lit (.int .i64 (0)), .lit (.int .i64 (0)), .lit (.int .i64 (0)), .lit (.int .i64 (0)), .lit (.int .i64 (0))]), (3, [.lit (.int .i64 (a0.State)), .lit (.int .i64 (a0.Busy)), .lit (.int .i64 (a0.Exponent)), .lit (.int .i64 (a0.Clear)), .lit (.int .i64 (a0.Wait))])], []⟩⟩ (by kernel_rfl) ?_
          refine TL_grow (.c (.lit (.bool (false)))) (by kernel_rfl) (by kernel_rfl) (grow_bool (e := (a0.State == 2)) (by kernel_rfl) hb7) ?_
          refine TL_end ⟨[(23, .c (.lit (.bool (false)))), (30, .c (.lit (.bool (false)))), (29, .tup []), (28, .tup []), (27, .c (.lit (.bool (false)))), (26, .c (.lit (.bool (false)))), (25, .c (.lit (.int .i64 (a0.State)))), (24, .c (.box 3 0)), (11, .c (.lit (.bool ((a0.State == 1))))), (6, .c (.box 6 0)), (3, .c (.box 3 0)), (1, .c (.lit (.bool (a1)))), (2, .c (.lit (.int .u32 (a2))))], ⟨[(6, [.lit (.int .i64 (0)), .lit (.int .i64 (0)), .lit (.int .i64 (0)), .lit (.int .i64 (0)), .lit (.int .i64 (0))]), (3, [.lit (.int .i64 (a0.State)), .lit (.int .i64 (a0.Busy)), .lit (.int .i64 (a0.Exponent)), .lit (.int .i64 (a0.Clear)), .lit (.int .i64 (a0.Wait))])], []⟩⟩ (by kernel_rfl) ?_
          refine T_keep [23, 6, 3, 2] [6, 3] [] ?_
          refine T_condF (by kernel_rfl) ?_
          refine T_seq ?_
          refine T_region ?_
          refine TL_runs 2 ⟨[(41, .c (.lit (.int .i64 (a0.State)))), (40, .c (.box 3 0)), (23, .c (.lit (.bool (false)))), (6, .c (.box 6 0)), (3, .c (.box 3 0)), (2, .c (.lit (.int .u32 (a2))))], ⟨[(6, [.lit (.int .i64 (0)), .lit (.int .i64 (0)), .lit (.int .i64 (0)), .lit (.int .i64 (0)), .lit (.int .i64 (0))]), (3, [.lit (.int .i64 (a0.State)), .lit (.int .i64 (a0.Busy)), .lit (.int .i64 (a0.Exponent)), .lit (.int .i64 (a0.Clear)), .lit (.int .i64 (a0.Wait))])], []⟩⟩ (by kernel_rfl) ?_
          refine TL_grow (.c (.lit (.bool (false)))) (by kernel_rfl) (by kernel_rfl) (grow_bool (e := (a0.State == 2)) (by kernel_rfl) hb7) ?_
          refine TL_end ⟨[(39, .c (.lit (.bool (false)))), (42, .c (.lit (.bool (false)))), (41, .c (.lit (.int .i64 (a0.State)))), (40, .c (.box 3 0)), (23, .c (.lit (.bool (false)))), (6, .c (.box 6 0)), (3, .c (.box 3 0)), (2, .c (.lit (.int .u32 (a2))))], ⟨[(6, [.lit (.int .i64 (0)), .lit (.int .i64 (0)), .lit (.int .i64 (0)), .lit (.int .i64 (0)), .lit (.int .i64 (0))]), (3, [.lit (.int .i64 (a0.State)), .lit (.int .i64 (a0.Busy)), .lit (.int .i64 (a0.Exponent)), .lit (.int .i64 (a0.Clear)), .lit (.int .i64 (a0.Wait))])], []⟩⟩ (by kernel_rfl) ?_
          refine T_keep [39, 6, 3, 2] [6, 3] [] ?_
          refine T_condF (by kernel_rfl) ?_
          refine T_skip ?_
          refine blockQ_normal ?_
          exact ⟨(a0.State, a0.Busy, a0.Exponent, a0.Clear, a0.Wait), h, by kernel_rfl⟩
  · subst hb2
    refine T_condT (by kernel_rfl) ?_
    refine T_seq ?_
    refine T_runs ⟨[(10, .agg [.lit (.int .i64 (0)), .lit (.int .i64 (0)), .lit (.int .i64 (0)), .lit (.int .i64 (0)), .lit (.int .i64 (0))]), (9, .c (.lit (.bool (true)))), (6, .c (.box 6 0)), (3, .c (.box 3 0)), (1, .c (.lit (.bool (a1)))), (2, .c (.lit (.int .u32 (a2))))], ⟨[(6, [.lit (.int .i64 (0)), .lit (.int .i64 (0)), .lit (.int .i64 (0)), .lit (.int .i64 (0)), .lit (.int .i64 (0))]), (3, [.lit (.int .i64 (a0.State)), .lit (.int .i64 (a0.Busy)), .lit (.int .i64 (a0.Exponent)), .lit (.int .i64 (a0.Clear)), .lit (.int .i64 (a0.Wait))])], []⟩⟩ (by kernel_rfl) ?_
    refine T_keep [6] [6] [] ?_
    refine T_ret ?_
    refine thenQ_ret ?_
    obtain rfl := Option.some.inj h
    exact ⟨[(true, [.lit (.int .i64 (0)), .lit (.int .i64 (0)), .lit (.int .i64 (0)), .lit (.int .i64 (0)), .lit (.int .i64 (0))])], by kernel_rfl, by kernel_rfl⟩

/-- (*multihop/multihopmade.Tape).Backoff -/
noncomputable def F_made_Tape_Backoff_l1 (v3 : Int × S_multihopmade_Tape) (s5 : Int × S_Backoff) : Option ((Int × S_Backoff) ⊕ (S_Backoff)) :=
  bif (decide (s5.1 > 0)) then
    bif (v3.1 == 0) then
      (F_ref08_Step s5.2 true (IntKind.wrap .u32 s5.1)).bind fun v9 =>
      some (Sum.inl (IntKind.wrap .i64 (s5.1 - 1), v9))
    else
      bif (v3.1 == 1) then
        (F_ref08_Step s5.2 ((Int.tmod s5.1 3) == 0) (IntKind.wrap .u32 s5.1)).bind fun v11 =>
        some (Sum.inl (IntKind.wrap .i64 (s5.1 - 1), v11))
      else
        (F_ref08_Step s5.2 false (IntKind.wrap .u32 s5.1)).bind fun v12 =>
        some (Sum.inl (IntKind.wrap .i64 (s5.1 - 1), v12))
  else
    some (Sum.inr s5.2)
noncomputable def F_made_Tape_Backoff (a0 : S_multihopmade_Tape) : Option (S_Backoff × S_multihopmade_Tape) :=
  (F_made_Tape_Next a0 1000).bind fun v1 =>
  (F_ref08_Begin (IntKind.wrap .u32 v1.1)).bind fun v2 =>
  (F_made_Tape_Next v1.2 3).bind fun v3 =>
  (F_made_Tape_Next v3.2 60).bind fun v4 =>
  (loopO (F_made_Tape_Backoff_l1 v3) (v4.1, v2)).bind fun b6 =>
  some ((b6, v4.2))
set_option maxRecDepth 100000 in
theorem ok_made_Tape_Backoff (a0 : S_multihopmade_Tape) (r : S_Backoff × S_multihopmade_Tape) (h : F_made_Tape_Backoff a0 = some r) : Holds1 Try.prog 10 [.c (.box 1000000 0)] (S_multihopmade_Tape.cs a0) (.agg (S_Backoff.cs r.1)) (S_multihopmade_Tape.cs r.2) := by
  unfold F_made_Tape_Backoff at h
  refine holds1_of [[0, 0, 0, 0, 0]] [2, 0] 34 Try.func10 rfl rfl rfl (by kernel_rfl) (by kernel_rfl) (fun K => ?_)
  refine T_seq ?_
  refine T_runs ⟨[(2, .c (.box 2 0)), (0, .c (.box 1000000 0))], ⟨[(2, [.lit (.int .i64 (0)), .lit (.int .i64 (0)), .lit (.int .i64 (0)), .lit (.int .i64 (0)), .lit (.int .i64 (0))]), (1000000, [.slc 1 0 (List.map (ecI .i64) (a0.l)), .lit (.int .i64 (a0.at_))])], []⟩⟩ (by kernel_rfl) ?_
  refine T_seq ?_
  replace h := bindO h
  obtain ⟨v1, hv1, h⟩ := h
  replace h := bindO h
  obtain ⟨v2, hv2, h⟩ := h
  refine T_region ?_
  refine TL_runs 1 ⟨[(6, .c (.box 1000000 0)), (2, .c (.box 2 0)), (0, .c (.box 1000000 0))], ⟨[(2, [.lit (.int .i64 (0)), .lit (.int .i64 (0)), .lit (.int .i64 (0)), .lit (.int .i64 (0)), .lit (.int .i64 (0))]), (1000000, [.slc 1 0 (List.map (ecI .i64) (a0.l)), .lit (.int .i64 (a0.at_))])], []⟩⟩ (by kernel_rfl) ?_
  refine TL_call1 23 Try.f23 [[0], [0]] [.c (.box 1000000 0), .c (.lit (.int .i64 (1000)))] 1000000 0 [.slc 1 0 (List.map (ecI .i64) (a0.l)), .lit (.int .i64 (a0.at_))] (S_multihopmade_Tape.cs a0) (S_multihopmade_Tape.cs v1.2) (.c (.lit (.int .i64 (v1.1)))) (by kernel_rfl) (by kernel_rfl) rfl (by kernel_rfl) Try.func23 (by kernel_rfl) (by kernel_rfl) (by kernel_rfl) (by kernel_rfl) (by kernel_rfl) (by kernel_rfl) (by kernel_rfl) (by kernel_rfl) (by kernel_rfl) (by kernel_rfl) (by kernel_rfl) (ok_made_Tape_Next a0 1000 v1 hv1) ?_
  refine TL_runs 1 ⟨[(8, .c (.lit (.int .u32 (IntKind.wrap .u32 v1.1)))), (7, .c (.lit (.int .i64 (v1.1)))), (6, .c (.box 1000000 0)), (2, .c (.box 2 0)), (0, .c (.box 1000000 0))], ⟨[(1000000, [.slc 1 0 (List.map (ecI .i64) (v1.2.l)), .lit (.int .i64 (v1.2.at_))]), (2, [.lit (.int .i64 (0)), .lit (.int .i64 (0)), .lit (.int .i64 (0)), .lit (.int .i64 (0)), .lit (.int .i64 (0))])], []⟩⟩ (by kernel_rfl) ?_
  refine TL_grow (.agg [.lit (.int .i64 (v2.State)), .lit (.int .i64 (v2.Busy)), .lit (.int .i64 (v2.Exponent)), .lit (.int .i64 (v2.Clear)), .lit (.int .i64 (v2.Wait))]) (by kernel_rfl) (by kernel_rfl) (grow_call 20 Try.f20 [[0]] [.c (.lit (.int .u32 ((IntKind.wrap .u32 v1.1))))] rfl (by kernel_rfl) Try.func20 (by kernel_rfl) (by kernel_rfl) (by kernel_rfl) (ok_ref08_Begin (IntKind.wrap .u32 v1.1) v2 hv2)) ?_
  refine TL_end ⟨[(3, .c (.box 3 0)), (9, .agg [.lit (.int .i64 (v2.State)), .lit (.int .i64 (v2.Busy)), .lit (.int .i64 (v2.Exponent)), .lit (.int .i64 (v2.Clear)), .lit (.int .i64 (v2.Wait))]), (8, .c (.lit (.int .u32 (IntKind.wrap .u32 v1.1)))), (7, .c (.lit (.int .i64 (v1.1)))), (6, .c (.box 1000000 0)), (2, .c (.box 2 0)), (0, .c (.box 1000000 0))], ⟨[(3, [.lit (.int .i64 (v2.State)), .lit (.int .i64 (v2.Busy)), .lit (.int .i64 (v2.Exponent)), .lit (.int .i64 (v2.Clear)), .lit (.int .i64 (v2.Wait))]), (1000000, [.slc 1 0 (List.map (ecI .i64) (v1.2.l)), .lit (.int .i64 (v1.2.at_))]), (2, [.lit (.int .i64 (0)), .lit (.int .i64 (0)), .lit (.int .i64 (0)), .lit (.int .i64 (0)), .lit (.int .i64 (0))])], []⟩⟩ (by kernel_rfl) ?_
  refine T_keep [3, 2, 0] [3, 1000000, 2] [] ?_
  refine T_seq ?_
  replace h := bindO h
  obtain ⟨v3, hv3, h⟩ := h
  refine T_region ?_
  refine TL_runs 1 ⟨[(10, .c (.box 1000000 0)), (3, .c (.box 3 0)), (2, .c (.box 2 0)), (0, .c (.box 1000000 0))], ⟨[(3, [.lit (.int .i64 (v2.State)), .lit (.int .i64 (v2.Busy)), .lit (.int .i64 (v2.Exponent)), .lit (.int .i64 (v2.Clear)), .lit (.int .i64 (v2.Wait))]), (1000000, [.slc 1 0 (List.map (ecI .i64) (v1.2.l)), .lit (.int .i64 (v1.2.at_))]), (2, [.lit (.int .i64 (0)), .lit (.int .i64 (0)), .lit (.int .i64 (0)), .lit (.int .i64 (0)), .lit (.int .i64 (0))])], []⟩⟩ (by kernel_rfl) ?_
  refine TL_call1 23 Try.f23 [[0], [0]] [.c (.box 1000000 0), .c (.lit (.int .i64 (3)))] 1000000 0 [.slc 1 0 (List.map (ecI .i64) (v1.2.l)), .lit (.int .i64 (v1.2.at_))] (S_multihopmade_Tape.cs v1.2) (S_multihopmade_Tape.cs v3.2) (.c (.lit (.int .i64 (v3.1)))) (by kernel_rfl) (by kernel_rfl) rfl (by kernel_rfl) Try.func23 (by kernel_rfl) (by kernel_rfl) (by kernel_rfl) (by kernel_rfl) (by kernel_rfl) (by kernel_rfl) (by kernel_rfl) (by kernel_rfl) (by kernel_rfl) (by kernel_rfl) (by kernel_rfl) (ok_made_Tape_Next v1.2 3 v3 hv3) ?_
  refine TL_end ⟨[(4, .c (.lit (.int .i64 (v3.1)))), (11, .c (.lit (.int .i64 (v3.1)))), (10, .c (.box 1000000 0)), (3, .c (.box 3 0)), (2, .c (.box 2 0)), (0, .c (.box 1000000 0))], ⟨[(1000000, [.slc 1 0 (List.map (ecI .i64) (v3.2.l)), .lit (.int .i64 (v3.2.at_))]), (3, [.lit (.int .i64 (v2.State)), .lit (.int .i64 (v2.Busy)), .lit (.int .i64 (v2.Exponent)), .lit (.int .i64 (v2.Clear)), .lit (.int .i64 (v2.Wait))]), (2, [.lit (.int .i64 (0)), .lit (.int .i64 (0)), .lit (.int .i64 (0)), .lit (.int .i64 (0)), .lit (.int .i64 (0))])], []⟩⟩ (by kernel_rfl) ?_
  refine T_seq ?_
  refine T_seq ?_
  replace h := bindO h
  obtain ⟨v4, hv4, h⟩ := h
  refine T_region ?_
  refine TL_runs 1 ⟨[(12, .c (.box 1000000 0)), (4, .c (.lit (.int .i64 (v3.1)))), (11, .c (.lit (.int .i64 (v3.1)))), (10, .c (.box 1000000 0)), (3, .c (.box 3 0)), (2, .c (.box 2 0)), (0, .c (.box 1000000 0))], ⟨[(1000000, [.slc 1 0 (List.map (ecI .i64) (v3.2.l)), .lit (.int .i64 (v3.2.at_))]), (3, [.lit (.int .i64 (v2.State)), .lit (.int .i64 (v2.Busy)), .lit (.int .i64 (v2.Exponent)), .lit (.int .i64 (v2.Clear)), .lit (.int .i64 (v2.Wait))]), (2, [.lit (.int .i64 (0)), .lit (.int .i64 (0)), .lit (.int .i64 (0)), .lit (.int .i64 (0)), .lit (.int .i64 (0))])], []⟩⟩ (by kernel_rfl) ?_
  refine TL_call1 23 Try.f23 [[0], [0]] [.c (.box 1000000 0), .c (.lit (.int .i64 (60)))] 1000000 0 [.slc 1 0 (List.map (ecI .i64) (v3.2.l)), .lit (.int .i64 (v3.2.at_))] (S_multihopmade_Tape.cs v3.2) (S_multihopmade_Tape.cs v4.2) (.c (.lit (.int .i64 (v4.1)))) (by kernel_rfl) (by kernel_rfl) rfl (by kernel_rfl) Try.func23 (by kernel_rfl) (by kernel_rfl) (by kernel_rfl) (by kernel_rfl) (by kernel_rfl) (by kernel_rfl) (by kernel_rfl) (by kernel_rfl) (by kernel_rfl) (by kernel_rfl) (by kernel_rfl) (ok_made_Tape_Next v3.2 60 v4 hv4) ?_
  refine TL_end ⟨[(5, .c (.lit (.int .i64 (v4.1)))), (13, .c (.lit (.int .i64 (v4.1)))), (12, .c (.box 1000000 0)), (4, .c (.lit (.int .i64 (v3.1)))), (11, .c (.lit (.int .i64 (v3.1)))), (10, .c (.box 1000000 0)), (3, .c (.box 3 0)), (2, .c (.box 2 0)), (0, .c (.box 1000000 0))], ⟨[(1000000, [.slc 1 0 (List.map (ecI .i64) (v4.2.l)), .lit (.int .i64 (v4.2.at_))]), (3, [.lit (.int .i64 (v2.State)), .lit (.int .i64 (v2.Busy)), .lit (.int .i64 (v2.Exponent)), .lit (.int .i64 (v2.Clear)), .lit (.int .i64 (v2.Wait))]), (2, [.lit (.int .i64 (0)), .lit (.int .i64 (0)), .lit (.int .i64 (0)), .lit (.int .i64 (0)), .lit (.int .i64 (0))])], []⟩⟩ (by kernel_rfl) ?_
  refine T_keep [5, 4, 3, 2] [1000000, 3, 2] [] ?_
  refine T_block ?_
  refine T_keepS [2, 3, 4, 5] [2, 3, 1000000] ?_
  refine T_sub (by kernel_rfl : _ = (fun (s5 : Int × S_Backoff) => ⟨[(2, .c (.box 2 0)), (3, .c (.box 3 0)), (4, .c (.lit (.int .i64 (v3.1)))), (5, .c (.lit (.int .i64 (s5.1))))], ⟨[(2, [.lit (.int .i64 (0)), .lit (.int .i64 (0)), .lit (.int .i64 (0)), .lit (.int .i64 (0)), .lit (.int .i64 (0))]), (3, [.lit (.int .i64 (s5.2.State)), .lit (.int .i64 (s5.2.Busy)), .lit (.int .i64 (s5.2.Exponent)), .lit (.int .i64 (s5.2.Clear)), .lit (.int .i64 (s5.2.Wait))]), (1000000, [.slc 1 0 (List.map (ecI .i64) (v4.2.l)), .lit (.int .i64 (v4.2.at_))])], []⟩⟩) (v4.1, v2)) ?_
  replace h := bindO h
  obtain ⟨b6, hl14, h⟩ := h
  refine T_loopS [2, 3, 4, 5] [2, 3, 1000000] (F_made_Tape_Backoff_l1 v3) (fun (s5 : Int × S_Backoff) => ⟨[(2, .c (.box 2 0)), (3, .c (.box 3 0)), (4, .c (.lit (.int .i64 (v3.1)))), (5, .c (.lit (.int .i64 (s5.1))))], ⟨[(2, [.lit (.int .i64 (0)), .lit (.int .i64 (0)), .lit (.int .i64 (0)), .lit (.int .i64 (0)), .lit (.int .i64 (0))]), (3, [.lit (.int .i64 (s5.2.State)), .lit (.int .i64 (s5.2.Busy)), .lit (.int .i64 (s5.2.Exponent)), .lit (.int .i64 (s5.2.Clear)), .lit (.int .i64 (s5.2.Wait))]), (1000000, [.slc 1 0 (List.map (ecI .i64) (v4.2.l)), .lit (.int .i64 (v4.2.at_))])], []⟩⟩) (fun b6 e st => e = .exit 0 ∧ St.keepS st [2, 3] [2, 3, 1000000] = ⟨[(2, .c (.box 2 0)), (3, .c (.box 3 0))], ⟨[(2, [.lit (.int .i64 (0)), .lit (.int .i64 (0)), .lit (.int .i64 (0)), .lit (.int .i64 (0)), .lit (.int .i64 (0))]), (3, [.lit (.int .i64 (b6.State)), .lit (.int .i64 (b6.Busy)), .lit (.int .i64 (b6.Exponent)), .lit (.int .i64 (b6.Clear)), .lit (.int .i64 (b6.Wait))]), (1000000, [.slc 1 0 (List.map (ecI .i64) (v4.2.l)), .lit (.int .i64 (v4.2.at_))])], []⟩⟩) (v4.1, v2) _ hl14 ?_ ?_
  · intro s5 x h
    unfold F_made_Tape_Backoff_l1 at h
    refine T_seq ?_
    refine T_seq ?_
    refine T_runs ⟨[(15, .c (.lit (.bool ((decide (s5.1 > 0)))))), (14, .c (.lit (.int .i64 (s5.1)))), (2, .c (.box 2 0)), (3, .c (.box 3 0)), (4, .c (.lit (.int .i64 (v3.1)))), (5, .c (.lit (.int .i64 (s5.1))))], ⟨[(2, [.lit (.int .i64 (0)), .lit (.int .i64 (0)), .lit (.int .i64 (0)), .lit (.int .i64 (0)), .lit (.int .i64 (0))]), (3, [.lit (.int .i64 (s5.2.State)), .lit (.int .i64 (s5.2.Busy)), .lit (.int .i64 (s5.2.Exponent)), .lit (.int .i64 (s5.2.Clear)), .lit (.int .i64 (s5.2.Wait))]), (1000000, [.slc 1 0 (List.map (ecI .i64) (v4.2.l)), .lit (.int .i64 (v4.2.at_))])], []⟩⟩ (by kernel_rfl) ?_
    replace h := condO h
    rcases h with ⟨hb7, h⟩ | ⟨hb7, h⟩
    · refine T_condT' (e := (decide (s5.1 > 0))) (by kernel_rfl) hb7 ?_
      refine T_skip ?_
      refine T_seq ?_
      refine T_block ?_
      replace h := condO h
      rcases h with ⟨hb8, h⟩ | ⟨hb8, h⟩
      · replace h := bindO h
        obtain ⟨v9, hv9, h⟩ := h
        refine T_region ?_
        refine TL_runs 2 ⟨[(19, .c (.lit (.int .i64 (v3.1)))), (18, .agg [.lit (.int .i64 (s5.2.State)), .lit (.int .i64 (s5.2.Busy)), .lit (.int .i64 (s5.2.Exponent)), .lit (.int .i64 (s5.2.Clear)), .lit (.int .i64 (s5.2.Wait))]), (15, .c (.lit (.bool ((decide (s5.1 > 0)))))), (14, .c (.lit (.int .i64 (s5.1)))), (2, .c (.box 2 0)), (3, .c (.box 3 0)), (4, .c (.lit (.int .i64 (v3.1)))), (5, .c (.lit (.int .i64 (s5.1))))], ⟨[(2, [.lit (.int .i64 (0)), .lit (.int .i64 (0)), .lit (.int .i64 (0)), .lit (.int .i64 (0)), .lit (.int .i64 (0))]), (3, [.lit (.int .i64 (s5.2.State)), .lit (.int .i64 (s5.2.Busy)), .lit (.int .i64 (s5.2.Exponent)), .lit (.int .i64 (s5.2.Clear)), .lit (.int .i64 (s5.2.Wait))]), (1000000, [.slc 1 0 (List.map (ecI .i64) (v4.2.l)), .lit (.int .i64 (v4.2.at_))])], []⟩⟩ (by kernel_rfl) ?_
        refine TL_grow (.c (.lit (.bool (true)))) (by kernel_rfl) (by kernel_rfl) (grow_bool (e := (v3.1 == 0)) (by kernel_rfl) hb8) ?_
        refine TL_runs 11 ⟨[(31, .c (.lit (.int .u32 (IntKind.wrap .u32 s5.1)))), (30, .c (.lit (.int .i64 (s5.1)))), (29, .c (.lit (.bool (true)))), (28, .tup []), (27, .tup []), (26, .tup []), (25, .tup []), (24, .tup []), (23, .tup []), (22, .tup []), (21, .c (.lit (.bool (true)))), (20, .c (.lit (.bool (true)))), (19, .c (.lit (.int .i64 (v3.1)))), (18, .agg [.lit (.int .i64 (s5.2.State)), .lit (.int .i64 (s5.2.Busy)), .lit (.int .i64 (s5.2.Exponent)), .lit (.int .i64 (s5.2.Clear)), .lit (.int .i64 (s5.2.Wait))]), (15, .c (.lit (.bool ((decide (s5.1 > 0)))))), (14, .c (.lit (.int .i64 (s5.1)))), (2, .c (.box 2 0)), (3, .c (.box 3 0)), (4, .c (.lit (.int .i64 (v3.1)))), (5, .c (.lit (.int .i64 (s5.1))))], ⟨[(2, [.lit (.int .i64 (0)), .lit (.int .i64 (0)), .lit (.int .i64 (0)), .lit (.int .i64 (0)), .lit (.int .i64 (0))]), (3, [.lit (.int .i64 (s5.2.State)), .lit (.int .i64 (s5.2.Busy)), .lit (.int .i64 (s5.2.Exponent)), .lit (.int .i64 (s5.2.Clear)), .lit (.int .i64 (s5.2.Wait))]), (1000000, [.slc 1 0 (List.map (ecI .i64) (v4.2.l)), .lit (.int .i64 (v4.2.at_))])], []⟩⟩ (by kernel_rfl) ?_
        refine TL_grow (.agg [.lit (.int .i64 (v9.State)), .lit (.int .i64 (v9.Busy)), .lit (.int .i64 (v9.Exponent)), .lit (.int .i64 (v9.Clear)), .lit (.int .i64 (v9.Wait))]) (by kernel_rfl) (by kernel_rfl) (grow_call 17 Try.f17 [[0, 0, 0, 0, 0], [0], [0]] [.agg (S_Backoff.cs s5.2), .c (.lit (.bool (true))), .c (.lit (.int .u32 ((IntKind.wrap .u32 s5.1))))] rfl (by kernel_rfl) Try.func17 (by kernel_rfl) (by kernel_rfl) (by kernel_rfl) (ok_ref08_Step s5.2 true (IntKind.wrap .u32 s5.1) v9 hv9)) ?_
        refine TL_end ⟨[(32, .agg [.lit (.int .i64 (v9.State)), .lit (.int .i64 (v9.Busy)), .lit (.int .i64 (v9.Exponent)), .lit (.int .i64 (v9.Clear)), .lit (.int .i64 (v9.Wait))]), (31, .c (.lit (.int .u32 (IntKind.wrap .u32 s5.1)))), (30, .c (.lit (.int .i64 (s5.1)))), (29, .c (.lit (.bool (true)))), (28, .tup []), (27, .tup []), (26, .tup []), (25, .tup []), (24, .tup []), (23, .tup []), (22, .tup []), (21, .c (.lit (.bool (true)))), (20, .c (.lit (.bool (true)))), (19, .c (.lit (.int .i64 (v3.1)))), (18, .agg [.lit (.int .i64 (s5.2.State)), .lit (.int .i64 (s5.2.Busy)), .lit (.int .i64 (s5.2.Exponent)), .lit (.int .i64 (s5.2.Clear)), .lit (.int .i64 (s5.2.Wait))]), (15, .c (.lit (.bool ((decide (s5.1 > 0)))))), (14, .c (.lit (.int .i64 (s5.1)))), (2, .c (.box 2 0)), (3, .c (.box 3 0)), (4, .c (.lit (.int .i64 (v3.1)))), (5, .c (.lit (.int .i64 (s5.1))))], ⟨[(3, [.lit (.int .i64 (v9.State)), .lit (.int .i64 (v9.Busy)), .lit (.int .i64 (v9.Exponent)), .lit (.int .i64 (v9.Clear)), .lit (.int .i64 (v9.Wait))]), (2, [.lit (.int .i64 (0)), .lit (.int .i64 (0)), .lit (.int .i64 (0)), .lit (.int .i64 (0)), .lit (.int .i64 (0))]), (1000000, [.slc 1 0 (List.map (ecI .i64) (v4.2.l)), .lit (.int .i64 (v4.2.at_))])], []⟩⟩ (by kernel_rfl) ?_
        refine blockQ_normal ?_
        refine T_keep [2, 3, 4, 5] [3, 2, 1000000] [] ?_
        refine T_runs ⟨[(5, .c (.lit (.int .i64 (IntKind.wrap .i64 (s5.1 - 1))))), (17, .c (.lit (.int .i64 (IntKind.wrap .i64 (s5.1 - 1))))), (16, .c (.lit (.int .i64 (s5.1)))), (2, .c (.box 2 0)), (3, .c (.box 3 0)), (4, .c (.lit (.int .i64 (v3.1))))], ⟨[(3, [.lit (.int .i64 (v9.State)), .lit (.int .i64 (v9.Busy)), .lit (.int .i64 (v9.Exponent)), .lit (.int .i64 (v9.Clear)), .lit (.int .i64 (v9.Wait))]), (2, [.lit (.int .i64 (0)), .lit (.int .i64 (0)), .lit (.int .i64 (0)), .lit (.int .i64 (0)), .lit (.int .i64 (0))]), (1000000, [.slc 1 0 (List.map (ecI .i64) (v4.2.l)), .lit (.int .i64 (v4.2.at_))])], []⟩⟩ (by kernel_rfl) ?_
        obtain rfl := Option.some.inj h
        exact ⟨_, rfl, by kernel_rfl⟩
      · replace h := condO h
        rcases h with ⟨hb10, h⟩ | ⟨hb10, h⟩
        · replace h := bindO h
          obtain ⟨v11, hv11, h⟩ := h
          refine T_region ?_
          refine TL_runs 2 ⟨[(19, .c (.lit (.int .i64 (v3.1)))), (18, .agg [.lit (.int .i64 (s5.2.State)), .lit (.int .i64 (s5.2.Busy)), .lit (.int .i64 (s5.2.Exponent)), .lit (.int .i64 (s5.2.Clear)), .lit (.int .i64 (s5.2.Wait))]), (15, .c (.lit (.bool ((decide (s5.1 > 0)))))), (14, .c (.lit (.int .i64 (s5.1)))), (2, .c (.box 2 0)), (3, .c (.box 3 0)), (4, .c (.lit (.int .i64 (v3.1)))), (5, .c (.lit (.int .i64 (s5.1))))], ⟨[(2, [.lit (.int .i64 (0)), .lit (.int .i64 (0)), .lit (.int .i64 (0)), .lit (.int .i64 (0)), .lit (.int .i64 (0))]), (3, [.lit (.int .i64 (s5.2.State)), .lit (.int .i64 (s5.2.Busy)), .lit (.int .i64 (s5.2.Exponent)), .lit (.int .i64 (s5.2.Clear)), .lit (.int .i64 (s5.2.Wait))]), (1000000, [.slc 1 0 (List.map (ecI .i64) (v4.2.l)), .lit (.int .i64 (v4.2.at_))])], []⟩⟩ (by kernel_rfl) ?_
          refine TL_grow (.c (.lit (.bool (false)))) (by kernel_rfl) (by kernel_rfl) (grow_bool (e := (v3.1 == 0)) (by kernel_rfl) hb8) ?_
          refine TL_runs 2 ⟨[(22, .c (.lit (.int .i64 (v3.1)))), (21, .c (.lit (.bool (false)))), (20, .c (.lit (.bool (false)))), (19, .c (.lit (.int .i64 (v3.1)))), (18, .agg [.lit (.int .i64 (s5.2.State)), .lit (.int .i64 (s5.2.Busy)), .lit (.int .i64 (s5.2.Exponent)), .lit (.int .i64 (s5.2.Clear)), .lit (.int .i64 (s5.2.Wait))]), (15, .c (.lit (.bool ((decide (s5.1 > 0)))))), (14, .c (.lit (.int .i64 (s5.1)))), (2, .c (.box 2 0)), (3, .c (.box 3 0)), (4, .c (.lit (.int .i64 (v3.1)))), (5, .c (.lit (.int .i64 (s5.1))))], ⟨[(2, [.lit (.int .i64 (0)), .lit (.int .i64 (0)), .lit (.int .i64 (0)), .lit (.int .i64 (0)), .lit (.int .i64 (0))]), (3, [.lit (.int .i64 (s5.2.State)), .lit (.int .i64 (s5.2.Busy)), .lit (.int .i64 (s5.2.Exponent)), .lit (.int .i64 (s5.2.Clear)), .lit (.int .i64 (s5.2.Wait))]), (1000000, [.slc 1 0 (List.map (ecI .i64) (v4.2.l)), .lit (.int .i64 (v4.2.at_))])], []⟩⟩ (by kernel_rfl) ?_
          refine TL_grow (.c (.lit (.bool (true)))) (by kernel_rfl) (by kernel_rfl) (grow_bool (e := (v3.1 == 1)) (by kernel_rfl) hb10) ?_
          refine TL_runs 8 ⟨[(31, .c (.lit (.int .u32 (IntKind.wrap .u32 s5.1)))), (30, .c (.lit (.int .i64 (s5.1)))), (29, .c (.lit (.bool (((Int.tmod s5.1 3) == 0))))), (28, .c (.lit (.bool (((Int.tmod s5.1 3) == 0))))), (27, .c (.lit (.bool (((Int.tmod s5.1 3) == 0))))), (26, .c (.lit (.int .i64 (Int.tmod s5.1 3)))), (25, .c (.lit (.int .i64 (s5.1)))), (24, .c (.lit (.bool (true)))), (23, .c (.lit (.bool (true)))), (22, .c (.lit (.int .i64 (v3.1)))), (21, .c (.lit (.bool (false)))), (20, .c (.lit (.bool (false)))), (19, .c (.lit (.int .i64 (v3.1)))), (18, .agg [.lit (.int .i64 (s5.2.State)), .lit (.int .i64 (s5.2.Busy)), .lit (.int .i64 (s5.2.Exponent)), .lit (.int .i64 (s5.2.Clear)), .lit (.int .i64 (s5.2.Wait))]), (15, .c (.lit (.bool ((decide (s5.1 > 0)))))), (14, .c (.lit (.int .i64 (s5.1)))), (2, .c (.box 2 0)), (3, .c (.box 3 0)), (4, .c (.lit (.int .i64 (v3.1)))), (5, .c (.lit (.int .i64 (s5.1))))], ⟨[(2, [.lit (.int .i64 (0)), .lit (.int .i64 (0)), .lit (.int .i64 (0)), .lit (.int .i64 (0)), .lit (.int .i64 (0))]), (3, [.lit (.int .i64 (s5.2.State)), .lit (.int .i64 (s5.2.Busy)), .lit (.int .i64 (s5.2.Exponent)), .lit (.int .i64 (s5.2.Clear)), .lit (.int .i64 (s5.2.Wait))]), (1000000, [.slc 1 0 (List.map (ecI .i64) (v4.2.l)), .lit (.int .i64 (v4.2.at_))])], []⟩⟩ (by kernel_rfl) ?_
          refine TL_grow (.agg [.lit (.int .i64 (v11.State)), .lit (.int .i64 (v11.Busy)), .lit (.int .i64 (v11.Exponent)), .lit (.int .i64 (v11.Clear)), .lit (.int .i64 (v11.Wait))]) (by kernel_rfl) (by kernel_rfl) (grow_call 17 Try.f17 [[0, 0, 0, 0, 0], [0], [0]] [.agg (S_Backoff.cs s5.2), .c (.lit (.bool (((Int.tmod s5.1 3) == 0)))), .c (.lit (.int .u32 ((IntKind.wrap .u32 s5.1))))] rfl (by kernel_rfl) Try.func17 (by kernel_rfl) (by kernel_rfl) (by kernel_rfl) (ok_ref08_Step s5.2 ((Int.tmod s5.1 3) == 0) (IntKind.wrap .u32 s5.1) v11 hv11)) ?_
          refine TL_end ⟨[(32, .agg [.lit (.int .i64 (v11.State)), .lit (.int .i64 (v11.Busy)), .lit (.int .i64 (v11.Exponent)), .lit (.int .i64 (v11.Clear)), .lit (.int .i64 (v11.Wait))]), (31, .c (.lit (.int .u32 (IntKind.wrap .u32 s5.1)))), (30, .c (.lit (.int .i64 (s5.1)))), (29, .c (.lit (.bool (((Int.tmod s5.1 3) == 0))))), (28, .c (.lit (.bool (((Int.tmod s5.1 3) == 0))))), (27, .c (.lit (.bool (((Int.tmod s5.1 3) == 0))))), (26, .c (.lit (.int .i64 (Int.tmod s5.1 3)))), (25, .c (.lit (.int .i64 (s5.1)))), (24, .c (.lit (.bool (true)))), (23, .c (.lit (.bool (true)))), (22, .c (.lit (.int .i64 (v3.1)))), (21, .c (.lit (.bool (false)))), (20, .c (.lit (.bool (false)))), (19, .c (.lit (.int .i64 (v3.1)))), (18, .agg [.lit (.int .i64 (s5.2.State)), .lit (.int .i64 (s5.2.Busy)), .lit (.int .i64 (s5.2.Exponent)), .lit (.int .i64 (s5.2.Clear)), .lit (.int .i64 (s5.2.Wait))]), (15, .c (.lit (.bool ((decide (s5.1 > 0)))))), (14, .c (.lit (.int .i64 (s5.1)))), (2, .c (.box 2 0)), (3, .c (.box 3 0)), (4, .c (.lit (.int .i64 (v3.1)))), (5, .c (.lit (.int .i64 (s5.1))))], ⟨[(3, [.lit (.int .i64 (v11.State)), .lit (.int .i64 (v11.Busy)), .lit (.int .i64 (v11.Exponent)), .lit (.int .i64 (v11.Clear)), .lit (.int .i64 (v11.Wait))]), (2, [.lit (.int .i64 (0)), .lit (.int .i64 (0)), .lit (.int .i64 (0)), .lit (.int .i64 (0)), .lit (.int .i64 (0))]), (1000000, [.slc 1 0 (List.map (ecI .i64) (v4.2.l)), .lit (.int .i64 (v4.2.at_))])], []⟩⟩ (by kernel_rfl) ?_
          refine blockQ_normal ?_
          refine T_keep [2, 3, 4, 5] [3, 2, 1000000] [] ?_
          refine T_runs ⟨[(5, .c (.lit (.int .i64 (IntKind.wrap .i64 (s5.1 - 1))))), (17, .c (.lit (.int .i64 (IntKind.wrap .i64 (s5.1 - 1))))), (16, .c (.lit (.int .i64 (s5.1)))), (2, .c (.box 2 0)), (3, .c (.box 3 0)), (4, .c (.lit (.int .i64 (v3.1))))], ⟨[(3, [.lit (.int .i64 (v11.State)), .lit (.int .i64 (v11.Busy)), .lit (.int .i64 (v11.Exponent)), .lit (.int .i64 (v11.Clear)), .lit (.int .i64 (v11.Wait))]), (2, [.lit (.int .i64 (0)), .lit (.int .i64 (0)), .lit (.int .i64 (0)), .lit (.int .i64 (0)), .lit (.int .i64 (0))]), (1000000, [.slc 1 0 (List.map (ecI .i64) (v4.2.l)), .lit (.int .i64 (v4.2.at_))])], []⟩⟩ (by kernel_rfl) ?_
          obtain rfl := Option.some.inj h
          exact ⟨_, rfl, by kernel_rfl⟩
        · replace h := bindO h
          obtain ⟨v12, hv12, h⟩ := h
          refine T_region ?_
          refine TL_runs 2 ⟨[(19, .c (.lit (.int .i64 (v3.1)))), (18, .agg [.lit (.int .i64 (s5.2.State)), .lit (.int .i64 (s5.2.Busy)), .lit (.int .i64 (s5.2.Exponent)), .lit (.int .i64 (s5.2.Clear)), .lit (.int .i64 (s5.2.Wait))]), (15, .c (.lit (.bool ((decide (s5.1 > 0)))))), (14, .c (.lit (.int .i64 (s5.1)))), (2, .c (.box 2 0)), (3, .c (.box 3 0)), (4, .c (.lit (.int .i64 (v3.1)))), (5, .c (.lit (.int .i64 (s5.1))))], ⟨[(2, [.lit (.int .i64 (0)), .lit (.int .i64 (0)), .lit (.int .i64 (0)), .lit (.int .i64 (0)), .lit (.int .i64 (0))]), (3, [.lit (.int .i64 (s5.2.State)), .lit (.int .i64 (s5.2.Busy)), .lit (.int .i64 (s5.2.Exponent)), .lit (.int .i64 (s5.2.Clear)), .lit (.int .i64 (s5.2.Wait))]), (1000000, [.slc 1 0 (List.map (ecI .i64) (v4.2.l)), .lit (.int .i64 (v4.2.at_))])], []⟩⟩ (by kernel_rfl) ?_
          refine TL_grow (.c (.lit (.bool (false)))) (by kernel_rfl) (by kernel_rfl) (grow_bool (e := (v3.1 == 0)) (by kernel_rfl) hb8) ?_
          refine TL_runs 2 ⟨[(22, .c (.lit (.int .i64 (v3.1)))), (21, .c (.lit (.bool (false)))), (20, .c (.lit (.bool (false)))), (19, .c (.lit (.int .i64 (v3.1)))), (18, .agg [.lit (.int .i64 (s5.2.State)), .lit (.int .i64 (s5.2.Busy)), .lit (.int .i64 (s5.2.Exponent)), .lit (.int .i64 (s5.2.Clear)), .lit (.int .i64 (s5.2.Wait))]), (15, .c (.lit (.bool ((decide (s5.1 > 0)))))), (14, .c (.lit (.int .i64 (s5.1)))), (2, .c (.box 2 0)), (3, .c (.box 3 0)), (4, .c (.lit (.int .i64 (v3.1)))), (5, .c (.lit (.int .i64 (s5.1))))], ⟨[(2, [.lit (.int .i64 (0)), .lit (.int .i64 (0)), .lit (.int .i64 (0)), .lit (.int .i64 (0)), .lit (.int .i64 (0))]), (3, [.lit (.int .i64 (s5.2.State)), .lit (.int .i64 (s5.2.Busy)), .lit (.int .i64 (s5.2.Exponent)), .lit (.int .i64 (s5.2.Clear)), .lit (.int .i64 (s5.2.Wait))]), (1000000, [.slc 1 0 (List.map (ecI .i64) (v4.2.l)), .lit (.int .i64 (v4.2.at_))])], []⟩⟩ (by kernel_rfl) ?_
          refine TL_grow (.c (.lit (.bool (false)))) (by kernel_rfl) (by kernel_rfl) (grow_bool (e := (v3.1 == 1)) (by kernel_rfl) hb10) ?_
          refine TL_runs 8 ⟨[(31, .c (.lit (.int .u32 (IntKind.wrap .u32 s5.1)))), (30, .c (.lit (.int .i64 (s5.1)))), (29, .c (.lit (.bool (false)))), (28, .c (.lit (.bool (false)))), (27, .tup []), (26, .tup []), (25, .tup []), (24, .c (.lit (.bool (false)))), (23, .c (.lit (.bool (false)))), (22, .c (.lit (.int .i64 (v3.1)))), (21, .c (.lit (.bool (false)))), (20, .c (.lit (.bool (false)))), (19, .c (.lit (.int .i64 (v3.1)))), (18, .agg [.lit (.int .i64 (s5.2.State)), .lit (.int .i64 (s5.2.Busy)), .lit (.int .i64 (s5.2.Exponent)), .lit (.int .i64 (s5.2.Clear)), .lit (.int .i64 (s5.2.Wait))]), (15, .c (.lit (.bool ((decide (s5.1 > 0)))))), (14, .c (.lit (.int .i64 (s5.1)))), (2, .c (.box 2 0)), (3, .c (.box 3 0)), (4, .c (.lit (.int .i64 (v3.1)))), (5, .c (.lit (.int .i64 (s5.1))))], ⟨[(2, [.lit (.int .i64 (0)), .lit (.int .i64 (0)), .lit (.int .i64 (0)), .lit (.int .i64 (0)), .lit (.int .i64 (0))]), (3, [.lit (.int .i64 (s5.2.State)), .lit (.int .i64 (s5.2.Busy)), .lit (.int .i64 (s5.2.Exponent)), .lit (.int .i64 (s5.2.Clear)), .lit (.int .i64 (s5.2.Wait))]), (1000000, [.slc 1 0 (List.map (ecI .i64) (v4.2.l)), .lit (.int .i64 (v4.2.at_))])], []⟩⟩ (by kernel_rfl) ?_
          refine TL_grow (.agg [.lit (.int .i64 (v12.State)), .lit (.int .i64 (v12.Busy)), .lit (.int .i64 (v12.Exponent)), .lit (.int .i64 (v12.Clear)), .lit (.int .i64 (v12.Wait))]) (by kernel_rfl) (by kernel_rfl) (grow_call 17 Try.f17 [[0, 0, 0, 0, 0], [0], [0]] [.agg (S_Backoff.cs s5.2), .c (.lit (.bool (false))), .c (.lit (.int .u32 ((IntKind.wrap .u32 s5.1))))] rfl (by kernel_rfl) Try.func17 (by kernel_rfl) (by kernel_rfl) (by kernel_rfl) (ok_ref08_Step s5.2 false (IntKind.wrap .u32 s5.1) v12 hv12)) ?_
          refine TL_end ⟨[(32, .agg [.lit (.int .i64 (v12.State)), .lit (.int .i64 (v12.Busy)), .lit (.int .i64 (v12.Exponent)), .lit (.int .i64 (v12.Clear)), .lit (.int .i64 (v12.Wait))]), (31, .c (.lit (.int .u32 (IntKind.wrap .u32 s5.1)))), (30, .c (.lit (.int .i64 (s5.1)))), (29, .c (.lit (.bool (false)))), (28, .c (.lit (.bool (false)))), (27, .tup []), (26, .tup []), (25, .tup []), (24, .c (.lit (.bool (false)))), (23, .c (.lit (.bool (false)))), (22, .c (.lit (.int .i64 (v3.1)))), (21, .c (.lit (.bool (false)))), (20, .c (.lit (.bool (false)))), (19, .c (.lit (.int .i64 (v3.1)))), (18, .agg [.lit (.int .i64 (s5.2.State)), .lit (.int .i64 (s5.2.Busy)), .lit (.int .i64 (s5.2.Exponent)), .lit (.int .i64 (s5.2.Clear)), .lit (.int .i64 (s5.2.Wait))]), (15, .c (.lit (.bool ((decide (s5.1 > 0)))))), (14, .c (.lit (.int .i64 (s5.1)))), (2, .c (.box 2 0)), (3, .c (.box 3 0)), (4, .c (.lit (.int .i64 (v3.1)))), (5, .c (.lit (.int .i64 (s5.1))))], ⟨[(3, [.lit (.int .i64 (v12.State)), .lit (.int .i64 (v12.Busy)), .lit (.int .i64 (v12.Exponent)), .lit (.int .i64 (v12.Clear)), .lit (.int .i64 (v12.Wait))]), (2, [.lit (.int .i64 (0)), .lit (.int .i64 (0)), .lit (.int .i64 (0)), .lit (.int .i64 (0)), .lit (.int .i64 (0))]), (1000000, [.slc 1 0 (List.map (ecI .i64) (v4.2.l)), .lit (.int .i64 (v4.2.at_))])], []⟩⟩ (by kernel_rfl) ?_
          refine blockQ_normal ?_
          refine T_keep [2, 3, 4, 5] [3, 2, 1000000] [] ?_
          refine T_runs ⟨[(5, .c (.lit (.int .i64 (IntKind.wrap .i64 (s5.1 - 1))))), (17, .c (.lit (.int .i64 (IntKind.wrap .i64 (s5.1 - 1))))), (16, .c (.lit (.int .i64 (s5.1)))), (2, .c (.box 2 0)), (3, .c (.box 3 0)), (4, .c (.lit (.int .i64 (v3.1))))], ⟨[(3, [.lit (.int .i64 (v12.State)), .lit (.int .i64 (v12.Busy)), .lit (.int .i64 (v12.Exponent)), .lit (.int .i64 (v12.Clear)), .lit (.int .i64 (v12.Wait))]), (2, [.lit (.int .i64 (0)), .lit (.int .i64 (0)), .lit (.int .i64 (0)), .lit (.int .i64 (0)), .lit (.int .i64 (0))]), (1000000, [.slc 1 0 (List.map (ecI .i64) (v4.2.l)), .lit (.int .i64 (v4.2.at_))])], []⟩⟩ (by kernel_rfl) ?_
          obtain rfl := Option.some.inj h
          exact ⟨_, rfl, by kernel_rfl⟩
    · refine T_condF' (e := (decide (s5.1 > 0))) (by kernel_rfl) hb7 ?_
      refine T_exit ?_
      refine thenQ_exit ?_
      obtain rfl := Option.some.inj h
      exact ⟨_, rfl, rfl, by kernel_rfl⟩
  · intro e st hq
    obtain ⟨rfl, hst⟩ := hq
    refine blockQ_exit ?_
    refine T_keepS [2, 3] [2, 3, 1000000] ?_
    refine T_sub hst ?_
    refine T_seq ?_
    refine T_runs ⟨[(33, .agg [.lit (.int .i64 (b6.State)), .lit (.int .i64 (b6.Busy)), .lit (.int .i64 (b6.Exponent)), .lit (.int .i64 (b6.Clear)), .lit (.int .i64 (b6.Wait))]), (2, .c (.box 2 0)), (3, .c (.box 3 0))], ⟨[(2, [.lit (.int .i64 (b6.State)), .lit (.int .i64 (b6.Busy)), .lit (.int .i64 (b6.Exponent)), .lit (.int .i64 (b6.Clear)), .lit (.int .i64 (b6.Wait))]), (3, [.lit (.int .i64 (b6.State)), .lit (.int .i64 (b6.Busy)), .lit (.int .i64 (b6.Exponent)), .lit (.int .i64 (b6.Clear)), .lit (.int .i64 (b6.Wait))]), (1000000, [.slc 1 0 (List.map (ecI .i64) (v4.2.l)), .lit (.int .i64 (v4.2.at_))])], []⟩⟩ (by kernel_rfl) ?_
    refine T_keep [2] [2, 1000000] [] ?_
    refine T_ret ?_
    obtain rfl := Option.some.inj h
    exact ⟨⟨[(true, [.lit (.int .i64 (b6.State)), .lit (.int .i64 (b6.Busy)), .lit (.int .i64 (b6.Exponent)), .lit (.int .i64 (b6.Clear)), .lit (.int .i64 (b6.Wait))])], by kernel_rfl, by kernel_rfl⟩, by kernel_rfl⟩

/-- multihop/multihopmade.Mod -/
noncomputable def F_made_Mod_j1  (v3 : Int) : Option (Int) :=
  some (v3)
noncomputable def F_made_Mod (a0 : Int) (a1 : Int) : Option (Int) :=
  bif decide (a1 ≠ 0) then
    bif (decide ((Int.tmod a0 a1) < 0)) then
      (F_made_Mod_j1) (IntKind.wrap .i64 ((Int.tmod a0 a1) + a1))
    else
      (F_made_Mod_j1) (Int.tmod a0 a1)
  else none
set_option maxRecDepth 100000 in
theorem ok_made_Mod (a0 : Int) (a1 : Int) (r : Int) (h : F_made_Mod a0 a1 = some r) : Pure Try.prog 11 [.c (.lit (.int .i64 (a0))), .c (.lit (.int .i64 (a1)))] (.c (.lit (.int .i64 (r)))) := by
  unfold F_made_Mod at h
  refine pure_of [[0]] 14 Try.func11 rfl rfl rfl (by kernel_rfl) (fun K => ?_)
  refine T_seq ?_
  refine T_runs ⟨[(4, .c (.lit (.int .i64 (0)))), (0, .c (.lit (.int .i64 (a0)))), (1, .c (.lit (.int .i64 (a1))))], ⟨[], []⟩⟩ (by kernel_rfl) ?_
  refine T_seq ?_
  replace h := chkO h
  obtain ⟨hc1, h⟩ := h
  refine T_region ?_
  refine TL_runs 2 ⟨[(6, .c (.lit (.int .i64 (a1)))), (5, .c (.lit (.int .i64 (a0)))), (4, .c (.lit (.int .i64 (0)))), (0, .c (.lit (.int .i64 (a0)))), (1, .c (.lit (.int .i64 (a1))))], ⟨[], []⟩⟩ (by kernel_rfl) ?_
  refine TL_grow (.c (.lit (.int .i64 (Int.tmod a0 a1)))) (by kernel_rfl) (by kernel_rfl) (PureOp.grow (pure_intC (k := .i64) (k' := .i64) (a0) (a1) (by simp) rfl (by kernel_rfl) (by kernel_rfl) rfl (of_decide_eq_true hc1))) ?_
  refine TL_end ⟨[(0, .c (.lit (.int .i64 (Int.tmod a0 a1)))), (7, .c (.lit (.int .i64 (Int.tmod a0 a1)))), (6, .c (.lit (.int .i64 (a1)))), (5, .c (.lit (.int .i64 (a0)))), (4, .c (.lit (.int .i64 (0)))), (1, .c (.lit (.int .i64 (a1))))], ⟨[], []⟩⟩ (by kernel_rfl) ?_
  refine T_keep [0, 1] [] [] ?_
  refine T_join [0] [] (fun (v3 : Int) => ⟨[(0, .c (.lit (.int .i64 (v3))))], ⟨[], []⟩⟩) (F_made_Mod_j1) r ?_ ?_
  · intro v3 h
    unfold F_made_Mod_j1 at h
    refine T_seq ?_
    refine T_runs ⟨[(4, .c (.lit (.int .i64 (v3)))), (13, .c (.lit (.int .i64 (v3)))), (0, .c (.lit (.int .i64 (v3))))], ⟨[], []⟩⟩ (by kernel_rfl) ?_
    refine T_ret ?_
    obtain rfl := Option.some.inj h
    exact ⟨[(false, [.lit (.int .i64 (v3))])], by kernel_rfl, by kernel_rfl⟩
  · refine T_seq ?_
    refine T_runs ⟨[(9, .c (.lit (.bool ((decide ((Int.tmod a0 a1) < 0)))))), (8, .c (.lit (.int .i64 (Int.tmod a0 a1)))), (0, .c (.lit (.int .i64 (Int.tmod a0 a1)))), (1, .c (.lit (.int .i64 (a1))))], ⟨[], []⟩⟩ (by kernel_rfl) ?_
    replace h := condO h
    rcases h with ⟨hb4, h⟩ | ⟨hb4, h⟩
    · refine T_condT' (e := (decide ((Int.tmod a0 a1) < 0))) (by kernel_rfl) hb4 ?_
      refine T_runs ⟨[(0, .c (.lit (.int .i64 (IntKind.wrap .i64 ((Int.tmod a0 a1) + a1))))), (12, .c (.lit (.int .i64 (IntKind.wrap .i64 ((Int.tmod a0 a1) + a1))))), (11, .c (.lit (.int .i64 (a1)))), (10, .c (.lit (.int .i64 (Int.tmod a0 a1)))), (9, .c (.lit (.bool ((decide ((Int.tmod a0 a1) < 0)))))), (8, .c (.lit (.int .i64 (Int.tmod a0 a1)))), (1, .c (.lit (.int .i64 (a1))))], ⟨[], []⟩⟩ (by kernel_rfl) ?_
      exact ⟨IntKind.wrap .i64 ((Int.tmod a0 a1) + a1), h, by kernel_rfl⟩
    · refine T_condF' (e := (decide ((Int.tmod a0 a1) < 0))) (by kernel_rfl) hb4 ?_
      refine T_skip ?_
      exact ⟨Int.tmod a0 a1, h, by kernel_rfl⟩

/-- multihop/backoff.exponent -/
noncomputable def F_backoff_exponent (a0 : Int) : Option (Int) :=
  some (if 5 < IntKind.wrap .i64 (3 + a0) then 5 else IntKind.wrap .i64 (3 + a0))
set_option maxRecDepth 100000 in
theorem ok_backoff_exponent (a0 : Int) (r : Int) (h : F_backoff_exponent a0 = some r) : Pure Try.prog 24 [.c (.lit (.int .i64 (a0)))] (.c (.lit (.int .i64 (r)))) := by
  unfold F_backoff_exponent at h
  refine pure_of [[0]] 6 Try.func24 rfl rfl rfl (by kernel_rfl) (fun K => ?_)
  refine T_seq ?_
  refine T_runs ⟨[(2, .c (.lit (.int .i64 (0)))), (0, .c (.lit (.int .i64 (a0))))], ⟨[], []⟩⟩ (by kernel_rfl) ?_
  refine T_seq ?_
  refine T_runs ⟨[(2, .c (.lit (.int .i64 (if 5 < IntKind.wrap .i64 (3 + a0) then 5 else IntKind.wrap .i64 (3 + a0))))), (5, .c (.lit (.int .i64 (if 5 < IntKind.wrap .i64 (3 + a0) then 5 else IntKind.wrap .i64 (3 + a0))))), (4, .c (.lit (.int .i64 (IntKind.wrap .i64 (3 + a0))))), (3, .c (.lit (.int .i64 (a0)))), (0, .c (.lit (.int .i64 (a0))))], ⟨[], []⟩⟩ (by kernel_rfl) ?_
  refine T_keep [2] [] [] ?_
  refine T_ret ?_
  obtain rfl := Option.some.inj h
  exact ⟨[(false, [.lit (.int .i64 (if 5 < IntKind.wrap .i64 (3 + a0) then 5 else IntKind.wrap .i64 (3 + a0)))])], by kernel_rfl, by kernel_rfl⟩

end Go.Proofs.Ytohhaibbbnobpaa
