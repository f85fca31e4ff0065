/-
  Written by cc3.py: what the Go functions compute, as plain functions, and that they do.
-/
import Derived.Test.YtonlajdaaljncaaCe1
namespace Go.Proofs.Ytonlajdaaljncaa
open Go.RowKit
attribute [local irreducible] TS go TD goD

/-- multihop/multihopref21.Newer -/
noncomputable def F_ref21_Newer (a0 : Int) (a1 : Int) : Option (Bool) :=
  bif (decide ((IntKind.wrap .i64 a0) ≥ 128)) then
    bif (decide ((IntKind.wrap .i64 a1) ≥ 128)) then
      bif (decide ((IntKind.wrap .i64 a0) > (IntKind.wrap .i64 a1))) then
        some ((decide ((IntKind.wrap .i64 ((IntKind.wrap .i64 a0) - (IntKind.wrap .i64 a1))) ≤ 16)))
      else
        some (false)
    else
      bif (decide ((IntKind.wrap .i64 a0) < 128)) then
        bif (decide ((IntKind.wrap .i64 a1) < 128)) then
          bif (decide ((Int.tmod (IntKind.wrap .i64 ((IntKind.wrap .i64 ((IntKind.wrap .i64 a0) - (IntKind.wrap .i64 a1))) + 128)) 128) ≥ 1)) then
            some ((decide ((Int.tmod (IntKind.wrap .i64 ((IntKind.wrap .i64 ((IntKind.wrap .i64 a0) - (IntKind.wrap .i64 a1))) + 128)) 128) ≤ 16)))
          else
            some (false)
        else
          some ((decide ((IntKind.wrap .i64 ((IntKind.wrap .i64 ((IntKind.wrap .i64 a0) + 256)) - (IntKind.wrap .i64 a1))) ≤ 16)))
      else
        some ((decide ((IntKind.wrap .i64 ((IntKind.wrap .i64 ((IntKind.wrap .i64 a1) + 256)) - (IntKind.wrap .i64 a0))) > 16)))
  else
    bif (decide ((IntKind.wrap .i64 a0) < 128)) then
      bif (decide ((IntKind.wrap .i64 a1) < 128)) then
        bif (decide ((Int.tmod (IntKind.wrap .i64 ((IntKind.wrap .i64 ((IntKind.wrap .i64 a0) - (IntKind.wrap .i64 a1))) + 128)) 128) ≥ 1)) then
          some ((decide ((Int.tmod (IntKind.wrap .i64 ((IntKind.wrap .i64 ((IntKind.wrap .i64 a0) - (IntKind.wrap .i64 a1))) + 128)) 128) ≤ 16)))
        else
          some (false)
      else
        some ((decide ((IntKind.wrap .i64 ((IntKind.wrap .i64 ((IntKind.wrap .i64 a0) + 256)) - (IntKind.wrap .i64 a1))) ≤ 16)))
    else
      some ((decide ((IntKind.wrap .i64 ((IntKind.wrap .i64 ((IntKind.wrap .i64 a1) + 256)) - (IntKind.wrap .i64 a0))) > 16)))
set_option maxRecDepth 100000 in
set_option maxHeartbeats 40000000 in
theorem ok_ref21_Newer (a0 : Int) (a1 : Int) (r : Bool) (h : F_ref21_Newer a0 a1 = some r) : Con Try.prog 16 [.c (.lit (.int .u8 (a0))), .c (.lit (.int .u8 (a1)))] [] (.c (.lit (.bool (r)))) [] := by
  unfold F_ref21_Newer at h
  refine con_of [] [] 59 Try.func16 rfl rfl (by kernel_rfl) (fun K => ?_)
  refine TS_go 20 ?_
  replace h := condO h
  rcases h with ⟨hb1, h⟩ | ⟨hb1, h⟩
  · refine TS_know 14 (b := true) hb1 (by kernel_rfl) (by kernel_rfl) ?_
    refine TS_know 15 (b := true) hb1 (by kernel_rfl) (by kernel_rfl) ?_
    refine TS_go 5 ?_
    replace h := condO h
    rcases h with ⟨hb2, h⟩ | ⟨hb2, h⟩
    · refine TS_know 17 (b := true) hb2 (by kernel_rfl) (by kernel_rfl) ?_
      refine TS_know 18 (b := true) hb2 (by kernel_rfl) (by kernel_rfl) ?_
      refine TS_know 12 (b := true) hb2 (by kernel_rfl) (by kernel_rfl) ?_
      refine TS_T (by kernel_rfl) rfl ?_
      refine TS_go 6 ?_
      replace h := condO h
      rcases h with ⟨hb3, h⟩ | ⟨hb3, h⟩
      · refine TS_know 21 (b := true) hb3 (by kernel_rfl) (by kernel_rfl) ?_
        refine TS_know 22 (b := true) hb3 (by kernel_rfl) (by kernel_rfl) ?_
        refine TS_go 10 ?_
        obtain rfl := Option.some.inj h
        exact TS_ret (by kernel_rfl) (by kernel_rfl) (by kernel_rfl)
      · refine TS_know 21 (b := false) hb3 (by kernel_rfl) (by kernel_rfl) ?_
        refine TS_know 22 (b := false) hb3 (by kernel_rfl) (by kernel_rfl) ?_
        refine TS_go 10 ?_
        obtain rfl := Option.some.inj h
        exact TS_ret (by kernel_rfl) (by kernel_rfl) (by kernel_rfl)
    · refine TS_know 17 (b := false) hb2 (by kernel_rfl) (by kernel_rfl) ?_
      refine TS_know 18 (b := false) hb2 (by kernel_rfl) (by kernel_rfl) ?_
      refine TS_know 12 (b := false) hb2 (by kernel_rfl) (by kernel_rfl) ?_
      refine TS_F (by kernel_rfl) rfl ?_
      refine TS_go 5 ?_
      replace h := condO h
      rcases h with ⟨hb4, h⟩ | ⟨hb4, h⟩
      · refine TS_know 30 (b := true) hb4 (by kernel_rfl) (by kernel_rfl) ?_
        refine TS_know 31 (b := true) hb4 (by kernel_rfl) (by kernel_rfl) ?_
        refine TS_go 5 ?_
        replace h := condO h
        rcases h with ⟨hb5, h⟩ | ⟨hb5, h⟩
        · refine TS_know 33 (b := true) hb5 (by kernel_rfl) (by kernel_rfl) ?_
          refine TS_know 34 (b := true) hb5 (by kernel_rfl) (by kernel_rfl) ?_
          refine TS_know 28 (b := true) hb5 (by kernel_rfl) (by kernel_rfl) ?_
          refine TS_T (by kernel_rfl) rfl ?_
          refine TS_go 14 ?_
          replace h := condO h
          rcases h with ⟨hb6, h⟩ | ⟨hb6, h⟩
          · refine TS_know 41 (b := true) hb6 (by kernel_rfl) (by kernel_rfl) ?_
            refine TS_know 42 (b := true) hb6 (by kernel_rfl) (by kernel_rfl) ?_
            refine TS_go 8 ?_
            obtain rfl := Option.some.inj h
            exact TS_ret (by kernel_rfl) (by kernel_rfl) (by kernel_rfl)
          · refine TS_know 41 (b := false) hb6 (by kernel_rfl) (by kernel_rfl) ?_
            refine TS_know 42 (b := false) hb6 (by kernel_rfl) (by kernel_rfl) ?_
            refine TS_go 8 ?_
            obtain rfl := Option.some.inj h
            exact TS_ret (by kernel_rfl) (by kernel_rfl) (by kernel_rfl)
        · refine TS_know 33 (b := false) hb5 (by kernel_rfl) (by kernel_rfl) ?_
          refine TS_know 34 (b := false) hb5 (by kernel_rfl) (by kernel_rfl) ?_
          refine TS_know 28 (b := false) hb5 (by kernel_rfl) (by kernel_rfl) ?_
          refine TS_F (by kernel_rfl) rfl ?_
          refine TS_go 4 ?_
          refine TS_know 48 (b := true) hb4 (by kernel_rfl) (by kernel_rfl) ?_
          refine TS_go 2 ?_
          refine TS_T (by kernel_rfl) rfl ?_
          refine TS_go 12 ?_
          obtain rfl := Option.some.inj h
          exact TS_ret (by kernel_rfl) (by kernel_rfl) (by kernel_rfl)
      · refine TS_know 30 (b := false) hb4 (by kernel_rfl) (by kernel_rfl) ?_
        refine TS_know 31 (b := false) hb4 (by kernel_rfl) (by kernel_rfl) ?_
        refine TS_go 5 ?_
        refine TS_F (by kernel_rfl) rfl ?_
        refine TS_go 4 ?_
        refine TS_know 48 (b := false) hb4 (by kernel_rfl) (by kernel_rfl) ?_
        refine TS_go 2 ?_
        refine TS_F (by kernel_rfl) rfl ?_
        refine TS_go 12 ?_
        obtain rfl := Option.some.inj h
        exact TS_ret (by kernel_rfl) (by kernel_rfl) (by kernel_rfl)
  · refine TS_know 14 (b := false) hb1 (by kernel_rfl) (by kernel_rfl) ?_
    refine TS_know 15 (b := false) hb1 (by kernel_rfl) (by kernel_rfl) ?_
    refine TS_go 5 ?_
    refine TS_F (by kernel_rfl) rfl ?_
    refine TS_go 5 ?_
    replace h := condO h
    rcases h with ⟨hb7, h⟩ | ⟨hb7, h⟩
    · refine TS_know 30 (b := true) hb7 (by kernel_rfl) (by kernel_rfl) ?_
      refine TS_know 31 (b := true) hb7 (by kernel_rfl) (by kernel_rfl) ?_
      refine TS_go 5 ?_
      replace h := condO h
      rcases h with ⟨hb8, h⟩ | ⟨hb8, h⟩
      · refine TS_know 33 (b := true) hb8 (by kernel_rfl) (by kernel_rfl) ?_
        refine TS_know 34 (b := true) hb8 (by kernel_rfl) (by kernel_rfl) ?_
        refine TS_know 28 (b := true) hb8 (by kernel_rfl) (by kernel_rfl) ?_
        refine TS_T (by kernel_rfl) rfl ?_
        refine TS_go 14 ?_
        replace h := condO h
        rcases h with ⟨hb9, h⟩ | ⟨hb9, h⟩
        · refine TS_know 41 (b := true) hb9 (by kernel_rfl) (by kernel_rfl) ?_
          refine TS_know 42 (b := true) hb9 (by kernel_rfl) (by kernel_rfl) ?_
          refine TS_go 8 ?_
          obtain rfl := Option.some.inj h
          exact TS_ret (by kernel_rfl) (by kernel_rfl) (by kernel_rfl)
        · refine TS_know 41 (b := false) hb9 (by kernel_rfl) (by kernel_rfl) ?_
          refine TS_know 42 (b := false) hb9 (by kernel_rfl) (by kernel_rfl) ?_
          refine TS_go 8 ?_
          obtain rfl := Option.some.inj h
          exact TS_ret (by kernel_rfl) (by kernel_rfl) (by kernel_rfl)
      · refine TS_know 33 (b := false) hb8 (by kernel_rfl) (by kernel_rfl) ?_
        refine TS_know 34 (b := false) hb8 (by kernel_rfl) (by kernel_rfl) ?_
        refine TS_know 28 (b := false) hb8 (by kernel_rfl) (by kernel_rfl) ?_
        refine TS_F (by kernel_rfl) rfl ?_
        refine TS_go 4 ?_
        refine TS_know 48 (b := true) hb7 (by kernel_rfl) (by kernel_rfl) ?_
        refine TS_go 2 ?_
        refine TS_T (by kernel_rfl) rfl ?_
        refine TS_go 12 ?_
        obtain rfl := Option.some.inj h
        exact TS_ret (by kernel_rfl) (by kernel_rfl) (by kernel_rfl)
    · refine TS_know 30 (b := false) hb7 (by kernel_rfl) (by kernel_rfl) ?_
      refine TS_know 31 (b := false) hb7 (by kernel_rfl) (by kernel_rfl) ?_
      refine TS_go 5 ?_
      refine TS_F (by kernel_rfl) rfl ?_
      refine TS_go 4 ?_
      refine TS_know 48 (b := false) hb7 (by kernel_rfl) (by kernel_rfl) ?_
      refine TS_go 2 ?_
      refine TS_F (by kernel_rfl) rfl ?_
      refine TS_go 12 ?_
      obtain rfl := Option.some.inj h
      exact TS_ret (by kernel_rfl) (by kernel_rfl) (by kernel_rfl)

/-- multihop/address.Contains -/
noncomputable def F_address_Contains (a0 : S_Prefix) (a1 : List Int) : Option (Bool) :=
  (F_address_ValidPrefix a0).bind fun v1 =>
  bif v1 then
    (F_address_Mask a1 a0.Bits).bind fun v3 =>
    some ((S_Prefix.eqb v3 a0))
  else
    some (false)
set_option maxRecDepth 100000 in
set_option maxHeartbeats 40000000 in
theorem ok_address_Contains (a0 : S_Prefix) (a1 : List Int) (r : Bool) (h : F_address_Contains a0 a1 = some r) : Con Try.prog 40 [.agg (S_Prefix.cs a0), .agg (arrS .u8 16 a1)] [] (.c (.lit (.bool (r)))) [] := by
  unfold F_address_Contains at h
  refine con_of [] [] 15 Try.func40 rfl rfl (by kernel_rfl) (fun K => ?_)
  refine TS_go 7 ?_
  refine TS_draw (by kernel_rfl) ?_
  refine TD_go 1 ?_
  replace h := bindO h
  obtain ⟨v1, hv1, h⟩ := h
  refine TD_call [] (ok_address_ValidPrefix a0 v1 hv1) (by kernel_rfl) (by kernel_rfl) ?_
  refine TD_go 1 ?_
  replace h := condO h
  rcases h with ⟨hb2, h⟩ | ⟨hb2, h⟩
  · subst hb2
    refine TD_go 3 ?_
    replace h := bindO h
    obtain ⟨v3, hv3, h⟩ := h
    refine TD_call [] (ok_address_Mask a1 a0.Bits v3 hv3) (by kernel_rfl) (by kernel_rfl) ?_
    refine TD_go 4 ?_
    refine TD_end (by kernel_rfl) ?_
    refine TS_go 1 ?_
    obtain rfl := Option.some.inj h
    exact TS_ret (by kernel_rfl) (by kernel_rfl) (by kernel_rfl)
  · subst hb2
    refine TD_go 8 ?_
    refine TD_end (by kernel_rfl) ?_
    refine TS_go 1 ?_
    obtain rfl := Option.some.inj h
    exact TS_ret (by kernel_rfl) (by kernel_rfl) (by kernel_rfl)

/-- multihop/storing.Next -/
noncomputable def F_storing_Next_j2 (s5 : Int × Int × Int) (v9 : Int × Int) : Option ((Int × Int × Int) ⊕ (Int × Int)) :=
  some (Sum.inl (v9.1, v9.2, IntKind.wrap .i64 (s5.2.2 + 1)))
noncomputable def F_storing_Next_l1 (a0 : List S_Down) (a1 : Int) (a2 : List Int) (s5 : Int × Int × Int) : Option ((Int × Int × Int) ⊕ (Int × Int)) :=
  bif (decide (s5.2.2 < (List.length a0 : Int))) then
    (idx a0 s5.2.2).bind fun e10 =>
    bif (decide (e10.Until > a1)) then
      bif (decide (e10.Target.Bits > s5.2.1)) then
        (F_address_Contains e10.Target a2).bind fun v13 =>
        bif v13 then
          (F_storing_Next_j2 s5) (e10.Via, e10.Target.Bits)
        else
          (F_storing_Next_j2 s5) (s5.1, s5.2.1)
      else
        (F_storing_Next_j2 s5) (s5.1, s5.2.1)
    else
      (F_storing_Next_j2 s5) (s5.1, s5.2.1)
  else
    some (Sum.inr (s5.1, s5.2.1))
noncomputable def F_storing_Next (a0 : List S_Down) (a1 : Int) (a2 : List Int) : Option (Int × Int) :=
  (F_storing_Valid a0).bind fun v1 =>
  bif v1 then
    (F_storing_isTime a1).bind fun v3 =>
    bif v3 then
      (loopO (F_storing_Next_l1 a0 a1 a2) (0, (-1), 0)).bind fun b6 =>
      bif (decide (b6.2 < 0)) then
        some ((0, 15))
      else
        some ((b6.1, 0))
    else
      some ((0, 2))
  else
    some ((0, 1))
set_option maxRecDepth 100000 in
set_option maxHeartbeats 40000000 in
theorem ok_storing_Next (a0 : List S_Down) (a1 : Int) (a2 : List Int) (r : Int × Int) (h : F_storing_Next a0 a1 a2 = some r) : Con Try.prog 21 [.c (eS 20 S_Down.cs (a0)), .c (.lit (.int .i64 (a1))), .agg (arrS .u8 16 a2)] [] (.tup [(false, [.lit (.int .u64 (r.1))]), (false, [.lit (.int .i64 (r.2))])]) [] := by
  unfold F_storing_Next at h
  refine con_of [] [] 50 Try.func21 rfl rfl (by kernel_rfl) (fun K => ?_)
  refine TS_go 10 ?_
  replace h := bindO h
  obtain ⟨v1, hv1, h⟩ := h
  refine TS_call [] (ok_storing_Valid a0 v1 hv1) (by kernel_rfl) (by kernel_rfl) ?_
  refine TS_go 2 ?_
  replace h := condO h
  rcases h with ⟨hb2, h⟩ | ⟨hb2, h⟩
  · subst hb2
    refine TS_F (by kernel_rfl) rfl ?_
    refine TS_go 5 ?_
    replace h := bindO h
    obtain ⟨v3, hv3, h⟩ := h
    refine TS_call [] (ok_storing_isTime a1 v3 hv3) (by kernel_rfl) (by kernel_rfl) ?_
    refine TS_go 2 ?_
    replace h := condO h
    rcases h with ⟨hb4, h⟩ | ⟨hb4, h⟩
    · subst hb4
      refine TS_F (by kernel_rfl) rfl ?_
      refine TS_go 17 ?_
      refine TS_cut ⟨[(1, []), (5, []), (8, []), (9, []), (18, []), (19, []), (20, [])], [(5, (5, []))]⟩ (.mk [.code (codeAt [1, 1, 1, 1, 1, 0, 1, 0] (bodyOf Try.f21)), .blk 0, .code (codeAt [1, 1, 1, 1, 1, 1] (bodyOf Try.f21))] .normal ⟨[(1, .c (.lit (.int .i64 (a1)))), (5, .c (.box 5 0)), (8, .c (.lit (.int .u64 (0)))), (9, .c (.lit (.int .i64 ((-1))))), (18, .c (.slc 20 0 (List.length a0) (List.map S_Down.cs a0))), (19, .c (.lit (.int .i64 ((List.length a0 : Int))))), (20, .c (.lit (.int .i64 (0))))], [(5, .box [.lit (.int .u8 ((a2.getD 0 0))), .lit (.int .u8 ((a2.getD 1 0))), .lit (.int .u8 ((a2.getD 2 0))), .lit (.int .u8 ((a2.getD 3 0))), .lit (.int .u8 ((a2.getD 4 0))), .lit (.int .u8 ((a2.getD 5 0))), .lit (.int .u8 ((a2.getD 6 0))), .lit (.int .u8 ((a2.getD 7 0))), .lit (.int .u8 ((a2.getD 8 0))), .lit (.int .u8 ((a2.getD 9 0))), .lit (.int .u8 ((a2.getD 10 0))), .lit (.int .u8 ((a2.getD 11 0))), .lit (.int .u8 ((a2.getD 12 0))), .lit (.int .u8 ((a2.getD 13 0))), .lit (.int .u8 ((a2.getD 14 0))), .lit (.int .u8 ((a2.getD 15 0)))])]⟩) (by kernel_rfl) (by kernel_rfl) ?_
      replace h := bindO h
      obtain ⟨y7, hl1, hK1⟩ := h
      refine TS_loopB (F_storing_Next_l1 a0 a1 a2) ⟨[(1, []), (5, []), (8, []), (9, []), (18, []), (19, []), (20, [])], [(5, (5, []))]⟩ (fun (s5 : Int × Int × Int) => [(8, .c (.lit (.int .u64 (s5.1)))), (9, .c (.lit (.int .i64 (s5.2.1)))), (20, .c (.lit (.int .i64 (s5.2.2))))]) (fun (s5 : Int × Int × Int) => []) (0, (-1), 0) y7 (.exit 0) (fun (b : Int × Int) => b) ⟨[(8, []), (9, [])], []⟩ (fun (b6 : Int × Int) => [(8, .c (.lit (.int .u64 (b6.1)))), (9, .c (.lit (.int .i64 (b6.2))))]) (fun (b6 : Int × Int) => []) hl1 (by kernel_rfl) (by kernel_rfl) ?_ ?_
      · intro s5 x h hy1
        unfold F_storing_Next_l1 at h
        refine TS_go 5 ?_
        replace h := condO h
        rcases h with ⟨hb8, h⟩ | ⟨hb8, h⟩
        · refine TS_know 21 (b := true) hb8 (by kernel_rfl) (by kernel_rfl) ?_
          refine TS_T (by kernel_rfl) rfl ?_
          refine TS_go 1 ?_
          refine TS_cut ⟨[(1, []), (5, []), (8, []), (9, []), (18, []), (19, []), (20, [])], [(5, (5, []))]⟩ (.mk [.code (codeAt [1, 1, 1, 1, 1, 0, 1, 0, 0, 1, 1] (bodyOf Try.f21))] .normal ⟨[(1, .c (.lit (.int .i64 (a1)))), (5, .c (.box 5 0)), (8, .c (.lit (.int .u64 (s5.1)))), (9, .c (.lit (.int .i64 (s5.2.1)))), (18, .c (.slc 20 0 (List.length a0) (List.map S_Down.cs a0))), (19, .c (.lit (.int .i64 ((List.length a0 : Int))))), (20, .c (.lit (.int .i64 (s5.2.2))))], [(5, .box [.lit (.int .u8 ((a2.getD 0 0))), .lit (.int .u8 ((a2.getD 1 0))), .lit (.int .u8 ((a2.getD 2 0))), .lit (.int .u8 ((a2.getD 3 0))), .lit (.int .u8 ((a2.getD 4 0))), .lit (.int .u8 ((a2.getD 5 0))), .lit (.int .u8 ((a2.getD 6 0))), .lit (.int .u8 ((a2.getD 7 0))), .lit (.int .u8 ((a2.getD 8 0))), .lit (.int .u8 ((a2.getD 9 0))), .lit (.int .u8 ((a2.getD 10 0))), .lit (.int .u8 ((a2.getD 11 0))), .lit (.int .u8 ((a2.getD 12 0))), .lit (.int .u8 ((a2.getD 13 0))), .lit (.int .u8 ((a2.getD 14 0))), .lit (.int .u8 ((a2.getD 15 0)))])]⟩) (by kernel_rfl) (by kernel_rfl) ?_
          refine TS_joinB ⟨[(1, []), (5, []), (8, []), (9, []), (18, []), (19, []), (20, [])], [(5, (5, []))]⟩ (fun (v9 : Int × Int) => [(8, .c (.lit (.int .u64 (v9.1)))), (9, .c (.lit (.int .i64 (v9.2))))]) (fun (v9 : Int × Int) => []) (F_storing_Next_j2 s5) x ?_ ?_
          · clear h
            intro v9 h
            unfold F_storing_Next_j2 at h
            refine TS_go 4 ?_
            obtain rfl := Option.some.inj h
            exact TS_againB _ ⟨[(1, []), (5, []), (8, []), (9, []), (18, []), (19, []), (20, [])], [(5, (5, []))]⟩ rfl (by kernel_rfl) (by kernel_rfl)
          · refine TS_go 3 ?_
            replace h := bindO h
            obtain ⟨e10, he10, h⟩ := h
            refine TS_idx S_Down.cs he10 (by kernel_rfl) (by kernel_rfl) ?_
            refine TS_go 11 ?_
            replace h := condO h
            rcases h with ⟨hb11, h⟩ | ⟨hb11, h⟩
            · refine TS_know 27 (b := true) hb11 (by kernel_rfl) (by kernel_rfl) ?_
              refine TS_know 28 (b := true) hb11 (by kernel_rfl) (by kernel_rfl) ?_
              refine TS_go 7 ?_
              replace h := condO h
              rcases h with ⟨hb12, h⟩ | ⟨hb12, h⟩
              · refine TS_know 33 (b := true) hb12 (by kernel_rfl) (by kernel_rfl) ?_
                refine TS_know 34 (b := true) hb12 (by kernel_rfl) (by kernel_rfl) ?_
                refine TS_know 35 (b := true) hb12 (by kernel_rfl) (by kernel_rfl) ?_
                refine TS_go 3 ?_
                replace h := bindO h
                obtain ⟨v13, hv13, h⟩ := h
                refine TS_call [] (ok_address_Contains e10.Target a2 v13 hv13) (by kernel_rfl) (by kernel_rfl) ?_
                refine TS_go 2 ?_
                replace h := condO h
                rcases h with ⟨hb14, h⟩ | ⟨hb14, h⟩
                · subst hb14
                  refine TS_T (by kernel_rfl) rfl ?_
                  refine TS_draw (by kernel_rfl) ?_
                  refine TD_go 7 ?_
                  refine TD_end (by kernel_rfl) ?_
                  refine TS_go 1 ?_
                  exact TS_meet (e10.Via, e10.Target.Bits) ⟨[(1, []), (5, []), (8, []), (9, []), (18, []), (19, []), (20, [])], [(5, (5, []))]⟩ h (by kernel_rfl) (by kernel_rfl)
                · subst hb14
                  refine TS_F (by kernel_rfl) rfl ?_
                  refine TS_go 2 ?_
                  exact TS_meet (s5.1, s5.2.1) ⟨[(1, []), (5, []), (8, []), (9, []), (18, []), (19, []), (20, [])], [(5, (5, []))]⟩ h (by kernel_rfl) (by kernel_rfl)
              · refine TS_know 33 (b := false) hb12 (by kernel_rfl) (by kernel_rfl) ?_
                refine TS_know 34 (b := false) hb12 (by kernel_rfl) (by kernel_rfl) ?_
                refine TS_know 35 (b := false) hb12 (by kernel_rfl) (by kernel_rfl) ?_
                refine TS_go 6 ?_
                refine TS_F (by kernel_rfl) rfl ?_
                refine TS_go 2 ?_
                exact TS_meet (s5.1, s5.2.1) ⟨[(1, []), (5, []), (8, []), (9, []), (18, []), (19, []), (20, [])], [(5, (5, []))]⟩ h (by kernel_rfl) (by kernel_rfl)
            · refine TS_know 27 (b := false) hb11 (by kernel_rfl) (by kernel_rfl) ?_
              refine TS_know 28 (b := false) hb11 (by kernel_rfl) (by kernel_rfl) ?_
              refine TS_go 13 ?_
              refine TS_F (by kernel_rfl) rfl ?_
              refine TS_go 2 ?_
              exact TS_meet (s5.1, s5.2.1) ⟨[(1, []), (5, []), (8, []), (9, []), (18, []), (19, []), (20, [])], [(5, (5, []))]⟩ h (by kernel_rfl) (by kernel_rfl)
        · refine TS_know 21 (b := false) hb8 (by kernel_rfl) (by kernel_rfl) ?_
          refine TS_F (by kernel_rfl) rfl ?_
          refine TS_go 2 ?_
          obtain rfl := Option.some.inj h
          exact TS_brkB (s5.1, s5.2.1) ⟨[(8, []), (9, [])], []⟩ rfl (by kernel_rfl) (by kernel_rfl) (by kernel_rfl)
      · intro b6 hb
        subst y7
        have h := hK1
        refine TS_go 7 ?_
        replace h := condO h
        rcases h with ⟨hb16, h⟩ | ⟨hb16, h⟩
        · refine TS_know 48 (b := true) hb16 (by kernel_rfl) (by kernel_rfl) ?_
          refine TS_T (by kernel_rfl) rfl ?_
          refine TS_go 7 ?_
          obtain rfl := Option.some.inj h
          exact TS_ret (by kernel_rfl) (by kernel_rfl) (by kernel_rfl)
        · refine TS_know 48 (b := false) hb16 (by kernel_rfl) (by kernel_rfl) ?_
          refine TS_F (by kernel_rfl) rfl ?_
          refine TS_go 8 ?_
          obtain rfl := Option.some.inj h
          exact TS_ret (by kernel_rfl) (by kernel_rfl) (by kernel_rfl)
    · subst hb4
      refine TS_T (by kernel_rfl) rfl ?_
      refine TS_go 7 ?_
      obtain rfl := Option.some.inj h
      exact TS_ret (by kernel_rfl) (by kernel_rfl) (by kernel_rfl)
  · subst hb2
    refine TS_T (by kernel_rfl) rfl ?_
    refine TS_go 7 ?_
    obtain rfl := Option.some.inj h
    exact TS_ret (by kernel_rfl) (by kernel_rfl) (by kernel_rfl)

/-- multihop/multihoplaw33.known -/
noncomputable def F_law33_known  : Option (Bool) :=
  (F_law33_target 1).bind fun v1 =>
  (F_storing_Accept ([] : List S_Down) 5 2 (S_Register.mk v1 7 10)).bind fun v2 =>
  (F_law33_target 1).bind fun v3 =>
  (F_storing_Next v2.1 14 v3.IP).bind fun v4 =>
  (F_law33_target 1).bind fun v5 =>
  (F_storing_Next v2.1 15 v5.IP).bind fun v6 =>
  (F_law33_target 1).bind fun v7 =>
  (F_storing_Accept v2.1 6 3 (S_Register.mk v7 6 10)).bind fun v8 =>
  bif (v2.2.2 == 0) then
    bif v2.2.1 then
      bif (v4.2 == 0) then
        bif (v4.1 == 2) then
          bif (v6.2 == 15) then
            some ((v8.2.2 == 16))
          else
            some (false)
        else
          some (false)
      else
        some (false)
    else
      some (false)
  else
    some (false)
set_option maxRecDepth 100000 in
set_option maxHeartbeats 40000000 in
theorem ok_law33_known  (r : Bool) (h : F_law33_known  = some r) : Con Try.prog 17 [] [] (.c (.lit (.bool (r)))) [] := by
  unfold F_law33_known at h
  refine con_of [] [] 61 Try.func17 rfl rfl (by kernel_rfl) (fun K => ?_)
  refine TS_go 6 ?_
  replace h := bindO h
  obtain ⟨v1, hv1, h⟩ := h
  refine TS_call [] (ok_law33_target 1 v1 hv1) (by kernel_rfl) (by kernel_rfl) ?_
  refine TS_go 1 ?_
  replace h := bindO h
  obtain ⟨v2, hv2, h⟩ := h
  refine TS_call [[21]] (ok_storing_Accept ([] : List S_Down) 5 2 (S_Register.mk v1 7 10) v2 hv2) (by kernel_rfl) (by kernel_rfl) ?_
  refine TS_go 11 ?_
  replace h := bindO h
  obtain ⟨v3, hv3, h⟩ := h
  refine TS_call [] (ok_law33_target 1 v3 hv3) (by kernel_rfl) (by kernel_rfl) ?_
  refine TS_go 1 ?_
  replace h := bindO h
  obtain ⟨v4, hv4, h⟩ := h
  refine TS_call [] (ok_storing_Next v2.1 14 v3.IP v4 hv4) (by kernel_rfl) (by kernel_rfl) ?_
  refine TS_go 9 ?_
  replace h := bindO h
  obtain ⟨v5, hv5, h⟩ := h
  refine TS_call [] (ok_law33_target 1 v5 hv5) (by kernel_rfl) (by kernel_rfl) ?_
  refine TS_go 1 ?_
  replace h := bindO h
  obtain ⟨v6, hv6, h⟩ := h
  refine TS_call [] (ok_storing_Next v2.1 15 v5.IP v6 hv6) (by kernel_rfl) (by kernel_rfl) ?_
  refine TS_go 9 ?_
  replace h := bindO h
  obtain ⟨v7, hv7, h⟩ := h
  refine TS_call [] (ok_law33_target 1 v7 hv7) (by kernel_rfl) (by kernel_rfl) ?_
  refine TS_go 1 ?_
  replace h := bindO h
  obtain ⟨v8, hv8, h⟩ := h
  refine TS_call [] (ok_storing_Accept v2.1 6 3 (S_Register.mk v7 6 10) v8 hv8) (by kernel_rfl) (by kernel_rfl) ?_
  refine TS_go 13 ?_
  replace h := condO h
  rcases h with ⟨hb9, h⟩ | ⟨hb9, h⟩
  · refine TS_know 41 (b := true) hb9 (by kernel_rfl) (by kernel_rfl) ?_
    refine TS_know 42 (b := true) hb9 (by kernel_rfl) (by kernel_rfl) ?_
    refine TS_go 3 ?_
    replace h := condO h
    rcases h with ⟨hb10, h⟩ | ⟨hb10, h⟩
    · refine TS_know 16 (b := true) hb10 (by kernel_rfl) (by kernel_rfl) ?_
      refine TS_know 2 (b := true) hb10 (by kernel_rfl) (by kernel_rfl) ?_
      refine TS_know 43 (b := true) hb10 (by kernel_rfl) (by kernel_rfl) ?_
      refine TS_know 44 (b := true) hb10 (by kernel_rfl) (by kernel_rfl) ?_
      refine TS_know 45 (b := true) hb10 (by kernel_rfl) (by kernel_rfl) ?_
      refine TS_go 4 ?_
      replace h := condO h
      rcases h with ⟨hb11, h⟩ | ⟨hb11, h⟩
      · refine TS_know 47 (b := true) hb11 (by kernel_rfl) (by kernel_rfl) ?_
        refine TS_know 48 (b := true) hb11 (by kernel_rfl) (by kernel_rfl) ?_
        refine TS_know 49 (b := true) hb11 (by kernel_rfl) (by kernel_rfl) ?_
        refine TS_go 4 ?_
        replace h := condO h
        rcases h with ⟨hb12, h⟩ | ⟨hb12, h⟩
        · refine TS_know 51 (b := true) hb12 (by kernel_rfl) (by kernel_rfl) ?_
          refine TS_know 52 (b := true) hb12 (by kernel_rfl) (by kernel_rfl) ?_
          refine TS_know 53 (b := true) hb12 (by kernel_rfl) (by kernel_rfl) ?_
          refine TS_go 4 ?_
          replace h := condO h
          rcases h with ⟨hb13, h⟩ | ⟨hb13, h⟩
          · refine TS_know 55 (b := true) hb13 (by kernel_rfl) (by kernel_rfl) ?_
            refine TS_know 56 (b := true) hb13 (by kernel_rfl) (by kernel_rfl) ?_
            refine TS_know 57 (b := true) hb13 (by kernel_rfl) (by kernel_rfl) ?_
            refine TS_go 6 ?_
            obtain rfl := Option.some.inj h
            exact TS_ret (by kernel_rfl) (by kernel_rfl) (by kernel_rfl)
          · refine TS_know 55 (b := false) hb13 (by kernel_rfl) (by kernel_rfl) ?_
            refine TS_know 56 (b := false) hb13 (by kernel_rfl) (by kernel_rfl) ?_
            refine TS_know 57 (b := false) hb13 (by kernel_rfl) (by kernel_rfl) ?_
            refine TS_go 6 ?_
            obtain rfl := Option.some.inj h
            exact TS_ret (by kernel_rfl) (by kernel_rfl) (by kernel_rfl)
        · refine TS_know 51 (b := false) hb12 (by kernel_rfl) (by kernel_rfl) ?_
          refine TS_know 52 (b := false) hb12 (by kernel_rfl) (by kernel_rfl) ?_
          refine TS_know 53 (b := false) hb12 (by kernel_rfl) (by kernel_rfl) ?_
          refine TS_go 10 ?_
          obtain rfl := Option.some.inj h
          exact TS_ret (by kernel_rfl) (by kernel_rfl) (by kernel_rfl)
      · refine TS_know 47 (b := false) hb11 (by kernel_rfl) (by kernel_rfl) ?_
        refine TS_know 48 (b := false) hb11 (by kernel_rfl) (by kernel_rfl) ?_
        refine TS_know 49 (b := false) hb11 (by kernel_rfl) (by kernel_rfl) ?_
        refine TS_go 14 ?_
        obtain rfl := Option.some.inj h
        exact TS_ret (by kernel_rfl) (by kernel_rfl) (by kernel_rfl)
    · refine TS_know 16 (b := false) hb10 (by kernel_rfl) (by kernel_rfl) ?_
      refine TS_know 2 (b := false) hb10 (by kernel_rfl) (by kernel_rfl) ?_
      refine TS_know 43 (b := false) hb10 (by kernel_rfl) (by kernel_rfl) ?_
      refine TS_know 44 (b := false) hb10 (by kernel_rfl) (by kernel_rfl) ?_
      refine TS_know 45 (b := false) hb10 (by kernel_rfl) (by kernel_rfl) ?_
      refine TS_go 18 ?_
      obtain rfl := Option.some.inj h
      exact TS_ret (by kernel_rfl) (by kernel_rfl) (by kernel_rfl)
  · refine TS_know 41 (b := false) hb9 (by kernel_rfl) (by kernel_rfl) ?_
    refine TS_know 42 (b := false) hb9 (by kernel_rfl) (by kernel_rfl) ?_
    refine TS_go 21 ?_
    obtain rfl := Option.some.inj h
    exact TS_ret (by kernel_rfl) (by kernel_rfl) (by kernel_rfl)

/-- multihop/multihoplaw33.StoringNewest -/
noncomputable def F_law33_StoringNewest_j2 (v8 : Int × S_multihopmade_Tape) (s2 : (List S_Down) × Int × Int × S_multihopmade_Tape) (v16 : (List S_Down)) : Option (((List S_Down) × Int × Int × S_multihopmade_Tape) ⊕ ((Unit) ⊕ (Bool))) :=
  (F_made_Tape_Next v8.2 5).bind fun v17 =>
  some (Sum.inl (v16, IntKind.wrap .i64 (s2.2.1 + v17.1), IntKind.wrap .i64 (s2.2.2.1 + 1), v17.2))
noncomputable def F_law33_StoringNewest_j3 (v8 : Int × S_multihopmade_Tape) (s2 : (List S_Down) × Int × Int × S_multihopmade_Tape) (v26 : (List S_Down)) : Option (((List S_Down) × Int × Int × S_multihopmade_Tape) ⊕ ((Unit) ⊕ (Bool))) :=
  (F_made_Tape_Next v8.2 5).bind fun v27 =>
  some (Sum.inl (v26, IntKind.wrap .i64 (s2.2.1 + v27.1), IntKind.wrap .i64 (s2.2.2.1 + 1), v27.2))
noncomputable def F_law33_StoringNewest_j4 (v8 : Int × S_multihopmade_Tape) (s2 : (List S_Down) × Int × Int × S_multihopmade_Tape) (v39 : (List S_Down)) : Option (((List S_Down) × Int × Int × S_multihopmade_Tape) ⊕ ((Unit) ⊕ (Bool))) :=
  (F_made_Tape_Next v8.2 5).bind fun v40 =>
  some (Sum.inl (v39, IntKind.wrap .i64 (s2.2.1 + v40.1), IntKind.wrap .i64 (s2.2.2.1 + 1), v40.2))
noncomputable def F_law33_StoringNewest_j5 (v8 : Int × S_multihopmade_Tape) (s2 : (List S_Down) × Int × Int × S_multihopmade_Tape) (v49 : (List S_Down)) : Option (((List S_Down) × Int × Int × S_multihopmade_Tape) ⊕ ((Unit) ⊕ (Bool))) :=
  (F_made_Tape_Next v8.2 5).bind fun v50 =>
  some (Sum.inl (v49, IntKind.wrap .i64 (s2.2.1 + v50.1), IntKind.wrap .i64 (s2.2.2.1 + 1), v50.2))
noncomputable def F_law33_StoringNewest_l1  (s2 : (List S_Down) × Int × Int × S_multihopmade_Tape) : Option (((List S_Down) × Int × Int × S_multihopmade_Tape) ⊕ ((Unit) ⊕ (Bool))) :=
  bif (decide (s2.2.2.1 < 25)) then
    (F_world_Register s2.2.2.2).bind fun v6 =>
    (F_world_EUI v6.2).bind fun v7 =>
    (F_made_Tape_Next v7.2 3).bind fun v8 =>
    (F_law33_target v8.1).bind fun v9 =>
    (F_ref33_Find s2.1 s2.2.1 v9).bind fun v10 =>
    (F_storing_Accept s2.1 s2.2.1 v7.1 (S_Register.mk v9 v6.1.Sequence v6.1.Lifetime)).bind fun v11 =>
    bif (v11.2.2 != 0) then
      bif (v11.2.2 != 16) then
        some (Sum.inr (Sum.inr false))
      else
        bif (v11.2.2 == 16) then
          bif v10.2 then
            bif (v11.2.2 == 0) then
              (F_ref33_Find v11.1 s2.2.1 v9).bind fun v19 =>
              bif (v19.2 == (decide (v6.1.Lifetime > 0))) then
                bif v19.2 then
                  bif (v19.1.Via != v7.1) then
                    some (Sum.inr (Sum.inr false))
                  else
                    bif (v19.1.Sequence != v6.1.Sequence) then
                      some (Sum.inr (Sum.inr false))
                    else
                      (F_ref21_Newer v10.1.Sequence v19.1.Sequence).bind fun v24 =>
                      bif v24 then
                        some (Sum.inr (Sum.inr false))
                      else
                        (F_law33_StoringNewest_j2 v8 s2) v11.1
                else
                  (F_law33_StoringNewest_j2 v8 s2) v11.1
              else
                some (Sum.inr (Sum.inr false))
            else
              (F_law33_StoringNewest_j2 v8 s2) s2.1
          else
            some (Sum.inr (Sum.inr false))
        else
          bif (v11.2.2 == 0) then
            (F_ref33_Find v11.1 s2.2.1 v9).bind fun v29 =>
            bif (v29.2 == (decide (v6.1.Lifetime > 0))) then
              bif v29.2 then
                bif (v29.1.Via != v7.1) then
                  some (Sum.inr (Sum.inr false))
                else
                  bif (v29.1.Sequence != v6.1.Sequence) then
                    some (Sum.inr (Sum.inr false))
                  else
                    bif v10.2 then
                      (F_ref21_Newer v10.1.Sequence v29.1.Sequence).bind fun v35 =>
                      bif v35 then
                        some (Sum.inr (Sum.inr false))
                      else
                        (F_law33_StoringNewest_j3 v8 s2) v11.1
                    else
                      (F_law33_StoringNewest_j3 v8 s2) v11.1
              else
                (F_law33_StoringNewest_j3 v8 s2) v11.1
            else
              some (Sum.inr (Sum.inr false))
          else
            (F_law33_StoringNewest_j3 v8 s2) s2.1
    else
      bif (v11.2.2 == 16) then
        bif v10.2 then
          bif (v11.2.2 == 0) then
            (F_ref33_Find v11.1 s2.2.1 v9).bind fun v42 =>
            bif (v42.2 == (decide (v6.1.Lifetime > 0))) then
              bif v42.2 then
                bif (v42.1.Via != v7.1) then
                  some (Sum.inr (Sum.inr false))
                else
                  bif (v42.1.Sequence != v6.1.Sequence) then
                    some (Sum.inr (Sum.inr false))
                  else
                    (F_ref21_Newer v10.1.Sequence v42.1.Sequence).bind fun v47 =>
                    bif v47 then
                      some (Sum.inr (Sum.inr false))
                    else
                      (F_law33_StoringNewest_j4 v8 s2) v11.1
              else
                (F_law33_StoringNewest_j4 v8 s2) v11.1
            else
              some (Sum.inr (Sum.inr false))
          else
            (F_law33_StoringNewest_j4 v8 s2) s2.1
        else
          some (Sum.inr (Sum.inr false))
      else
        bif (v11.2.2 == 0) then
          (F_ref33_Find v11.1 s2.2.1 v9).bind fun v52 =>
          bif (v52.2 == (decide (v6.1.Lifetime > 0))) then
            bif v52.2 then
              bif (v52.1.Via != v7.1) then
                some (Sum.inr (Sum.inr false))
              else
                bif (v52.1.Sequence != v6.1.Sequence) then
                  some (Sum.inr (Sum.inr false))
                else
                  bif v10.2 then
                    (F_ref21_Newer v10.1.Sequence v52.1.Sequence).bind fun v58 =>
                    bif v58 then
                      some (Sum.inr (Sum.inr false))
                    else
                      (F_law33_StoringNewest_j5 v8 s2) v11.1
                  else
                    (F_law33_StoringNewest_j5 v8 s2) v11.1
            else
              (F_law33_StoringNewest_j5 v8 s2) v11.1
          else
            some (Sum.inr (Sum.inr false))
        else
          (F_law33_StoringNewest_j5 v8 s2) s2.1
  else
    some (Sum.inr (Sum.inl ()))
noncomputable def F_law33_StoringNewest (a0 : List Int) : Option (Bool) :=
  (F_made_New a0).bind fun v1 =>
  (loopO (F_law33_StoringNewest_l1) (([] : List S_Down), 0, 0, v1)).bind (Sum.elim (fun b3 =>
    (F_law33_known ).bind fun v61 =>
    some (v61)
  ) (fun w60 => some w60))
set_option maxRecDepth 100000 in
set_option maxHeartbeats 40000000 in
theorem ok_law33_StoringNewest (a0 : List Int) (r : Bool) (h : F_law33_StoringNewest a0 = some r) : Con Try.prog 3 [.c (eS 1 (ecI .i64) (a0))] [] (.c (.lit (.bool (r)))) [] := by
  unfold F_law33_StoringNewest at h
  refine con_of [] [] 108 Try.func3 rfl rfl (by kernel_rfl) (fun K => ?_)
  refine TS_go 7 ?_
  replace h := bindO h
  obtain ⟨v1, hv1, h⟩ := h
  refine TS_con [] [(17, 10)] none (ok_made_New a0 v1 hv1) (by kernel_rfl) (by kernel_rfl) (by kernel_rfl) ?_
  refine TS_go 16 ?_
  refine TS_cut ⟨[(3, []), (4, []), (5, []), (6, [])], [(17, (17, []))]⟩ (.mk [.code (codeAt [1, 1, 1, 1, 0, 1, 0] (bodyOf Try.f3)), .blk 0, .code (codeAt [1, 1, 1, 1, 1] (bodyOf Try.f3))] .normal ⟨[(3, .c (.box 17 0)), (4, .c (.lit (.slice none 0 0))), (5, .c (.lit (.int .i64 (0)))), (6, .c (.lit (.int .i64 (0))))], [(17, .box [.slc 1 0 (List.length v1.l) (List.map (ecI .i64) v1.l), .lit (.int .i64 (v1.at_))])]⟩) (by kernel_rfl) (by kernel_rfl) ?_
  replace h := bindO h
  obtain ⟨y4, hl1, hK1⟩ := h
  refine TS_loopB (F_law33_StoringNewest_l1) ⟨[(3, []), (4, [21]), (5, []), (6, [])], [(17, (17, []))]⟩ (fun (s2 : (List S_Down) × Int × Int × S_multihopmade_Tape) => [(4, .c (eS 20 S_Down.cs (s2.1))), (5, .c (.lit (.int .i64 (s2.2.1)))), (6, .c (.lit (.int .i64 (s2.2.2.1))))]) (fun (s2 : (List S_Down) × Int × Int × S_multihopmade_Tape) => [(17, .box (S_multihopmade_Tape.cs s2.2.2.2))]) (([] : List S_Down), 0, 0, v1) y4 (.exit 0) (fun (b : Unit) => (Sum.inl b : (Unit) ⊕ (Bool))) ⟨[], []⟩ (fun (b3 : Unit) => []) (fun (b3 : Unit) => []) hl1 (by kernel_rfl) (by kernel_rfl) ?_ ?_
  · intro s2 x h hy1
    unfold F_law33_StoringNewest_l1 at h
    refine TS_go 6 ?_
    replace h := condO h
    rcases h with ⟨hb5, h⟩ | ⟨hb5, h⟩
    · refine TS_know 19 (b := true) hb5 (by kernel_rfl) (by kernel_rfl) ?_
      refine TS_T (by kernel_rfl) rfl ?_
      refine TS_go 6 ?_
      replace h := bindO h
      obtain ⟨v6, hv6, h⟩ := h
      refine TS_con [] [] (some (17, 0)) (ok_world_Register s2.2.2.2 v6 hv6) (by kernel_rfl) (by kernel_rfl) (by kernel_rfl) ?_
      refine TS_go 1 ?_
      replace h := bindO h
      obtain ⟨v7, hv7, h⟩ := h
      refine TS_con [] [] (some (17, 0)) (ok_world_EUI v6.2 v7 hv7) (by kernel_rfl) (by kernel_rfl) (by kernel_rfl) ?_
      refine TS_go 7 ?_
      replace h := bindO h
      obtain ⟨v8, hv8, h⟩ := h
      refine TS_con [] [] (some (17, 0)) (ok_made_Tape_Next v7.2 3 v8 hv8) (by kernel_rfl) (by kernel_rfl) (by kernel_rfl) ?_
      replace h := bindO h
      obtain ⟨v9, hv9, h⟩ := h
      refine TS_call [] (ok_law33_target v8.1 v9 hv9) (by kernel_rfl) (by kernel_rfl) ?_
      refine TS_go 9 ?_
      replace h := bindO h
      obtain ⟨v10, hv10, h⟩ := h
      refine TS_call [] (ok_ref33_Find s2.1 s2.2.1 v9 v10 hv10) (by kernel_rfl) (by kernel_rfl) ?_
      refine TS_go 13 ?_
      replace h := bindO h
      obtain ⟨v11, hv11, h⟩ := h
      refine TS_call [] (ok_storing_Accept s2.1 s2.2.1 v7.1 (S_Register.mk v9 v6.1.Sequence v6.1.Lifetime) v11 hv11) (by kernel_rfl) (by kernel_rfl) ?_
      refine TS_go 14 ?_
      replace h := condO h
      rcases h with ⟨hb12, h⟩ | ⟨hb12, h⟩
      · refine TS_know 48 (b := true) hb12 (by kernel_rfl) (by kernel_rfl) ?_
        refine TS_know 49 (b := true) hb12 (by kernel_rfl) (by kernel_rfl) ?_
        refine TS_go 4 ?_
        replace h := condO h
        rcases h with ⟨hb13, h⟩ | ⟨hb13, h⟩
        · refine TS_know 51 (b := true) hb13 (by kernel_rfl) (by kernel_rfl) ?_
          refine TS_know 52 (b := true) hb13 (by kernel_rfl) (by kernel_rfl) ?_
          refine TS_know 53 (b := true) hb13 (by kernel_rfl) (by kernel_rfl) ?_
          refine TS_go 8 ?_
          refine TS_T (by kernel_rfl) rfl ?_
          refine TS_go 8 ?_
          obtain rfl := Option.some.inj h
          have hy1q := hy1 _ rfl
          subst hy1q
          replace h := (elimR hK1)
          refine TS_retB rfl (by kernel_rfl) ?_
          refine TS_go 2 ?_
          obtain rfl := Option.some.inj h
          exact TS_ret (by kernel_rfl) (by kernel_rfl) (by kernel_rfl)
        · refine TS_know 51 (b := false) hb13 (by kernel_rfl) (by kernel_rfl) ?_
          refine TS_know 52 (b := false) hb13 (by kernel_rfl) (by kernel_rfl) ?_
          refine TS_know 53 (b := false) hb13 (by kernel_rfl) (by kernel_rfl) ?_
          refine TS_go 3 ?_
          replace h := condO h
          rcases h with ⟨hb14, h⟩ | ⟨hb14, h⟩
          · refine TS_know 55 (b := true) hb14 (by kernel_rfl) (by kernel_rfl) ?_
            refine TS_know 56 (b := true) hb14 (by kernel_rfl) (by kernel_rfl) ?_
            refine TS_go 5 ?_
            replace h := condO h
            rcases h with ⟨hb15, h⟩ | ⟨hb15, h⟩
            · refine TS_know 37 (b := true) hb15 (by kernel_rfl) (by kernel_rfl) ?_
              refine TS_know 10 (b := true) hb15 (by kernel_rfl) (by kernel_rfl) ?_
              refine TS_know 57 (b := true) hb15 (by kernel_rfl) (by kernel_rfl) ?_
              refine TS_know 58 (b := false) (notF hb15) (by kernel_rfl) (by kernel_rfl) ?_
              refine TS_know 59 (b := false) (notF hb15) (by kernel_rfl) (by kernel_rfl) ?_
              refine TS_know 60 (b := false) (notF hb15) (by kernel_rfl) (by kernel_rfl) ?_
              refine TS_F (by kernel_rfl) rfl ?_
              refine TS_go 1 ?_
              refine TS_cut ⟨[(3, []), (4, []), (5, []), (6, []), (7, []), (8, []), (9, []), (10, []), (11, []), (13, [])], [(17, (17, [])), (7, (7, [])), (9, (9, []))]⟩ (.mk [.code (codeAt [1, 1, 1, 1, 0, 1, 0, 0, 1, 0, 0, 1, 1, 1, 1, 1] (bodyOf Try.f3)), .blk 1, .code (codeAt [1, 1, 1, 1, 0, 1, 0, 0, 1, 1] (bodyOf Try.f3))] .normal ⟨[(3, .c (.box 17 0)), (4, .c (.slc 20 0 (List.length s2.1) (List.map S_Down.cs s2.1))), (5, .c (.lit (.int .i64 (s2.2.1)))), (6, .c (.lit (.int .i64 (s2.2.2.1)))), (7, .c (.box 7 0)), (8, .c (.lit (.int .u64 (v7.1)))), (9, .c (.box 9 0)), (10, .c (.lit (.bool (true)))), (11, .c (.slc 20 0 (List.length v11.1) (List.map S_Down.cs v11.1))), (13, .c (.lit (.int .i64 (v11.2.2))))], [(17, .box [.slc 1 0 (List.length v8.2.l) (List.map (ecI .i64) v8.2.l), .lit (.int .i64 (v8.2.at_))]), (7, .box [.lit (.int .u8 ((v9.IP.getD 0 0))), .lit (.int .u8 ((v9.IP.getD 1 0))), .lit (.int .u8 ((v9.IP.getD 2 0))), .lit (.int .u8 ((v9.IP.getD 3 0))), .lit (.int .u8 ((v9.IP.getD 4 0))), .lit (.int .u8 ((v9.IP.getD 5 0))), .lit (.int .u8 ((v9.IP.getD 6 0))), .lit (.int .u8 ((v9.IP.getD 7 0))), .lit (.int .u8 ((v9.IP.getD 8 0))), .lit (.int .u8 ((v9.IP.getD 9 0))), .lit (.int .u8 ((v9.IP.getD 10 0))), .lit (.int .u8 ((v9.IP.getD 11 0))), .lit (.int .u8 ((v9.IP.getD 12 0))), .lit (.int .u8 ((v9.IP.getD 13 0))), .lit (.int .u8 ((v9.IP.getD 14 0))), .lit (.int .u8 ((v9.IP.getD 15 0))), .lit (.int .i64 (v9.Bits)), .lit (.int .u8 (v6.1.Sequence)), .lit (.int .i64 (v6.1.Lifetime))]), (9, .box [.lit (.int .u8 ((v10.1.Target.IP.getD 0 0))), .lit (.int .u8 ((v10.1.Target.IP.getD 1 0))), .lit (.int .u8 ((v10.1.Target.IP.getD 2 0))), .lit (.int .u8 ((v10.1.Target.IP.getD 3 0))), .lit (.int .u8 ((v10.1.Target.IP.getD 4 0))), .lit (.int .u8 ((v10.1.Target.IP.getD 5 0))), .lit (.int .u8 ((v10.1.Target.IP.getD 6 0))), .lit (.int .u8 ((v10.1.Target.IP.getD 7 0))), .lit (.int .u8 ((v10.1.Target.IP.getD 8 0))), .lit (.int .u8 ((v10.1.Target.IP.getD 9 0))), .lit (.int .u8 ((v10.1.Target.IP.getD 10 0))), .lit (.int .u8 ((v10.1.Target.IP.getD 11 0))), .lit (.int .u8 ((v10.1.Target.IP.getD 12 0))), .lit (.int .u8 ((v10.1.Target.IP.getD 13 0))), .lit (.int .u8 ((v10.1.Target.IP.getD 14 0))), .lit (.int .u8 ((v10.1.Target.IP.getD 15 0))), .lit (.int .i64 (v10.1.Target.Bits)), .lit (.int .u64 (v10.1.Via)), .lit (.int .u8 (v10.1.Sequence)), .lit (.int .i64 (v10.1.Until))])]⟩) (by kernel_rfl) (by kernel_rfl) ?_
              refine TS_joinB ⟨[(3, []), (4, []), (5, []), (6, [])], [(17, (17, []))]⟩ (fun (v16 : (List S_Down)) => [(4, .c (eS 20 S_Down.cs (v16)))]) (fun (v16 : (List S_Down)) => []) (F_law33_StoringNewest_j2 v8 s2) x ?_ ?_
              · clear h
                intro v16 h
                unfold F_law33_StoringNewest_j2 at h
                refine TS_go 3 ?_
                replace h := bindO h
                obtain ⟨v17, hv17, h⟩ := h
                refine TS_con [] [] (some (17, 0)) (ok_made_Tape_Next v8.2 5 v17 hv17) (by kernel_rfl) (by kernel_rfl) (by kernel_rfl) ?_
                refine TS_go 9 ?_
                obtain rfl := Option.some.inj h
                exact TS_againB _ ⟨[(3, []), (4, []), (5, []), (6, [])], [(17, (17, []))]⟩ rfl (by kernel_rfl) (by kernel_rfl)
              · refine TS_go 5 ?_
                replace h := condO h
                rcases h with ⟨hb18, h⟩ | ⟨hb18, h⟩
                · refine TS_know 62 (b := true) hb18 (by kernel_rfl) (by kernel_rfl) ?_
                  refine TS_T (by kernel_rfl) rfl ?_
                  refine TS_go 6 ?_
                  replace h := bindO h
                  obtain ⟨v19, hv19, h⟩ := h
                  refine TS_call [] (ok_ref33_Find v11.1 s2.2.1 v9 v19 hv19) (by kernel_rfl) (by kernel_rfl) ?_
                  refine TS_go 16 ?_
                  replace h := condO h
                  rcases h with ⟨hb20, h⟩ | ⟨hb20, h⟩
                  · refine TS_know 75 (b := false) (notF hb20) (by kernel_rfl) (by kernel_rfl) ?_
                    refine TS_know 76 (b := false) (notF hb20) (by kernel_rfl) (by kernel_rfl) ?_
                    refine TS_go 2 ?_
                    replace h := condO h
                    rcases h with ⟨hb21, h⟩ | ⟨hb21, h⟩
                    · refine TS_know 70 (b := true) hb21 (by kernel_rfl) (by kernel_rfl) ?_
                      refine TS_know 15 (b := true) hb21 (by kernel_rfl) (by kernel_rfl) ?_
                      refine TS_know 71 (b := true) hb21 (by kernel_rfl) (by kernel_rfl) ?_
                      refine TS_know 77 (b := true) hb21 (by kernel_rfl) (by kernel_rfl) ?_
                      refine TS_know 78 (b := true) hb21 (by kernel_rfl) (by kernel_rfl) ?_
                      refine TS_go 5 ?_
                      replace h := condO h
                      rcases h with ⟨hb22, h⟩ | ⟨hb22, h⟩
                      · refine TS_know 82 (b := true) hb22 (by kernel_rfl) (by kernel_rfl) ?_
                        refine TS_know 83 (b := true) hb22 (by kernel_rfl) (by kernel_rfl) ?_
                        refine TS_go 19 ?_
                        refine TS_T (by kernel_rfl) rfl ?_
                        refine TS_go 6 ?_
                        refine TS_outJ (by kernel_rfl) ?_
                        refine TS_go 2 ?_
                        obtain rfl := Option.some.inj h
                        have hy1q := hy1 _ rfl
                        subst hy1q
                        replace h := (elimR hK1)
                        refine TS_retB rfl (by kernel_rfl) ?_
                        refine TS_go 2 ?_
                        obtain rfl := Option.some.inj h
                        exact TS_ret (by kernel_rfl) (by kernel_rfl) (by kernel_rfl)
                      · refine TS_know 82 (b := false) hb22 (by kernel_rfl) (by kernel_rfl) ?_
                        refine TS_know 83 (b := false) hb22 (by kernel_rfl) (by kernel_rfl) ?_
                        refine TS_go 7 ?_
                        replace h := condO h
                        rcases h with ⟨hb23, h⟩ | ⟨hb23, h⟩
                        · refine TS_know 88 (b := true) hb23 (by kernel_rfl) (by kernel_rfl) ?_
                          refine TS_know 89 (b := true) hb23 (by kernel_rfl) (by kernel_rfl) ?_
                          refine TS_know 90 (b := true) hb23 (by kernel_rfl) (by kernel_rfl) ?_
                          refine TS_go 12 ?_
                          refine TS_T (by kernel_rfl) rfl ?_
                          refine TS_go 6 ?_
                          refine TS_outJ (by kernel_rfl) ?_
                          refine TS_go 2 ?_
                          obtain rfl := Option.some.inj h
                          have hy1q := hy1 _ rfl
                          subst hy1q
                          replace h := (elimR hK1)
                          refine TS_retB rfl (by kernel_rfl) ?_
                          refine TS_go 2 ?_
                          obtain rfl := Option.some.inj h
                          exact TS_ret (by kernel_rfl) (by kernel_rfl) (by kernel_rfl)
                        · refine TS_know 88 (b := false) hb23 (by kernel_rfl) (by kernel_rfl) ?_
                          refine TS_know 89 (b := false) hb23 (by kernel_rfl) (by kernel_rfl) ?_
                          refine TS_know 90 (b := false) hb23 (by kernel_rfl) (by kernel_rfl) ?_
                          refine TS_go 6 ?_
                          replace h := bindO h
                          obtain ⟨v24, hv24, h⟩ := h
                          refine TS_call [] (ok_ref21_Newer v10.1.Sequence v19.1.Sequence v24 hv24) (by kernel_rfl) (by kernel_rfl) ?_
                          refine TS_go 5 ?_
                          replace h := condO h
                          rcases h with ⟨hb25, h⟩ | ⟨hb25, h⟩
                          · subst hb25
                            refine TS_T (by kernel_rfl) rfl ?_
                            refine TS_go 6 ?_
                            refine TS_outJ (by kernel_rfl) ?_
                            refine TS_go 2 ?_
                            obtain rfl := Option.some.inj h
                            have hy1q := hy1 _ rfl
                            subst hy1q
                            replace h := (elimR hK1)
                            refine TS_retB rfl (by kernel_rfl) ?_
                            refine TS_go 2 ?_
                            obtain rfl := Option.some.inj h
                            exact TS_ret (by kernel_rfl) (by kernel_rfl) (by kernel_rfl)
                          · subst hb25
                            refine TS_F (by kernel_rfl) rfl ?_
                            refine TS_go 5 ?_
                            exact TS_meet v11.1 ⟨[(3, []), (4, []), (5, []), (6, [])], [(17, (17, []))]⟩ h (by kernel_rfl) (by kernel_rfl)
                    · refine TS_know 70 (b := false) hb21 (by kernel_rfl) (by kernel_rfl) ?_
                      refine TS_know 15 (b := false) hb21 (by kernel_rfl) (by kernel_rfl) ?_
                      refine TS_know 71 (b := false) hb21 (by kernel_rfl) (by kernel_rfl) ?_
                      refine TS_know 77 (b := false) hb21 (by kernel_rfl) (by kernel_rfl) ?_
                      refine TS_know 78 (b := false) hb21 (by kernel_rfl) (by kernel_rfl) ?_
                      refine TS_go 24 ?_
                      refine TS_F (by kernel_rfl) rfl ?_
                      refine TS_go 5 ?_
                      exact TS_meet v11.1 ⟨[(3, []), (4, []), (5, []), (6, [])], [(17, (17, []))]⟩ h (by kernel_rfl) (by kernel_rfl)
                  · refine TS_know 75 (b := true) (notT hb20) (by kernel_rfl) (by kernel_rfl) ?_
                    refine TS_know 76 (b := true) (notT hb20) (by kernel_rfl) (by kernel_rfl) ?_
                    refine TS_go 26 ?_
                    refine TS_T (by kernel_rfl) rfl ?_
                    refine TS_go 6 ?_
                    refine TS_outJ (by kernel_rfl) ?_
                    refine TS_go 2 ?_
                    obtain rfl := Option.some.inj h
                    have hy1q := hy1 _ rfl
                    subst hy1q
                    replace h := (elimR hK1)
                    refine TS_retB rfl (by kernel_rfl) ?_
                    refine TS_go 2 ?_
                    obtain rfl := Option.some.inj h
                    exact TS_ret (by kernel_rfl) (by kernel_rfl) (by kernel_rfl)
                · refine TS_know 62 (b := false) hb18 (by kernel_rfl) (by kernel_rfl) ?_
                  refine TS_F (by kernel_rfl) rfl ?_
                  refine TS_go 1 ?_
                  exact TS_meet s2.1 ⟨[(3, []), (4, []), (5, []), (6, [])], [(17, (17, []))]⟩ h (by kernel_rfl) (by kernel_rfl)
            · refine TS_know 37 (b := false) hb15 (by kernel_rfl) (by kernel_rfl) ?_
              refine TS_know 10 (b := false) hb15 (by kernel_rfl) (by kernel_rfl) ?_
              refine TS_know 57 (b := false) hb15 (by kernel_rfl) (by kernel_rfl) ?_
              refine TS_know 58 (b := true) (notT hb15) (by kernel_rfl) (by kernel_rfl) ?_
              refine TS_know 59 (b := true) (notT hb15) (by kernel_rfl) (by kernel_rfl) ?_
              refine TS_know 60 (b := true) (notT hb15) (by kernel_rfl) (by kernel_rfl) ?_
              refine TS_T (by kernel_rfl) rfl ?_
              refine TS_go 8 ?_
              obtain rfl := Option.some.inj h
              have hy1q := hy1 _ rfl
              subst hy1q
              replace h := (elimR hK1)
              refine TS_retB rfl (by kernel_rfl) ?_
              refine TS_go 2 ?_
              obtain rfl := Option.some.inj h
              exact TS_ret (by kernel_rfl) (by kernel_rfl) (by kernel_rfl)
          · refine TS_know 55 (b := false) hb14 (by kernel_rfl) (by kernel_rfl) ?_
            refine TS_know 56 (b := false) hb14 (by kernel_rfl) (by kernel_rfl) ?_
            refine TS_go 5 ?_
            refine TS_F (by kernel_rfl) rfl ?_
            refine TS_go 1 ?_
            refine TS_cut ⟨[(3, []), (4, []), (5, []), (6, []), (7, []), (8, []), (9, []), (10, []), (11, []), (13, [])], [(17, (17, [])), (7, (7, [])), (9, (9, []))]⟩ (.mk [.code (codeAt [1, 1, 1, 1, 0, 1, 0, 0, 1, 0, 0, 1, 1, 1, 1, 1] (bodyOf Try.f3)), .blk 1, .code (codeAt [1, 1, 1, 1, 0, 1, 0, 0, 1, 1] (bodyOf Try.f3))] .normal ⟨[(3, .c (.box 17 0)), (4, .c (.slc 20 0 (List.length s2.1) (List.map S_Down.cs s2.1))), (5, .c (.lit (.int .i64 (s2.2.1)))), (6, .c (.lit (.int .i64 (s2.2.2.1)))), (7, .c (.box 7 0)), (8, .c (.lit (.int .u64 (v7.1)))), (9, .c (.box 9 0)), (10, .c (.lit (.bool (v10.2)))), (11, .c (.slc 20 0 (List.length v11.1) (List.map S_Down.cs v11.1))), (13, .c (.lit (.int .i64 (v11.2.2))))], [(17, .box [.slc 1 0 (List.length v8.2.l) (List.map (ecI .i64) v8.2.l), .lit (.int .i64 (v8.2.at_))]), (7, .box [.lit (.int .u8 ((v9.IP.getD 0 0))), .lit (.int .u8 ((v9.IP.getD 1 0))), .lit (.int .u8 ((v9.IP.getD 2 0))), .lit (.int .u8 ((v9.IP.getD 3 0))), .lit (.int .u8 ((v9.IP.getD 4 0))), .lit (.int .u8 ((v9.IP.getD 5 0))), .lit (.int .u8 ((v9.IP.getD 6 0))), .lit (.int .u8 ((v9.IP.getD 7 0))), .lit (.int .u8 ((v9.IP.getD 8 0))), .lit (.int .u8 ((v9.IP.getD 9 0))), .lit (.int .u8 ((v9.IP.getD 10 0))), .lit (.int .u8 ((v9.IP.getD 11 0))), .lit (.int .u8 ((v9.IP.getD 12 0))), .lit (.int .u8 ((v9.IP.getD 13 0))), .lit (.int .u8 ((v9.IP.getD 14 0))), .lit (.int .u8 ((v9.IP.getD 15 0))), .lit (.int .i64 (v9.Bits)), .lit (.int .u8 (v6.1.Sequence)), .lit (.int .i64 (v6.1.Lifetime))]), (9, .box [.lit (.int .u8 ((v10.1.Target.IP.getD 0 0))), .lit (.int .u8 ((v10.1.Target.IP.getD 1 0))), .lit (.int .u8 ((v10.1.Target.IP.getD 2 0))), .lit (.int .u8 ((v10.1.Target.IP.getD 3 0))), .lit (.int .u8 ((v10.1.Target.IP.getD 4 0))), .lit (.int .u8 ((v10.1.Target.IP.getD 5 0))), .lit (.int .u8 ((v10.1.Target.IP.getD 6 0))), .lit (.int .u8 ((v10.1.Target.IP.getD 7 0))), .lit (.int .u8 ((v10.1.Target.IP.getD 8 0))), .lit (.int .u8 ((v10.1.Target.IP.getD 9 0))), .lit (.int .u8 ((v10.1.Target.IP.getD 10 0))), .lit (.int .u8 ((v10.1.Target.IP.getD 11 0))), .lit (.int .u8 ((v10.1.Target.IP.getD 12 0))), .lit (.int .u8 ((v10.1.Target.IP.getD 13 0))), .lit (.int .u8 ((v10.1.Target.IP.getD 14 0))), .lit (.int .u8 ((v10.1.Target.IP.getD 15 0))), .lit (.int .i64 (v10.1.Target.Bits)), .lit (.int .u64 (v10.1.Via)), .lit (.int .u8 (v10.1.Sequence)), .lit (.int .i64 (v10.1.Until))])]⟩) (by kernel_rfl) (by kernel_rfl) ?_
            refine TS_joinB ⟨[(3, []), (4, []), (5, []), (6, [])], [(17, (17, []))]⟩ (fun (v26 : (List S_Down)) => [(4, .c (eS 20 S_Down.cs (v26)))]) (fun (v26 : (List S_Down)) => []) (F_law33_StoringNewest_j3 v8 s2) x ?_ ?_
            · clear h
              intro v26 h
              unfold F_law33_StoringNewest_j3 at h
              refine TS_go 3 ?_
              replace h := bindO h
              obtain ⟨v27, hv27, h⟩ := h
              refine TS_con [] [] (some (17, 0)) (ok_made_Tape_Next v8.2 5 v27 hv27) (by kernel_rfl) (by kernel_rfl) (by kernel_rfl) ?_
              refine TS_go 9 ?_
              obtain rfl := Option.some.inj h
              exact TS_againB _ ⟨[(3, []), (4, []), (5, []), (6, [])], [(17, (17, []))]⟩ rfl (by kernel_rfl) (by kernel_rfl)
            · refine TS_go 5 ?_
              replace h := condO h
              rcases h with ⟨hb28, h⟩ | ⟨hb28, h⟩
              · refine TS_know 62 (b := true) hb28 (by kernel_rfl) (by kernel_rfl) ?_
                refine TS_T (by kernel_rfl) rfl ?_
                refine TS_go 6 ?_
                replace h := bindO h
                obtain ⟨v29, hv29, h⟩ := h
                refine TS_call [] (ok_ref33_Find v11.1 s2.2.1 v9 v29 hv29) (by kernel_rfl) (by kernel_rfl) ?_
                refine TS_go 16 ?_
                replace h := condO h
                rcases h with ⟨hb30, h⟩ | ⟨hb30, h⟩
                · refine TS_know 75 (b := false) (notF hb30) (by kernel_rfl) (by kernel_rfl) ?_
                  refine TS_know 76 (b := false) (notF hb30) (by kernel_rfl) (by kernel_rfl) ?_
                  refine TS_go 2 ?_
                  replace h := condO h
                  rcases h with ⟨hb31, h⟩ | ⟨hb31, h⟩
                  · refine TS_know 70 (b := true) hb31 (by kernel_rfl) (by kernel_rfl) ?_
                    refine TS_know 15 (b := true) hb31 (by kernel_rfl) (by kernel_rfl) ?_
                    refine TS_know 71 (b := true) hb31 (by kernel_rfl) (by kernel_rfl) ?_
                    refine TS_know 77 (b := true) hb31 (by kernel_rfl) (by kernel_rfl) ?_
                    refine TS_know 78 (b := true) hb31 (by kernel_rfl) (by kernel_rfl) ?_
                    refine TS_go 5 ?_
                    replace h := condO h
                    rcases h with ⟨hb32, h⟩ | ⟨hb32, h⟩
                    · refine TS_know 82 (b := true) hb32 (by kernel_rfl) (by kernel_rfl) ?_
                      refine TS_know 83 (b := true) hb32 (by kernel_rfl) (by kernel_rfl) ?_
                      refine TS_go 19 ?_
                      refine TS_T (by kernel_rfl) rfl ?_
                      refine TS_go 6 ?_
                      refine TS_outJ (by kernel_rfl) ?_
                      refine TS_go 2 ?_
                      obtain rfl := Option.some.inj h
                      have hy1q := hy1 _ rfl
                      subst hy1q
                      replace h := (elimR hK1)
                      refine TS_retB rfl (by kernel_rfl) ?_
                      refine TS_go 2 ?_
                      obtain rfl := Option.some.inj h
                      exact TS_ret (by kernel_rfl) (by kernel_rfl) (by kernel_rfl)
                    · refine TS_know 82 (b := false) hb32 (by kernel_rfl) (by kernel_rfl) ?_
                      refine TS_know 83 (b := false) hb32 (by kernel_rfl) (by kernel_rfl) ?_
                      refine TS_go 7 ?_
                      replace h := condO h
                      rcases h with ⟨hb33, h⟩ | ⟨hb33, h⟩
                      · refine TS_know 88 (b := true) hb33 (by kernel_rfl) (by kernel_rfl) ?_
                        refine TS_know 89 (b := true) hb33 (by kernel_rfl) (by kernel_rfl) ?_
                        refine TS_know 90 (b := true) hb33 (by kernel_rfl) (by kernel_rfl) ?_
                        refine TS_go 12 ?_
                        refine TS_T (by kernel_rfl) rfl ?_
                        refine TS_go 6 ?_
                        refine TS_outJ (by kernel_rfl) ?_
                        refine TS_go 2 ?_
                        obtain rfl := Option.some.inj h
                        have hy1q := hy1 _ rfl
                        subst hy1q
                        replace h := (elimR hK1)
                        refine TS_retB rfl (by kernel_rfl) ?_
                        refine TS_go 2 ?_
                        obtain rfl := Option.some.inj h
                        exact TS_ret (by kernel_rfl) (by kernel_rfl) (by kernel_rfl)
                      · refine TS_know 88 (b := false) hb33 (by kernel_rfl) (by kernel_rfl) ?_
                        refine TS_know 89 (b := false) hb33 (by kernel_rfl) (by kernel_rfl) ?_
                        refine TS_know 90 (b := false) hb33 (by kernel_rfl) (by kernel_rfl) ?_
                        refine TS_go 2 ?_
                        replace h := condO h
                        rcases h with ⟨hb34, h⟩ | ⟨hb34, h⟩
                        · refine TS_know 10 (b := true) hb34 (by kernel_rfl) (by kernel_rfl) ?_
                          refine TS_know 91 (b := true) hb34 (by kernel_rfl) (by kernel_rfl) ?_
                          refine TS_know 92 (b := true) hb34 (by kernel_rfl) (by kernel_rfl) ?_
                          refine TS_go 4 ?_
                          replace h := bindO h
                          obtain ⟨v35, hv35, h⟩ := h
                          refine TS_call [] (ok_ref21_Newer v10.1.Sequence v29.1.Sequence v35 hv35) (by kernel_rfl) (by kernel_rfl) ?_
                          refine TS_go 5 ?_
                          replace h := condO h
                          rcases h with ⟨hb36, h⟩ | ⟨hb36, h⟩
                          · subst hb36
                            refine TS_T (by kernel_rfl) rfl ?_
                            refine TS_go 6 ?_
                            refine TS_outJ (by kernel_rfl) ?_
                            refine TS_go 2 ?_
                            obtain rfl := Option.some.inj h
                            have hy1q := hy1 _ rfl
                            subst hy1q
                            replace h := (elimR hK1)
                            refine TS_retB rfl (by kernel_rfl) ?_
                            refine TS_go 2 ?_
                            obtain rfl := Option.some.inj h
                            exact TS_ret (by kernel_rfl) (by kernel_rfl) (by kernel_rfl)
                          · subst hb36
                            refine TS_F (by kernel_rfl) rfl ?_
                            refine TS_go 5 ?_
                            exact TS_meet v11.1 ⟨[(3, []), (4, []), (5, []), (6, [])], [(17, (17, []))]⟩ h (by kernel_rfl) (by kernel_rfl)
                        · refine TS_know 10 (b := false) hb34 (by kernel_rfl) (by kernel_rfl) ?_
                          refine TS_know 91 (b := false) hb34 (by kernel_rfl) (by kernel_rfl) ?_
                          refine TS_know 92 (b := false) hb34 (by kernel_rfl) (by kernel_rfl) ?_
                          refine TS_go 10 ?_
                          refine TS_F (by kernel_rfl) rfl ?_
                          refine TS_go 5 ?_
                          exact TS_meet v11.1 ⟨[(3, []), (4, []), (5, []), (6, [])], [(17, (17, []))]⟩ h (by kernel_rfl) (by kernel_rfl)
                  · refine TS_know 70 (b := false) hb31 (by kernel_rfl) (by kernel_rfl) ?_
                    refine TS_know 15 (b := false) hb31 (by kernel_rfl) (by kernel_rfl) ?_
                    refine TS_know 71 (b := false) hb31 (by kernel_rfl) (by kernel_rfl) ?_
                    refine TS_know 77 (b := false) hb31 (by kernel_rfl) (by kernel_rfl) ?_
                    refine TS_know 78 (b := false) hb31 (by kernel_rfl) (by kernel_rfl) ?_
                    refine TS_go 24 ?_
                    refine TS_F (by kernel_rfl) rfl ?_
                    refine TS_go 5 ?_
                    exact TS_meet v11.1 ⟨[(3, []), (4, []), (5, []), (6, [])], [(17, (17, []))]⟩ h (by kernel_rfl) (by kernel_rfl)
                · refine TS_know 75 (b := true) (notT hb30) (by kernel_rfl) (by kernel_rfl) ?_
                  refine TS_know 76 (b := true) (notT hb30) (by kernel_rfl) (by kernel_rfl) ?_
                  refine TS_go 26 ?_
                  refine TS_T (by kernel_rfl) rfl ?_
                  refine TS_go 6 ?_
                  refine TS_outJ (by kernel_rfl) ?_
                  refine TS_go 2 ?_
                  obtain rfl := Option.some.inj h
                  have hy1q := hy1 _ rfl
                  subst hy1q
                  replace h := (elimR hK1)
                  refine TS_retB rfl (by kernel_rfl) ?_
                  refine TS_go 2 ?_
                  obtain rfl := Option.some.inj h
                  exact TS_ret (by kernel_rfl) (by kernel_rfl) (by kernel_rfl)
              · refine TS_know 62 (b := false) hb28 (by kernel_rfl) (by kernel_rfl) ?_
                refine TS_F (by kernel_rfl) rfl ?_
                refine TS_go 1 ?_
                exact TS_meet s2.1 ⟨[(3, []), (4, []), (5, []), (6, [])], [(17, (17, []))]⟩ h (by kernel_rfl) (by kernel_rfl)
      · refine TS_know 48 (b := false) hb12 (by kernel_rfl) (by kernel_rfl) ?_
        refine TS_know 49 (b := false) hb12 (by kernel_rfl) (by kernel_rfl) ?_
        refine TS_go 7 ?_
        replace h := condO h
        rcases h with ⟨hb37, h⟩ | ⟨hb37, h⟩
        · refine TS_know 55 (b := true) hb37 (by kernel_rfl) (by kernel_rfl) ?_
          refine TS_know 56 (b := true) hb37 (by kernel_rfl) (by kernel_rfl) ?_
          refine TS_go 5 ?_
          replace h := condO h
          rcases h with ⟨hb38, h⟩ | ⟨hb38, h⟩
          · refine TS_know 37 (b := true) hb38 (by kernel_rfl) (by kernel_rfl) ?_
            refine TS_know 10 (b := true) hb38 (by kernel_rfl) (by kernel_rfl) ?_
            refine TS_know 57 (b := true) hb38 (by kernel_rfl) (by kernel_rfl) ?_
            refine TS_know 58 (b := false) (notF hb38) (by kernel_rfl) (by kernel_rfl) ?_
            refine TS_know 59 (b := false) (notF hb38) (by kernel_rfl) (by kernel_rfl) ?_
            refine TS_know 60 (b := false) (notF hb38) (by kernel_rfl) (by kernel_rfl) ?_
            refine TS_F (by kernel_rfl) rfl ?_
            refine TS_go 1 ?_
            refine TS_cut ⟨[(3, []), (4, []), (5, []), (6, []), (7, []), (8, []), (9, []), (10, []), (11, []), (13, [])], [(17, (17, [])), (7, (7, [])), (9, (9, []))]⟩ (.mk [.code (codeAt [1, 1, 1, 1, 0, 1, 0, 0, 1, 0, 0, 1, 1, 1, 1, 1] (bodyOf Try.f3)), .blk 1, .code (codeAt [1, 1, 1, 1, 0, 1, 0, 0, 1, 1] (bodyOf Try.f3))] .normal ⟨[(3, .c (.box 17 0)), (4, .c (.slc 20 0 (List.length s2.1) (List.map S_Down.cs s2.1))), (5, .c (.lit (.int .i64 (s2.2.1)))), (6, .c (.lit (.int .i64 (s2.2.2.1)))), (7, .c (.box 7 0)), (8, .c (.lit (.int .u64 (v7.1)))), (9, .c (.box 9 0)), (10, .c (.lit (.bool (true)))), (11, .c (.slc 20 0 (List.length v11.1) (List.map S_Down.cs v11.1))), (13, .c (.lit (.int .i64 (v11.2.2))))], [(17, .box [.slc 1 0 (List.length v8.2.l) (List.map (ecI .i64) v8.2.l), .lit (.int .i64 (v8.2.at_))]), (7, .box [.lit (.int .u8 ((v9.IP.getD 0 0))), .lit (.int .u8 ((v9.IP.getD 1 0))), .lit (.int .u8 ((v9.IP.getD 2 0))), .lit (.int .u8 ((v9.IP.getD 3 0))), .lit (.int .u8 ((v9.IP.getD 4 0))), .lit (.int .u8 ((v9.IP.getD 5 0))), .lit (.int .u8 ((v9.IP.getD 6 0))), .lit (.int .u8 ((v9.IP.getD 7 0))), .lit (.int .u8 ((v9.IP.getD 8 0))), .lit (.int .u8 ((v9.IP.getD 9 0))), .lit (.int .u8 ((v9.IP.getD 10 0))), .lit (.int .u8 ((v9.IP.getD 11 0))), .lit (.int .u8 ((v9.IP.getD 12 0))), .lit (.int .u8 ((v9.IP.getD 13 0))), .lit (.int .u8 ((v9.IP.getD 14 0))), .lit (.int .u8 ((v9.IP.getD 15 0))), .lit (.int .i64 (v9.Bits)), .lit (.int .u8 (v6.1.Sequence)), .lit (.int .i64 (v6.1.Lifetime))]), (9, .box [.lit (.int .u8 ((v10.1.Target.IP.getD 0 0))), .lit (.int .u8 ((v10.1.Target.IP.getD 1 0))), .lit (.int .u8 ((v10.1.Target.IP.getD 2 0))), .lit (.int .u8 ((v10.1.Target.IP.getD 3 0))), .lit (.int .u8 ((v10.1.Target.IP.getD 4 0))), .lit (.int .u8 ((v10.1.Target.IP.getD 5 0))), .lit (.int .u8 ((v10.1.Target.IP.getD 6 0))), .lit (.int .u8 ((v10.1.Target.IP.getD 7 0))), .lit (.int .u8 ((v10.1.Target.IP.getD 8 0))), .lit (.int .u8 ((v10.1.Target.IP.getD 9 0))), .lit (.int .u8 ((v10.1.Target.IP.getD 10 0))), .lit (.int .u8 ((v10.1.Target.IP.getD 11 0))), .lit (.int .u8 ((v10.1.Target.IP.getD 12 0))), .lit (.int .u8 ((v10.1.Target.IP.getD 13 0))), .lit (.int .u8 ((v10.1.Target.IP.getD 14 0))), .lit (.int .u8 ((v10.1.Target.IP.getD 15 0))), .lit (.int .i64 (v10.1.Target.Bits)), .lit (.int .u64 (v10.1.Via)), .lit (.int .u8 (v10.1.Sequence)), .lit (.int .i64 (v10.1.Until))])]⟩) (by kernel_rfl) (by kernel_rfl) ?_
            refine TS_joinB ⟨[(3, []), (4, []), (5, []), (6, [])], [(17, (17, []))]⟩ (fun (v39 : (List S_Down)) => [(4, .c (eS 20 S_Down.cs (v39)))]) (fun (v39 : (List S_Down)) => []) (F_law33_StoringNewest_j4 v8 s2) x ?_ ?_
            · clear h
              intro v39 h
              unfold F_law33_StoringNewest_j4 at h
              refine TS_go 3 ?_
              replace h := bindO h
              obtain ⟨v40, hv40, h⟩ := h
              refine TS_con [] [] (some (17, 0)) (ok_made_Tape_Next v8.2 5 v40 hv40) (by kernel_rfl) (by kernel_rfl) (by kernel_rfl) ?_
              refine TS_go 9 ?_
              obtain rfl := Option.some.inj h
              exact TS_againB _ ⟨[(3, []), (4, []), (5, []), (6, [])], [(17, (17, []))]⟩ rfl (by kernel_rfl) (by kernel_rfl)
            · refine TS_go 5 ?_
              replace h := condO h
              rcases h with ⟨hb41, h⟩ | ⟨hb41, h⟩
              · refine TS_know 62 (b := true) hb41 (by kernel_rfl) (by kernel_rfl) ?_
                refine TS_T (by kernel_rfl) rfl ?_
                refine TS_go 6 ?_
                replace h := bindO h
                obtain ⟨v42, hv42, h⟩ := h
                refine TS_call [] (ok_ref33_Find v11.1 s2.2.1 v9 v42 hv42) (by kernel_rfl) (by kernel_rfl) ?_
                refine TS_go 16 ?_
                replace h := condO h
                rcases h with ⟨hb43, h⟩ | ⟨hb43, h⟩
                · refine TS_know 75 (b := false) (notF hb43) (by kernel_rfl) (by kernel_rfl) ?_
                  refine TS_know 76 (b := false) (notF hb43) (by kernel_rfl) (by kernel_rfl) ?_
                  refine TS_go 2 ?_
                  replace h := condO h
                  rcases h with ⟨hb44, h⟩ | ⟨hb44, h⟩
                  · refine TS_know 70 (b := true) hb44 (by kernel_rfl) (by kernel_rfl) ?_
                    refine TS_know 15 (b := true) hb44 (by kernel_rfl) (by kernel_rfl) ?_
                    refine TS_know 71 (b := true) hb44 (by kernel_rfl) (by kernel_rfl) ?_
                    refine TS_know 77 (b := true) hb44 (by kernel_rfl) (by kernel_rfl) ?_
                    refine TS_know 78 (b := true) hb44 (by kernel_rfl) (by kernel_rfl) ?_
                    refine TS_go 5 ?_
                    replace h := condO h
                    rcases h with ⟨hb45, h⟩ | ⟨hb45, h⟩
                    · refine TS_know 82 (b := true) hb45 (by kernel_rfl) (by kernel_rfl) ?_
                      refine TS_know 83 (b := true) hb45 (by kernel_rfl) (by kernel_rfl) ?_
                      refine TS_go 19 ?_
                      refine TS_T (by kernel_rfl) rfl ?_
                      refine TS_go 6 ?_
                      refine TS_outJ (by kernel_rfl) ?_
                      refine TS_go 2 ?_
                      obtain rfl := Option.some.inj h
                      have hy1q := hy1 _ rfl
                      subst hy1q
                      replace h := (elimR hK1)
                      refine TS_retB rfl (by kernel_rfl) ?_
                      refine TS_go 2 ?_
                      obtain rfl := Option.some.inj h
                      exact TS_ret (by kernel_rfl) (by kernel_rfl) (by kernel_rfl)
                    · refine TS_know 82 (b := false) hb45 (by kernel_rfl) (by kernel_rfl) ?_
                      refine TS_know 83 (b := false) hb45 (by kernel_rfl) (by kernel_rfl) ?_
                      refine TS_go 7 ?_
                      replace h := condO h
                      rcases h with ⟨hb46, h⟩ | ⟨hb46, h⟩
                      · refine TS_know 88 (b := true) hb46 (by kernel_rfl) (by kernel_rfl) ?_
                        refine TS_know 89 (b := true) hb46 (by kernel_rfl) (by kernel_rfl) ?_
                        refine TS_know 90 (b := true) hb46 (by kernel_rfl) (by kernel_rfl) ?_
                        refine TS_go 12 ?_
                        refine TS_T (by kernel_rfl) rfl ?_
                        refine TS_go 6 ?_
                        refine TS_outJ (by kernel_rfl) ?_
                        refine TS_go 2 ?_
                        obtain rfl := Option.some.inj h
                        have hy1q := hy1 _ rfl
                        subst hy1q
                        replace h := (elimR hK1)
                        refine TS_retB rfl (by kernel_rfl) ?_
                        refine TS_go 2 ?_
                        obtain rfl := Option.some.inj h
                        exact TS_ret (by kernel_rfl) (by kernel_rfl) (by kernel_rfl)
                      · refine TS_know 88 (b := false) hb46 (by kernel_rfl) (by kernel_rfl) ?_
                        refine TS_know 89 (b := false) hb46 (by kernel_rfl) (by kernel_rfl) ?_
                        refine TS_know 90 (b := false) hb46 (by kernel_rfl) (by kernel_rfl) ?_
                        refine TS_go 6 ?_
                        replace h := bindO h
                        obtain ⟨v47, hv47, h⟩ := h
                        refine TS_call [] (ok_ref21_Newer v10.1.Sequence v42.1.Sequence v47 hv47) (by kernel_rfl) (by kernel_rfl) ?_
                        refine TS_go 5 ?_
                        replace h := condO h
                        rcases h with ⟨hb48, h⟩ | ⟨hb48, h⟩
                        · subst hb48
                          refine TS_T (by kernel_rfl) rfl ?_
                          refine TS_go 6 ?_
                          refine TS_outJ (by kernel_rfl) ?_
                          refine TS_go 2 ?_
                          obtain rfl := Option.some.inj h
                          have hy1q := hy1 _ rfl
                          subst hy1q
                          replace h := (elimR hK1)
                          refine TS_retB rfl (by kernel_rfl) ?_
                          refine TS_go 2 ?_
                          obtain rfl := Option.some.inj h
                          exact TS_ret (by kernel_rfl) (by kernel_rfl) (by kernel_rfl)
                        · subst hb48
                          refine TS_F (by kernel_rfl) rfl ?_
                          refine TS_go 5 ?_
                          exact TS_meet v11.1 ⟨[(3, []), (4, []), (5, []), (6, [])], [(17, (17, []))]⟩ h (by kernel_rfl) (by kernel_rfl)
                  · refine TS_know 70 (b := false) hb44 (by kernel_rfl) (by kernel_rfl) ?_
                    refine TS_know 15 (b := false) hb44 (by kernel_rfl) (by kernel_rfl) ?_
                    refine TS_know 71 (b := false) hb44 (by kernel_rfl) (by kernel_rfl) ?_
                    refine TS_know 77 (b := false) hb44 (by kernel_rfl) (by kernel_rfl) ?_
                    refine TS_know 78 (b := false) hb44 (by kernel_rfl) (by kernel_rfl) ?_
                    refine TS_go 24 ?_
                    refine TS_F (by kernel_rfl) rfl ?_
                    refine TS_go 5 ?_
                    exact TS_meet v11.1 ⟨[(3, []), (4, []), (5, []), (6, [])], [(17, (17, []))]⟩ h (by kernel_rfl) (by kernel_rfl)
                · refine TS_know 75 (b := true) (notT hb43) (by kernel_rfl) (by kernel_rfl) ?_
                  refine TS_know 76 (b := true) (notT hb43) (by kernel_rfl) (by kernel_rfl) ?_
                  refine TS_go 26 ?_
                  refine TS_T (by kernel_rfl) rfl ?_
                  refine TS_go 6 ?_
                  refine TS_outJ (by kernel_rfl) ?_
                  refine TS_go 2 ?_
                  obtain rfl := Option.some.inj h
                  have hy1q := hy1 _ rfl
                  subst hy1q
                  replace h := (elimR hK1)
                  refine TS_retB rfl (by kernel_rfl) ?_
                  refine TS_go 2 ?_
                  obtain rfl := Option.some.inj h
                  exact TS_ret (by kernel_rfl) (by kernel_rfl) (by kernel_rfl)
              · refine TS_know 62 (b := false) hb41 (by kernel_rfl) (by kernel_rfl) ?_
                refine TS_F (by kernel_rfl) rfl ?_
                refine TS_go 1 ?_
                exact TS_meet s2.1 ⟨[(3, []), (4, []), (5, []), (6, [])], [(17, (17, []))]⟩ h (by kernel_rfl) (by kernel_rfl)
          · refine TS_know 37 (b := false) hb38 (by kernel_rfl) (by kernel_rfl) ?_
            refine TS_know 10 (b := false) hb38 (by kernel_rfl) (by kernel_rfl) ?_
            refine TS_know 57 (b := false) hb38 (by kernel_rfl) (by kernel_rfl) ?_
            refine TS_know 58 (b := true) (notT hb38) (by kernel_rfl) (by kernel_rfl) ?_
            refine TS_know 59 (b := true) (notT hb38) (by kernel_rfl) (by kernel_rfl) ?_
            refine TS_know 60 (b := true) (notT hb38) (by kernel_rfl) (by kernel_rfl) ?_
            refine TS_T (by kernel_rfl) rfl ?_
            refine TS_go 8 ?_
            obtain rfl := Option.some.inj h
            have hy1q := hy1 _ rfl
            subst hy1q
            replace h := (elimR hK1)
            refine TS_retB rfl (by kernel_rfl) ?_
            refine TS_go 2 ?_
            obtain rfl := Option.some.inj h
            exact TS_ret (by kernel_rfl) (by kernel_rfl) (by kernel_rfl)
        · refine TS_know 55 (b := false) hb37 (by kernel_rfl) (by kernel_rfl) ?_
          refine TS_know 56 (b := false) hb37 (by kernel_rfl) (by kernel_rfl) ?_
          refine TS_go 5 ?_
          refine TS_F (by kernel_rfl) rfl ?_
          refine TS_go 1 ?_
          refine TS_cut ⟨[(3, []), (4, []), (5, []), (6, []), (7, []), (8, []), (9, []), (10, []), (11, []), (13, [])], [(17, (17, [])), (7, (7, [])), (9, (9, []))]⟩ (.mk [.code (codeAt [1, 1, 1, 1, 0, 1, 0, 0, 1, 0, 0, 1, 1, 1, 1, 1] (bodyOf Try.f3)), .blk 1, .code (codeAt [1, 1, 1, 1, 0, 1, 0, 0, 1, 1] (bodyOf Try.f3))] .normal ⟨[(3, .c (.box 17 0)), (4, .c (.slc 20 0 (List.length s2.1) (List.map S_Down.cs s2.1))), (5, .c (.lit (.int .i64 (s2.2.1)))), (6, .c (.lit (.int .i64 (s2.2.2.1)))), (7, .c (.box 7 0)), (8, .c (.lit (.int .u64 (v7.1)))), (9, .c (.box 9 0)), (10, .c (.lit (.bool (v10.2)))), (11, .c (.slc 20 0 (List.length v11.1) (List.map S_Down.cs v11.1))), (13, .c (.lit (.int .i64 (v11.2.2))))], [(17, .box [.slc 1 0 (List.length v8.2.l) (List.map (ecI .i64) v8.2.l), .lit (.int .i64 (v8.2.at_))]), (7, .box [.lit (.int .u8 ((v9.IP.getD 0 0))), .lit (.int .u8 ((v9.IP.getD 1 0))), .lit (.int .u8 ((v9.IP.getD 2 0))), .lit (.int .u8 ((v9.IP.getD 3 0))), .lit (.int .u8 ((v9.IP.getD 4 0))), .lit (.int .u8 ((v9.IP.getD 5 0))), .lit (.int .u8 ((v9.IP.getD 6 0))), .lit (.int .u8 ((v9.IP.getD 7 0))), .lit (.int .u8 ((v9.IP.getD 8 0))), .lit (.int .u8 ((v9.IP.getD 9 0))), .lit (.int .u8 ((v9.IP.getD 10 0))), .lit (.int .u8 ((v9.IP.getD 11 0))), .lit (.int .u8 ((v9.IP.getD 12 0))), .lit (.int .u8 ((v9.IP.getD 13 0))), .lit (.int .u8 ((v9.IP.getD 14 0))), .lit (.int .u8 ((v9.IP.getD 15 0))), .lit (.int .i64 (v9.Bits)), .lit (.int .u8 (v6.1.Sequence)), .lit (.int .i64 (v6.1.Lifetime))]), (9, .box [.lit (.int .u8 ((v10.1.Target.IP.getD 0 0))), .lit (.int .u8 ((v10.1.Target.IP.getD 1 0))), .lit (.int .u8 ((v10.1.Target.IP.getD 2 0))), .lit (.int .u8 ((v10.1.Target.IP.getD 3 0))), .lit (.int .u8 ((v10.1.Target.IP.getD 4 0))), .lit (.int .u8 ((v10.1.Target.IP.getD 5 0))), .lit (.int .u8 ((v10.1.Target.IP.getD 6 0))), .lit (.int .u8 ((v10.1.Target.IP.getD 7 0))), .lit (.int .u8 ((v10.1.Target.IP.getD 8 0))), .lit (.int .u8 ((v10.1.Target.IP.getD 9 0))), .lit (.int .u8 ((v10.1.Target.IP.getD 10 0))), .lit (.int .u8 ((v10.1.Target.IP.getD 11 0))), .lit (.int .u8 ((v10.1.Target.IP.getD 12 0))), .lit (.int .u8 ((v10.1.Target.IP.getD 13 0))), .lit (.int .u8 ((v10.1.Target.IP.getD 14 0))), .lit (.int .u8 ((v10.1.Target.IP.getD 15 0))), .lit (.int .i64 (v10.1.Target.Bits)), .lit (.int .u64 (v10.1.Via)), .lit (.int .u8 (v10.1.Sequence)), .lit (.int .i64 (v10.1.Until))])]⟩) (by kernel_rfl) (by kernel_rfl) ?_
          refine TS_joinB ⟨[(3, []), (4, []), (5, []), (6, [])], [(17, (17, []))]⟩ (fun (v49 : (List S_Down)) => [(4, .c (eS 20 S_Down.cs (v49)))]) (fun (v49 : (List S_Down)) => []) (F_law33_StoringNewest_j5 v8 s2) x ?_ ?_
          · clear h
            intro v49 h
            unfold F_law33_StoringNewest_j5 at h
            refine TS_go 3 ?_
            replace h := bindO h
            obtain ⟨v50, hv50, h⟩ := h
            refine TS_con [] [] (some (17, 0)) (ok_made_Tape_Next v8.2 5 v50 hv50) (by kernel_rfl) (by kernel_rfl) (by kernel_rfl) ?_
            refine TS_go 9 ?_
            obtain rfl := Option.some.inj h
            exact TS_againB _ ⟨[(3, []), (4, []), (5, []), (6, [])], [(17, (17, []))]⟩ rfl (by kernel_rfl) (by kernel_rfl)
          · refine TS_go 5 ?_
            replace h := condO h
            rcases h with ⟨hb51, h⟩ | ⟨hb51, h⟩
            · refine TS_know 62 (b := true) hb51 (by kernel_rfl) (by kernel_rfl) ?_
              refine TS_T (by kernel_rfl) rfl ?_
              refine TS_go 6 ?_
              replace h := bindO h
              obtain ⟨v52, hv52, h⟩ := h
              refine TS_call [] (ok_ref33_Find v11.1 s2.2.1 v9 v52 hv52) (by kernel_rfl) (by kernel_rfl) ?_
              refine TS_go 16 ?_
              replace h := condO h
              rcases h with ⟨hb53, h⟩ | ⟨hb53, h⟩
              · refine TS_know 75 (b := false) (notF hb53) (by kernel_rfl) (by kernel_rfl) ?_
                refine TS_know 76 (b := false) (notF hb53) (by kernel_rfl) (by kernel_rfl) ?_
                refine TS_go 2 ?_
                replace h := condO h
                rcases h with ⟨hb54, h⟩ | ⟨hb54, h⟩
                · refine TS_know 70 (b := true) hb54 (by kernel_rfl) (by kernel_rfl) ?_
                  refine TS_know 15 (b := true) hb54 (by kernel_rfl) (by kernel_rfl) ?_
                  refine TS_know 71 (b := true) hb54 (by kernel_rfl) (by kernel_rfl) ?_
                  refine TS_know 77 (b := true) hb54 (by kernel_rfl) (by kernel_rfl) ?_
                  refine TS_know 78 (b := true) hb54 (by kernel_rfl) (by kernel_rfl) ?_
                  refine TS_go 5 ?_
                  replace h := condO h
                  rcases h with ⟨hb55, h⟩ | ⟨hb55, h⟩
                  · refine TS_know 82 (b := true) hb55 (by kernel_rfl) (by kernel_rfl) ?_
                    refine TS_know 83 (b := true) hb55 (by kernel_rfl) (by kernel_rfl) ?_
                    refine TS_go 19 ?_
                    refine TS_T (by kernel_rfl) rfl ?_
                    refine TS_go 6 ?_
                    refine TS_outJ (by kernel_rfl) ?_
                    refine TS_go 2 ?_
                    obtain rfl := Option.some.inj h
                    have hy1q := hy1 _ rfl
                    subst hy1q
                    replace h := (elimR hK1)
                    refine TS_retB rfl (by kernel_rfl) ?_
                    refine TS_go 2 ?_
                    obtain rfl := Option.some.inj h
                    exact TS_ret (by kernel_rfl) (by kernel_rfl) (by kernel_rfl)
                  · refine TS_know 82 (b := false) hb55 (by kernel_rfl) (by kernel_rfl) ?_
                    refine TS_know 83 (b := false) hb55 (by kernel_rfl) (by kernel_rfl) ?_
                    refine TS_go 7 ?_
                    replace h := condO h
                    rcases h with ⟨hb56, h⟩ | ⟨hb56, h⟩
                    · refine TS_know 88 (b := true) hb56 (by kernel_rfl) (by kernel_rfl) ?_
                      refine TS_know 89 (b := true) hb56 (by kernel_rfl) (by kernel_rfl) ?_
                      refine TS_know 90 (b := true) hb56 (by kernel_rfl) (by kernel_rfl) ?_
                      refine TS_go 12 ?_
                      refine TS_T (by kernel_rfl) rfl ?_
                      refine TS_go 6 ?_
                      refine TS_outJ (by kernel_rfl) ?_
                      refine TS_go 2 ?_
                      obtain rfl := Option.some.inj h
                      have hy1q := hy1 _ rfl
                      subst hy1q
                      replace h := (elimR hK1)
                      refine TS_retB rfl (by kernel_rfl) ?_
                      refine TS_go 2 ?_
                      obtain rfl := Option.some.inj h
                      exact TS_ret (by kernel_rfl) (by kernel_rfl) (by kernel_rfl)
                    · refine TS_know 88 (b := false) hb56 (by kernel_rfl) (by kernel_rfl) ?_
                      refine TS_know 89 (b := false) hb56 (by kernel_rfl) (by kernel_rfl) ?_
                      refine TS_know 90 (b := false) hb56 (by kernel_rfl) (by kernel_rfl) ?_
                      refine TS_go 2 ?_
                      replace h := condO h
                      rcases h with ⟨hb57, h⟩ | ⟨hb57, h⟩
                      · refine TS_know 10 (b := true) hb57 (by kernel_rfl) (by kernel_rfl) ?_
                        refine TS_know 91 (b := true) hb57 (by kernel_rfl) (by kernel_rfl) ?_
                        refine TS_know 92 (b := true) hb57 (by kernel_rfl) (by kernel_rfl) ?_
                        refine TS_go 4 ?_
                        replace h := bindO h
                        obtain ⟨v58, hv58, h⟩ := h
                        refine TS_call [] (ok_ref21_Newer v10.1.Sequence v52.1.Sequence v58 hv58) (by kernel_rfl) (by kernel_rfl) ?_
                        refine TS_go 5 ?_
                        replace h := condO h
                        rcases h with ⟨hb59, h⟩ | ⟨hb59, h⟩
                        · subst hb59
                          refine TS_T (by kernel_rfl) rfl ?_
                          refine TS_go 6 ?_
                          refine TS_outJ (by kernel_rfl) ?_
                          refine TS_go 2 ?_
                          obtain rfl := Option.some.inj h
                          have hy1q := hy1 _ rfl
                          subst hy1q
                          replace h := (elimR hK1)
                          refine TS_retB rfl (by kernel_rfl) ?_
                          refine TS_go 2 ?_
                          obtain rfl := Option.some.inj h
                          exact TS_ret (by kernel_rfl) (by kernel_rfl) (by kernel_rfl)
                        · subst hb59
                          refine TS_F (by kernel_rfl) rfl ?_
                          refine TS_go 5 ?_
                          exact TS_meet v11.1 ⟨[(3, []), (4, []), (5, []), (6, [])], [(17, (17, []))]⟩ h (by kernel_rfl) (by kernel_rfl)
                      · refine TS_know 10 (b := false) hb57 (by kernel_rfl) (by kernel_rfl) ?_
                        refine TS_know 91 (b := false) hb57 (by kernel_rfl) (by kernel_rfl) ?_
                        refine TS_know 92 (b := false) hb57 (by kernel_rfl) (by kernel_rfl) ?_
                        refine TS_go 10 ?_
                        refine TS_F (by kernel_rfl) rfl ?_
                        refine TS_go 5 ?_
                        exact TS_meet v11.1 ⟨[(3, []), (4, []), (5, []), (6, [])], [(17, (17, []))]⟩ h (by kernel_rfl) (by kernel_rfl)
                · refine TS_know 70 (b := false) hb54 (by kernel_rfl) (by kernel_rfl) ?_
                  refine TS_know 15 (b := false) hb54 (by kernel_rfl) (by kernel_rfl) ?_
                  refine TS_know 71 (b := false) hb54 (by kernel_rfl) (by kernel_rfl) ?_
                  refine TS_know 77 (b := false) hb54 (by kernel_rfl) (by kernel_rfl) ?_
                  refine TS_know 78 (b := false) hb54 (by kernel_rfl) (by kernel_rfl) ?_
                  refine TS_go 24 ?_
                  refine TS_F (by kernel_rfl) rfl ?_
                  refine TS_go 5 ?_
                  exact TS_meet v11.1 ⟨[(3, []), (4, []), (5, []), (6, [])], [(17, (17, []))]⟩ h (by kernel_rfl) (by kernel_rfl)
              · refine TS_know 75 (b := true) (notT hb53) (by kernel_rfl) (by kernel_rfl) ?_
                refine TS_know 76 (b := true) (notT hb53) (by kernel_rfl) (by kernel_rfl) ?_
                refine TS_go 26 ?_
                refine TS_T (by kernel_rfl) rfl ?_
                refine TS_go 6 ?_
                refine TS_outJ (by kernel_rfl) ?_
                refine TS_go 2 ?_
                obtain rfl := Option.some.inj h
                have hy1q := hy1 _ rfl
                subst hy1q
                replace h := (elimR hK1)
                refine TS_retB rfl (by kernel_rfl) ?_
                refine TS_go 2 ?_
                obtain rfl := Option.some.inj h
                exact TS_ret (by kernel_rfl) (by kernel_rfl) (by kernel_rfl)
            · refine TS_know 62 (b := false) hb51 (by kernel_rfl) (by kernel_rfl) ?_
              refine TS_F (by kernel_rfl) rfl ?_
              refine TS_go 1 ?_
              exact TS_meet s2.1 ⟨[(3, []), (4, []), (5, []), (6, [])], [(17, (17, []))]⟩ h (by kernel_rfl) (by kernel_rfl)
    · refine TS_know 19 (b := false) hb5 (by kernel_rfl) (by kernel_rfl) ?_
      refine TS_F (by kernel_rfl) rfl ?_
      refine TS_go 2 ?_
      obtain rfl := Option.some.inj h
      exact TS_brkB () ⟨[], []⟩ rfl (by kernel_rfl) (by kernel_rfl) (by kernel_rfl)
  · intro b3 hb
    subst y4
    have h := elimL hK1
    refine TS_go 3 ?_
    replace h := bindO h
    obtain ⟨v61, hv61, h⟩ := h
    refine TS_call [] (ok_law33_known  v61 hv61) (by kernel_rfl) (by kernel_rfl) ?_
    refine TS_go 3 ?_
    obtain rfl := Option.some.inj h
    exact TS_ret (by kernel_rfl) (by kernel_rfl) (by kernel_rfl)

/-- multihop/multihopworld.Base -/
noncomputable def F_world_Base (a0 : S_multihopmade_Tape) : Option (Int × S_multihopmade_Tape) :=
  (F_made_Tape_Next a0 6).bind fun v1 =>
  bif (v1.1 == 0) then
    (F_made_Tape_Next v1.2 5).bind fun v3 =>
    some ((v3.1, v3.2))
  else
    bif (v1.1 == 1) then
      (F_made_Tape_Next v1.2 40).bind fun v5 =>
      some ((IntKind.wrap .i64 (1099511627776 - v5.1), v5.2))
    else
      (F_made_Tape_Next v1.2 1000).bind fun v6 =>
      some ((v6.1, v6.2))
set_option maxRecDepth 100000 in
set_option maxHeartbeats 40000000 in
theorem ok_world_Base (a0 : S_multihopmade_Tape) (r : Int × S_multihopmade_Tape) (h : F_world_Base a0 = some r) : Con Try.prog 18 [.c (.box 1000000 0)] [(1000000, .box (S_multihopmade_Tape.cs a0))] (.c (.lit (.int .i64 (r.1)))) [(1000000, .box (S_multihopmade_Tape.cs r.2))] := by
  unfold F_world_Base at h
  refine con_of [] [(1000000, [2])] 16 Try.func18 rfl rfl (by kernel_rfl) (fun K => ?_)
  refine TS_go 8 ?_
  replace h := bindO h
  obtain ⟨v1, hv1, h⟩ := h
  refine TS_con [] [] (some (1000000, 0)) (ok_made_Tape_Next a0 6 v1 hv1) (by kernel_rfl) (by kernel_rfl) (by kernel_rfl) ?_
  refine TS_go 7 ?_
  replace h := condO h
  rcases h with ⟨hb2, h⟩ | ⟨hb2, h⟩
  · refine TS_know 6 (b := true) hb2 (by kernel_rfl) (by kernel_rfl) ?_
    refine TS_know 5 (b := true) hb2 (by kernel_rfl) (by kernel_rfl) ?_
    refine TS_T (by kernel_rfl) rfl ?_
    refine TS_go 3 ?_
    replace h := bindO h
    obtain ⟨v3, hv3, h⟩ := h
    refine TS_con [] [] (some (1000000, 0)) (ok_made_Tape_Next v1.2 5 v3 hv3) (by kernel_rfl) (by kernel_rfl) (by kernel_rfl) ?_
    refine TS_go 5 ?_
    obtain rfl := Option.some.inj h
    exact TS_ret (by kernel_rfl) (by kernel_rfl) (by kernel_rfl)
  · refine TS_know 6 (b := false) hb2 (by kernel_rfl) (by kernel_rfl) ?_
    refine TS_know 5 (b := false) hb2 (by kernel_rfl) (by kernel_rfl) ?_
    refine TS_F (by kernel_rfl) rfl ?_
    refine TS_go 5 ?_
    replace h := condO h
    rcases h with ⟨hb4, h⟩ | ⟨hb4, h⟩
    · refine TS_know 10 (b := true) hb4 (by kernel_rfl) (by kernel_rfl) ?_
      refine TS_know 9 (b := true) hb4 (by kernel_rfl) (by kernel_rfl) ?_
      refine TS_T (by kernel_rfl) rfl ?_
      refine TS_go 3 ?_
      replace h := bindO h
      obtain ⟨v5, hv5, h⟩ := h
      refine TS_con [] [] (some (1000000, 0)) (ok_made_Tape_Next v1.2 40 v5 hv5) (by kernel_rfl) (by kernel_rfl) (by kernel_rfl) ?_
      refine TS_go 6 ?_
      obtain rfl := Option.some.inj h
      exact TS_ret (by kernel_rfl) (by kernel_rfl) (by kernel_rfl)
    · refine TS_know 10 (b := false) hb4 (by kernel_rfl) (by kernel_rfl) ?_
      refine TS_know 9 (b := false) hb4 (by kernel_rfl) (by kernel_rfl) ?_
      refine TS_F (by kernel_rfl) rfl ?_
      refine TS_go 5 ?_
      replace h := bindO h
      obtain ⟨v6, hv6, h⟩ := h
      refine TS_con [] [] (some (1000000, 0)) (ok_made_Tape_Next v1.2 1000 v6 hv6) (by kernel_rfl) (by kernel_rfl) (by kernel_rfl) ?_
      refine TS_go 3 ?_
      obtain rfl := Option.some.inj h
      exact TS_ret (by kernel_rfl) (by kernel_rfl) (by kernel_rfl)

/-- multihop/multihopworld.Time -/
noncomputable def F_world_Time (a0 : S_multihopmade_Tape) (a1 : Int) : Option (Int × S_multihopmade_Tape) :=
  (F_made_Tape_Next a0 60).bind fun v1 =>
  some ((if 0 < if IntKind.wrap .i64 ((IntKind.wrap .i64 (a1 + v1.1)) - 30) < 1099511627776 then IntKind.wrap .i64 ((IntKind.wrap .i64 (a1 + v1.1)) - 30) else 1099511627776 then if IntKind.wrap .i64 ((IntKind.wrap .i64 (a1 + v1.1)) - 30) < 1099511627776 then IntKind.wrap .i64 ((IntKind.wrap .i64 (a1 + v1.1)) - 30) else 1099511627776 else 0, v1.2))
set_option maxRecDepth 100000 in
set_option maxHeartbeats 40000000 in
theorem ok_world_Time (a0 : S_multihopmade_Tape) (a1 : Int) (r : Int × S_multihopmade_Tape) (h : F_world_Time a0 a1 = some r) : Con Try.prog 26 [.c (.box 1000000 0), .c (.lit (.int .i64 (a1)))] [(1000000, .box (S_multihopmade_Tape.cs a0))] (.c (.lit (.int .i64 (r.1)))) [(1000000, .box (S_multihopmade_Tape.cs r.2))] := by
  unfold F_world_Time at h
  refine con_of [] [(1000000, [2])] 12 Try.func26 rfl rfl (by kernel_rfl) (fun K => ?_)
  refine TS_go 8 ?_
  replace h := bindO h
  obtain ⟨v1, hv1, h⟩ := h
  refine TS_con [] [] (some (1000000, 0)) (ok_made_Tape_Next a0 60 v1 hv1) (by kernel_rfl) (by kernel_rfl) (by kernel_rfl) ?_
  refine TS_go 7 ?_
  obtain rfl := Option.some.inj h
  exact TS_ret (by kernel_rfl) (by kernel_rfl) (by kernel_rfl)

/-- multihop/multihopref04.ValidPrefix -/
noncomputable def F_ref04_ValidPrefix_l1 (a0 : S_Prefix) (s3 : Int) : Option ((Int) ⊕ ((Unit) ⊕ (Bool))) :=
  bif (decide (s3 < 128)) then
    (F_ref04_bit a0.IP s3).bind fun v7 =>
    bif (v7 != 0) then
      some (Sum.inr (Sum.inr false))
    else
      some (Sum.inl (IntKind.wrap .i64 (s3 + 1)))
  else
    some (Sum.inr (Sum.inl ()))
noncomputable def F_ref04_ValidPrefix (a0 : S_Prefix) : Option (Bool) :=
  bif (decide (a0.Bits < 0)) then
    some (false)
  else
    bif (decide (a0.Bits > 128)) then
      some (false)
    else
      (loopO (F_ref04_ValidPrefix_l1 a0) a0.Bits).bind (Sum.elim (fun b4 =>
        some (true)
      ) (fun w9 => some w9))
set_option maxRecDepth 100000 in
set_option maxHeartbeats 40000000 in
theorem ok_ref04_ValidPrefix (a0 : S_Prefix) (r : Bool) (h : F_ref04_ValidPrefix a0 = some r) : Con Try.prog 41 [.agg (S_Prefix.cs a0)] [] (.c (.lit (.bool (r)))) [] := by
  unfold F_ref04_ValidPrefix at h
  refine con_of [] [] 23 Try.func41 rfl rfl (by kernel_rfl) (fun K => ?_)
  refine TS_go 12 ?_
  replace h := condO h
  rcases h with ⟨hb1, h⟩ | ⟨hb1, h⟩
  · refine TS_know 6 (b := true) hb1 (by kernel_rfl) (by kernel_rfl) ?_
    refine TS_know 7 (b := true) hb1 (by kernel_rfl) (by kernel_rfl) ?_
    refine TS_go 5 ?_
    refine TS_T (by kernel_rfl) rfl ?_
    refine TS_go 6 ?_
    obtain rfl := Option.some.inj h
    exact TS_ret (by kernel_rfl) (by kernel_rfl) (by kernel_rfl)
  · refine TS_know 6 (b := false) hb1 (by kernel_rfl) (by kernel_rfl) ?_
    refine TS_know 7 (b := false) hb1 (by kernel_rfl) (by kernel_rfl) ?_
    refine TS_go 5 ?_
    replace h := condO h
    rcases h with ⟨hb2, h⟩ | ⟨hb2, h⟩
    · refine TS_know 10 (b := true) hb2 (by kernel_rfl) (by kernel_rfl) ?_
      refine TS_know 11 (b := true) hb2 (by kernel_rfl) (by kernel_rfl) ?_
      refine TS_T (by kernel_rfl) rfl ?_
      refine TS_go 6 ?_
      obtain rfl := Option.some.inj h
      exact TS_ret (by kernel_rfl) (by kernel_rfl) (by kernel_rfl)
    · refine TS_know 10 (b := false) hb2 (by kernel_rfl) (by kernel_rfl) ?_
      refine TS_know 11 (b := false) hb2 (by kernel_rfl) (by kernel_rfl) ?_
      refine TS_F (by kernel_rfl) rfl ?_
      refine TS_go 9 ?_
      refine TS_cut ⟨[(1, []), (3, [])], [(1, (1, []))]⟩ (.mk [.code (codeAt [1, 1, 0, 1, 0] (bodyOf Try.f41)), .blk 0, .code (codeAt [1, 1, 1] (bodyOf Try.f41))] .normal ⟨[(1, .c (.box 1 0)), (3, .c (.lit (.int .i64 (a0.Bits))))], [(1, .box [.lit (.int .u8 ((a0.IP.getD 0 0))), .lit (.int .u8 ((a0.IP.getD 1 0))), .lit (.int .u8 ((a0.IP.getD 2 0))), .lit (.int .u8 ((a0.IP.getD 3 0))), .lit (.int .u8 ((a0.IP.getD 4 0))), .lit (.int .u8 ((a0.IP.getD 5 0))), .lit (.int .u8 ((a0.IP.getD 6 0))), .lit (.int .u8 ((a0.IP.getD 7 0))), .lit (.int .u8 ((a0.IP.getD 8 0))), .lit (.int .u8 ((a0.IP.getD 9 0))), .lit (.int .u8 ((a0.IP.getD 10 0))), .lit (.int .u8 ((a0.IP.getD 11 0))), .lit (.int .u8 ((a0.IP.getD 12 0))), .lit (.int .u8 ((a0.IP.getD 13 0))), .lit (.int .u8 ((a0.IP.getD 14 0))), .lit (.int .u8 ((a0.IP.getD 15 0))), .lit (.int .i64 (a0.Bits))])]⟩) (by kernel_rfl) (by kernel_rfl) ?_
      replace h := bindO h
      obtain ⟨y5, hl1, hK1⟩ := h
      refine TS_loopB (F_ref04_ValidPrefix_l1 a0) ⟨[(1, []), (3, [])], [(1, (1, []))]⟩ (fun (s3 : Int) => [(3, .c (.lit (.int .i64 (s3))))]) (fun (s3 : Int) => []) a0.Bits y5 (.exit 0) (fun (b : Unit) => (Sum.inl b : (Unit) ⊕ (Bool))) ⟨[], []⟩ (fun (b4 : Unit) => []) (fun (b4 : Unit) => []) hl1 (by kernel_rfl) (by kernel_rfl) ?_ ?_
      · intro s3 x h hy1
        unfold F_ref04_ValidPrefix_l1 at h
        refine TS_go 6 ?_
        replace h := condO h
        rcases h with ⟨hb6, h⟩ | ⟨hb6, h⟩
        · refine TS_know 15 (b := true) hb6 (by kernel_rfl) (by kernel_rfl) ?_
          refine TS_T (by kernel_rfl) rfl ?_
          refine TS_go 8 ?_
          replace h := bindO h
          obtain ⟨v7, hv7, h⟩ := h
          refine TS_call [] (ok_ref04_bit a0.IP s3 v7 hv7) (by kernel_rfl) (by kernel_rfl) ?_
          refine TS_go 2 ?_
          replace h := condO h
          rcases h with ⟨hb8, h⟩ | ⟨hb8, h⟩
          · refine TS_know 22 (b := true) hb8 (by kernel_rfl) (by kernel_rfl) ?_
            refine TS_T (by kernel_rfl) rfl ?_
            refine TS_go 7 ?_
            obtain rfl := Option.some.inj h
            have hy1q := hy1 _ rfl
            subst hy1q
            replace h := (elimR hK1)
            refine TS_retB rfl (by kernel_rfl) ?_
            refine TS_go 2 ?_
            obtain rfl := Option.some.inj h
            exact TS_ret (by kernel_rfl) (by kernel_rfl) (by kernel_rfl)
          · refine TS_know 22 (b := false) hb8 (by kernel_rfl) (by kernel_rfl) ?_
            refine TS_F (by kernel_rfl) rfl ?_
            refine TS_go 7 ?_
            obtain rfl := Option.some.inj h
            exact TS_againB _ ⟨[(1, []), (3, [])], [(1, (1, []))]⟩ rfl (by kernel_rfl) (by kernel_rfl)
        · refine TS_know 15 (b := false) hb6 (by kernel_rfl) (by kernel_rfl) ?_
          refine TS_F (by kernel_rfl) rfl ?_
          refine TS_go 2 ?_
          obtain rfl := Option.some.inj h
          exact TS_brkB () ⟨[], []⟩ rfl (by kernel_rfl) (by kernel_rfl) (by kernel_rfl)
      · intro b4 hb
        subst y5
        have h := elimL hK1
        refine TS_go 6 ?_
        obtain rfl := Option.some.inj h
        exact TS_ret (by kernel_rfl) (by kernel_rfl) (by kernel_rfl)

/-- multihop/multihopref22.IsTime -/
noncomputable def F_ref22_IsTime (a0 : Int) : Option (Bool) :=
  bif (decide (a0 ≥ 0)) then
    some ((decide (a0 ≤ 1099511627776)))
  else
    some (false)
set_option maxRecDepth 100000 in
set_option maxHeartbeats 40000000 in
theorem ok_ref22_IsTime (a0 : Int) (r : Bool) (h : F_ref22_IsTime a0 = some r) : Con Try.prog 58 [.c (.lit (.int .i64 (a0)))] [] (.c (.lit (.bool (r)))) [] := by
  unfold F_ref22_IsTime at h
  refine con_of [] [] 9 Try.func58 rfl rfl (by kernel_rfl) (fun K => ?_)
  refine TS_go 9 ?_
  replace h := condO h
  rcases h with ⟨hb1, h⟩ | ⟨hb1, h⟩
  · refine TS_know 4 (b := true) hb1 (by kernel_rfl) (by kernel_rfl) ?_
    refine TS_know 5 (b := true) hb1 (by kernel_rfl) (by kernel_rfl) ?_
    refine TS_go 6 ?_
    obtain rfl := Option.some.inj h
    exact TS_ret (by kernel_rfl) (by kernel_rfl) (by kernel_rfl)
  · refine TS_know 4 (b := false) hb1 (by kernel_rfl) (by kernel_rfl) ?_
    refine TS_know 5 (b := false) hb1 (by kernel_rfl) (by kernel_rfl) ?_
    refine TS_go 6 ?_
    obtain rfl := Option.some.inj h
    exact TS_ret (by kernel_rfl) (by kernel_rfl) (by kernel_rfl)

/-- multihop/multihopref22.CompareIP -/
noncomputable def F_ref22_CompareIP_l1 (a0 : List Int) (a1 : List Int) (s1 : Int) : Option ((Int) ⊕ ((Unit) ⊕ (Int))) :=
  bif (decide (s1 < 16)) then
    bif decide ((0 : Int) ≤ s1 ∧ s1 < (16 : Int)) then
      bif decide ((0 : Int) ≤ s1 ∧ s1 < (16 : Int)) then
        bif (decide ((List.getD a0 (Int.toNat s1) 0) < (List.getD a1 (Int.toNat s1) 0))) then
          some (Sum.inr (Sum.inr (-1)))
        else
          bif decide ((0 : Int) ≤ s1 ∧ s1 < (16 : Int)) then
            bif decide ((0 : Int) ≤ s1 ∧ s1 < (16 : Int)) then
              bif (decide ((List.getD a0 (Int.toNat s1) 0) > (List.getD a1 (Int.toNat s1) 0))) then
                some (Sum.inr (Sum.inr 1))
              else
                some (Sum.inl (IntKind.wrap .i64 (s1 + 1)))
            else none
          else none
      else none
    else none
  else
    some (Sum.inr (Sum.inl ()))
noncomputable def F_ref22_CompareIP (a0 : List Int) (a1 : List Int) : Option (Int) :=
  (loopO (F_ref22_CompareIP_l1 a0 a1) 0).bind (Sum.elim (fun b2 =>
    some (0)
  ) (fun w11 => some w11))
set_option maxRecDepth 100000 in
set_option maxHeartbeats 40000000 in
theorem ok_ref22_CompareIP (a0 : List Int) (a1 : List Int) (r : Int) (h : F_ref22_CompareIP a0 a1 = some r) : Con Try.prog 65 [.agg (arrS .u8 16 a0), .agg (arrS .u8 16 a1)] [] (.c (.lit (.int .i64 (r)))) [] := by
  unfold F_ref22_CompareIP at h
  refine con_of [] [] 24 Try.func65 rfl rfl (by kernel_rfl) (fun K => ?_)
  refine TS_go 12 ?_
  refine TS_cut ⟨[(2, []), (3, []), (5, [])], [(2, (2, [])), (3, (3, []))]⟩ (.mk [.code (codeAt [1, 0, 1, 0] (bodyOf Try.f65)), .blk 0, .code (codeAt [1, 1] (bodyOf Try.f65))] .normal ⟨[(2, .c (.box 2 0)), (3, .c (.box 3 0)), (5, .c (.lit (.int .i64 (0))))], [(2, .box [.lit (.int .u8 ((a0.getD 0 0))), .lit (.int .u8 ((a0.getD 1 0))), .lit (.int .u8 ((a0.getD 2 0))), .lit (.int .u8 ((a0.getD 3 0))), .lit (.int .u8 ((a0.getD 4 0))), .lit (.int .u8 ((a0.getD 5 0))), .lit (.int .u8 ((a0.getD 6 0))), .lit (.int .u8 ((a0.getD 7 0))), .lit (.int .u8 ((a0.getD 8 0))), .lit (.int .u8 ((a0.getD 9 0))), .lit (.int .u8 ((a0.getD 10 0))), .lit (.int .u8 ((a0.getD 11 0))), .lit (.int .u8 ((a0.getD 12 0))), .lit (.int .u8 ((a0.getD 13 0))), .lit (.int .u8 ((a0.getD 14 0))), .lit (.int .u8 ((a0.getD 15 0)))]), (3, .box [.lit (.int .u8 ((a1.getD 0 0))), .lit (.int .u8 ((a1.getD 1 0))), .lit (.int .u8 ((a1.getD 2 0))), .lit (.int .u8 ((a1.getD 3 0))), .lit (.int .u8 ((a1.getD 4 0))), .lit (.int .u8 ((a1.getD 5 0))), .lit (.int .u8 ((a1.getD 6 0))), .lit (.int .u8 ((a1.getD 7 0))), .lit (.int .u8 ((a1.getD 8 0))), .lit (.int .u8 ((a1.getD 9 0))), .lit (.int .u8 ((a1.getD 10 0))), .lit (.int .u8 ((a1.getD 11 0))), .lit (.int .u8 ((a1.getD 12 0))), .lit (.int .u8 ((a1.getD 13 0))), .lit (.int .u8 ((a1.getD 14 0))), .lit (.int .u8 ((a1.getD 15 0)))])]⟩) (by kernel_rfl) (by kernel_rfl) ?_
  replace h := bindO h
  obtain ⟨y3, hl1, hK1⟩ := h
  refine TS_loopB (F_ref22_CompareIP_l1 a0 a1) ⟨[(2, []), (3, []), (5, [])], [(2, (2, [])), (3, (3, []))]⟩ (fun (s1 : Int) => [(5, .c (.lit (.int .i64 (s1))))]) (fun (s1 : Int) => []) 0 y3 (.exit 0) (fun (b : Unit) => (Sum.inl b : (Unit) ⊕ (Int))) ⟨[], []⟩ (fun (b2 : Unit) => []) (fun (b2 : Unit) => []) hl1 (by kernel_rfl) (by kernel_rfl) ?_ ?_
  · intro s1 x h hy1
    unfold F_ref22_CompareIP_l1 at h
    refine TS_go 6 ?_
    replace h := condO h
    rcases h with ⟨hb4, h⟩ | ⟨hb4, h⟩
    · refine TS_know 7 (b := true) hb4 (by kernel_rfl) (by kernel_rfl) ?_
      refine TS_T (by kernel_rfl) rfl ?_
      refine TS_go 5 ?_
      refine TS_draw (by kernel_rfl) ?_
      refine TD_go 1 ?_
      replace h := chkO h
      obtain ⟨hc5, h⟩ := h
      refine TD_idxA 2 0 16 (i := s1) hc5 (by kernel_rfl) (by kernel_rfl) ?_
      refine TD_ldA .u8 0 16 (i := s1) a0 hc5 (by kernel_rfl) (by kernel_rfl) ?_
      refine TD_go 1 ?_
      replace h := chkO h
      obtain ⟨hc6, h⟩ := h
      refine TD_idxA 3 0 16 (i := s1) hc6 (by kernel_rfl) (by kernel_rfl) ?_
      refine TD_ldA .u8 0 16 (i := s1) a1 hc6 (by kernel_rfl) (by kernel_rfl) ?_
      refine TD_go 1 ?_
      refine TD_end (by kernel_rfl) ?_
      replace h := condO h
      rcases h with ⟨hb7, h⟩ | ⟨hb7, h⟩
      · refine TS_know 16 (b := true) hb7 (by kernel_rfl) (by kernel_rfl) ?_
        refine TS_T (by kernel_rfl) rfl ?_
        refine TS_go 8 ?_
        obtain rfl := Option.some.inj h
        have hy1q := hy1 _ rfl
        subst hy1q
        replace h := (elimR hK1)
        refine TS_retB rfl (by kernel_rfl) ?_
        refine TS_go 2 ?_
        obtain rfl := Option.some.inj h
        exact TS_ret (by kernel_rfl) (by kernel_rfl) (by kernel_rfl)
      · refine TS_know 16 (b := false) hb7 (by kernel_rfl) (by kernel_rfl) ?_
        refine TS_F (by kernel_rfl) rfl ?_
        refine TS_go 2 ?_
        refine TS_draw (by kernel_rfl) ?_
        refine TD_go 1 ?_
        replace h := chkO h
        obtain ⟨hc8, h⟩ := h
        refine TD_idxA 2 0 16 (i := s1) hc8 (by kernel_rfl) (by kernel_rfl) ?_
        refine TD_ldA .u8 0 16 (i := s1) a0 hc8 (by kernel_rfl) (by kernel_rfl) ?_
        refine TD_go 1 ?_
        replace h := chkO h
        obtain ⟨hc9, h⟩ := h
        refine TD_idxA 3 0 16 (i := s1) hc9 (by kernel_rfl) (by kernel_rfl) ?_
        refine TD_ldA .u8 0 16 (i := s1) a1 hc9 (by kernel_rfl) (by kernel_rfl) ?_
        refine TD_go 1 ?_
        refine TD_end (by kernel_rfl) ?_
        replace h := condO h
        rcases h with ⟨hb10, h⟩ | ⟨hb10, h⟩
        · refine TS_know 23 (b := true) hb10 (by kernel_rfl) (by kernel_rfl) ?_
          refine TS_T (by kernel_rfl) rfl ?_
          refine TS_go 7 ?_
          obtain rfl := Option.some.inj h
          have hy1q := hy1 _ rfl
          subst hy1q
          replace h := (elimR hK1)
          refine TS_retB rfl (by kernel_rfl) ?_
          refine TS_go 2 ?_
          obtain rfl := Option.some.inj h
          exact TS_ret (by kernel_rfl) (by kernel_rfl) (by kernel_rfl)
        · refine TS_know 23 (b := false) hb10 (by kernel_rfl) (by kernel_rfl) ?_
          refine TS_F (by kernel_rfl) rfl ?_
          refine TS_go 7 ?_
          obtain rfl := Option.some.inj h
          exact TS_againB _ ⟨[(2, []), (3, []), (5, [])], [(2, (2, [])), (3, (3, []))]⟩ rfl (by kernel_rfl) (by kernel_rfl)
    · refine TS_know 7 (b := false) hb4 (by kernel_rfl) (by kernel_rfl) ?_
      refine TS_F (by kernel_rfl) rfl ?_
      refine TS_go 2 ?_
      obtain rfl := Option.some.inj h
      exact TS_brkB () ⟨[], []⟩ rfl (by kernel_rfl) (by kernel_rfl) (by kernel_rfl)
  · intro b2 hb
    subst y3
    have h := elimL hK1
    refine TS_go 6 ?_
    obtain rfl := Option.some.inj h
    exact TS_ret (by kernel_rfl) (by kernel_rfl) (by kernel_rfl)

/-- multihop/multihopref26.ComparePrefix -/
noncomputable def F_ref26_ComparePrefix (a0 : S_Prefix) (a1 : S_Prefix) : Option (Int) :=
  (F_ref22_CompareIP a0.IP a1.IP).bind fun v1 =>
  bif (v1 != 0) then
    some (v1)
  else
    bif (decide (a0.Bits < a1.Bits)) then
      some ((-1))
    else
      bif (decide (a0.Bits > a1.Bits)) then
        some (1)
      else
        some (0)
set_option maxRecDepth 100000 in
set_option maxHeartbeats 40000000 in
theorem ok_ref26_ComparePrefix (a0 : S_Prefix) (a1 : S_Prefix) (r : Int) (h : F_ref26_ComparePrefix a0 a1 = some r) : Con Try.prog 62 [.agg (S_Prefix.cs a0), .agg (S_Prefix.cs a1)] [] (.c (.lit (.int .i64 (r)))) [] := by
  unfold F_ref26_ComparePrefix at h
  refine con_of [] [] 24 Try.func62 rfl rfl (by kernel_rfl) (fun K => ?_)
  refine TS_go 13 ?_
  replace h := bindO h
  obtain ⟨v1, hv1, h⟩ := h
  refine TS_call [] (ok_ref22_CompareIP a0.IP a1.IP v1 hv1) (by kernel_rfl) (by kernel_rfl) ?_
  refine TS_go 7 ?_
  replace h := condO h
  rcases h with ⟨hb2, h⟩ | ⟨hb2, h⟩
  · refine TS_know 12 (b := true) hb2 (by kernel_rfl) (by kernel_rfl) ?_
    refine TS_T (by kernel_rfl) rfl ?_
    refine TS_go 7 ?_
    obtain rfl := Option.some.inj h
    exact TS_ret (by kernel_rfl) (by kernel_rfl) (by kernel_rfl)
  · refine TS_know 12 (b := false) hb2 (by kernel_rfl) (by kernel_rfl) ?_
    refine TS_F (by kernel_rfl) rfl ?_
    refine TS_go 10 ?_
    replace h := condO h
    rcases h with ⟨hb3, h⟩ | ⟨hb3, h⟩
    · refine TS_know 18 (b := true) hb3 (by kernel_rfl) (by kernel_rfl) ?_
      refine TS_T (by kernel_rfl) rfl ?_
      refine TS_go 6 ?_
      obtain rfl := Option.some.inj h
      exact TS_ret (by kernel_rfl) (by kernel_rfl) (by kernel_rfl)
    · refine TS_know 18 (b := false) hb3 (by kernel_rfl) (by kernel_rfl) ?_
      refine TS_F (by kernel_rfl) rfl ?_
      refine TS_go 10 ?_
      replace h := condO h
      rcases h with ⟨hb4, h⟩ | ⟨hb4, h⟩
      · refine TS_know 23 (b := true) hb4 (by kernel_rfl) (by kernel_rfl) ?_
        refine TS_T (by kernel_rfl) rfl ?_
        refine TS_go 6 ?_
        obtain rfl := Option.some.inj h
        exact TS_ret (by kernel_rfl) (by kernel_rfl) (by kernel_rfl)
      · refine TS_know 23 (b := false) hb4 (by kernel_rfl) (by kernel_rfl) ?_
        refine TS_F (by kernel_rfl) rfl ?_
        refine TS_go 6 ?_
        obtain rfl := Option.some.inj h
        exact TS_ret (by kernel_rfl) (by kernel_rfl) (by kernel_rfl)

/-- multihop/multihopref33.Valid -/
noncomputable def F_ref33_Valid_l1 (a0 : List S_Down) (s2 : Int) : Option ((Int) ⊕ ((Unit) ⊕ (Bool))) :=
  bif (decide (s2 < (List.length a0 : Int))) then
    (idx a0 s2).bind fun e6 =>
    (F_ref04_ValidPrefix e6.Target).bind fun v7 =>
    bif v7 then
      (idx a0 s2).bind fun e9 =>
      bif (e9.Via == 0) then
        some (Sum.inr (Sum.inr false))
      else
        (idx a0 s2).bind fun e11 =>
        (F_ref22_IsTime e11.Until).bind fun v12 =>
        bif v12 then
          bif (decide (s2 > 0)) then
            (idx a0 (IntKind.wrap .i64 (s2 - 1))).bind fun e15 =>
            (idx a0 s2).bind fun e16 =>
            (F_ref26_ComparePrefix e15.Target e16.Target).bind fun v17 =>
            bif (decide (v17 ≥ 0)) then
              some (Sum.inr (Sum.inr false))
            else
              some (Sum.inl (IntKind.wrap .i64 (s2 + 1)))
          else
            some (Sum.inl (IntKind.wrap .i64 (s2 + 1)))
        else
          some (Sum.inr (Sum.inr false))
    else
      some (Sum.inr (Sum.inr false))
  else
    some (Sum.inr (Sum.inl ()))
noncomputable def F_ref33_Valid (a0 : List S_Down) : Option (Bool) :=
  bif (decide ((List.length a0 : Int) > 128)) then
    some (false)
  else
    (loopO (F_ref33_Valid_l1 a0) 0).bind (Sum.elim (fun b3 =>
      some (true)
    ) (fun w19 => some w19))
set_option maxRecDepth 100000 in
set_option maxHeartbeats 40000000 in
theorem ok_ref33_Valid (a0 : List S_Down) (r : Bool) (h : F_ref33_Valid a0 = some r) : Con Try.prog 51 [.c (eS 20 S_Down.cs (a0))] [] (.c (.lit (.bool (r)))) [] := by
  unfold F_ref33_Valid at h
  refine con_of [] [] 54 Try.func51 rfl rfl (by kernel_rfl) (fun K => ?_)
  refine TS_go 11 ?_
  replace h := condO h
  rcases h with ⟨hb1, h⟩ | ⟨hb1, h⟩
  · refine TS_know 6 (b := true) hb1 (by kernel_rfl) (by kernel_rfl) ?_
    refine TS_T (by kernel_rfl) rfl ?_
    refine TS_go 6 ?_
    obtain rfl := Option.some.inj h
    exact TS_ret (by kernel_rfl) (by kernel_rfl) (by kernel_rfl)
  · refine TS_know 6 (b := false) hb1 (by kernel_rfl) (by kernel_rfl) ?_
    refine TS_F (by kernel_rfl) rfl ?_
    refine TS_go 9 ?_
    refine TS_cut ⟨[(0, []), (8, []), (9, [])], []⟩ (.mk [.code (codeAt [1, 1, 0, 1, 0] (bodyOf Try.f51)), .blk 0, .code (codeAt [1, 1, 1] (bodyOf Try.f51))] .normal ⟨[(0, .c (.slc 20 0 (List.length a0) (List.map S_Down.cs a0))), (8, .c (.lit (.int .i64 ((List.length a0 : Int))))), (9, .c (.lit (.int .i64 (0))))], []⟩) (by kernel_rfl) (by kernel_rfl) ?_
    replace h := bindO h
    obtain ⟨y4, hl1, hK1⟩ := h
    refine TS_loopB (F_ref33_Valid_l1 a0) ⟨[(0, []), (8, []), (9, [])], []⟩ (fun (s2 : Int) => [(9, .c (.lit (.int .i64 (s2))))]) (fun (s2 : Int) => []) 0 y4 (.exit 0) (fun (b : Unit) => (Sum.inl b : (Unit) ⊕ (Bool))) ⟨[], []⟩ (fun (b3 : Unit) => []) (fun (b3 : Unit) => []) hl1 (by kernel_rfl) (by kernel_rfl) ?_ ?_
    · intro s2 x h hy1
      unfold F_ref33_Valid_l1 at h
      refine TS_go 5 ?_
      replace h := condO h
      rcases h with ⟨hb5, h⟩ | ⟨hb5, h⟩
      · refine TS_know 10 (b := true) hb5 (by kernel_rfl) (by kernel_rfl) ?_
        refine TS_T (by kernel_rfl) rfl ?_
        refine TS_go 13 ?_
        replace h := bindO h
        obtain ⟨e6, he6, h⟩ := h
        refine TS_idx S_Down.cs he6 (by kernel_rfl) (by kernel_rfl) ?_
        refine TS_go 2 ?_
        replace h := bindO h
        obtain ⟨v7, hv7, h⟩ := h
        refine TS_call [] (ok_ref04_ValidPrefix e6.Target v7 hv7) (by kernel_rfl) (by kernel_rfl) ?_
        refine TS_go 2 ?_
        replace h := condO h
        rcases h with ⟨hb8, h⟩ | ⟨hb8, h⟩
        · subst hb8
          refine TS_go 2 ?_
          replace h := bindO h
          obtain ⟨e9, he9, h⟩ := h
          refine TS_idx S_Down.cs he9 (by kernel_rfl) (by kernel_rfl) ?_
          refine TS_go 5 ?_
          replace h := condO h
          rcases h with ⟨hb10, h⟩ | ⟨hb10, h⟩
          · refine TS_know 25 (b := true) hb10 (by kernel_rfl) (by kernel_rfl) ?_
            refine TS_know 26 (b := true) hb10 (by kernel_rfl) (by kernel_rfl) ?_
            refine TS_know 27 (b := true) hb10 (by kernel_rfl) (by kernel_rfl) ?_
            refine TS_go 9 ?_
            refine TS_T (by kernel_rfl) rfl ?_
            refine TS_go 8 ?_
            obtain rfl := Option.some.inj h
            have hy1q := hy1 _ rfl
            subst hy1q
            replace h := (elimR hK1)
            refine TS_retB rfl (by kernel_rfl) ?_
            refine TS_go 2 ?_
            obtain rfl := Option.some.inj h
            exact TS_ret (by kernel_rfl) (by kernel_rfl) (by kernel_rfl)
          · refine TS_know 25 (b := false) hb10 (by kernel_rfl) (by kernel_rfl) ?_
            refine TS_know 26 (b := false) hb10 (by kernel_rfl) (by kernel_rfl) ?_
            refine TS_know 27 (b := false) hb10 (by kernel_rfl) (by kernel_rfl) ?_
            refine TS_go 2 ?_
            replace h := bindO h
            obtain ⟨e11, he11, h⟩ := h
            refine TS_idx S_Down.cs he11 (by kernel_rfl) (by kernel_rfl) ?_
            refine TS_go 2 ?_
            replace h := bindO h
            obtain ⟨v12, hv12, h⟩ := h
            refine TS_call [] (ok_ref22_IsTime e11.Until v12 hv12) (by kernel_rfl) (by kernel_rfl) ?_
            refine TS_go 3 ?_
            replace h := condO h
            rcases h with ⟨hb13, h⟩ | ⟨hb13, h⟩
            · subst hb13
              refine TS_F (by kernel_rfl) rfl ?_
              refine TS_go 2 ?_
              refine TS_draw (by kernel_rfl) ?_
              refine TD_go 2 ?_
              replace h := condO h
              rcases h with ⟨hb14, h⟩ | ⟨hb14, h⟩
              · refine TD_know 38 (b := true) hb14 trivial (by kernel_rfl) (by kernel_rfl) ?_
                refine TD_go 3 ?_
                replace h := bindO h
                obtain ⟨e15, he15, h⟩ := h
                refine TD_idx S_Down.cs he15 (by kernel_rfl) (by kernel_rfl) ?_
                refine TD_go 4 ?_
                replace h := bindO h
                obtain ⟨e16, he16, h⟩ := h
                refine TD_idx S_Down.cs he16 (by kernel_rfl) (by kernel_rfl) ?_
                refine TD_go 2 ?_
                replace h := bindO h
                obtain ⟨v17, hv17, h⟩ := h
                refine TD_call [] (ok_ref26_ComparePrefix e15.Target e16.Target v17 hv17) (by kernel_rfl) (by kernel_rfl) ?_
                refine TD_go 2 ?_
                refine TD_end (by kernel_rfl) ?_
                replace h := condO h
                rcases h with ⟨hb18, h⟩ | ⟨hb18, h⟩
                · refine TS_know 37 (b := true) hb14 (by kernel_rfl) (by kernel_rfl) ?_
                  refine TS_know 51 (b := true) hb18 (by kernel_rfl) (by kernel_rfl) ?_
                  refine TS_know 52 (b := true) hb18 (by kernel_rfl) (by kernel_rfl) ?_
                  refine TS_T (by kernel_rfl) rfl ?_
                  refine TS_go 7 ?_
                  obtain rfl := Option.some.inj h
                  have hy1q := hy1 _ rfl
                  subst hy1q
                  replace h := (elimR hK1)
                  refine TS_retB rfl (by kernel_rfl) ?_
                  refine TS_go 2 ?_
                  obtain rfl := Option.some.inj h
                  exact TS_ret (by kernel_rfl) (by kernel_rfl) (by kernel_rfl)
                · refine TS_know 37 (b := true) hb14 (by kernel_rfl) (by kernel_rfl) ?_
                  refine TS_know 51 (b := false) hb18 (by kernel_rfl) (by kernel_rfl) ?_
                  refine TS_know 52 (b := false) hb18 (by kernel_rfl) (by kernel_rfl) ?_
                  refine TS_F (by kernel_rfl) rfl ?_
                  refine TS_go 6 ?_
                  obtain rfl := Option.some.inj h
                  exact TS_againB _ ⟨[(0, []), (8, []), (9, [])], []⟩ rfl (by kernel_rfl) (by kernel_rfl)
              · refine TD_know 38 (b := false) hb14 trivial (by kernel_rfl) (by kernel_rfl) ?_
                refine TD_go 14 ?_
                refine TD_end (by kernel_rfl) ?_
                refine TS_F (by kernel_rfl) rfl ?_
                refine TS_go 6 ?_
                obtain rfl := Option.some.inj h
                exact TS_againB _ ⟨[(0, []), (8, []), (9, [])], []⟩ rfl (by kernel_rfl) (by kernel_rfl)
            · subst hb13
              refine TS_T (by kernel_rfl) rfl ?_
              refine TS_go 8 ?_
              obtain rfl := Option.some.inj h
              have hy1q := hy1 _ rfl
              subst hy1q
              replace h := (elimR hK1)
              refine TS_retB rfl (by kernel_rfl) ?_
              refine TS_go 2 ?_
              obtain rfl := Option.some.inj h
              exact TS_ret (by kernel_rfl) (by kernel_rfl) (by kernel_rfl)
        · subst hb8
          refine TS_go 17 ?_
          refine TS_T (by kernel_rfl) rfl ?_
          refine TS_go 8 ?_
          obtain rfl := Option.some.inj h
          have hy1q := hy1 _ rfl
          subst hy1q
          replace h := (elimR hK1)
          refine TS_retB rfl (by kernel_rfl) ?_
          refine TS_go 2 ?_
          obtain rfl := Option.some.inj h
          exact TS_ret (by kernel_rfl) (by kernel_rfl) (by kernel_rfl)
      · refine TS_know 10 (b := false) hb5 (by kernel_rfl) (by kernel_rfl) ?_
        refine TS_F (by kernel_rfl) rfl ?_
        refine TS_go 2 ?_
        obtain rfl := Option.some.inj h
        exact TS_brkB () ⟨[], []⟩ rfl (by kernel_rfl) (by kernel_rfl) (by kernel_rfl)
    · intro b3 hb
      subst y4
      have h := elimL hK1
      refine TS_go 6 ?_
      obtain rfl := Option.some.inj h
      exact TS_ret (by kernel_rfl) (by kernel_rfl) (by kernel_rfl)

/-- multihop/multihopref33.ValidRegister -/
noncomputable def F_ref33_ValidRegister (a0 : S_Register) : Option (Bool) :=
  (F_ref04_ValidPrefix a0.Target).bind fun v1 =>
  bif v1 then
    (F_ref22_IsTime a0.Lifetime).bind fun v3 =>
    some (v3)
  else
    some (false)
set_option maxRecDepth 100000 in
set_option maxHeartbeats 40000000 in
theorem ok_ref33_ValidRegister (a0 : S_Register) (r : Bool) (h : F_ref33_ValidRegister a0 = some r) : Con Try.prog 43 [.agg (S_Register.cs a0)] [] (.c (.lit (.bool (r)))) [] := by
  unfold F_ref33_ValidRegister at h
  refine con_of [] [] 11 Try.func43 rfl rfl (by kernel_rfl) (fun K => ?_)
  refine TS_go 9 ?_
  replace h := bindO h
  obtain ⟨v1, hv1, h⟩ := h
  refine TS_call [] (ok_ref04_ValidPrefix a0.Target v1 hv1) (by kernel_rfl) (by kernel_rfl) ?_
  refine TS_go 1 ?_
  replace h := condO h
  rcases h with ⟨hb2, h⟩ | ⟨hb2, h⟩
  · subst hb2
    refine TS_go 2 ?_
    replace h := bindO h
    obtain ⟨v3, hv3, h⟩ := h
    refine TS_call [] (ok_ref22_IsTime a0.Lifetime v3 hv3) (by kernel_rfl) (by kernel_rfl) ?_
    refine TS_go 4 ?_
    obtain rfl := Option.some.inj h
    exact TS_ret (by kernel_rfl) (by kernel_rfl) (by kernel_rfl)
  · subst hb2
    refine TS_go 7 ?_
    obtain rfl := Option.some.inj h
    exact TS_ret (by kernel_rfl) (by kernel_rfl) (by kernel_rfl)

/-- multihop/multihopref22.After -/
noncomputable def F_ref22_After (a0 : Int) (a1 : Int) : Option (Int) :=
  some (if 1099511627776 < IntKind.wrap .i64 (a0 + a1) then 1099511627776 else IntKind.wrap .i64 (a0 + a1))
set_option maxRecDepth 100000 in
set_option maxHeartbeats 40000000 in
theorem ok_ref22_After (a0 : Int) (a1 : Int) (r : Int) (h : F_ref22_After a0 a1 = some r) : Con Try.prog 59 [.c (.lit (.int .i64 (a0))), .c (.lit (.int .i64 (a1)))] [] (.c (.lit (.int .i64 (r)))) [] := by
  unfold F_ref22_After at h
  refine con_of [] [] 9 Try.func59 rfl rfl (by kernel_rfl) (fun K => ?_)
  refine TS_go 13 ?_
  obtain rfl := Option.some.inj h
  exact TS_ret (by kernel_rfl) (by kernel_rfl) (by kernel_rfl)

/-- multihop/multihopref33.put -/
noncomputable def F_ref33_put_j2 (s1 : (List S_Down) × Bool × Int) (v5 : (List S_Down) × Bool) : Option (((List S_Down) × Bool × Int) ⊕ ((List S_Down) × Bool)) :=
  some (Sum.inl (v5.1, v5.2, IntKind.wrap .i64 (s1.2.2 + 1)))
noncomputable def F_ref33_put_j3 (v7 : Int) (e6 : S_Down) (s1 : (List S_Down) × Bool × Int) (v8 : (List S_Down) × Bool) : Option (((List S_Down) × Bool × Int) ⊕ ((List S_Down) × Bool)) :=
  bif (v7 != 0) then
    (appO 48 v8.1 (Cut.app .whole ([e6] : List S_Down))).bind fun l10 =>
    (F_ref33_put_j2 s1) (l10, v8.2)
  else
    (F_ref33_put_j2 s1) (v8.1, v8.2)
noncomputable def F_ref33_put_l1 (a0 : List S_Down) (a1 : S_Down) (s1 : (List S_Down) × Bool × Int) : Option (((List S_Down) × Bool × Int) ⊕ ((List S_Down) × Bool)) :=
  bif (decide (s1.2.2 < (List.length a0 : Int))) then
    (idx a0 s1.2.2).bind fun e6 =>
    (F_ref26_ComparePrefix e6.Target a1.Target).bind fun v7 =>
    bif (decide (v7 ≥ 0)) then
      bif s1.2.1 then
        (F_ref33_put_j3 v7 e6 s1) (s1.1, true)
      else
        (appO 48 s1.1 (Cut.app .whole ([a1] : List S_Down))).bind fun l13 =>
        (F_ref33_put_j3 v7 e6 s1) (l13, true)
    else
      (F_ref33_put_j3 v7 e6 s1) (s1.1, s1.2.1)
  else
    some (Sum.inr (s1.1, s1.2.1))
noncomputable def F_ref33_put_j4  (v15 : (List S_Down)) : Option ((List S_Down)) :=
  some (v15)
noncomputable def F_ref33_put (a0 : List S_Down) (a1 : S_Down) : Option ((List S_Down)) :=
  (loopO (F_ref33_put_l1 a0 a1) (([] : List S_Down), false, 0)).bind fun b2 =>
  bif b2.2 then
    (F_ref33_put_j4) b2.1
  else
    (appO 48 b2.1 (Cut.app .whole ([a1] : List S_Down))).bind fun l17 =>
    (F_ref33_put_j4) l17
set_option maxRecDepth 100000 in
set_option maxHeartbeats 40000000 in
theorem okT_ref33_put (a0 : List S_Down) (a1 : S_Down) (r : (List S_Down)) (h : F_ref33_put a0 a1 = some r) : Con Try.prog 60 [.c (eS 20 S_Down.cs (a0)), .agg (S_Down.cs a1)] [] (.c (.slc 20 900002 (List.length r) (List.map S_Down.cs r))) [(900000, .spare 39 20 (List.length r))] := by
  unfold F_ref33_put at h
  refine con_of [] [(900000, [])] 45 Try.func60 rfl rfl (by kernel_rfl) (fun K => ?_)
  refine TS_go 21 ?_
  refine TS_nilT 5 600000 39 20 (by kernel_rfl) ?_
  refine TS_cut ⟨[(3, []), (5, []), (6, []), (10, []), (11, []), (12, [])], [(3, (3, [])), (600000, (600000, []))]⟩ (.mk [.code (codeAt [1, 1, 1, 0, 1, 0] (bodyOf Try.f60)), .blk 0, .code (codeAt [1, 1, 1, 1] (bodyOf Try.f60))] .normal ⟨[(3, .c (.box 3 0)), (5, .c (.slc 20 600002 (List.length ([] : List S_Down)) (List.map S_Down.cs ([] : List S_Down)))), (6, .c (.lit (.bool (false)))), (10, .c (.slc 20 0 (List.length a0) (List.map S_Down.cs a0))), (11, .c (.lit (.int .i64 ((List.length a0 : Int))))), (12, .c (.lit (.int .i64 (0))))], [(3, .box [.lit (.int .u8 ((a1.Target.IP.getD 0 0))), .lit (.int .u8 ((a1.Target.IP.getD 1 0))), .lit (.int .u8 ((a1.Target.IP.getD 2 0))), .lit (.int .u8 ((a1.Target.IP.getD 3 0))), .lit (.int .u8 ((a1.Target.IP.getD 4 0))), .lit (.int .u8 ((a1.Target.IP.getD 5 0))), .lit (.int .u8 ((a1.Target.IP.getD 6 0))), .lit (.int .u8 ((a1.Target.IP.getD 7 0))), .lit (.int .u8 ((a1.Target.IP.getD 8 0))), .lit (.int .u8 ((a1.Target.IP.getD 9 0))), .lit (.int .u8 ((a1.Target.IP.getD 10 0))), .lit (.int .u8 ((a1.Target.IP.getD 11 0))), .lit (.int .u8 ((a1.Target.IP.getD 12 0))), .lit (.int .u8 ((a1.Target.IP.getD 13 0))), .lit (.int .u8 ((a1.Target.IP.getD 14 0))), .lit (.int .u8 ((a1.Target.IP.getD 15 0))), .lit (.int .i64 (a1.Target.Bits)), .lit (.int .u64 (a1.Via)), .lit (.int .u8 (a1.Sequence)), .lit (.int .i64 (a1.Until))]), (600000, .spare 39 20 (List.length ([] : List S_Down)))]⟩) (by kernel_rfl) (by kernel_rfl) ?_
  replace h := bindO h
  obtain ⟨y3, hl1, hK1⟩ := h
  refine TS_loopB (F_ref33_put_l1 a0 a1) ⟨[(3, []), (5, []), (6, []), (10, []), (11, []), (12, [])], [(3, (3, [])), (600000, (600000, []))]⟩ (fun (s1 : (List S_Down) × Bool × Int) => [(5, .c (.slc 20 600002 (List.length s1.1) (List.map S_Down.cs s1.1))), (6, .c (.lit (.bool (s1.2.1)))), (12, .c (.lit (.int .i64 (s1.2.2))))]) (fun (s1 : (List S_Down) × Bool × Int) => [(600000, .spare 39 20 (List.length s1.1))]) (([] : List S_Down), false, 0) y3 (.exit 0) (fun (b : (List S_Down) × Bool) => b) ⟨[(3, []), (5, []), (6, [])], [(3, (3, [])), (600000, (600000, []))]⟩ (fun (b2 : (List S_Down) × Bool) => [(5, .c (.slc 20 600002 (List.length b2.1) (List.map S_Down.cs b2.1))), (6, .c (.lit (.bool (b2.2))))]) (fun (b2 : (List S_Down) × Bool) => [(600000, .spare 39 20 (List.length b2.1))]) hl1 (by kernel_rfl) (by kernel_rfl) ?_ ?_
  · intro s1 x h hy1
    unfold F_ref33_put_l1 at h
    refine TS_go 5 ?_
    replace h := condO h
    rcases h with ⟨hb4, h⟩ | ⟨hb4, h⟩
    · refine TS_know 13 (b := true) hb4 (by kernel_rfl) (by kernel_rfl) ?_
      refine TS_T (by kernel_rfl) rfl ?_
      refine TS_go 1 ?_
      refine TS_cut ⟨[(3, []), (5, []), (6, []), (10, []), (11, []), (12, [])], [(3, (3, [])), (600000, (600000, []))]⟩ (.mk [.code (codeAt [1, 1, 1, 0, 1, 0, 0, 1, 1] (bodyOf Try.f60))] .normal ⟨[(3, .c (.box 3 0)), (5, .c (.slc 20 600002 (List.length s1.1) (List.map S_Down.cs s1.1))), (6, .c (.lit (.bool (s1.2.1)))), (10, .c (.slc 20 0 (List.length a0) (List.map S_Down.cs a0))), (11, .c (.lit (.int .i64 ((List.length a0 : Int))))), (12, .c (.lit (.int .i64 (s1.2.2))))], [(3, .box [.lit (.int .u8 ((a1.Target.IP.getD 0 0))), .lit (.int .u8 ((a1.Target.IP.getD 1 0))), .lit (.int .u8 ((a1.Target.IP.getD 2 0))), .lit (.int .u8 ((a1.Target.IP.getD 3 0))), .lit (.int .u8 ((a1.Target.IP.getD 4 0))), .lit (.int .u8 ((a1.Target.IP.getD 5 0))), .lit (.int .u8 ((a1.Target.IP.getD 6 0))), .lit (.int .u8 ((a1.Target.IP.getD 7 0))), .lit (.int .u8 ((a1.Target.IP.getD 8 0))), .lit (.int .u8 ((a1.Target.IP.getD 9 0))), .lit (.int .u8 ((a1.Target.IP.getD 10 0))), .lit (.int .u8 ((a1.Target.IP.getD 11 0))), .lit (.int .u8 ((a1.Target.IP.getD 12 0))), .lit (.int .u8 ((a1.Target.IP.getD 13 0))), .lit (.int .u8 ((a1.Target.IP.getD 14 0))), .lit (.int .u8 ((a1.Target.IP.getD 15 0))), .lit (.int .i64 (a1.Target.Bits)), .lit (.int .u64 (a1.Via)), .lit (.int .u8 (a1.Sequence)), .lit (.int .i64 (a1.Until))]), (600000, .spare 39 20 (List.length s1.1))]⟩) (by kernel_rfl) (by kernel_rfl) ?_
      refine TS_joinB ⟨[(3, []), (5, []), (6, []), (10, []), (11, []), (12, [])], [(3, (3, [])), (600000, (600000, []))]⟩ (fun (v5 : (List S_Down) × Bool) => [(5, .c (.slc 20 600002 (List.length v5.1) (List.map S_Down.cs v5.1))), (6, .c (.lit (.bool (v5.2))))]) (fun (v5 : (List S_Down) × Bool) => [(600000, .spare 39 20 (List.length v5.1))]) (F_ref33_put_j2 s1) x ?_ ?_
      · clear h
        intro v5 h
        unfold F_ref33_put_j2 at h
        refine TS_go 4 ?_
        obtain rfl := Option.some.inj h
        exact TS_againB _ ⟨[(3, []), (5, []), (6, []), (10, []), (11, []), (12, [])], [(3, (3, [])), (600000, (600000, []))]⟩ rfl (by kernel_rfl) (by kernel_rfl)
      · refine TS_go 3 ?_
        replace h := bindO h
        obtain ⟨e6, he6, h⟩ := h
        refine TS_idx S_Down.cs he6 (by kernel_rfl) (by kernel_rfl) ?_
        refine TS_go 10 ?_
        replace h := bindO h
        obtain ⟨v7, hv7, h⟩ := h
        refine TS_call [] (ok_ref26_ComparePrefix e6.Target a1.Target v7 hv7) (by kernel_rfl) (by kernel_rfl) ?_
        refine TS_go 2 ?_
        refine TS_cut ⟨[(3, []), (5, []), (6, []), (10, []), (11, []), (12, []), (8, []), (9, [])], [(3, (3, [])), (600000, (600000, [])), (8, (8, []))]⟩ (.mk [.code (codeAt [1, 1, 1, 0, 1, 0, 0, 1, 1, 0, 0, 1, 1] (bodyOf Try.f60)), .blk 1] .normal ⟨[(3, .c (.box 3 0)), (5, .c (.slc 20 600002 (List.length s1.1) (List.map S_Down.cs s1.1))), (6, .c (.lit (.bool (s1.2.1)))), (10, .c (.slc 20 0 (List.length a0) (List.map S_Down.cs a0))), (11, .c (.lit (.int .i64 ((List.length a0 : Int))))), (12, .c (.lit (.int .i64 (s1.2.2)))), (8, .c (.box 8 0)), (9, .c (.lit (.int .i64 (v7))))], [(3, .box [.lit (.int .u8 ((a1.Target.IP.getD 0 0))), .lit (.int .u8 ((a1.Target.IP.getD 1 0))), .lit (.int .u8 ((a1.Target.IP.getD 2 0))), .lit (.int .u8 ((a1.Target.IP.getD 3 0))), .lit (.int .u8 ((a1.Target.IP.getD 4 0))), .lit (.int .u8 ((a1.Target.IP.getD 5 0))), .lit (.int .u8 ((a1.Target.IP.getD 6 0))), .lit (.int .u8 ((a1.Target.IP.getD 7 0))), .lit (.int .u8 ((a1.Target.IP.getD 8 0))), .lit (.int .u8 ((a1.Target.IP.getD 9 0))), .lit (.int .u8 ((a1.Target.IP.getD 10 0))), .lit (.int .u8 ((a1.Target.IP.getD 11 0))), .lit (.int .u8 ((a1.Target.IP.getD 12 0))), .lit (.int .u8 ((a1.Target.IP.getD 13 0))), .lit (.int .u8 ((a1.Target.IP.getD 14 0))), .lit (.int .u8 ((a1.Target.IP.getD 15 0))), .lit (.int .i64 (a1.Target.Bits)), .lit (.int .u64 (a1.Via)), .lit (.int .u8 (a1.Sequence)), .lit (.int .i64 (a1.Until))]), (600000, .spare 39 20 (List.length s1.1)), (8, .box [.lit (.int .u8 ((e6.Target.IP.getD 0 0))), .lit (.int .u8 ((e6.Target.IP.getD 1 0))), .lit (.int .u8 ((e6.Target.IP.getD 2 0))), .lit (.int .u8 ((e6.Target.IP.getD 3 0))), .lit (.int .u8 ((e6.Target.IP.getD 4 0))), .lit (.int .u8 ((e6.Target.IP.getD 5 0))), .lit (.int .u8 ((e6.Target.IP.getD 6 0))), .lit (.int .u8 ((e6.Target.IP.getD 7 0))), .lit (.int .u8 ((e6.Target.IP.getD 8 0))), .lit (.int .u8 ((e6.Target.IP.getD 9 0))), .lit (.int .u8 ((e6.Target.IP.getD 10 0))), .lit (.int .u8 ((e6.Target.IP.getD 11 0))), .lit (.int .u8 ((e6.Target.IP.getD 12 0))), .lit (.int .u8 ((e6.Target.IP.getD 13 0))), .lit (.int .u8 ((e6.Target.IP.getD 14 0))), .lit (.int .u8 ((e6.Target.IP.getD 15 0))), .lit (.int .i64 (e6.Target.Bits)), .lit (.int .u64 (e6.Via)), .lit (.int .u8 (e6.Sequence)), .lit (.int .i64 (e6.Until))])]⟩) (by kernel_rfl) (by kernel_rfl) ?_
        refine TS_joinB ⟨[(3, []), (5, []), (6, []), (8, []), (9, []), (10, []), (11, []), (12, [])], [(3, (3, [])), (600000, (600000, [])), (8, (8, []))]⟩ (fun (v8 : (List S_Down) × Bool) => [(5, .c (.slc 20 600002 (List.length v8.1) (List.map S_Down.cs v8.1))), (6, .c (.lit (.bool (v8.2))))]) (fun (v8 : (List S_Down) × Bool) => [(600000, .spare 39 20 (List.length v8.1))]) (F_ref33_put_j3 v7 e6 s1) x ?_ ?_
        · clear h
          intro v8 h
          unfold F_ref33_put_j3 at h
          refine TS_go 5 ?_
          replace h := condO h
          rcases h with ⟨hb9, h⟩ | ⟨hb9, h⟩
          · refine TS_know 32 (b := true) hb9 (by kernel_rfl) (by kernel_rfl) ?_
            refine TS_T (by kernel_rfl) rfl ?_
            refine TS_go 3 ?_
            refine TS_litNT 35 39 20 S_Down.cs [] ([e6] : List S_Down) (by kernel_rfl) (by kernel_rfl) ?_
            replace h := bindO h
            obtain ⟨l10, hl10, h⟩ := h
            refine TS_appT (d := 600000) (e := 39) (sz := 20) (N := List.length v8.1) S_Down.cs (fun _ => by kernel_rfl) (l1 := v8.1) (l2 := ([e6] : List S_Down)) (c := .whole) hl10 (by kernel_rfl) (by kernel_rfl) ?_
            refine TS_go 3 ?_
            exact TS_meet (l10, v8.2) ⟨[(3, []), (5, []), (6, []), (10, []), (11, []), (12, [])], [(3, (3, [])), (600000, (600000, []))]⟩ h (by kernel_rfl) (by kernel_rfl)
          · refine TS_know 32 (b := false) hb9 (by kernel_rfl) (by kernel_rfl) ?_
            refine TS_F (by kernel_rfl) rfl ?_
            refine TS_go 2 ?_
            exact TS_meet (v8.1, v8.2) ⟨[(3, []), (5, []), (6, []), (10, []), (11, []), (12, [])], [(3, (3, [])), (600000, (600000, []))]⟩ h (by kernel_rfl) (by kernel_rfl)
        · refine TS_go 5 ?_
          replace h := condO h
          rcases h with ⟨hb11, h⟩ | ⟨hb11, h⟩
          · refine TS_know 22 (b := true) hb11 (by kernel_rfl) (by kernel_rfl) ?_
            refine TS_know 23 (b := true) hb11 (by kernel_rfl) (by kernel_rfl) ?_
            refine TS_go 4 ?_
            replace h := condO h
            rcases h with ⟨hb12, h⟩ | ⟨hb12, h⟩
            · refine TS_know 6 (b := true) hb12 (by kernel_rfl) (by kernel_rfl) ?_
              refine TS_know 24 (b := true) hb12 (by kernel_rfl) (by kernel_rfl) ?_
              refine TS_know 25 (b := false) (notF hb12) (by kernel_rfl) (by kernel_rfl) ?_
              refine TS_know 26 (b := false) (notF hb12) (by kernel_rfl) (by kernel_rfl) ?_
              refine TS_F (by kernel_rfl) rfl ?_
              refine TS_go 1 ?_
              exact TS_meet (s1.1, true) ⟨[(3, []), (5, []), (6, []), (8, []), (9, []), (10, []), (11, []), (12, [])], [(3, (3, [])), (600000, (600000, [])), (8, (8, []))]⟩ h (by kernel_rfl) (by kernel_rfl)
            · refine TS_know 6 (b := false) hb12 (by kernel_rfl) (by kernel_rfl) ?_
              refine TS_know 24 (b := false) hb12 (by kernel_rfl) (by kernel_rfl) ?_
              refine TS_know 25 (b := true) (notT hb12) (by kernel_rfl) (by kernel_rfl) ?_
              refine TS_know 26 (b := true) (notT hb12) (by kernel_rfl) (by kernel_rfl) ?_
              refine TS_T (by kernel_rfl) rfl ?_
              refine TS_go 4 ?_
              refine TS_litNT 29 39 20 S_Down.cs [] ([a1] : List S_Down) (by kernel_rfl) (by kernel_rfl) ?_
              replace h := bindO h
              obtain ⟨l13, hl13, h⟩ := h
              refine TS_appT (d := 600000) (e := 39) (sz := 20) (N := List.length s1.1) S_Down.cs (fun _ => by kernel_rfl) (l1 := s1.1) (l2 := ([a1] : List S_Down)) (c := .whole) hl13 (by kernel_rfl) (by kernel_rfl) ?_
              refine TS_go 5 ?_
              exact TS_meet (l13, true) ⟨[(3, []), (5, []), (6, []), (8, []), (9, []), (10, []), (11, []), (12, [])], [(3, (3, [])), (600000, (600000, [])), (8, (8, []))]⟩ h (by kernel_rfl) (by kernel_rfl)
          · refine TS_know 22 (b := false) hb11 (by kernel_rfl) (by kernel_rfl) ?_
            refine TS_know 23 (b := false) hb11 (by kernel_rfl) (by kernel_rfl) ?_
            refine TS_go 4 ?_
            refine TS_F (by kernel_rfl) rfl ?_
            refine TS_go 1 ?_
            exact TS_meet (s1.1, s1.2.1) ⟨[(3, []), (5, []), (6, []), (8, []), (9, []), (10, []), (11, []), (12, [])], [(3, (3, [])), (600000, (600000, [])), (8, (8, []))]⟩ h (by kernel_rfl) (by kernel_rfl)
    · refine TS_know 13 (b := false) hb4 (by kernel_rfl) (by kernel_rfl) ?_
      refine TS_F (by kernel_rfl) rfl ?_
      refine TS_go 2 ?_
      obtain rfl := Option.some.inj h
      exact TS_brkB (s1.1, s1.2.1) ⟨[(3, []), (5, []), (6, [])], [(3, (3, [])), (600000, (600000, []))]⟩ rfl (by kernel_rfl) (by kernel_rfl) (by kernel_rfl)
  · intro b2 hb
    subst y3
    have h := hK1
    refine TS_go 1 ?_
    refine TS_cut ⟨[(3, []), (5, []), (6, [])], [(3, (3, [])), (600000, (600000, []))]⟩ (.mk [.code (codeAt [1, 1, 1, 1] (bodyOf Try.f60))] .normal ⟨[(3, .c (.box 3 0)), (5, .c (.slc 20 600002 (List.length b2.1) (List.map S_Down.cs b2.1))), (6, .c (.lit (.bool (b2.2))))], [(3, .box [.lit (.int .u8 ((a1.Target.IP.getD 0 0))), .lit (.int .u8 ((a1.Target.IP.getD 1 0))), .lit (.int .u8 ((a1.Target.IP.getD 2 0))), .lit (.int .u8 ((a1.Target.IP.getD 3 0))), .lit (.int .u8 ((a1.Target.IP.getD 4 0))), .lit (.int .u8 ((a1.Target.IP.getD 5 0))), .lit (.int .u8 ((a1.Target.IP.getD 6 0))), .lit (.int .u8 ((a1.Target.IP.getD 7 0))), .lit (.int .u8 ((a1.Target.IP.getD 8 0))), .lit (.int .u8 ((a1.Target.IP.getD 9 0))), .lit (.int .u8 ((a1.Target.IP.getD 10 0))), .lit (.int .u8 ((a1.Target.IP.getD 11 0))), .lit (.int .u8 ((a1.Target.IP.getD 12 0))), .lit (.int .u8 ((a1.Target.IP.getD 13 0))), .lit (.int .u8 ((a1.Target.IP.getD 14 0))), .lit (.int .u8 ((a1.Target.IP.getD 15 0))), .lit (.int .i64 (a1.Target.Bits)), .lit (.int .u64 (a1.Via)), .lit (.int .u8 (a1.Sequence)), .lit (.int .i64 (a1.Until))]), (600000, .spare 39 20 (List.length b2.1))]⟩) (by kernel_rfl) (by kernel_rfl) ?_
    refine TS_joinB ⟨[(5, [])], [(600000, (600000, []))]⟩ (fun (v15 : (List S_Down)) => [(5, .c (.slc 20 600002 (List.length v15) (List.map S_Down.cs v15)))]) (fun (v15 : (List S_Down)) => [(600000, .spare 39 20 (List.length v15))]) (F_ref33_put_j4) r ?_ ?_
    · clear h
      intro v15 h
      unfold F_ref33_put_j4 at h
      refine TS_go 5 ?_
      refine TS_fitU ⟨[(4, [])], [(600000, (900000, []))]⟩ (by kernel_rfl) ?_
      refine TS_go 1 ?_
      obtain rfl := Option.some.inj h
      exact TS_ret (by kernel_rfl) (by kernel_rfl) (by kernel_rfl)
    · refine TS_go 5 ?_
      replace h := condO h
      rcases h with ⟨hb16, h⟩ | ⟨hb16, h⟩
      · refine TS_know 6 (b := true) hb16 (by kernel_rfl) (by kernel_rfl) ?_
        refine TS_know 38 (b := true) hb16 (by kernel_rfl) (by kernel_rfl) ?_
        refine TS_know 39 (b := false) (notF hb16) (by kernel_rfl) (by kernel_rfl) ?_
        refine TS_F (by kernel_rfl) rfl ?_
        refine TS_go 1 ?_
        exact TS_meet b2.1 ⟨[(5, [])], [(600000, (600000, []))]⟩ h (by kernel_rfl) (by kernel_rfl)
      · refine TS_know 6 (b := false) hb16 (by kernel_rfl) (by kernel_rfl) ?_
        refine TS_know 38 (b := false) hb16 (by kernel_rfl) (by kernel_rfl) ?_
        refine TS_know 39 (b := true) (notT hb16) (by kernel_rfl) (by kernel_rfl) ?_
        refine TS_T (by kernel_rfl) rfl ?_
        refine TS_go 3 ?_
        refine TS_litNT 42 39 20 S_Down.cs [] ([a1] : List S_Down) (by kernel_rfl) (by kernel_rfl) ?_
        replace h := bindO h
        obtain ⟨l17, hl17, h⟩ := h
        refine TS_appT (d := 600000) (e := 39) (sz := 20) (N := List.length b2.1) S_Down.cs (fun _ => by kernel_rfl) (l1 := b2.1) (l2 := ([a1] : List S_Down)) (c := .whole) hl17 (by kernel_rfl) (by kernel_rfl) ?_
        refine TS_go 2 ?_
        exact TS_meet l17 ⟨[(5, [])], [(600000, (600000, []))]⟩ h (by kernel_rfl) (by kernel_rfl)
theorem ok_ref33_put (a0 : List S_Down) (a1 : S_Down) (r : (List S_Down)) (h : F_ref33_put a0 a1 = some r) : Con Try.prog 60 [.c (eS 20 S_Down.cs (a0)), .agg (S_Down.cs a1)] [] (.c (eS 20 S_Down.cs (r))) [] :=
  con_drop [[21]] [] (okT_ref33_put a0 a1 r h) (by kernel_rfl) (by kernel_rfl) (by kernel_rfl)

end Go.Proofs.Ytonlajdaaljncaa
