/-
  Written by cc3.py: what the Go functions compute, as plain functions, and that they do.
-/
import Derived.Test.YtonlajdaaljncaaV24
import Derived.Test.YtonlajdaaljncaaChecked
namespace Go.Proofs.Ytonlajdaaljncaa
open Go.RowKit
attribute [local irreducible] TS go TD goD

structure S_multihopmade_Tape where
  l : List Int
  at_ : Int
def S_multihopmade_Tape.cs (x : S_multihopmade_Tape) : List SC := [eS 1 (ecI .i64) (x.l)] ++ [.lit (.int .i64 (x.at_))]

structure S_Prefix where
  IP : List Int
  Bits : Int
def S_Prefix.cs (x : S_Prefix) : List SC := arrS .u8 16 x.IP ++ [.lit (.int .i64 (x.Bits))]
def S_Prefix.eqb (x y : S_Prefix) : Bool := (arrEq 16 x.IP y.IP) && ((x.Bits == y.Bits) && true)

structure S_Register where
  Target : S_Prefix
  Sequence : Int
  Lifetime : Int
def S_Register.cs (x : S_Register) : List SC := S_Prefix.cs x.Target ++ [.lit (.int .u8 (x.Sequence))] ++ [.lit (.int .i64 (x.Lifetime))]
def S_Register.eqb (x y : S_Register) : Bool := (S_Prefix.eqb x.Target y.Target) && ((x.Sequence == y.Sequence) && ((x.Lifetime == y.Lifetime) && true))

structure S_Down where
  Target : S_Prefix
  Via : Int
  Sequence : Int
  Until : Int
def S_Down.cs (x : S_Down) : List SC := S_Prefix.cs x.Target ++ [.lit (.int .u64 (x.Via))] ++ [.lit (.int .u8 (x.Sequence))] ++ [.lit (.int .i64 (x.Until))]
def S_Down.eqb (x y : S_Down) : Bool := (S_Prefix.eqb x.Target y.Target) && ((x.Via == y.Via) && ((x.Sequence == y.Sequence) && ((x.Until == y.Until) && true)))

theorem ext_66 : Ext1 Try.prog 66 Extern.BytealgCompare.compare := ⟨_, Try.func66, by kernel_rfl, by kernel_rfl⟩
/-- multihop/multihopmade.New -/
noncomputable def F_made_New_j1  (v1 : (List Int)) : Option (S_multihopmade_Tape) :=
  some ((S_multihopmade_Tape.mk v1 0))
noncomputable def F_made_New (a0 : List Int) : Option (S_multihopmade_Tape) :=
  bif (decide ((List.length a0 : Int) > 400)) then
    (subO a0 0 400).bind fun l3 =>
    (F_made_New_j1) l3
  else
    (F_made_New_j1) a0
set_option maxRecDepth 100000 in
set_option maxHeartbeats 40000000 in
theorem ok_made_New (a0 : List Int) (r : S_multihopmade_Tape) (h : F_made_New a0 = some r) : Con Try.prog 9 [.c (eS 1 (ecI .i64) (a0))] [] (.c (.box 10 0)) [(10, .box (S_multihopmade_Tape.cs r))] := by
  unfold F_made_New at h
  refine con_of [] [(10, [2])] 11 Try.func9 rfl rfl (by kernel_rfl) (fun K => ?_)
  refine TS_go 4 ?_
  refine TS_cut ⟨[(0, [])], []⟩ (.mk [.code (codeAt [1] (bodyOf Try.f9))] .normal ⟨[(0, .c (.slc 1 0 (List.length a0) (List.map (ecI .i64) a0)))], []⟩) (by kernel_rfl) (by kernel_rfl) ?_
  refine TS_joinB ⟨[(0, [])], []⟩ (fun (v1 : (List Int)) => [(0, .c (eS 1 (ecI .i64) (v1)))]) (fun (v1 : (List Int)) => []) (F_made_New_j1) r ?_ ?_
  · clear h
    intro v1 h
    unfold F_made_New_j1 at h
    refine TS_go 8 ?_
    obtain rfl := Option.some.inj h
    exact TS_ret (by kernel_rfl) (by kernel_rfl) (by kernel_rfl)
  · refine TS_go 6 ?_
    replace h := condO h
    rcases h with ⟨hb2, h⟩ | ⟨hb2, h⟩
    · refine TS_know 5 (b := true) hb2 (by kernel_rfl) (by kernel_rfl) ?_
      refine TS_T (by kernel_rfl) rfl ?_
      refine TS_go 2 ?_
      replace h := bindO h
      obtain ⟨l3, hl3, h⟩ := h
      refine TS_sub (ecI .i64) 1 hl3 (by kernel_rfl) (by kernel_rfl) ?_
      refine TS_go 2 ?_
      exact TS_meet l3 ⟨[(0, [])], []⟩ h (by kernel_rfl) (by kernel_rfl)
    · refine TS_know 5 (b := false) hb2 (by kernel_rfl) (by kernel_rfl) ?_
      refine TS_F (by kernel_rfl) rfl ?_
      refine TS_go 1 ?_
      exact TS_meet a0 ⟨[(0, [])], []⟩ h (by kernel_rfl) (by kernel_rfl)

/-- (*multihop/multihopmade.Tape).Next -/
noncomputable def F_made_Tape_Next_j1 (a0 : S_multihopmade_Tape) (v4 : Int) : Option (Int × S_multihopmade_Tape) :=
  some ((v4, (S_multihopmade_Tape.mk a0.l (IntKind.wrap .i64 (a0.at_ + 1)))))
noncomputable def F_made_Tape_Next (a0 : S_multihopmade_Tape) (a1 : Int) : Option (Int × S_multihopmade_Tape) :=
  bif (decide (a0.at_ ≥ (List.length a0.l : Int))) then
    some ((0, a0))
  else
    (idx a0.l a0.at_).bind fun e2 =>
    bif decide (a1 ≠ 0) then
      bif (decide ((Int.tmod e2 a1) < 0)) then
        (F_made_Tape_Next_j1 a0) (IntKind.wrap .i64 ((Int.tmod e2 a1) + a1))
      else
        (F_made_Tape_Next_j1 a0) (Int.tmod e2 a1)
    else none
set_option maxRecDepth 100000 in
set_option maxHeartbeats 40000000 in
theorem ok_made_Tape_Next (a0 : S_multihopmade_Tape) (a1 : Int) (r : Int × S_multihopmade_Tape) (h : F_made_Tape_Next a0 a1 = some r) : Con Try.prog 13 [.c (.box 1000000 0), .c (.lit (.int .i64 (a1)))] [(1000000, .box (S_multihopmade_Tape.cs a0))] (.c (.lit (.int .i64 (r.1)))) [(1000000, .box (S_multihopmade_Tape.cs r.2))] := by
  unfold F_made_Tape_Next at h
  refine con_of [] [(1000000, [2])] 41 Try.func13 rfl rfl (by kernel_rfl) (fun K => ?_)
  refine TS_go 6 ?_
  refine TS_draw (by kernel_rfl) ?_
  refine TD_go 10 ?_
  refine TD_end (by kernel_rfl) ?_
  replace h := condO h
  rcases h with ⟨hb1, h⟩ | ⟨hb1, h⟩
  · refine TS_know 15 (b := true) hb1 (by kernel_rfl) (by kernel_rfl) ?_
    refine TS_T (by kernel_rfl) rfl ?_
    refine TS_go 6 ?_
    obtain rfl := Option.some.inj h
    exact TS_ret (by kernel_rfl) (by kernel_rfl) (by kernel_rfl)
  · refine TS_know 15 (b := false) hb1 (by kernel_rfl) (by kernel_rfl) ?_
    refine TS_F (by kernel_rfl) rfl ?_
    refine TS_go 2 ?_
    refine TS_draw (by kernel_rfl) ?_
    refine TD_go 8 ?_
    replace h := bindO h
    obtain ⟨e2, he2, h⟩ := h
    refine TD_idx (ecI .i64) he2 (by kernel_rfl) (by kernel_rfl) ?_
    refine TD_go 2 ?_
    replace h := chkO h
    obtain ⟨hc3, h⟩ := h
    refine TD_num (op := .rem) (k := .i64) (k' := .i64) (m := e2) (i := a1) (of_decide_eq_true hc3) rfl (by simp) (by kernel_rfl) (by kernel_rfl) ?_
    refine TD_go 1 ?_
    refine TD_end (by kernel_rfl) ?_
    refine TS_go 11 ?_
    refine TS_cut ⟨[(1, []), (5, [])], [(1000000, (1000000, []))]⟩ (.mk [.code (codeAt [1, 1, 1, 1] (bodyOf Try.f13))] .normal ⟨[(1, .c (.lit (.int .i64 (a1)))), (5, .c (.lit (.int .i64 (Int.tmod e2 a1))))], [(1000000, .box [.slc 1 0 (List.length a0.l) (List.map (ecI .i64) a0.l), .lit (.int .i64 (IntKind.wrap .i64 (a0.at_ + 1)))])]⟩) (by kernel_rfl) (by kernel_rfl) ?_
    refine TS_joinB ⟨[(5, [])], [(1000000, (1000000, []))]⟩ (fun (v4 : Int) => [(5, .c (.lit (.int .i64 (v4))))]) (fun (v4 : Int) => []) (F_made_Tape_Next_j1 a0) r ?_ ?_
    · clear h
      intro v4 h
      unfold F_made_Tape_Next_j1 at h
      refine TS_go 6 ?_
      obtain rfl := Option.some.inj h
      exact TS_ret (by kernel_rfl) (by kernel_rfl) (by kernel_rfl)
    · refine TS_go 5 ?_
      replace h := condO h
      rcases h with ⟨hb5, h⟩ | ⟨hb5, h⟩
      · refine TS_know 36 (b := true) hb5 (by kernel_rfl) (by kernel_rfl) ?_
        refine TS_T (by kernel_rfl) rfl ?_
        refine TS_go 6 ?_
        exact TS_meet (IntKind.wrap .i64 ((Int.tmod e2 a1) + a1)) ⟨[(5, [])], [(1000000, (1000000, []))]⟩ h (by kernel_rfl) (by kernel_rfl)
      · refine TS_know 36 (b := false) hb5 (by kernel_rfl) (by kernel_rfl) ?_
        refine TS_F (by kernel_rfl) rfl ?_
        refine TS_go 1 ?_
        exact TS_meet (Int.tmod e2 a1) ⟨[(5, [])], [(1000000, (1000000, []))]⟩ h (by kernel_rfl) (by kernel_rfl)

/-- (*multihop/multihopmade.Tape).Bool -/
noncomputable def F_made_Tape_Bool (a0 : S_multihopmade_Tape) (a1 : Int) : Option (Bool × S_multihopmade_Tape) :=
  (F_made_Tape_Next a0 a1).bind fun v1 =>
  some (((v1.1 == (IntKind.wrap .i64 (a1 - 1))), v1.2))
set_option maxRecDepth 100000 in
set_option maxHeartbeats 40000000 in
theorem ok_made_Tape_Bool (a0 : S_multihopmade_Tape) (a1 : Int) (r : Bool × S_multihopmade_Tape) (h : F_made_Tape_Bool a0 a1 = some r) : Con Try.prog 20 [.c (.box 1000000 0), .c (.lit (.int .i64 (a1)))] [(1000000, .box (S_multihopmade_Tape.cs a0))] (.c (.lit (.bool (r.1)))) [(1000000, .box (S_multihopmade_Tape.cs r.2))] := by
  unfold F_made_Tape_Bool at h
  refine con_of [] [(1000000, [2])] 11 Try.func20 rfl rfl (by kernel_rfl) (fun K => ?_)
  refine TS_go 8 ?_
  replace h := bindO h
  obtain ⟨v1, hv1, h⟩ := h
  refine TS_con [] [] (some (1000000, 0)) (ok_made_Tape_Next a0 a1 v1 hv1) (by kernel_rfl) (by kernel_rfl) (by kernel_rfl) ?_
  refine TS_go 6 ?_
  obtain rfl := Option.some.inj h
  exact TS_ret (by kernel_rfl) (by kernel_rfl) (by kernel_rfl)

/-- multihop/multihopworld.IP -/
noncomputable def F_world_IP_j1  (v4 : S_multihopmade_Tape × (List Int)) : Option ((List Int) × S_multihopmade_Tape) :=
  some ((v4.2, v4.1))
noncomputable def F_world_IP (a0 : S_multihopmade_Tape) : Option ((List Int) × S_multihopmade_Tape) :=
  (F_made_Tape_Next a0 2).bind fun v1 =>
  (F_made_Tape_Next v1.2 2).bind fun v2 =>
  (F_made_Tape_Next v2.2 6).bind fun v3 =>
  (F_made_Tape_Bool v3.2 9).bind fun v5 =>
  bif v5.1 then
    (F_made_Tape_Next v5.2 16).bind fun v7 =>
    bif decide ((0 : Int) ≤ v7.1 ∧ v7.1 < (16 : Int)) then
      (F_made_Tape_Next v7.2 8).bind fun v9 =>
      bif decide (0 ≤ (IntKind.wrap .u64 v9.1)) then
        bif decide ((0 : Int) ≤ v7.1 ∧ v7.1 < (16 : Int)) then
          (F_world_IP_j1) (v9.2, (setA 16 [32, 1, 13, 184, 0, IntKind.wrap .u8 v1.1, IntKind.wrap .u8 v2.1, 0, 0, 0, 0, 0, 0, 0, 0, IntKind.wrap .u8 v3.1] (Int.toNat v7.1) (ixor .u8 (List.getD [32, 1, 13, 184, 0, IntKind.wrap .u8 v1.1, IntKind.wrap .u8 v2.1, 0, 0, 0, 0, 0, 0, 0, 0, IntKind.wrap .u8 v3.1] (Int.toNat v7.1) 0) (ishl .u8 1 (IntKind.wrap .u64 v9.1)))))
        else none
      else none
    else none
  else
    (F_world_IP_j1) (v5.2, [32, 1, 13, 184, 0, IntKind.wrap .u8 v1.1, IntKind.wrap .u8 v2.1, 0, 0, 0, 0, 0, 0, 0, 0, IntKind.wrap .u8 v3.1])
set_option maxRecDepth 100000 in
set_option maxHeartbeats 40000000 in
theorem ok_world_IP (a0 : S_multihopmade_Tape) (r : (List Int) × S_multihopmade_Tape) (h : F_world_IP a0 = some r) : Con Try.prog 32 [.c (.box 1000000 0)] [(1000000, .box (S_multihopmade_Tape.cs a0))] (.agg (arrS .u8 16 r.1)) [(1000000, .box (S_multihopmade_Tape.cs r.2))] := by
  unfold F_world_IP at h
  refine con_of [] [(1000000, [2])] 28 Try.func32 rfl rfl (by kernel_rfl) (fun K => ?_)
  refine TS_go 7 ?_
  replace h := bindO h
  obtain ⟨v1, hv1, h⟩ := h
  refine TS_con [] [] (some (1000000, 0)) (ok_made_Tape_Next a0 2 v1 hv1) (by kernel_rfl) (by kernel_rfl) (by kernel_rfl) ?_
  refine TS_go 2 ?_
  replace h := bindO h
  obtain ⟨v2, hv2, h⟩ := h
  refine TS_con [] [] (some (1000000, 0)) (ok_made_Tape_Next v1.2 2 v2 hv2) (by kernel_rfl) (by kernel_rfl) (by kernel_rfl) ?_
  refine TS_go 8 ?_
  replace h := bindO h
  obtain ⟨v3, hv3, h⟩ := h
  refine TS_con [] [] (some (1000000, 0)) (ok_made_Tape_Next v2.2 6 v3 hv3) (by kernel_rfl) (by kernel_rfl) (by kernel_rfl) ?_
  refine TS_go 4 ?_
  refine TS_cut ⟨[(0, []), (2, []), (3, [])], [(1000000, (1000000, [])), (2, (2, [])), (3, (3, []))]⟩ (.mk [.code (codeAt [1, 1, 1] (bodyOf Try.f32))] .normal ⟨[(0, .c (.box 1000000 0)), (2, .c (.box 2 0)), (3, .c (.box 3 0))], [(1000000, .box [.slc 1 0 (List.length v3.2.l) (List.map (ecI .i64) v3.2.l), .lit (.int .i64 (v3.2.at_))]), (2, .box [.lit (.int .u8 (0)), .lit (.int .u8 (0)), .lit (.int .u8 (0)), .lit (.int .u8 (0)), .lit (.int .u8 (0)), .lit (.int .u8 (0)), .lit (.int .u8 (0)), .lit (.int .u8 (0)), .lit (.int .u8 (0)), .lit (.int .u8 (0)), .lit (.int .u8 (0)), .lit (.int .u8 (0)), .lit (.int .u8 (0)), .lit (.int .u8 (0)), .lit (.int .u8 (0)), .lit (.int .u8 (0))]), (3, .box [.lit (.int .u8 (32)), .lit (.int .u8 (1)), .lit (.int .u8 (13)), .lit (.int .u8 (184)), .lit (.int .u8 (0)), .lit (.int .u8 (IntKind.wrap .u8 v1.1)), .lit (.int .u8 (IntKind.wrap .u8 v2.1)), .lit (.int .u8 (0)), .lit (.int .u8 (0)), .lit (.int .u8 (0)), .lit (.int .u8 (0)), .lit (.int .u8 (0)), .lit (.int .u8 (0)), .lit (.int .u8 (0)), .lit (.int .u8 (0)), .lit (.int .u8 (IntKind.wrap .u8 v3.1))])]⟩) (by kernel_rfl) (by kernel_rfl) ?_
  refine TS_joinB ⟨[(2, []), (3, [])], [(1000000, (1000000, [])), (2, (2, [])), (3, (3, []))]⟩ (fun (v4 : S_multihopmade_Tape × (List Int)) => []) (fun (v4 : S_multihopmade_Tape × (List Int)) => [(1000000, .box (S_multihopmade_Tape.cs v4.1)), (3, .box (arrS .u8 16 v4.2))]) (F_world_IP_j1) r ?_ ?_
  · clear h
    intro v4 h
    unfold F_world_IP_j1 at h
    refine TS_go 6 ?_
    obtain rfl := Option.some.inj h
    exact TS_ret (by kernel_rfl) (by kernel_rfl) (by kernel_rfl)
  · refine TS_go 3 ?_
    replace h := bindO h
    obtain ⟨v5, hv5, h⟩ := h
    refine TS_con [] [] (some (1000000, 0)) (ok_made_Tape_Bool v3.2 9 v5 hv5) (by kernel_rfl) (by kernel_rfl) (by kernel_rfl) ?_
    refine TS_go 1 ?_
    replace h := condO h
    rcases h with ⟨hb6, h⟩ | ⟨hb6, h⟩
    · refine TS_know 16 (b := true) hb6 (by kernel_rfl) (by kernel_rfl) ?_
      refine TS_T (by kernel_rfl) rfl ?_
      refine TS_draw (by kernel_rfl) ?_
      refine TD_go 1 ?_
      replace h := bindO h
      obtain ⟨v7, hv7, h⟩ := h
      refine TD_con (h := []) (h' := []) [] 1000000 0 [.slc 1 0 (List.length v5.2.l) (List.map (ecI .i64) v5.2.l), .lit (.int .i64 (v5.2.at_))] _ _ (ok_made_Tape_Next v5.2 16 v7 hv7) (by kernel_rfl) (by kernel_rfl) (by kernel_rfl) (by kernel_rfl) ?_
      replace h := chkO h
      obtain ⟨hc8, h⟩ := h
      refine TD_idxA 3 0 16 (i := v7.1) hc8 (by kernel_rfl) (by kernel_rfl) ?_
      refine TD_ldA .u8 0 16 (i := v7.1) [32, 1, 13, 184, 0, IntKind.wrap .u8 v1.1, IntKind.wrap .u8 v2.1, 0, 0, 0, 0, 0, 0, 0, 0, IntKind.wrap .u8 v3.1] hc8 (by kernel_rfl) (by kernel_rfl) ?_
      refine TD_go 1 ?_
      replace h := bindO h
      obtain ⟨v9, hv9, h⟩ := h
      refine TD_con (h := []) (h' := []) [] 1000000 0 [.slc 1 0 (List.length v7.2.l) (List.map (ecI .i64) v7.2.l), .lit (.int .i64 (v7.2.at_))] _ _ (ok_made_Tape_Next v7.2 8 v9 hv9) (by kernel_rfl) (by kernel_rfl) (by kernel_rfl) (by kernel_rfl) ?_
      refine TD_go 1 ?_
      replace h := chkO h
      obtain ⟨hc10, h⟩ := h
      refine TD_num (op := .shl) (k := .u8) (k' := .u64) (m := 1) (i := IntKind.wrap .u64 v9.1) (of_decide_eq_true hc10) rfl (by simp) (by kernel_rfl) (by kernel_rfl) ?_
      refine TD_go 1 ?_
      replace h := chkO h
      obtain ⟨hc11, h⟩ := h
      refine TD_idxA 3 0 16 (i := v7.1) hc11 (by kernel_rfl) (by kernel_rfl) ?_
      refine TD_stA (k := .u8) (d := 3) 0 16 (i := v7.1) (v := ixor .u8 (List.getD [32, 1, 13, 184, 0, IntKind.wrap .u8 v1.1, IntKind.wrap .u8 v2.1, 0, 0, 0, 0, 0, 0, 0, 0, IntKind.wrap .u8 v3.1] (Int.toNat v7.1) 0) (ishl .u8 1 (IntKind.wrap .u64 v9.1))) [32, 1, 13, 184, 0, IntKind.wrap .u8 v1.1, IntKind.wrap .u8 v2.1, 0, 0, 0, 0, 0, 0, 0, 0, IntKind.wrap .u8 v3.1] (pre := []) (post := []) hc11 (by kernel_rfl) (by kernel_rfl) (by kernel_rfl) ?_
      refine TD_end (by kernel_rfl) ?_
      exact TS_meet (v9.2, (setA 16 [32, 1, 13, 184, 0, IntKind.wrap .u8 v1.1, IntKind.wrap .u8 v2.1, 0, 0, 0, 0, 0, 0, 0, 0, IntKind.wrap .u8 v3.1] (Int.toNat v7.1) (ixor .u8 (List.getD [32, 1, 13, 184, 0, IntKind.wrap .u8 v1.1, IntKind.wrap .u8 v2.1, 0, 0, 0, 0, 0, 0, 0, 0, IntKind.wrap .u8 v3.1] (Int.toNat v7.1) 0) (ishl .u8 1 (IntKind.wrap .u64 v9.1))))) ⟨[(2, []), (3, [])], [(1000000, (1000000, [])), (2, (2, [])), (3, (3, []))]⟩ h (by kernel_rfl) (by kernel_rfl)
    · refine TS_know 16 (b := false) hb6 (by kernel_rfl) (by kernel_rfl) ?_
      refine TS_F (by kernel_rfl) rfl ?_
      refine TS_go 1 ?_
      exact TS_meet (v5.2, [32, 1, 13, 184, 0, IntKind.wrap .u8 v1.1, IntKind.wrap .u8 v2.1, 0, 0, 0, 0, 0, 0, 0, 0, IntKind.wrap .u8 v3.1]) ⟨[(2, []), (3, [])], [(1000000, (1000000, [])), (2, (2, [])), (3, (3, []))]⟩ h (by kernel_rfl) (by kernel_rfl)

/-- multihop/multihopref04.bit -/
noncomputable def F_ref04_bit (a0 : List Int) (a1 : Int) : Option (Int) :=
  bif decide ((0 : Int) ≤ (iquo .i64 a1 8) ∧ (iquo .i64 a1 8) < (16 : Int)) then
    bif decide (0 ≤ (IntKind.wrap .u64 (7 - (IntKind.wrap .u64 (Int.tmod a1 8))))) then
      some (iand .u8 (ishr .u8 (List.getD a0 (Int.toNat (iquo .i64 a1 8)) 0) (IntKind.wrap .u64 (7 - (IntKind.wrap .u64 (Int.tmod a1 8))))) 1)
    else none
  else none
set_option maxRecDepth 100000 in
set_option maxHeartbeats 40000000 in
theorem ok_ref04_bit (a0 : List Int) (a1 : Int) (r : Int) (h : F_ref04_bit a0 a1 = some r) : Con Try.prog 55 [.agg (arrS .u8 16 a0), .c (.lit (.int .i64 (a1)))] [] (.c (.lit (.int .u8 (r)))) [] := by
  unfold F_ref04_bit at h
  refine con_of [] [] 15 Try.func55 rfl rfl (by kernel_rfl) (fun K => ?_)
  refine TS_go 9 ?_
  replace h := chkO h
  obtain ⟨hc1, h⟩ := h
  refine TS_idxA 2 0 16 (i := iquo .i64 a1 8) hc1 (by kernel_rfl) (by kernel_rfl) ?_
  refine TS_ldA .u8 0 16 (i := iquo .i64 a1 8) a0 hc1 (by kernel_rfl) (by kernel_rfl) ?_
  refine TS_go 4 ?_
  replace h := chkO h
  obtain ⟨hc2, h⟩ := h
  refine TS_num (op := .shr) (k := .u8) (k' := .u64) (m := (List.getD a0 (Int.toNat (iquo .i64 a1 8)) 0)) (i := IntKind.wrap .u64 (7 - (IntKind.wrap .u64 (Int.tmod a1 8)))) (of_decide_eq_true hc2) rfl (by simp) (by kernel_rfl) (by kernel_rfl) ?_
  refine TS_go 4 ?_
  obtain rfl := Option.some.inj h
  exact TS_ret (by kernel_rfl) (by kernel_rfl) (by kernel_rfl)

/-- multihop/multihopref04.Mask -/
noncomputable def F_ref04_Mask_l1 (a1 : Int) (a0 : List Int) (s1 : Int × S_Prefix) : Option ((Int × S_Prefix) ⊕ (S_Prefix)) :=
  bif (decide (s1.1 < (if 128 < if a1 < 0 then 0 else a1 then 128 else if a1 < 0 then 0 else a1))) then
    bif decide ((0 : Int) ≤ (iquo .i64 s1.1 8) ∧ (iquo .i64 s1.1 8) < (16 : Int)) then
      (F_ref04_bit a0 s1.1).bind fun v6 =>
      bif decide (0 ≤ (IntKind.wrap .u64 (7 - (IntKind.wrap .u64 (Int.tmod s1.1 8))))) then
        bif decide ((0 : Int) ≤ (iquo .i64 s1.1 8) ∧ (iquo .i64 s1.1 8) < (16 : Int)) then
          some (Sum.inl (IntKind.wrap .i64 (s1.1 + 1), (S_Prefix.mk (setA 16 s1.2.IP (Int.toNat (iquo .i64 s1.1 8)) (ior .u8 (List.getD s1.2.IP (Int.toNat (iquo .i64 s1.1 8)) 0) (ishl .u8 v6 (IntKind.wrap .u64 (7 - (IntKind.wrap .u64 (Int.tmod s1.1 8))))))) s1.2.Bits)))
        else none
      else none
    else none
  else
    some (Sum.inr s1.2)
noncomputable def F_ref04_Mask (a0 : List Int) (a1 : Int) : Option (S_Prefix) :=
  (loopO (F_ref04_Mask_l1 a1 a0) (0, (S_Prefix.mk [0, 0, 0, 0, 0, 0, 0, 0, 0, 0, 0, 0, 0, 0, 0, 0] (if 128 < if a1 < 0 then 0 else a1 then 128 else if a1 < 0 then 0 else a1)))).bind fun b2 =>
  some (b2)
set_option maxRecDepth 100000 in
set_option maxHeartbeats 40000000 in
theorem ok_ref04_Mask (a0 : List Int) (a1 : Int) (r : S_Prefix) (h : F_ref04_Mask a0 a1 = some r) : Con Try.prog 33 [.agg (arrS .u8 16 a0), .c (.lit (.int .i64 (a1)))] [] (.agg (S_Prefix.cs r)) [] := by
  unfold F_ref04_Mask at h
  refine con_of [] [] 34 Try.func33 rfl rfl (by kernel_rfl) (fun K => ?_)
  refine TS_go 25 ?_
  refine TS_cut ⟨[(1, []), (2, []), (4, []), (5, []), (6, [])], [(2, (2, [])), (4, (4, [])), (5, (5, []))]⟩ (.mk [.code (codeAt [1, 1, 1, 0, 1, 0] (bodyOf Try.f33)), .blk 0, .code (codeAt [1, 1, 1, 1] (bodyOf Try.f33))] .normal ⟨[(1, .c (.lit (.int .i64 (if 128 < if a1 < 0 then 0 else a1 then 128 else if a1 < 0 then 0 else a1)))), (2, .c (.box 2 0)), (4, .c (.box 4 0)), (5, .c (.box 5 0)), (6, .c (.lit (.int .i64 (0))))], [(2, .box [.lit (.int .u8 ((a0.getD 0 0))), .lit (.int .u8 ((a0.getD 1 0))), .lit (.int .u8 ((a0.getD 2 0))), .lit (.int .u8 ((a0.getD 3 0))), .lit (.int .u8 ((a0.getD 4 0))), .lit (.int .u8 ((a0.getD 5 0))), .lit (.int .u8 ((a0.getD 6 0))), .lit (.int .u8 ((a0.getD 7 0))), .lit (.int .u8 ((a0.getD 8 0))), .lit (.int .u8 ((a0.getD 9 0))), .lit (.int .u8 ((a0.getD 10 0))), .lit (.int .u8 ((a0.getD 11 0))), .lit (.int .u8 ((a0.getD 12 0))), .lit (.int .u8 ((a0.getD 13 0))), .lit (.int .u8 ((a0.getD 14 0))), .lit (.int .u8 ((a0.getD 15 0)))]), (4, .box [.lit (.int .u8 (0)), .lit (.int .u8 (0)), .lit (.int .u8 (0)), .lit (.int .u8 (0)), .lit (.int .u8 (0)), .lit (.int .u8 (0)), .lit (.int .u8 (0)), .lit (.int .u8 (0)), .lit (.int .u8 (0)), .lit (.int .u8 (0)), .lit (.int .u8 (0)), .lit (.int .u8 (0)), .lit (.int .u8 (0)), .lit (.int .u8 (0)), .lit (.int .u8 (0)), .lit (.int .u8 (0)), .lit (.int .i64 (0))]), (5, .box [.lit (.int .u8 (0)), .lit (.int .u8 (0)), .lit (.int .u8 (0)), .lit (.int .u8 (0)), .lit (.int .u8 (0)), .lit (.int .u8 (0)), .lit (.int .u8 (0)), .lit (.int .u8 (0)), .lit (.int .u8 (0)), .lit (.int .u8 (0)), .lit (.int .u8 (0)), .lit (.int .u8 (0)), .lit (.int .u8 (0)), .lit (.int .u8 (0)), .lit (.int .u8 (0)), .lit (.int .u8 (0)), .lit (.int .i64 (if 128 < if a1 < 0 then 0 else a1 then 128 else if a1 < 0 then 0 else a1))])]⟩) (by kernel_rfl) (by kernel_rfl) ?_
  replace h := bindO h
  obtain ⟨y3, hl1, hK1⟩ := h
  refine TS_loopB (F_ref04_Mask_l1 a1 a0) ⟨[(1, []), (2, []), (4, []), (5, []), (6, [])], [(2, (2, [])), (4, (4, [])), (5, (5, []))]⟩ (fun (s1 : Int × S_Prefix) => [(6, .c (.lit (.int .i64 (s1.1))))]) (fun (s1 : Int × S_Prefix) => [(5, .box (S_Prefix.cs s1.2))]) (0, (S_Prefix.mk [0, 0, 0, 0, 0, 0, 0, 0, 0, 0, 0, 0, 0, 0, 0, 0] (if 128 < if a1 < 0 then 0 else a1 then 128 else if a1 < 0 then 0 else a1))) y3 (.exit 0) (fun (b : S_Prefix) => b) ⟨[(4, []), (5, [])], [(4, (4, [])), (5, (5, []))]⟩ (fun (b2 : S_Prefix) => []) (fun (b2 : S_Prefix) => [(5, .box (S_Prefix.cs b2))]) hl1 (by kernel_rfl) (by kernel_rfl) ?_ ?_
  · intro s1 x h hy1
    unfold F_ref04_Mask_l1 at h
    refine TS_go 7 ?_
    replace h := condO h
    rcases h with ⟨hb4, h⟩ | ⟨hb4, h⟩
    · refine TS_know 14 (b := true) hb4 (by kernel_rfl) (by kernel_rfl) ?_
      refine TS_T (by kernel_rfl) rfl ?_
      refine TS_go 3 ?_
      refine TS_draw (by kernel_rfl) ?_
      refine TD_go 3 ?_
      replace h := chkO h
      obtain ⟨hc5, h⟩ := h
      refine TD_idxA 5 0 16 (i := iquo .i64 s1.1 8) hc5 (by kernel_rfl) (by kernel_rfl) ?_
      refine TD_ldA .u8 0 16 (i := iquo .i64 s1.1 8) s1.2.IP hc5 (by kernel_rfl) (by kernel_rfl) ?_
      refine TD_go 2 ?_
      replace h := bindO h
      obtain ⟨v6, hv6, h⟩ := h
      refine TD_call [] (ok_ref04_bit a0 s1.1 v6 hv6) (by kernel_rfl) (by kernel_rfl) ?_
      refine TD_go 4 ?_
      replace h := chkO h
      obtain ⟨hc7, h⟩ := h
      refine TD_num (op := .shl) (k := .u8) (k' := .u64) (m := v6) (i := IntKind.wrap .u64 (7 - (IntKind.wrap .u64 (Int.tmod s1.1 8)))) (of_decide_eq_true hc7) rfl (by simp) (by kernel_rfl) (by kernel_rfl) ?_
      refine TD_go 2 ?_
      replace h := chkO h
      obtain ⟨hc8, h⟩ := h
      refine TD_idxA 5 0 16 (i := iquo .i64 s1.1 8) hc8 (by kernel_rfl) (by kernel_rfl) ?_
      refine TD_stA (k := .u8) (d := 5) 0 16 (i := iquo .i64 s1.1 8) (v := ior .u8 (List.getD s1.2.IP (Int.toNat (iquo .i64 s1.1 8)) 0) (ishl .u8 v6 (IntKind.wrap .u64 (7 - (IntKind.wrap .u64 (Int.tmod s1.1 8)))))) s1.2.IP (pre := []) (post := [.lit (.int .i64 (s1.2.Bits))]) hc8 (by kernel_rfl) (by kernel_rfl) (by kernel_rfl) ?_
      refine TD_end (by kernel_rfl) ?_
      refine TS_go 6 ?_
      obtain rfl := Option.some.inj h
      exact TS_againB _ ⟨[(1, []), (2, []), (4, []), (5, []), (6, [])], [(2, (2, [])), (4, (4, [])), (5, (5, []))]⟩ rfl (by kernel_rfl) (by kernel_rfl)
    · refine TS_know 14 (b := false) hb4 (by kernel_rfl) (by kernel_rfl) ?_
      refine TS_F (by kernel_rfl) rfl ?_
      refine TS_go 2 ?_
      obtain rfl := Option.some.inj h
      exact TS_brkB s1.2 ⟨[(4, []), (5, [])], [(4, (4, [])), (5, (5, []))]⟩ rfl (by kernel_rfl) (by kernel_rfl) (by kernel_rfl)
  · intro b2 hb
    subst y3
    have h := hK1
    refine TS_go 7 ?_
    obtain rfl := Option.some.inj h
    exact TS_ret (by kernel_rfl) (by kernel_rfl) (by kernel_rfl)

/-- multihop/multihopworld.Register -/
noncomputable def F_world_Register (a0 : S_multihopmade_Tape) : Option (S_Register × S_multihopmade_Tape) :=
  (F_world_IP a0).bind fun v1 =>
  (F_made_Tape_Next v1.2 4).bind fun v2 =>
  (idx ([128, 128, 64, 0] : List Int) v2.1).bind fun e3 =>
  (F_ref04_Mask v1.1 e3).bind fun v4 =>
  (F_made_Tape_Next v2.2 10).bind fun v5 =>
  (idx ([0, 1, 16, 127, 126, 128, 200, 239, 240, 255] : List Int) v5.1).bind fun e6 =>
  (F_made_Tape_Next v5.2 40).bind fun v7 =>
  some (((S_Register.mk v4 e6 v7.1), v7.2))
set_option maxRecDepth 100000 in
set_option maxHeartbeats 40000000 in
theorem ok_world_Register (a0 : S_multihopmade_Tape) (r : S_Register × S_multihopmade_Tape) (h : F_world_Register a0 = some r) : Con Try.prog 10 [.c (.box 1000000 0)] [(1000000, .box (S_multihopmade_Tape.cs a0))] (.agg (S_Register.cs r.1)) [(1000000, .box (S_multihopmade_Tape.cs r.2))] := by
  unfold F_world_Register at h
  refine con_of [] [(1000000, [2])] 19 Try.func10 rfl rfl (by kernel_rfl) (fun K => ?_)
  refine TS_go 5 ?_
  refine TS_draw (by kernel_rfl) ?_
  refine TD_go 1 ?_
  replace h := bindO h
  obtain ⟨v1, hv1, h⟩ := h
  refine TD_con (h := []) (h' := []) [] 1000000 0 [.slc 1 0 (List.length a0.l) (List.map (ecI .i64) a0.l), .lit (.int .i64 (a0.at_))] _ _ (ok_world_IP a0 v1 hv1) (by kernel_rfl) (by kernel_rfl) (by kernel_rfl) (by kernel_rfl) ?_
  refine TD_litNT 5 3 1 (ecI .i64) [] ([128, 128, 64, 0] : List Int) (by kernel_rfl) (by kernel_rfl) ?_
  refine TD_go 1 ?_
  replace h := bindO h
  obtain ⟨v2, hv2, h⟩ := h
  refine TD_con (h := []) (h' := []) [] 1000000 0 [.slc 1 0 (List.length v1.2.l) (List.map (ecI .i64) v1.2.l), .lit (.int .i64 (v1.2.at_))] _ _ (ok_made_Tape_Next v1.2 4 v2 hv2) (by kernel_rfl) (by kernel_rfl) (by kernel_rfl) (by kernel_rfl) ?_
  replace h := bindO h
  obtain ⟨e3, he3, h⟩ := h
  refine TD_idx (ecI .i64) he3 (by kernel_rfl) (by kernel_rfl) ?_
  refine TD_go 1 ?_
  replace h := bindO h
  obtain ⟨v4, hv4, h⟩ := h
  refine TD_call [] (ok_ref04_Mask v1.1 e3 v4 hv4) (by kernel_rfl) (by kernel_rfl) ?_
  refine TD_litNT 11 5 1 (ecI .u8) [] ([0, 1, 16, 127, 126, 128, 200, 239, 240, 255] : List Int) (by kernel_rfl) (by kernel_rfl) ?_
  refine TD_go 1 ?_
  replace h := bindO h
  obtain ⟨v5, hv5, h⟩ := h
  refine TD_con (h := []) (h' := []) [] 1000000 0 [.slc 1 0 (List.length v2.2.l) (List.map (ecI .i64) v2.2.l), .lit (.int .i64 (v2.2.at_))] _ _ (ok_made_Tape_Next v2.2 10 v5 hv5) (by kernel_rfl) (by kernel_rfl) (by kernel_rfl) (by kernel_rfl) ?_
  replace h := bindO h
  obtain ⟨e6, he6, h⟩ := h
  refine TD_idx (ecI .u8) he6 (by kernel_rfl) (by kernel_rfl) ?_
  refine TD_go 2 ?_
  replace h := bindO h
  obtain ⟨v7, hv7, h⟩ := h
  refine TD_con (h := []) (h' := []) [] 1000000 0 [.slc 1 0 (List.length v5.2.l) (List.map (ecI .i64) v5.2.l), .lit (.int .i64 (v5.2.at_))] _ _ (ok_made_Tape_Next v5.2 40 v7 hv7) (by kernel_rfl) (by kernel_rfl) (by kernel_rfl) (by kernel_rfl) ?_
  refine TD_go 2 ?_
  refine TD_end (by kernel_rfl) ?_
  refine TS_go 1 ?_
  obtain rfl := Option.some.inj h
  exact TS_ret (by kernel_rfl) (by kernel_rfl) (by kernel_rfl)

/-- multihop/multihopworld.EUI -/
noncomputable def F_world_EUI (a0 : S_multihopmade_Tape) : Option (Int × S_multihopmade_Tape) :=
  (F_made_Tape_Next a0 5).bind fun v1 =>
  some ((IntKind.wrap .u64 (IntKind.wrap .i64 (1 + v1.1)), v1.2))
set_option maxRecDepth 100000 in
set_option maxHeartbeats 40000000 in
theorem ok_world_EUI (a0 : S_multihopmade_Tape) (r : Int × S_multihopmade_Tape) (h : F_world_EUI a0 = some r) : Con Try.prog 11 [.c (.box 1000000 0)] [(1000000, .box (S_multihopmade_Tape.cs a0))] (.c (.lit (.int .u64 (r.1)))) [(1000000, .box (S_multihopmade_Tape.cs r.2))] := by
  unfold F_world_EUI at h
  refine con_of [] [(1000000, [2])] 7 Try.func11 rfl rfl (by kernel_rfl) (fun K => ?_)
  refine TS_go 7 ?_
  replace h := bindO h
  obtain ⟨v1, hv1, h⟩ := h
  refine TS_con [] [] (some (1000000, 0)) (ok_made_Tape_Next a0 5 v1 hv1) (by kernel_rfl) (by kernel_rfl) (by kernel_rfl) ?_
  refine TS_go 5 ?_
  obtain rfl := Option.some.inj h
  exact TS_ret (by kernel_rfl) (by kernel_rfl) (by kernel_rfl)

/-- multihop/multihoplaw33.target -/
noncomputable def F_law33_target (a0 : Int) : Option (S_Prefix) :=
  some ((S_Prefix.mk [32, 1, 0, 0, 0, 0, 0, 0, 0, 0, 0, 0, 0, 0, 0, IntKind.wrap .u8 a0] 128))
set_option maxRecDepth 100000 in
set_option maxHeartbeats 40000000 in
theorem ok_law33_target (a0 : Int) (r : S_Prefix) (h : F_law33_target a0 = some r) : Con Try.prog 12 [.c (.lit (.int .i64 (a0)))] [] (.agg (S_Prefix.cs r)) [] := by
  unfold F_law33_target at h
  refine con_of [] [] 7 Try.func12 rfl rfl (by kernel_rfl) (fun K => ?_)
  refine TS_go 13 ?_
  obtain rfl := Option.some.inj h
  exact TS_ret (by kernel_rfl) (by kernel_rfl) (by kernel_rfl)

/-- multihop/multihopref33.Find -/
noncomputable def F_ref33_Find_l1 (a0 : List S_Down) (a2 : S_Prefix) (a1 : Int) (s1 : Int) : Option ((Int) ⊕ ((Unit) ⊕ (S_Down × Bool))) :=
  bif (decide (s1 < (List.length a0 : Int))) then
    (idx a0 s1).bind fun e5 =>
    bif (S_Prefix.eqb e5.Target a2) then
      bif (decide (e5.Until > a1)) then
        some (Sum.inr (Sum.inr (e5, true)))
      else
        some (Sum.inl (IntKind.wrap .i64 (s1 + 1)))
    else
      some (Sum.inl (IntKind.wrap .i64 (s1 + 1)))
  else
    some (Sum.inr (Sum.inl ()))
noncomputable def F_ref33_Find (a0 : List S_Down) (a1 : Int) (a2 : S_Prefix) : Option (S_Down × Bool) :=
  (loopO (F_ref33_Find_l1 a0 a2 a1) 0).bind (Sum.elim (fun b2 =>
    some (((S_Down.mk (S_Prefix.mk [0, 0, 0, 0, 0, 0, 0, 0, 0, 0, 0, 0, 0, 0, 0, 0] 0) 0 0 0), false))
  ) (fun w8 => some w8))
set_option maxRecDepth 100000 in
set_option maxHeartbeats 40000000 in
theorem ok_ref33_Find (a0 : List S_Down) (a1 : Int) (a2 : S_Prefix) (r : S_Down × Bool) (h : F_ref33_Find a0 a1 a2 = some r) : Con Try.prog 14 [.c (eS 20 S_Down.cs (a0)), .c (.lit (.int .i64 (a1))), .agg (S_Prefix.cs a2)] [] (.tup [(true, S_Down.cs r.1), (false, [.lit (.bool (r.2))])]) [] := by
  unfold F_ref33_Find at h
  refine con_of [] [] 29 Try.func14 rfl rfl (by kernel_rfl) (fun K => ?_)
  refine TS_go 14 ?_
  refine TS_cut ⟨[(1, []), (5, []), (6, []), (10, []), (11, []), (12, [])], [(5, (5, [])), (6, (6, []))]⟩ (.mk [.code (codeAt [1, 0, 1, 0] (bodyOf Try.f14)), .blk 0, .code (codeAt [1, 1] (bodyOf Try.f14))] .normal ⟨[(1, .c (.lit (.int .i64 (a1)))), (5, .c (.box 5 0)), (6, .c (.box 6 0)), (10, .c (.slc 20 0 (List.length a0) (List.map S_Down.cs a0))), (11, .c (.lit (.int .i64 ((List.length a0 : Int))))), (12, .c (.lit (.int .i64 (0))))], [(5, .box [.lit (.int .u8 ((a2.IP.getD 0 0))), .lit (.int .u8 ((a2.IP.getD 1 0))), .lit (.int .u8 ((a2.IP.getD 2 0))), .lit (.int .u8 ((a2.IP.getD 3 0))), .lit (.int .u8 ((a2.IP.getD 4 0))), .lit (.int .u8 ((a2.IP.getD 5 0))), .lit (.int .u8 ((a2.IP.getD 6 0))), .lit (.int .u8 ((a2.IP.getD 7 0))), .lit (.int .u8 ((a2.IP.getD 8 0))), .lit (.int .u8 ((a2.IP.getD 9 0))), .lit (.int .u8 ((a2.IP.getD 10 0))), .lit (.int .u8 ((a2.IP.getD 11 0))), .lit (.int .u8 ((a2.IP.getD 12 0))), .lit (.int .u8 ((a2.IP.getD 13 0))), .lit (.int .u8 ((a2.IP.getD 14 0))), .lit (.int .u8 ((a2.IP.getD 15 0))), .lit (.int .i64 (a2.Bits))]), (6, .box [.lit (.int .u8 (0)), .lit (.int .u8 (0)), .lit (.int .u8 (0)), .lit (.int .u8 (0)), .lit (.int .u8 (0)), .lit (.int .u8 (0)), .lit (.int .u8 (0)), .lit (.int .u8 (0)), .lit (.int .u8 (0)), .lit (.int .u8 (0)), .lit (.int .u8 (0)), .lit (.int .u8 (0)), .lit (.int .u8 (0)), .lit (.int .u8 (0)), .lit (.int .u8 (0)), .lit (.int .u8 (0)), .lit (.int .i64 (0)), .lit (.int .u64 (0)), .lit (.int .u8 (0)), .lit (.int .i64 (0))])]⟩) (by kernel_rfl) (by kernel_rfl) ?_
  replace h := bindO h
  obtain ⟨y3, hl1, hK1⟩ := h
  refine TS_loopB (F_ref33_Find_l1 a0 a2 a1) ⟨[(1, []), (5, []), (6, []), (10, []), (11, []), (12, [])], [(5, (5, [])), (6, (6, []))]⟩ (fun (s1 : Int) => [(12, .c (.lit (.int .i64 (s1))))]) (fun (s1 : Int) => []) 0 y3 (.exit 0) (fun (b : Unit) => (Sum.inl b : (Unit) ⊕ (S_Down × Bool))) ⟨[(6, [])], [(6, (6, []))]⟩ (fun (b2 : Unit) => []) (fun (b2 : Unit) => []) hl1 (by kernel_rfl) (by kernel_rfl) ?_ ?_
  · intro s1 x h hy1
    unfold F_ref33_Find_l1 at h
    refine TS_go 5 ?_
    replace h := condO h
    rcases h with ⟨hb4, h⟩ | ⟨hb4, h⟩
    · refine TS_know 13 (b := true) hb4 (by kernel_rfl) (by kernel_rfl) ?_
      refine TS_T (by kernel_rfl) rfl ?_
      refine TS_go 5 ?_
      replace h := bindO h
      obtain ⟨e5, he5, h⟩ := h
      refine TS_idx S_Down.cs he5 (by kernel_rfl) (by kernel_rfl) ?_
      refine TS_go 11 ?_
      replace h := condO h
      rcases h with ⟨hb6, h⟩ | ⟨hb6, h⟩
      · refine TS_know 19 (b := true) hb6 (by kernel_rfl) (by kernel_rfl) ?_
        refine TS_know 20 (b := true) hb6 (by kernel_rfl) (by kernel_rfl) ?_
        refine TS_go 6 ?_
        replace h := condO h
        rcases h with ⟨hb7, h⟩ | ⟨hb7, h⟩
        · refine TS_know 24 (b := true) hb7 (by kernel_rfl) (by kernel_rfl) ?_
          refine TS_know 25 (b := true) hb7 (by kernel_rfl) (by kernel_rfl) ?_
          refine TS_T (by kernel_rfl) rfl ?_
          refine TS_go 9 ?_
          obtain rfl := Option.some.inj h
          have hy1q := hy1 _ rfl
          subst hy1q
          replace h := (elimR hK1)
          refine TS_retB rfl (by kernel_rfl) ?_
          refine TS_go 2 ?_
          obtain rfl := Option.some.inj h
          exact TS_ret (by kernel_rfl) (by kernel_rfl) (by kernel_rfl)
        · refine TS_know 24 (b := false) hb7 (by kernel_rfl) (by kernel_rfl) ?_
          refine TS_know 25 (b := false) hb7 (by kernel_rfl) (by kernel_rfl) ?_
          refine TS_F (by kernel_rfl) rfl ?_
          refine TS_go 6 ?_
          obtain rfl := Option.some.inj h
          exact TS_againB _ ⟨[(1, []), (5, []), (6, []), (10, []), (11, []), (12, [])], [(5, (5, [])), (6, (6, []))]⟩ rfl (by kernel_rfl) (by kernel_rfl)
      · refine TS_know 19 (b := false) hb6 (by kernel_rfl) (by kernel_rfl) ?_
        refine TS_know 20 (b := false) hb6 (by kernel_rfl) (by kernel_rfl) ?_
        refine TS_go 6 ?_
        refine TS_F (by kernel_rfl) rfl ?_
        refine TS_go 6 ?_
        obtain rfl := Option.some.inj h
        exact TS_againB _ ⟨[(1, []), (5, []), (6, []), (10, []), (11, []), (12, [])], [(5, (5, [])), (6, (6, []))]⟩ rfl (by kernel_rfl) (by kernel_rfl)
    · refine TS_know 13 (b := false) hb4 (by kernel_rfl) (by kernel_rfl) ?_
      refine TS_F (by kernel_rfl) rfl ?_
      refine TS_go 2 ?_
      obtain rfl := Option.some.inj h
      exact TS_brkB () ⟨[(6, [])], [(6, (6, []))]⟩ rfl (by kernel_rfl) (by kernel_rfl) (by kernel_rfl)
  · intro b2 hb
    subst y3
    have h := elimL hK1
    refine TS_go 8 ?_
    obtain rfl := Option.some.inj h
    exact TS_ret (by kernel_rfl) (by kernel_rfl) (by kernel_rfl)

/-- multihop/address.Mask -/
noncomputable def F_address_Mask_l1 (a0 : List Int) (s1 : Int × S_Prefix) : Option ((Int × S_Prefix) ⊕ (S_Prefix)) :=
  bif (decide (s1.1 < 16)) then
    bif decide ((0 : Int) ≤ s1.1 ∧ s1.1 < (16 : Int)) then
      bif decide (0 ≤ (if 8 < if IntKind.wrap .i64 (s1.2.Bits - (IntKind.wrap .i64 (8 * s1.1))) < 0 then 0 else IntKind.wrap .i64 (s1.2.Bits - (IntKind.wrap .i64 (8 * s1.1))) then 8 else if IntKind.wrap .i64 (s1.2.Bits - (IntKind.wrap .i64 (8 * s1.1))) < 0 then 0 else IntKind.wrap .i64 (s1.2.Bits - (IntKind.wrap .i64 (8 * s1.1))))) then
        bif decide ((0 : Int) ≤ s1.1 ∧ s1.1 < (16 : Int)) then
          some (Sum.inl (IntKind.wrap .i64 (s1.1 + 1), (S_Prefix.mk (setA 16 s1.2.IP (Int.toNat s1.1) (iandNot .u8 (List.getD a0 (Int.toNat s1.1) 0) (ishr .u8 255 (if 8 < if IntKind.wrap .i64 (s1.2.Bits - (IntKind.wrap .i64 (8 * s1.1))) < 0 then 0 else IntKind.wrap .i64 (s1.2.Bits - (IntKind.wrap .i64 (8 * s1.1))) then 8 else if IntKind.wrap .i64 (s1.2.Bits - (IntKind.wrap .i64 (8 * s1.1))) < 0 then 0 else IntKind.wrap .i64 (s1.2.Bits - (IntKind.wrap .i64 (8 * s1.1))))))) s1.2.Bits)))
        else none
      else none
    else none
  else
    some (Sum.inr s1.2)
noncomputable def F_address_Mask (a0 : List Int) (a1 : Int) : Option (S_Prefix) :=
  (loopO (F_address_Mask_l1 a0) (0, (S_Prefix.mk [0, 0, 0, 0, 0, 0, 0, 0, 0, 0, 0, 0, 0, 0, 0, 0] (if 128 < if a1 < 0 then 0 else a1 then 128 else if a1 < 0 then 0 else a1)))).bind fun b2 =>
  some (b2)
set_option maxRecDepth 100000 in
set_option maxHeartbeats 40000000 in
theorem ok_address_Mask (a0 : List Int) (a1 : Int) (r : S_Prefix) (h : F_address_Mask a0 a1 = some r) : Con Try.prog 61 [.agg (arrS .u8 16 a0), .c (.lit (.int .i64 (a1)))] [] (.agg (S_Prefix.cs r)) [] := by
  unfold F_address_Mask at h
  refine con_of [] [] 33 Try.func61 rfl rfl (by kernel_rfl) (fun K => ?_)
  refine TS_go 20 ?_
  refine TS_cut ⟨[(2, []), (4, []), (5, []), (12, [])], [(2, (2, [])), (4, (4, [])), (5, (5, []))]⟩ (.mk [.code (codeAt [1, 1, 0, 1, 0] (bodyOf Try.f61)), .blk 0, .code (codeAt [1, 1, 1] (bodyOf Try.f61))] .normal ⟨[(2, .c (.box 2 0)), (4, .c (.box 4 0)), (5, .c (.box 5 0)), (12, .c (.lit (.int .i64 (0))))], [(2, .box [.lit (.int .u8 ((a0.getD 0 0))), .lit (.int .u8 ((a0.getD 1 0))), .lit (.int .u8 ((a0.getD 2 0))), .lit (.int .u8 ((a0.getD 3 0))), .lit (.int .u8 ((a0.getD 4 0))), .lit (.int .u8 ((a0.getD 5 0))), .lit (.int .u8 ((a0.getD 6 0))), .lit (.int .u8 ((a0.getD 7 0))), .lit (.int .u8 ((a0.getD 8 0))), .lit (.int .u8 ((a0.getD 9 0))), .lit (.int .u8 ((a0.getD 10 0))), .lit (.int .u8 ((a0.getD 11 0))), .lit (.int .u8 ((a0.getD 12 0))), .lit (.int .u8 ((a0.getD 13 0))), .lit (.int .u8 ((a0.getD 14 0))), .lit (.int .u8 ((a0.getD 15 0)))]), (4, .box [.lit (.int .u8 (0)), .lit (.int .u8 (0)), .lit (.int .u8 (0)), .lit (.int .u8 (0)), .lit (.int .u8 (0)), .lit (.int .u8 (0)), .lit (.int .u8 (0)), .lit (.int .u8 (0)), .lit (.int .u8 (0)), .lit (.int .u8 (0)), .lit (.int .u8 (0)), .lit (.int .u8 (0)), .lit (.int .u8 (0)), .lit (.int .u8 (0)), .lit (.int .u8 (0)), .lit (.int .u8 (0)), .lit (.int .i64 (0))]), (5, .box [.lit (.int .u8 (0)), .lit (.int .u8 (0)), .lit (.int .u8 (0)), .lit (.int .u8 (0)), .lit (.int .u8 (0)), .lit (.int .u8 (0)), .lit (.int .u8 (0)), .lit (.int .u8 (0)), .lit (.int .u8 (0)), .lit (.int .u8 (0)), .lit (.int .u8 (0)), .lit (.int .u8 (0)), .lit (.int .u8 (0)), .lit (.int .u8 (0)), .lit (.int .u8 (0)), .lit (.int .u8 (0)), .lit (.int .i64 (if 128 < if a1 < 0 then 0 else a1 then 128 else if a1 < 0 then 0 else a1))])]⟩) (by kernel_rfl) (by kernel_rfl) ?_
  replace h := bindO h
  obtain ⟨y3, hl1, hK1⟩ := h
  refine TS_loopB (F_address_Mask_l1 a0) ⟨[(2, []), (4, []), (5, []), (12, [])], [(2, (2, [])), (4, (4, [])), (5, (5, []))]⟩ (fun (s1 : Int × S_Prefix) => [(12, .c (.lit (.int .i64 (s1.1))))]) (fun (s1 : Int × S_Prefix) => [(5, .box (S_Prefix.cs s1.2))]) (0, (S_Prefix.mk [0, 0, 0, 0, 0, 0, 0, 0, 0, 0, 0, 0, 0, 0, 0, 0] (if 128 < if a1 < 0 then 0 else a1 then 128 else if a1 < 0 then 0 else a1))) y3 (.exit 0) (fun (b : S_Prefix) => b) ⟨[(4, []), (5, [])], [(4, (4, [])), (5, (5, []))]⟩ (fun (b2 : S_Prefix) => []) (fun (b2 : S_Prefix) => [(5, .box (S_Prefix.cs b2))]) hl1 (by kernel_rfl) (by kernel_rfl) ?_ ?_
  · intro s1 x h hy1
    unfold F_address_Mask_l1 at h
    refine TS_go 5 ?_
    replace h := condO h
    rcases h with ⟨hb4, h⟩ | ⟨hb4, h⟩
    · refine TS_know 13 (b := true) hb4 (by kernel_rfl) (by kernel_rfl) ?_
      refine TS_T (by kernel_rfl) rfl ?_
      refine TS_go 19 ?_
      refine TS_draw (by kernel_rfl) ?_
      refine TD_go 2 ?_
      replace h := chkO h
      obtain ⟨hc5, h⟩ := h
      refine TD_idxA 2 0 16 (i := s1.1) hc5 (by kernel_rfl) (by kernel_rfl) ?_
      refine TD_ldA .u8 0 16 (i := s1.1) a0 hc5 (by kernel_rfl) (by kernel_rfl) ?_
      refine TD_go 1 ?_
      replace h := chkO h
      obtain ⟨hc6, h⟩ := h
      refine TD_num (op := .shr) (k := .u8) (k' := .i64) (m := 255) (i := if 8 < if IntKind.wrap .i64 (s1.2.Bits - (IntKind.wrap .i64 (8 * s1.1))) < 0 then 0 else IntKind.wrap .i64 (s1.2.Bits - (IntKind.wrap .i64 (8 * s1.1))) then 8 else if IntKind.wrap .i64 (s1.2.Bits - (IntKind.wrap .i64 (8 * s1.1))) < 0 then 0 else IntKind.wrap .i64 (s1.2.Bits - (IntKind.wrap .i64 (8 * s1.1)))) (of_decide_eq_true hc6) rfl (by simp) (by kernel_rfl) (by kernel_rfl) ?_
      refine TD_go 2 ?_
      replace h := chkO h
      obtain ⟨hc7, h⟩ := h
      refine TD_idxA 5 0 16 (i := s1.1) hc7 (by kernel_rfl) (by kernel_rfl) ?_
      refine TD_stA (k := .u8) (d := 5) 0 16 (i := s1.1) (v := iandNot .u8 (List.getD a0 (Int.toNat s1.1) 0) (ishr .u8 255 (if 8 < if IntKind.wrap .i64 (s1.2.Bits - (IntKind.wrap .i64 (8 * s1.1))) < 0 then 0 else IntKind.wrap .i64 (s1.2.Bits - (IntKind.wrap .i64 (8 * s1.1))) then 8 else if IntKind.wrap .i64 (s1.2.Bits - (IntKind.wrap .i64 (8 * s1.1))) < 0 then 0 else IntKind.wrap .i64 (s1.2.Bits - (IntKind.wrap .i64 (8 * s1.1)))))) s1.2.IP (pre := []) (post := [.lit (.int .i64 (s1.2.Bits))]) hc7 (by kernel_rfl) (by kernel_rfl) (by kernel_rfl) ?_
      refine TD_end (by kernel_rfl) ?_
      refine TS_go 5 ?_
      obtain rfl := Option.some.inj h
      exact TS_againB _ ⟨[(2, []), (4, []), (5, []), (12, [])], [(2, (2, [])), (4, (4, [])), (5, (5, []))]⟩ rfl (by kernel_rfl) (by kernel_rfl)
    · refine TS_know 13 (b := false) hb4 (by kernel_rfl) (by kernel_rfl) ?_
      refine TS_F (by kernel_rfl) rfl ?_
      refine TS_go 2 ?_
      obtain rfl := Option.some.inj h
      exact TS_brkB s1.2 ⟨[(4, []), (5, [])], [(4, (4, [])), (5, (5, []))]⟩ rfl (by kernel_rfl) (by kernel_rfl) (by kernel_rfl)
  · intro b2 hb
    subst y3
    have h := hK1
    refine TS_go 7 ?_
    obtain rfl := Option.some.inj h
    exact TS_ret (by kernel_rfl) (by kernel_rfl) (by kernel_rfl)

/-- multihop/address.ValidPrefix -/
noncomputable def F_address_ValidPrefix (a0 : S_Prefix) : Option (Bool) :=
  bif (decide (a0.Bits ≥ 0)) then
    bif (decide (a0.Bits ≤ 128)) then
      (F_address_Mask a0.IP a0.Bits).bind fun v3 =>
      some ((S_Prefix.eqb v3 a0))
    else
      some (false)
  else
    some (false)
set_option maxRecDepth 100000 in
set_option maxHeartbeats 40000000 in
theorem ok_address_ValidPrefix (a0 : S_Prefix) (r : Bool) (h : F_address_ValidPrefix a0 = some r) : Con Try.prog 56 [.agg (S_Prefix.cs a0)] [] (.c (.lit (.bool (r)))) [] := by
  unfold F_address_ValidPrefix at h
  refine con_of [] [] 20 Try.func56 rfl rfl (by kernel_rfl) (fun K => ?_)
  refine TS_go 6 ?_
  refine TS_draw (by kernel_rfl) ?_
  refine TD_go 3 ?_
  replace h := condO h
  rcases h with ⟨hb1, h⟩ | ⟨hb1, h⟩
  · refine TD_know 6 (b := true) hb1 trivial (by kernel_rfl) (by kernel_rfl) ?_
    refine TD_go 4 ?_
    replace h := condO h
    rcases h with ⟨hb2, h⟩ | ⟨hb2, h⟩
    · refine TD_know 11 (b := true) hb2 trivial (by kernel_rfl) (by kernel_rfl) ?_
      refine TD_go 4 ?_
      replace h := bindO h
      obtain ⟨v3, hv3, h⟩ := h
      refine TD_call [] (ok_address_Mask a0.IP a0.Bits v3 hv3) (by kernel_rfl) (by kernel_rfl) ?_
      refine TD_go 4 ?_
      refine TD_end (by kernel_rfl) ?_
      refine TS_go 1 ?_
      obtain rfl := Option.some.inj h
      exact TS_ret (by kernel_rfl) (by kernel_rfl) (by kernel_rfl)
    · refine TD_know 11 (b := false) hb2 trivial (by kernel_rfl) (by kernel_rfl) ?_
      refine TD_go 9 ?_
      refine TD_end (by kernel_rfl) ?_
      refine TS_go 1 ?_
      obtain rfl := Option.some.inj h
      exact TS_ret (by kernel_rfl) (by kernel_rfl) (by kernel_rfl)
  · refine TD_know 6 (b := false) hb1 trivial (by kernel_rfl) (by kernel_rfl) ?_
    refine TD_go 14 ?_
    refine TD_end (by kernel_rfl) ?_
    refine TS_go 1 ?_
    obtain rfl := Option.some.inj h
    exact TS_ret (by kernel_rfl) (by kernel_rfl) (by kernel_rfl)

/-- multihop/storing.isTime -/
noncomputable def F_storing_isTime (a0 : Int) : Option (Bool) :=
  bif (decide (a0 ≥ 0)) then
    some ((decide (a0 ≤ 1099511627776)))
  else
    some (false)
set_option maxRecDepth 100000 in
set_option maxHeartbeats 40000000 in
theorem ok_storing_isTime (a0 : Int) (r : Bool) (h : F_storing_isTime a0 = some r) : Con Try.prog 36 [.c (.lit (.int .i64 (a0)))] [] (.c (.lit (.bool (r)))) [] := by
  unfold F_storing_isTime at h
  refine con_of [] [] 9 Try.func36 rfl rfl (by kernel_rfl) (fun K => ?_)
  refine TS_go 9 ?_
  replace h := condO h
  rcases h with ⟨hb1, h⟩ | ⟨hb1, h⟩
  · refine TS_know 4 (b := true) hb1 (by kernel_rfl) (by kernel_rfl) ?_
    refine TS_know 5 (b := true) hb1 (by kernel_rfl) (by kernel_rfl) ?_
    refine TS_go 6 ?_
    obtain rfl := Option.some.inj h
    exact TS_ret (by kernel_rfl) (by kernel_rfl) (by kernel_rfl)
  · refine TS_know 4 (b := false) hb1 (by kernel_rfl) (by kernel_rfl) ?_
    refine TS_know 5 (b := false) hb1 (by kernel_rfl) (by kernel_rfl) ?_
    refine TS_go 6 ?_
    obtain rfl := Option.some.inj h
    exact TS_ret (by kernel_rfl) (by kernel_rfl) (by kernel_rfl)

/-- bytes.Compare -/
noncomputable def F_bytes_Compare (a0 : List Int) (a1 : List Int) : Option (Int) :=
  some ((cmpB (Cut.app .whole a0) (Cut.app .whole a1)))
set_option maxRecDepth 100000 in
set_option maxHeartbeats 40000000 in
theorem ok_bytes_Compare (a0 : List Int) (a1 : List Int) (r : Int) (h : F_bytes_Compare a0 a1 = some r) : Con Try.prog 63 [.c (eS 1 (ecI .u8) (a0)), .c (eS 1 (ecI .u8) (a1))] [] (.c (.lit (.int .i64 (r)))) [] := by
  unfold F_bytes_Compare at h
  refine con_of [] [] 8 Try.func63 rfl rfl (by kernel_rfl) (fun K => ?_)
  refine TS_go 8 ?_
  refine TS_cmp 66 a0 a1 .whole .whole ext_66 (by kernel_rfl) (by kernel_rfl) ?_
  refine TS_go 3 ?_
  obtain rfl := Option.some.inj h
  exact TS_ret (by kernel_rfl) (by kernel_rfl) (by kernel_rfl)

/-- cmp.isNaN[int] -/
noncomputable def F_cmp_isNaN_int (a0 : Int) : Option (Bool) :=
  some ((a0 != a0))
set_option maxRecDepth 100000 in
set_option maxHeartbeats 40000000 in
theorem ok_cmp_isNaN_int (a0 : Int) (r : Bool) (h : F_cmp_isNaN_int a0 = some r) : Con Try.prog 67 [.c (.lit (.int .i64 (a0)))] [] (.c (.lit (.bool (r)))) [] := by
  unfold F_cmp_isNaN_int at h
  refine con_of [] [] 6 Try.func67 rfl rfl (by kernel_rfl) (fun K => ?_)
  refine TS_go 12 ?_
  obtain rfl := Option.some.inj h
  exact TS_ret (by kernel_rfl) (by kernel_rfl) (by kernel_rfl)

/-- cmp.Compare[int] -/
noncomputable def F_cmp_Compare_int (a0 : Int) (a1 : Int) : Option (Int) :=
  (F_cmp_isNaN_int a0).bind fun v1 =>
  (F_cmp_isNaN_int a1).bind fun v2 =>
  bif v1 then
    bif v2 then
      some (0)
    else
      some ((-1))
  else
    bif v2 then
      some (1)
    else
      bif (decide (a0 < a1)) then
        some ((-1))
      else
        bif (decide (a0 > a1)) then
          some (1)
        else
          some (0)
set_option maxRecDepth 100000 in
set_option maxHeartbeats 40000000 in
theorem ok_cmp_Compare_int (a0 : Int) (a1 : Int) (r : Int) (h : F_cmp_Compare_int a0 a1 = some r) : Con Try.prog 64 [.c (.lit (.int .i64 (a0))), .c (.lit (.int .i64 (a1)))] [] (.c (.lit (.int .i64 (r)))) [] := by
  unfold F_cmp_Compare_int at h
  refine con_of [] [] 20 Try.func64 rfl rfl (by kernel_rfl) (fun K => ?_)
  refine TS_go 7 ?_
  replace h := bindO h
  obtain ⟨v1, hv1, h⟩ := h
  refine TS_call [] (ok_cmp_isNaN_int a0 v1 hv1) (by kernel_rfl) (by kernel_rfl) ?_
  refine TS_go 5 ?_
  replace h := bindO h
  obtain ⟨v2, hv2, h⟩ := h
  refine TS_call [] (ok_cmp_isNaN_int a1 v2 hv2) (by kernel_rfl) (by kernel_rfl) ?_
  refine TS_go 7 ?_
  replace h := condO h
  rcases h with ⟨hb3, h⟩ | ⟨hb3, h⟩
  · subst hb3
    refine TS_T (by kernel_rfl) rfl ?_
    refine TS_go 5 ?_
    replace h := condO h
    rcases h with ⟨hb4, h⟩ | ⟨hb4, h⟩
    · subst hb4
      refine TS_T (by kernel_rfl) rfl ?_
      refine TS_go 7 ?_
      obtain rfl := Option.some.inj h
      exact TS_ret (by kernel_rfl) (by kernel_rfl) (by kernel_rfl)
    · subst hb4
      refine TS_F (by kernel_rfl) rfl ?_
      refine TS_go 7 ?_
      obtain rfl := Option.some.inj h
      exact TS_ret (by kernel_rfl) (by kernel_rfl) (by kernel_rfl)
  · subst hb3
    refine TS_F (by kernel_rfl) rfl ?_
    refine TS_go 6 ?_
    replace h := condO h
    rcases h with ⟨hb5, h⟩ | ⟨hb5, h⟩
    · subst hb5
      refine TS_T (by kernel_rfl) rfl ?_
      refine TS_go 6 ?_
      obtain rfl := Option.some.inj h
      exact TS_ret (by kernel_rfl) (by kernel_rfl) (by kernel_rfl)
    · subst hb5
      refine TS_F (by kernel_rfl) rfl ?_
      refine TS_go 8 ?_
      replace h := condO h
      rcases h with ⟨hb6, h⟩ | ⟨hb6, h⟩
      · refine TS_know 16 (b := true) hb6 (by kernel_rfl) (by kernel_rfl) ?_
        refine TS_T (by kernel_rfl) rfl ?_
        refine TS_go 6 ?_
        obtain rfl := Option.some.inj h
        exact TS_ret (by kernel_rfl) (by kernel_rfl) (by kernel_rfl)
      · refine TS_know 16 (b := false) hb6 (by kernel_rfl) (by kernel_rfl) ?_
        refine TS_F (by kernel_rfl) rfl ?_
        refine TS_go 8 ?_
        replace h := condO h
        rcases h with ⟨hb7, h⟩ | ⟨hb7, h⟩
        · refine TS_know 19 (b := true) hb7 (by kernel_rfl) (by kernel_rfl) ?_
          refine TS_T (by kernel_rfl) rfl ?_
          refine TS_go 6 ?_
          obtain rfl := Option.some.inj h
          exact TS_ret (by kernel_rfl) (by kernel_rfl) (by kernel_rfl)
        · refine TS_know 19 (b := false) hb7 (by kernel_rfl) (by kernel_rfl) ?_
          refine TS_F (by kernel_rfl) rfl ?_
          refine TS_go 6 ?_
          obtain rfl := Option.some.inj h
          exact TS_ret (by kernel_rfl) (by kernel_rfl) (by kernel_rfl)

/-- multihop/storing.compare -/
noncomputable def F_storing_compare (a0 : S_Prefix) (a1 : S_Prefix) : Option (Int) :=
  (F_bytes_Compare (arrL 16 a0.IP) (arrL 16 a1.IP)).bind fun v1 =>
  bif (v1 != 0) then
    some (v1)
  else
    (F_cmp_Compare_int a0.Bits a1.Bits).bind fun v3 =>
    some (v3)
set_option maxRecDepth 100000 in
set_option maxHeartbeats 40000000 in
theorem ok_storing_compare (a0 : S_Prefix) (a1 : S_Prefix) (r : Int) (h : F_storing_compare a0 a1 = some r) : Con Try.prog 57 [.agg (S_Prefix.cs a0), .agg (S_Prefix.cs a1)] [] (.c (.lit (.int .i64 (r)))) [] := by
  unfold F_storing_compare at h
  refine con_of [] [] 19 Try.func57 rfl rfl (by kernel_rfl) (fun K => ?_)
  refine TS_go 8 ?_
  refine TS_draw (by kernel_rfl) ?_
  refine TD_go 1 ?_
  refine TD_win 2 0 16 (a := 0) (b := 16) (by decide) (by decide) (by kernel_rfl) (by kernel_rfl) ?_
  refine TD_go 1 ?_
  refine TD_win 3 0 16 (a := 0) (b := 16) (by decide) (by decide) (by kernel_rfl) (by kernel_rfl) ?_
  replace h := bindO h
  obtain ⟨v1, hv1, h⟩ := h
  refine TD_callF [] (ok_bytes_Compare (arrL 16 a0.IP) (arrL 16 a1.IP) v1 hv1) (by kernel_rfl) (by kernel_rfl) ?_
  refine TD_go 1 ?_
  refine TD_end (by kernel_rfl) ?_
  refine TS_go 5 ?_
  replace h := condO h
  rcases h with ⟨hb2, h⟩ | ⟨hb2, h⟩
  · refine TS_know 12 (b := true) hb2 (by kernel_rfl) (by kernel_rfl) ?_
    refine TS_T (by kernel_rfl) rfl ?_
    refine TS_go 7 ?_
    obtain rfl := Option.some.inj h
    exact TS_ret (by kernel_rfl) (by kernel_rfl) (by kernel_rfl)
  · refine TS_know 12 (b := false) hb2 (by kernel_rfl) (by kernel_rfl) ?_
    refine TS_F (by kernel_rfl) rfl ?_
    refine TS_go 7 ?_
    replace h := bindO h
    obtain ⟨v3, hv3, h⟩ := h
    refine TS_call [] (ok_cmp_Compare_int a0.Bits a1.Bits v3 hv3) (by kernel_rfl) (by kernel_rfl) ?_
    refine TS_go 3 ?_
    obtain rfl := Option.some.inj h
    exact TS_ret (by kernel_rfl) (by kernel_rfl) (by kernel_rfl)

/-- multihop/storing.Valid -/
noncomputable def F_storing_Valid_l1 (a0 : List S_Down) (s2 : Int) : Option ((Int) ⊕ ((Unit) ⊕ (Bool))) :=
  bif (decide (s2 < (List.length a0 : Int))) then
    (idx a0 s2).bind fun e6 =>
    (F_address_ValidPrefix e6.Target).bind fun v7 =>
    bif v7 then
      bif (e6.Via == 0) then
        some (Sum.inr (Sum.inr false))
      else
        (F_storing_isTime e6.Until).bind fun v10 =>
        bif v10 then
          bif (decide (s2 > 0)) then
            (idx a0 (IntKind.wrap .i64 (s2 - 1))).bind fun e13 =>
            (F_storing_compare e13.Target e6.Target).bind fun v14 =>
            bif (decide (v14 ≥ 0)) then
              some (Sum.inr (Sum.inr false))
            else
              some (Sum.inl (IntKind.wrap .i64 (s2 + 1)))
          else
            some (Sum.inl (IntKind.wrap .i64 (s2 + 1)))
        else
          some (Sum.inr (Sum.inr false))
    else
      some (Sum.inr (Sum.inr false))
  else
    some (Sum.inr (Sum.inl ()))
noncomputable def F_storing_Valid (a0 : List S_Down) : Option (Bool) :=
  bif (decide ((List.length a0 : Int) > 128)) then
    some (false)
  else
    (loopO (F_storing_Valid_l1 a0) 0).bind (Sum.elim (fun b3 =>
      some (true)
    ) (fun w16 => some w16))
set_option maxRecDepth 100000 in
set_option maxHeartbeats 40000000 in
theorem ok_storing_Valid (a0 : List S_Down) (r : Bool) (h : F_storing_Valid a0 = some r) : Con Try.prog 34 [.c (eS 20 S_Down.cs (a0))] [] (.c (.lit (.bool (r)))) [] := by
  unfold F_storing_Valid at h
  refine con_of [] [] 45 Try.func34 rfl rfl (by kernel_rfl) (fun K => ?_)
  refine TS_go 11 ?_
  replace h := condO h
  rcases h with ⟨hb1, h⟩ | ⟨hb1, h⟩
  · refine TS_know 7 (b := true) hb1 (by kernel_rfl) (by kernel_rfl) ?_
    refine TS_T (by kernel_rfl) rfl ?_
    refine TS_go 6 ?_
    obtain rfl := Option.some.inj h
    exact TS_ret (by kernel_rfl) (by kernel_rfl) (by kernel_rfl)
  · refine TS_know 7 (b := false) hb1 (by kernel_rfl) (by kernel_rfl) ?_
    refine TS_F (by kernel_rfl) rfl ?_
    refine TS_go 9 ?_
    refine TS_cut ⟨[(0, []), (8, []), (9, []), (10, [])], []⟩ (.mk [.code (codeAt [1, 1, 0, 1, 0] (bodyOf Try.f34)), .blk 0, .code (codeAt [1, 1, 1] (bodyOf Try.f34))] .normal ⟨[(0, .c (.slc 20 0 (List.length a0) (List.map S_Down.cs a0))), (8, .c (.slc 20 0 (List.length a0) (List.map S_Down.cs a0))), (9, .c (.lit (.int .i64 ((List.length a0 : Int))))), (10, .c (.lit (.int .i64 (0))))], []⟩) (by kernel_rfl) (by kernel_rfl) ?_
    replace h := bindO h
    obtain ⟨y4, hl1, hK1⟩ := h
    refine TS_loopB (F_storing_Valid_l1 a0) ⟨[(0, []), (8, []), (9, []), (10, [])], []⟩ (fun (s2 : Int) => [(10, .c (.lit (.int .i64 (s2))))]) (fun (s2 : Int) => []) 0 y4 (.exit 0) (fun (b : Unit) => (Sum.inl b : (Unit) ⊕ (Bool))) ⟨[], []⟩ (fun (b3 : Unit) => []) (fun (b3 : Unit) => []) hl1 (by kernel_rfl) (by kernel_rfl) ?_ ?_
    · intro s2 x h hy1
      unfold F_storing_Valid_l1 at h
      refine TS_go 5 ?_
      replace h := condO h
      rcases h with ⟨hb5, h⟩ | ⟨hb5, h⟩
      · refine TS_know 11 (b := true) hb5 (by kernel_rfl) (by kernel_rfl) ?_
        refine TS_T (by kernel_rfl) rfl ?_
        refine TS_go 6 ?_
        replace h := bindO h
        obtain ⟨e6, he6, h⟩ := h
        refine TS_idx S_Down.cs he6 (by kernel_rfl) (by kernel_rfl) ?_
        refine TS_go 10 ?_
        replace h := bindO h
        obtain ⟨v7, hv7, h⟩ := h
        refine TS_call [] (ok_address_ValidPrefix e6.Target v7 hv7) (by kernel_rfl) (by kernel_rfl) ?_
        refine TS_go 2 ?_
        replace h := condO h
        rcases h with ⟨hb8, h⟩ | ⟨hb8, h⟩
        · subst hb8
          refine TS_go 5 ?_
          replace h := condO h
          rcases h with ⟨hb9, h⟩ | ⟨hb9, h⟩
          · refine TS_know 22 (b := true) hb9 (by kernel_rfl) (by kernel_rfl) ?_
            refine TS_know 23 (b := true) hb9 (by kernel_rfl) (by kernel_rfl) ?_
            refine TS_know 24 (b := true) hb9 (by kernel_rfl) (by kernel_rfl) ?_
            refine TS_go 6 ?_
            refine TS_T (by kernel_rfl) rfl ?_
            refine TS_go 8 ?_
            obtain rfl := Option.some.inj h
            have hy1q := hy1 _ rfl
            subst hy1q
            replace h := (elimR hK1)
            refine TS_retB rfl (by kernel_rfl) ?_
            refine TS_go 2 ?_
            obtain rfl := Option.some.inj h
            exact TS_ret (by kernel_rfl) (by kernel_rfl) (by kernel_rfl)
          · refine TS_know 22 (b := false) hb9 (by kernel_rfl) (by kernel_rfl) ?_
            refine TS_know 23 (b := false) hb9 (by kernel_rfl) (by kernel_rfl) ?_
            refine TS_know 24 (b := false) hb9 (by kernel_rfl) (by kernel_rfl) ?_
            refine TS_go 2 ?_
            replace h := bindO h
            obtain ⟨v10, hv10, h⟩ := h
            refine TS_call [] (ok_storing_isTime e6.Until v10 hv10) (by kernel_rfl) (by kernel_rfl) ?_
            refine TS_go 3 ?_
            replace h := condO h
            rcases h with ⟨hb11, h⟩ | ⟨hb11, h⟩
            · subst hb11
              refine TS_F (by kernel_rfl) rfl ?_
              refine TS_go 2 ?_
              refine TS_draw (by kernel_rfl) ?_
              refine TD_go 2 ?_
              replace h := condO h
              rcases h with ⟨hb12, h⟩ | ⟨hb12, h⟩
              · refine TD_know 32 (b := true) hb12 trivial (by kernel_rfl) (by kernel_rfl) ?_
                refine TD_go 3 ?_
                replace h := bindO h
                obtain ⟨e13, he13, h⟩ := h
                refine TD_idx S_Down.cs he13 (by kernel_rfl) (by kernel_rfl) ?_
                refine TD_go 4 ?_
                replace h := bindO h
                obtain ⟨v14, hv14, h⟩ := h
                refine TD_call [] (ok_storing_compare e13.Target e6.Target v14 hv14) (by kernel_rfl) (by kernel_rfl) ?_
                refine TD_go 2 ?_
                refine TD_end (by kernel_rfl) ?_
                replace h := condO h
                rcases h with ⟨hb15, h⟩ | ⟨hb15, h⟩
                · refine TS_know 31 (b := true) hb12 (by kernel_rfl) (by kernel_rfl) ?_
                  refine TS_know 42 (b := true) hb15 (by kernel_rfl) (by kernel_rfl) ?_
                  refine TS_know 43 (b := true) hb15 (by kernel_rfl) (by kernel_rfl) ?_
                  refine TS_T (by kernel_rfl) rfl ?_
                  refine TS_go 7 ?_
                  obtain rfl := Option.some.inj h
                  have hy1q := hy1 _ rfl
                  subst hy1q
                  replace h := (elimR hK1)
                  refine TS_retB rfl (by kernel_rfl) ?_
                  refine TS_go 2 ?_
                  obtain rfl := Option.some.inj h
                  exact TS_ret (by kernel_rfl) (by kernel_rfl) (by kernel_rfl)
                · refine TS_know 31 (b := true) hb12 (by kernel_rfl) (by kernel_rfl) ?_
                  refine TS_know 42 (b := false) hb15 (by kernel_rfl) (by kernel_rfl) ?_
                  refine TS_know 43 (b := false) hb15 (by kernel_rfl) (by kernel_rfl) ?_
                  refine TS_F (by kernel_rfl) rfl ?_
                  refine TS_go 6 ?_
                  obtain rfl := Option.some.inj h
                  exact TS_againB _ ⟨[(0, []), (8, []), (9, []), (10, [])], []⟩ rfl (by kernel_rfl) (by kernel_rfl)
              · refine TD_know 32 (b := false) hb12 trivial (by kernel_rfl) (by kernel_rfl) ?_
                refine TD_go 11 ?_
                refine TD_end (by kernel_rfl) ?_
                refine TS_F (by kernel_rfl) rfl ?_
                refine TS_go 6 ?_
                obtain rfl := Option.some.inj h
                exact TS_againB _ ⟨[(0, []), (8, []), (9, []), (10, [])], []⟩ rfl (by kernel_rfl) (by kernel_rfl)
            · subst hb11
              refine TS_T (by kernel_rfl) rfl ?_
              refine TS_go 8 ?_
              obtain rfl := Option.some.inj h
              have hy1q := hy1 _ rfl
              subst hy1q
              replace h := (elimR hK1)
              refine TS_retB rfl (by kernel_rfl) ?_
              refine TS_go 2 ?_
              obtain rfl := Option.some.inj h
              exact TS_ret (by kernel_rfl) (by kernel_rfl) (by kernel_rfl)
        · subst hb8
          refine TS_go 11 ?_
          refine TS_T (by kernel_rfl) rfl ?_
          refine TS_go 8 ?_
          obtain rfl := Option.some.inj h
          have hy1q := hy1 _ rfl
          subst hy1q
          replace h := (elimR hK1)
          refine TS_retB rfl (by kernel_rfl) ?_
          refine TS_go 2 ?_
          obtain rfl := Option.some.inj h
          exact TS_ret (by kernel_rfl) (by kernel_rfl) (by kernel_rfl)
      · refine TS_know 11 (b := false) hb5 (by kernel_rfl) (by kernel_rfl) ?_
        refine TS_F (by kernel_rfl) rfl ?_
        refine TS_go 2 ?_
        obtain rfl := Option.some.inj h
        exact TS_brkB () ⟨[], []⟩ rfl (by kernel_rfl) (by kernel_rfl) (by kernel_rfl)
    · intro b3 hb
      subst y4
      have h := elimL hK1
      refine TS_go 6 ?_
      obtain rfl := Option.some.inj h
      exact TS_ret (by kernel_rfl) (by kernel_rfl) (by kernel_rfl)

/-- multihop/storing.ValidRegister -/
noncomputable def F_storing_ValidRegister (a0 : S_Register) : Option (Bool) :=
  (F_address_ValidPrefix a0.Target).bind fun v1 =>
  bif v1 then
    (F_storing_isTime a0.Lifetime).bind fun v3 =>
    some (v3)
  else
    some (false)
set_option maxRecDepth 100000 in
set_option maxHeartbeats 40000000 in
theorem ok_storing_ValidRegister (a0 : S_Register) (r : Bool) (h : F_storing_ValidRegister a0 = some r) : Con Try.prog 35 [.agg (S_Register.cs a0)] [] (.c (.lit (.bool (r)))) [] := by
  unfold F_storing_ValidRegister at h
  refine con_of [] [] 11 Try.func35 rfl rfl (by kernel_rfl) (fun K => ?_)
  refine TS_go 9 ?_
  replace h := bindO h
  obtain ⟨v1, hv1, h⟩ := h
  refine TS_call [] (ok_address_ValidPrefix a0.Target v1 hv1) (by kernel_rfl) (by kernel_rfl) ?_
  refine TS_go 1 ?_
  replace h := condO h
  rcases h with ⟨hb2, h⟩ | ⟨hb2, h⟩
  · subst hb2
    refine TS_go 2 ?_
    replace h := bindO h
    obtain ⟨v3, hv3, h⟩ := h
    refine TS_call [] (ok_storing_isTime a0.Lifetime v3 hv3) (by kernel_rfl) (by kernel_rfl) ?_
    refine TS_go 4 ?_
    obtain rfl := Option.some.inj h
    exact TS_ret (by kernel_rfl) (by kernel_rfl) (by kernel_rfl)
  · subst hb2
    refine TS_go 7 ?_
    obtain rfl := Option.some.inj h
    exact TS_ret (by kernel_rfl) (by kernel_rfl) (by kernel_rfl)

/-- multihop/storing.find -/
noncomputable def F_storing_find_l1 (a0 : List S_Down) (a1 : S_Prefix) (s1 : Int) : Option ((Int) ⊕ ((Unit) ⊕ (Int × Bool))) :=
  bif (decide (s1 < (List.length a0 : Int))) then
    (idx a0 s1).bind fun e5 =>
    (F_storing_compare e5.Target a1).bind fun v6 =>
    bif (decide (v6 ≥ 0)) then
      some (Sum.inr (Sum.inr (s1, (v6 == 0))))
    else
      some (Sum.inl (IntKind.wrap .i64 (s1 + 1)))
  else
    some (Sum.inr (Sum.inl ()))
noncomputable def F_storing_find (a0 : List S_Down) (a1 : S_Prefix) : Option (Int × Bool) :=
  (loopO (F_storing_find_l1 a0 a1) 0).bind (Sum.elim (fun b2 =>
    some (((List.length a0 : Int), false))
  ) (fun w8 => some w8))
set_option maxRecDepth 100000 in
set_option maxHeartbeats 40000000 in
theorem ok_storing_find (a0 : List S_Down) (a1 : S_Prefix) (r : Int × Bool) (h : F_storing_find a0 a1 = some r) : Con Try.prog 37 [.c (eS 20 S_Down.cs (a0)), .agg (S_Prefix.cs a1)] [] (.tup [(false, [.lit (.int .i64 (r.1))]), (false, [.lit (.bool (r.2))])]) [] := by
  unfold F_storing_find at h
  refine con_of [] [] 28 Try.func37 rfl rfl (by kernel_rfl) (fun K => ?_)
  refine TS_go 14 ?_
  refine TS_cut ⟨[(0, []), (3, []), (9, []), (10, []), (11, [])], [(3, (3, []))]⟩ (.mk [.code (codeAt [1, 0, 1, 0] (bodyOf Try.f37)), .blk 0, .code (codeAt [1, 1] (bodyOf Try.f37))] .normal ⟨[(0, .c (.slc 20 0 (List.length a0) (List.map S_Down.cs a0))), (3, .c (.box 3 0)), (9, .c (.slc 20 0 (List.length a0) (List.map S_Down.cs a0))), (10, .c (.lit (.int .i64 ((List.length a0 : Int))))), (11, .c (.lit (.int .i64 (0))))], [(3, .box [.lit (.int .u8 ((a1.IP.getD 0 0))), .lit (.int .u8 ((a1.IP.getD 1 0))), .lit (.int .u8 ((a1.IP.getD 2 0))), .lit (.int .u8 ((a1.IP.getD 3 0))), .lit (.int .u8 ((a1.IP.getD 4 0))), .lit (.int .u8 ((a1.IP.getD 5 0))), .lit (.int .u8 ((a1.IP.getD 6 0))), .lit (.int .u8 ((a1.IP.getD 7 0))), .lit (.int .u8 ((a1.IP.getD 8 0))), .lit (.int .u8 ((a1.IP.getD 9 0))), .lit (.int .u8 ((a1.IP.getD 10 0))), .lit (.int .u8 ((a1.IP.getD 11 0))), .lit (.int .u8 ((a1.IP.getD 12 0))), .lit (.int .u8 ((a1.IP.getD 13 0))), .lit (.int .u8 ((a1.IP.getD 14 0))), .lit (.int .u8 ((a1.IP.getD 15 0))), .lit (.int .i64 (a1.Bits))])]⟩) (by kernel_rfl) (by kernel_rfl) ?_
  replace h := bindO h
  obtain ⟨y3, hl1, hK1⟩ := h
  refine TS_loopB (F_storing_find_l1 a0 a1) ⟨[(0, []), (3, []), (9, []), (10, []), (11, [])], [(3, (3, []))]⟩ (fun (s1 : Int) => [(11, .c (.lit (.int .i64 (s1))))]) (fun (s1 : Int) => []) 0 y3 (.exit 0) (fun (b : Unit) => (Sum.inl b : (Unit) ⊕ (Int × Bool))) ⟨[(0, [])], []⟩ (fun (b2 : Unit) => []) (fun (b2 : Unit) => []) hl1 (by kernel_rfl) (by kernel_rfl) ?_ ?_
  · intro s1 x h hy1
    unfold F_storing_find_l1 at h
    refine TS_go 5 ?_
    replace h := condO h
    rcases h with ⟨hb4, h⟩ | ⟨hb4, h⟩
    · refine TS_know 12 (b := true) hb4 (by kernel_rfl) (by kernel_rfl) ?_
      refine TS_T (by kernel_rfl) rfl ?_
      refine TS_go 6 ?_
      replace h := bindO h
      obtain ⟨e5, he5, h⟩ := h
      refine TS_idx S_Down.cs he5 (by kernel_rfl) (by kernel_rfl) ?_
      refine TS_go 10 ?_
      replace h := bindO h
      obtain ⟨v6, hv6, h⟩ := h
      refine TS_call [] (ok_storing_compare e5.Target a1 v6 hv6) (by kernel_rfl) (by kernel_rfl) ?_
      refine TS_go 7 ?_
      replace h := condO h
      rcases h with ⟨hb7, h⟩ | ⟨hb7, h⟩
      · refine TS_know 21 (b := true) hb7 (by kernel_rfl) (by kernel_rfl) ?_
        refine TS_T (by kernel_rfl) rfl ?_
        refine TS_go 11 ?_
        obtain rfl := Option.some.inj h
        have hy1q := hy1 _ rfl
        subst hy1q
        replace h := (elimR hK1)
        refine TS_retB rfl (by kernel_rfl) ?_
        refine TS_go 2 ?_
        obtain rfl := Option.some.inj h
        exact TS_ret (by kernel_rfl) (by kernel_rfl) (by kernel_rfl)
      · refine TS_know 21 (b := false) hb7 (by kernel_rfl) (by kernel_rfl) ?_
        refine TS_F (by kernel_rfl) rfl ?_
        refine TS_go 6 ?_
        obtain rfl := Option.some.inj h
        exact TS_againB _ ⟨[(0, []), (3, []), (9, []), (10, []), (11, [])], [(3, (3, []))]⟩ rfl (by kernel_rfl) (by kernel_rfl)
    · refine TS_know 12 (b := false) hb4 (by kernel_rfl) (by kernel_rfl) ?_
      refine TS_F (by kernel_rfl) rfl ?_
      refine TS_go 2 ?_
      obtain rfl := Option.some.inj h
      exact TS_brkB () ⟨[(0, [])], []⟩ rfl (by kernel_rfl) (by kernel_rfl) (by kernel_rfl)
  · intro b2 hb
    subst y3
    have h := elimL hK1
    refine TS_go 9 ?_
    obtain rfl := Option.some.inj h
    exact TS_ret (by kernel_rfl) (by kernel_rfl) (by kernel_rfl)

/-- multihop/registration.Newer -/
noncomputable def F_registration_Newer (a0 : Int) (a1 : Int) : Option (Bool) :=
  bif (decide ((IntKind.wrap .i64 a0) ≥ 128)) then
    bif (decide ((IntKind.wrap .i64 a1) ≥ 128)) then
      bif (decide ((IntKind.wrap .i64 a0) > (IntKind.wrap .i64 a1))) then
        some ((decide ((IntKind.wrap .i64 ((IntKind.wrap .i64 a0) - (IntKind.wrap .i64 a1))) ≤ 16)))
      else
        some (false)
    else
      bif (decide ((IntKind.wrap .i64 a0) < 128)) then
        bif (decide ((IntKind.wrap .i64 a1) < 128)) then
          bif (decide ((Int.tmod (IntKind.wrap .i64 ((IntKind.wrap .i64 ((IntKind.wrap .i64 a0) - (IntKind.wrap .i64 a1))) + 128)) 128) ≥ 1)) then
            some ((decide ((Int.tmod (IntKind.wrap .i64 ((IntKind.wrap .i64 ((IntKind.wrap .i64 a0) - (IntKind.wrap .i64 a1))) + 128)) 128) ≤ 16)))
          else
            some (false)
        else
          some ((decide ((IntKind.wrap .i64 ((IntKind.wrap .i64 ((IntKind.wrap .i64 a0) + 256)) - (IntKind.wrap .i64 a1))) ≤ 16)))
      else
        some ((decide ((IntKind.wrap .i64 ((IntKind.wrap .i64 ((IntKind.wrap .i64 a1) + 256)) - (IntKind.wrap .i64 a0))) > 16)))
  else
    bif (decide ((IntKind.wrap .i64 a0) < 128)) then
      bif (decide ((IntKind.wrap .i64 a1) < 128)) then
        bif (decide ((Int.tmod (IntKind.wrap .i64 ((IntKind.wrap .i64 ((IntKind.wrap .i64 a0) - (IntKind.wrap .i64 a1))) + 128)) 128) ≥ 1)) then
          some ((decide ((Int.tmod (IntKind.wrap .i64 ((IntKind.wrap .i64 ((IntKind.wrap .i64 a0) - (IntKind.wrap .i64 a1))) + 128)) 128) ≤ 16)))
        else
          some (false)
      else
        some ((decide ((IntKind.wrap .i64 ((IntKind.wrap .i64 ((IntKind.wrap .i64 a0) + 256)) - (IntKind.wrap .i64 a1))) ≤ 16)))
    else
      some ((decide ((IntKind.wrap .i64 ((IntKind.wrap .i64 ((IntKind.wrap .i64 a1) + 256)) - (IntKind.wrap .i64 a0))) > 16)))
set_option maxRecDepth 100000 in
set_option maxHeartbeats 40000000 in
theorem ok_registration_Newer (a0 : Int) (a1 : Int) (r : Bool) (h : F_registration_Newer a0 a1 = some r) : Con Try.prog 38 [.c (.lit (.int .u8 (a0))), .c (.lit (.int .u8 (a1)))] [] (.c (.lit (.bool (r)))) [] := by
  unfold F_registration_Newer at h
  refine con_of [] [] 59 Try.func38 rfl rfl (by kernel_rfl) (fun K => ?_)
  refine TS_go 20 ?_
  replace h := condO h
  rcases h with ⟨hb1, h⟩ | ⟨hb1, h⟩
  · refine TS_know 14 (b := true) hb1 (by kernel_rfl) (by kernel_rfl) ?_
    refine TS_know 15 (b := true) hb1 (by kernel_rfl) (by kernel_rfl) ?_
    refine TS_go 5 ?_
    replace h := condO h
    rcases h with ⟨hb2, h⟩ | ⟨hb2, h⟩
    · refine TS_know 17 (b := true) hb2 (by kernel_rfl) (by kernel_rfl) ?_
      refine TS_know 18 (b := true) hb2 (by kernel_rfl) (by kernel_rfl) ?_
      refine TS_know 12 (b := true) hb2 (by kernel_rfl) (by kernel_rfl) ?_
      refine TS_T (by kernel_rfl) rfl ?_
      refine TS_go 6 ?_
      replace h := condO h
      rcases h with ⟨hb3, h⟩ | ⟨hb3, h⟩
      · refine TS_know 21 (b := true) hb3 (by kernel_rfl) (by kernel_rfl) ?_
        refine TS_know 22 (b := true) hb3 (by kernel_rfl) (by kernel_rfl) ?_
        refine TS_go 10 ?_
        obtain rfl := Option.some.inj h
        exact TS_ret (by kernel_rfl) (by kernel_rfl) (by kernel_rfl)
      · refine TS_know 21 (b := false) hb3 (by kernel_rfl) (by kernel_rfl) ?_
        refine TS_know 22 (b := false) hb3 (by kernel_rfl) (by kernel_rfl) ?_
        refine TS_go 10 ?_
        obtain rfl := Option.some.inj h
        exact TS_ret (by kernel_rfl) (by kernel_rfl) (by kernel_rfl)
    · refine TS_know 17 (b := false) hb2 (by kernel_rfl) (by kernel_rfl) ?_
      refine TS_know 18 (b := false) hb2 (by kernel_rfl) (by kernel_rfl) ?_
      refine TS_know 12 (b := false) hb2 (by kernel_rfl) (by kernel_rfl) ?_
      refine TS_F (by kernel_rfl) rfl ?_
      refine TS_go 5 ?_
      replace h := condO h
      rcases h with ⟨hb4, h⟩ | ⟨hb4, h⟩
      · refine TS_know 30 (b := true) hb4 (by kernel_rfl) (by kernel_rfl) ?_
        refine TS_know 31 (b := true) hb4 (by kernel_rfl) (by kernel_rfl) ?_
        refine TS_go 5 ?_
        replace h := condO h
        rcases h with ⟨hb5, h⟩ | ⟨hb5, h⟩
        · refine TS_know 33 (b := true) hb5 (by kernel_rfl) (by kernel_rfl) ?_
          refine TS_know 34 (b := true) hb5 (by kernel_rfl) (by kernel_rfl) ?_
          refine TS_know 28 (b := true) hb5 (by kernel_rfl) (by kernel_rfl) ?_
          refine TS_T (by kernel_rfl) rfl ?_
          refine TS_go 14 ?_
          replace h := condO h
          rcases h with ⟨hb6, h⟩ | ⟨hb6, h⟩
          · refine TS_know 41 (b := true) hb6 (by kernel_rfl) (by kernel_rfl) ?_
            refine TS_know 42 (b := true) hb6 (by kernel_rfl) (by kernel_rfl) ?_
            refine TS_go 8 ?_
            obtain rfl := Option.some.inj h
            exact TS_ret (by kernel_rfl) (by kernel_rfl) (by kernel_rfl)
          · refine TS_know 41 (b := false) hb6 (by kernel_rfl) (by kernel_rfl) ?_
            refine TS_know 42 (b := false) hb6 (by kernel_rfl) (by kernel_rfl) ?_
            refine TS_go 8 ?_
            obtain rfl := Option.some.inj h
            exact TS_ret (by kernel_rfl) (by kernel_rfl) (by kernel_rfl)
        · refine TS_know 33 (b := false) hb5 (by kernel_rfl) (by kernel_rfl) ?_
          refine TS_know 34 (b := false) hb5 (by kernel_rfl) (by kernel_rfl) ?_
          refine TS_know 28 (b := false) hb5 (by kernel_rfl) (by kernel_rfl) ?_
          refine TS_F (by kernel_rfl) rfl ?_
          refine TS_go 4 ?_
          refine TS_know 48 (b := true) hb4 (by kernel_rfl) (by kernel_rfl) ?_
          refine TS_go 2 ?_
          refine TS_T (by kernel_rfl) rfl ?_
          refine TS_go 12 ?_
          obtain rfl := Option.some.inj h
          exact TS_ret (by kernel_rfl) (by kernel_rfl) (by kernel_rfl)
      · refine TS_know 30 (b := false) hb4 (by kernel_rfl) (by kernel_rfl) ?_
        refine TS_know 31 (b := false) hb4 (by kernel_rfl) (by kernel_rfl) ?_
        refine TS_go 5 ?_
        refine TS_F (by kernel_rfl) rfl ?_
        refine TS_go 4 ?_
        refine TS_know 48 (b := false) hb4 (by kernel_rfl) (by kernel_rfl) ?_
        refine TS_go 2 ?_
        refine TS_F (by kernel_rfl) rfl ?_
        refine TS_go 12 ?_
        obtain rfl := Option.some.inj h
        exact TS_ret (by kernel_rfl) (by kernel_rfl) (by kernel_rfl)
  · refine TS_know 14 (b := false) hb1 (by kernel_rfl) (by kernel_rfl) ?_
    refine TS_know 15 (b := false) hb1 (by kernel_rfl) (by kernel_rfl) ?_
    refine TS_go 5 ?_
    refine TS_F (by kernel_rfl) rfl ?_
    refine TS_go 5 ?_
    replace h := condO h
    rcases h with ⟨hb7, h⟩ | ⟨hb7, h⟩
    · refine TS_know 30 (b := true) hb7 (by kernel_rfl) (by kernel_rfl) ?_
      refine TS_know 31 (b := true) hb7 (by kernel_rfl) (by kernel_rfl) ?_
      refine TS_go 5 ?_
      replace h := condO h
      rcases h with ⟨hb8, h⟩ | ⟨hb8, h⟩
      · refine TS_know 33 (b := true) hb8 (by kernel_rfl) (by kernel_rfl) ?_
        refine TS_know 34 (b := true) hb8 (by kernel_rfl) (by kernel_rfl) ?_
        refine TS_know 28 (b := true) hb8 (by kernel_rfl) (by kernel_rfl) ?_
        refine TS_T (by kernel_rfl) rfl ?_
        refine TS_go 14 ?_
        replace h := condO h
        rcases h with ⟨hb9, h⟩ | ⟨hb9, h⟩
        · refine TS_know 41 (b := true) hb9 (by kernel_rfl) (by kernel_rfl) ?_
          refine TS_know 42 (b := true) hb9 (by kernel_rfl) (by kernel_rfl) ?_
          refine TS_go 8 ?_
          obtain rfl := Option.some.inj h
          exact TS_ret (by kernel_rfl) (by kernel_rfl) (by kernel_rfl)
        · refine TS_know 41 (b := false) hb9 (by kernel_rfl) (by kernel_rfl) ?_
          refine TS_know 42 (b := false) hb9 (by kernel_rfl) (by kernel_rfl) ?_
          refine TS_go 8 ?_
          obtain rfl := Option.some.inj h
          exact TS_ret (by kernel_rfl) (by kernel_rfl) (by kernel_rfl)
      · refine TS_know 33 (b := false) hb8 (by kernel_rfl) (by kernel_rfl) ?_
        refine TS_know 34 (b := false) hb8 (by kernel_rfl) (by kernel_rfl) ?_
        refine TS_know 28 (b := false) hb8 (by kernel_rfl) (by kernel_rfl) ?_
        refine TS_F (by kernel_rfl) rfl ?_
        refine TS_go 4 ?_
        refine TS_know 48 (b := true) hb7 (by kernel_rfl) (by kernel_rfl) ?_
        refine TS_go 2 ?_
        refine TS_T (by kernel_rfl) rfl ?_
        refine TS_go 12 ?_
        obtain rfl := Option.some.inj h
        exact TS_ret (by kernel_rfl) (by kernel_rfl) (by kernel_rfl)
    · refine TS_know 30 (b := false) hb7 (by kernel_rfl) (by kernel_rfl) ?_
      refine TS_know 31 (b := false) hb7 (by kernel_rfl) (by kernel_rfl) ?_
      refine TS_go 5 ?_
      refine TS_F (by kernel_rfl) rfl ?_
      refine TS_go 4 ?_
      refine TS_know 48 (b := false) hb7 (by kernel_rfl) (by kernel_rfl) ?_
      refine TS_go 2 ?_
      refine TS_F (by kernel_rfl) rfl ?_
      refine TS_go 12 ?_
      obtain rfl := Option.some.inj h
      exact TS_ret (by kernel_rfl) (by kernel_rfl) (by kernel_rfl)

/-- multihop/storing.Accept -/
noncomputable def F_storing_Accept_j1 (a3 : S_Register) (a0 : List S_Down) (v8 : Int × Bool) (a2 : Int) (a1 : Int) (v11 : Bool) : Option ((List S_Down) × Bool × Int) :=
  bif (a3.Lifetime != 0) then
    (appO 48 ([] : List S_Down) (Cut.app .whole a0)).bind fun l13 =>
    bif (a3.Lifetime == 0) then
      bif v11 then
        bif decide ((0 : Int) ≤ 0 ∧ 0 ≤ v8.1 ∧ v8.1 ≤ (List.length l13 : Int)) then
          bif decide ((0 : Int) ≤ (IntKind.wrap .i64 (v8.1 + 1)) ∧ (IntKind.wrap .i64 (v8.1 + 1)) ≤ (List.length l13 : Int) ∧ (List.length l13 : Int) ≤ (List.length l13 : Int)) then
            bif decide ((Int.toNat v8.1) + List.length (Cut.app (.part (Int.toNat (IntKind.wrap .i64 (v8.1 + 1))) (Int.toNat (List.length l13 : Int) - Int.toNat (IntKind.wrap .i64 (v8.1 + 1)))) l13) ≤ List.length l13) then
              some (((List.take ((Int.toNat v8.1) + List.length (Cut.app (.part (Int.toNat (IntKind.wrap .i64 (v8.1 + 1))) (Int.toNat (List.length l13 : Int) - Int.toNat (IntKind.wrap .i64 (v8.1 + 1)))) l13)) (List.take (Int.toNat v8.1) l13 ++ (Cut.app (.part (Int.toNat (IntKind.wrap .i64 (v8.1 + 1))) (Int.toNat (List.length l13 : Int) - Int.toNat (IntKind.wrap .i64 (v8.1 + 1)))) l13) ++ List.drop ((Int.toNat v8.1) + List.length (Cut.app (.part (Int.toNat (IntKind.wrap .i64 (v8.1 + 1))) (Int.toNat (List.length l13 : Int) - Int.toNat (IntKind.wrap .i64 (v8.1 + 1)))) l13)) l13)), true, 0))
            else none
          else none
        else none
      else
        some ((l13, false, 0))
    else
      bif v11 then
        (idx a0 v8.1).bind fun e20 =>
        bif (e20.Via == a2) then
          (idx a0 v8.1).bind fun e22 =>
          bif (e22.Sequence == a3.Sequence) then
            (idx a0 v8.1).bind fun e24 =>
            bif (decide (e24.Until ≥ (if 1099511627776 < IntKind.wrap .i64 (a1 + a3.Lifetime) then 1099511627776 else IntKind.wrap .i64 (a1 + a3.Lifetime)))) then
              some ((l13, false, 0))
            else
              (idx (Cut.app .whole l13) v8.1).bind fun e26 =>
              (l13[(0 + Int.toNat v8.1)]?).bind fun e27 =>
              some (((List.set l13 (0 + Int.toNat v8.1) (S_Down.mk a3.Target a2 a3.Sequence (if 1099511627776 < IntKind.wrap .i64 (a1 + a3.Lifetime) then 1099511627776 else IntKind.wrap .i64 (a1 + a3.Lifetime)))), true, 0))
          else
            (idx (Cut.app .whole l13) v8.1).bind fun e28 =>
            (l13[(0 + Int.toNat v8.1)]?).bind fun e29 =>
            some (((List.set l13 (0 + Int.toNat v8.1) (S_Down.mk a3.Target a2 a3.Sequence (if 1099511627776 < IntKind.wrap .i64 (a1 + a3.Lifetime) then 1099511627776 else IntKind.wrap .i64 (a1 + a3.Lifetime)))), true, 0))
        else
          (idx (Cut.app .whole l13) v8.1).bind fun e30 =>
          (l13[(0 + Int.toNat v8.1)]?).bind fun e31 =>
          some (((List.set l13 (0 + Int.toNat v8.1) (S_Down.mk a3.Target a2 a3.Sequence (if 1099511627776 < IntKind.wrap .i64 (a1 + a3.Lifetime) then 1099511627776 else IntKind.wrap .i64 (a1 + a3.Lifetime)))), true, 0))
      else
        (idx (Cut.app .whole l13) v8.1).bind fun e32 =>
        (l13[(0 + Int.toNat v8.1)]?).bind fun e33 =>
        some (((List.set l13 (0 + Int.toNat v8.1) (S_Down.mk a3.Target a2 a3.Sequence (if 1099511627776 < IntKind.wrap .i64 (a1 + a3.Lifetime) then 1099511627776 else IntKind.wrap .i64 (a1 + a3.Lifetime)))), true, 0))
  else
    (appO 48 ([] : List S_Down) (Cut.app .whole a0)).bind fun l34 =>
    bif (a3.Lifetime == 0) then
      bif v11 then
        bif decide ((0 : Int) ≤ 0 ∧ 0 ≤ v8.1 ∧ v8.1 ≤ (List.length l34 : Int)) then
          bif decide ((0 : Int) ≤ (IntKind.wrap .i64 (v8.1 + 1)) ∧ (IntKind.wrap .i64 (v8.1 + 1)) ≤ (List.length l34 : Int) ∧ (List.length l34 : Int) ≤ (List.length l34 : Int)) then
            bif decide ((Int.toNat v8.1) + List.length (Cut.app (.part (Int.toNat (IntKind.wrap .i64 (v8.1 + 1))) (Int.toNat (List.length l34 : Int) - Int.toNat (IntKind.wrap .i64 (v8.1 + 1)))) l34) ≤ List.length l34) then
              some (((List.take ((Int.toNat v8.1) + List.length (Cut.app (.part (Int.toNat (IntKind.wrap .i64 (v8.1 + 1))) (Int.toNat (List.length l34 : Int) - Int.toNat (IntKind.wrap .i64 (v8.1 + 1)))) l34)) (List.take (Int.toNat v8.1) l34 ++ (Cut.app (.part (Int.toNat (IntKind.wrap .i64 (v8.1 + 1))) (Int.toNat (List.length l34 : Int) - Int.toNat (IntKind.wrap .i64 (v8.1 + 1)))) l34) ++ List.drop ((Int.toNat v8.1) + List.length (Cut.app (.part (Int.toNat (IntKind.wrap .i64 (v8.1 + 1))) (Int.toNat (List.length l34 : Int) - Int.toNat (IntKind.wrap .i64 (v8.1 + 1)))) l34)) l34)), true, 0))
            else none
          else none
        else none
      else
        some ((l34, false, 0))
    else
      bif v11 then
        (idx a0 v8.1).bind fun e41 =>
        bif (e41.Via == a2) then
          (idx a0 v8.1).bind fun e43 =>
          bif (e43.Sequence == a3.Sequence) then
            (idx a0 v8.1).bind fun e45 =>
            bif (decide (e45.Until ≥ (if 1099511627776 < IntKind.wrap .i64 (a1 + a3.Lifetime) then 1099511627776 else IntKind.wrap .i64 (a1 + a3.Lifetime)))) then
              some ((l34, false, 0))
            else
              (idx (Cut.app .whole l34) v8.1).bind fun e47 =>
              (l34[(0 + Int.toNat v8.1)]?).bind fun e48 =>
              some (((List.set l34 (0 + Int.toNat v8.1) (S_Down.mk a3.Target a2 a3.Sequence (if 1099511627776 < IntKind.wrap .i64 (a1 + a3.Lifetime) then 1099511627776 else IntKind.wrap .i64 (a1 + a3.Lifetime)))), true, 0))
          else
            (idx (Cut.app .whole l34) v8.1).bind fun e49 =>
            (l34[(0 + Int.toNat v8.1)]?).bind fun e50 =>
            some (((List.set l34 (0 + Int.toNat v8.1) (S_Down.mk a3.Target a2 a3.Sequence (if 1099511627776 < IntKind.wrap .i64 (a1 + a3.Lifetime) then 1099511627776 else IntKind.wrap .i64 (a1 + a3.Lifetime)))), true, 0))
        else
          (idx (Cut.app .whole l34) v8.1).bind fun e51 =>
          (l34[(0 + Int.toNat v8.1)]?).bind fun e52 =>
          some (((List.set l34 (0 + Int.toNat v8.1) (S_Down.mk a3.Target a2 a3.Sequence (if 1099511627776 < IntKind.wrap .i64 (a1 + a3.Lifetime) then 1099511627776 else IntKind.wrap .i64 (a1 + a3.Lifetime)))), true, 0))
      else
        (idx (Cut.app .whole l34) v8.1).bind fun e53 =>
        (l34[(0 + Int.toNat v8.1)]?).bind fun e54 =>
        some (((List.set l34 (0 + Int.toNat v8.1) (S_Down.mk a3.Target a2 a3.Sequence (if 1099511627776 < IntKind.wrap .i64 (a1 + a3.Lifetime) then 1099511627776 else IntKind.wrap .i64 (a1 + a3.Lifetime)))), true, 0))
noncomputable def F_storing_Accept (a0 : List S_Down) (a1 : Int) (a2 : Int) (a3 : S_Register) : Option ((List S_Down) × Bool × Int) :=
  (F_storing_Valid a0).bind fun v1 =>
  bif v1 then
    (F_storing_ValidRegister a3).bind fun v3 =>
    bif v3 then
      bif (a2 == 0) then
        some ((([] : List S_Down), false, 1))
      else
        (F_storing_isTime a1).bind fun v6 =>
        bif v6 then
          (F_storing_find a0 a3.Target).bind fun v8 =>
          bif v8.2 then
            (idx a0 v8.1).bind fun e10 =>
            bif (decide (e10.Until > a1)) then
              (idx a0 v8.1).bind fun e56 =>
              (F_registration_Newer e56.Sequence a3.Sequence).bind fun v57 =>
              bif v57 then
                some ((([] : List S_Down), false, 16))
              else
                bif (e56.Sequence == a3.Sequence) then
                  bif (e56.Via != a2) then
                    some ((([] : List S_Down), false, 16))
                  else
                    (F_storing_Accept_j1 a3 a0 v8 a2 a1) true
                else
                  (F_storing_Accept_j1 a3 a0 v8 a2 a1) true
            else
              (F_storing_Accept_j1 a3 a0 v8 a2 a1) false
          else
            bif (a3.Lifetime != 0) then
              bif (decide ((List.length a0 : Int) ≥ 128)) then
                some ((([] : List S_Down), false, 10))
              else
                (appO 48 ([] : List S_Down) (Cut.app .whole a0)).bind fun l63 =>
                bif (a3.Lifetime == 0) then
                  some ((l63, false, 0))
                else
                  (appO 48 (List.take (List.length l63) l63) (Cut.app .whole ([(S_Down.mk (S_Prefix.mk [0, 0, 0, 0, 0, 0, 0, 0, 0, 0, 0, 0, 0, 0, 0, 0] 0) 0 0 0)] : List S_Down))).bind fun l65 =>
                  bif decide ((0 : Int) ≤ (IntKind.wrap .i64 (v8.1 + 1)) ∧ (IntKind.wrap .i64 (v8.1 + 1)) ≤ (List.length l65 : Int) ∧ (List.length l65 : Int) ≤ (List.length l65 : Int)) then
                    bif decide ((0 : Int) ≤ v8.1 ∧ v8.1 ≤ (List.length l65 : Int) ∧ (List.length l65 : Int) ≤ (List.length l65 : Int)) then
                      (idx (Cut.app .whole (cpL l65 (Int.toNat (IntKind.wrap .i64 (v8.1 + 1))) (List.length (Cut.app (.part (Int.toNat (IntKind.wrap .i64 (v8.1 + 1))) (Int.toNat (List.length l65 : Int) - Int.toNat (IntKind.wrap .i64 (v8.1 + 1)))) l65)) (Cut.app (.part (Int.toNat v8.1) (Int.toNat (List.length l65 : Int) - Int.toNat v8.1)) l65))) v8.1).bind fun e68 =>
                      ((cpL l65 (Int.toNat (IntKind.wrap .i64 (v8.1 + 1))) (List.length (Cut.app (.part (Int.toNat (IntKind.wrap .i64 (v8.1 + 1))) (Int.toNat (List.length l65 : Int) - Int.toNat (IntKind.wrap .i64 (v8.1 + 1)))) l65)) (Cut.app (.part (Int.toNat v8.1) (Int.toNat (List.length l65 : Int) - Int.toNat v8.1)) l65))[(0 + Int.toNat v8.1)]?).bind fun e69 =>
                      some (((List.set (cpL l65 (Int.toNat (IntKind.wrap .i64 (v8.1 + 1))) (List.length (Cut.app (.part (Int.toNat (IntKind.wrap .i64 (v8.1 + 1))) (Int.toNat (List.length l65 : Int) - Int.toNat (IntKind.wrap .i64 (v8.1 + 1)))) l65)) (Cut.app (.part (Int.toNat v8.1) (Int.toNat (List.length l65 : Int) - Int.toNat v8.1)) l65)) (0 + Int.toNat v8.1) (S_Down.mk a3.Target a2 a3.Sequence (if 1099511627776 < IntKind.wrap .i64 (a1 + a3.Lifetime) then 1099511627776 else IntKind.wrap .i64 (a1 + a3.Lifetime)))), true, 0))
                    else none
                  else none
            else
              (appO 48 ([] : List S_Down) (Cut.app .whole a0)).bind fun l70 =>
              bif (a3.Lifetime == 0) then
                some ((l70, false, 0))
              else
                (appO 48 (List.take (List.length l70) l70) (Cut.app .whole ([(S_Down.mk (S_Prefix.mk [0, 0, 0, 0, 0, 0, 0, 0, 0, 0, 0, 0, 0, 0, 0, 0] 0) 0 0 0)] : List S_Down))).bind fun l72 =>
                bif decide ((0 : Int) ≤ (IntKind.wrap .i64 (v8.1 + 1)) ∧ (IntKind.wrap .i64 (v8.1 + 1)) ≤ (List.length l72 : Int) ∧ (List.length l72 : Int) ≤ (List.length l72 : Int)) then
                  bif decide ((0 : Int) ≤ v8.1 ∧ v8.1 ≤ (List.length l72 : Int) ∧ (List.length l72 : Int) ≤ (List.length l72 : Int)) then
                    (idx (Cut.app .whole (cpL l72 (Int.toNat (IntKind.wrap .i64 (v8.1 + 1))) (List.length (Cut.app (.part (Int.toNat (IntKind.wrap .i64 (v8.1 + 1))) (Int.toNat (List.length l72 : Int) - Int.toNat (IntKind.wrap .i64 (v8.1 + 1)))) l72)) (Cut.app (.part (Int.toNat v8.1) (Int.toNat (List.length l72 : Int) - Int.toNat v8.1)) l72))) v8.1).bind fun e75 =>
                    ((cpL l72 (Int.toNat (IntKind.wrap .i64 (v8.1 + 1))) (List.length (Cut.app (.part (Int.toNat (IntKind.wrap .i64 (v8.1 + 1))) (Int.toNat (List.length l72 : Int) - Int.toNat (IntKind.wrap .i64 (v8.1 + 1)))) l72)) (Cut.app (.part (Int.toNat v8.1) (Int.toNat (List.length l72 : Int) - Int.toNat v8.1)) l72))[(0 + Int.toNat v8.1)]?).bind fun e76 =>
                    some (((List.set (cpL l72 (Int.toNat (IntKind.wrap .i64 (v8.1 + 1))) (List.length (Cut.app (.part (Int.toNat (IntKind.wrap .i64 (v8.1 + 1))) (Int.toNat (List.length l72 : Int) - Int.toNat (IntKind.wrap .i64 (v8.1 + 1)))) l72)) (Cut.app (.part (Int.toNat v8.1) (Int.toNat (List.length l72 : Int) - Int.toNat v8.1)) l72)) (0 + Int.toNat v8.1) (S_Down.mk a3.Target a2 a3.Sequence (if 1099511627776 < IntKind.wrap .i64 (a1 + a3.Lifetime) then 1099511627776 else IntKind.wrap .i64 (a1 + a3.Lifetime)))), true, 0))
                  else none
                else none
        else
          some ((([] : List S_Down), false, 2))
    else
      some ((([] : List S_Down), false, 1))
  else
    some ((([] : List S_Down), false, 1))
set_option maxRecDepth 100000 in
set_option maxHeartbeats 40000000 in
theorem ok_storing_Accept (a0 : List S_Down) (a1 : Int) (a2 : Int) (a3 : S_Register) (r : (List S_Down) × Bool × Int) (h : F_storing_Accept a0 a1 a2 a3 = some r) : Con Try.prog 15 [.c (eS 20 S_Down.cs (a0)), .c (.lit (.int .i64 (a1))), .c (.lit (.int .u64 (a2))), .agg (S_Register.cs a3)] [] (.tup [(false, [eS 20 S_Down.cs (r.1)]), (false, [.lit (.bool (r.2.1))]), (false, [.lit (.int .i64 (r.2.2))])]) [] := by
  unfold F_storing_Accept at h
  refine con_of [[21]] [] 166 Try.func15 rfl rfl (by kernel_rfl) (fun K => ?_)
  refine TS_go 11 ?_
  replace h := bindO h
  obtain ⟨v1, hv1, h⟩ := h
  refine TS_call [] (ok_storing_Valid a0 v1 hv1) (by kernel_rfl) (by kernel_rfl) ?_
  refine TS_go 2 ?_
  replace h := condO h
  rcases h with ⟨hb2, h⟩ | ⟨hb2, h⟩
  · subst hb2
    refine TS_go 1 ?_
    replace h := bindO h
    obtain ⟨v3, hv3, h⟩ := h
    refine TS_call [] (ok_storing_ValidRegister a3 v3 hv3) (by kernel_rfl) (by kernel_rfl) ?_
    refine TS_go 3 ?_
    replace h := condO h
    rcases h with ⟨hb4, h⟩ | ⟨hb4, h⟩
    · subst hb4
      refine TS_go 4 ?_
      replace h := condO h
      rcases h with ⟨hb5, h⟩ | ⟨hb5, h⟩
      · refine TS_know 27 (b := true) hb5 (by kernel_rfl) (by kernel_rfl) ?_
        refine TS_know 28 (b := true) hb5 (by kernel_rfl) (by kernel_rfl) ?_
        refine TS_T (by kernel_rfl) rfl ?_
        refine TS_go 8 ?_
        obtain rfl := Option.some.inj h
        exact TS_ret (by kernel_rfl) (by kernel_rfl) (by kernel_rfl)
      · refine TS_know 27 (b := false) hb5 (by kernel_rfl) (by kernel_rfl) ?_
        refine TS_know 28 (b := false) hb5 (by kernel_rfl) (by kernel_rfl) ?_
        refine TS_F (by kernel_rfl) rfl ?_
        refine TS_go 5 ?_
        replace h := bindO h
        obtain ⟨v6, hv6, h⟩ := h
        refine TS_call [] (ok_storing_isTime a1 v6 hv6) (by kernel_rfl) (by kernel_rfl) ?_
        refine TS_go 2 ?_
        replace h := condO h
        rcases h with ⟨hb7, h⟩ | ⟨hb7, h⟩
        · subst hb7
          refine TS_F (by kernel_rfl) rfl ?_
          refine TS_go 6 ?_
          replace h := bindO h
          obtain ⟨v8, hv8, h⟩ := h
          refine TS_call [] (ok_storing_find a0 a3.Target v8 hv8) (by kernel_rfl) (by kernel_rfl) ?_
          refine TS_go 10 ?_
          replace h := condO h
          rcases h with ⟨hb9, h⟩ | ⟨hb9, h⟩
          · refine TS_know 38 (b := true) hb9 (by kernel_rfl) (by kernel_rfl) ?_
            refine TS_know 12 (b := true) hb9 (by kernel_rfl) (by kernel_rfl) ?_
            refine TS_know 39 (b := true) hb9 (by kernel_rfl) (by kernel_rfl) ?_
            refine TS_know 40 (b := true) hb9 (by kernel_rfl) (by kernel_rfl) ?_
            refine TS_go 2 ?_
            replace h := bindO h
            obtain ⟨e10, he10, h⟩ := h
            refine TS_idx S_Down.cs he10 (by kernel_rfl) (by kernel_rfl) ?_
            refine TS_go 7 ?_
            refine TS_cut ⟨[(0, []), (1, []), (2, []), (7, []), (11, []), (12, []), (13, [])], [(7, (7, []))]⟩ (.mk [.code (codeAt [1, 1, 1, 1, 1] (bodyOf Try.f15))] .normal ⟨[(0, .c (.slc 20 0 (List.length a0) (List.map S_Down.cs a0))), (1, .c (.lit (.int .i64 (a1)))), (2, .c (.lit (.int .u64 (a2)))), (7, .c (.box 7 0)), (11, .c (.lit (.int .i64 (v8.1)))), (12, .c (.lit (.bool (true)))), (13, .c (.lit (.bool ((decide (e10.Until > a1))))))], [(7, .box [.lit (.int .u8 ((a3.Target.IP.getD 0 0))), .lit (.int .u8 ((a3.Target.IP.getD 1 0))), .lit (.int .u8 ((a3.Target.IP.getD 2 0))), .lit (.int .u8 ((a3.Target.IP.getD 3 0))), .lit (.int .u8 ((a3.Target.IP.getD 4 0))), .lit (.int .u8 ((a3.Target.IP.getD 5 0))), .lit (.int .u8 ((a3.Target.IP.getD 6 0))), .lit (.int .u8 ((a3.Target.IP.getD 7 0))), .lit (.int .u8 ((a3.Target.IP.getD 8 0))), .lit (.int .u8 ((a3.Target.IP.getD 9 0))), .lit (.int .u8 ((a3.Target.IP.getD 10 0))), .lit (.int .u8 ((a3.Target.IP.getD 11 0))), .lit (.int .u8 ((a3.Target.IP.getD 12 0))), .lit (.int .u8 ((a3.Target.IP.getD 13 0))), .lit (.int .u8 ((a3.Target.IP.getD 14 0))), .lit (.int .u8 ((a3.Target.IP.getD 15 0))), .lit (.int .i64 (a3.Target.Bits)), .lit (.int .u8 (a3.Sequence)), .lit (.int .i64 (a3.Lifetime))])]⟩) (by kernel_rfl) (by kernel_rfl) ?_
            refine TS_joinB ⟨[(0, []), (1, []), (2, []), (7, []), (11, []), (12, []), (13, [])], [(7, (7, []))]⟩ (fun (v11 : Bool) => [(13, .c (.lit (.bool (v11))))]) (fun (v11 : Bool) => []) (F_storing_Accept_j1 a3 a0 v8 a2 a1) r ?_ ?_
            · clear h
              intro v11 h
              unfold F_storing_Accept_j1 at h
              refine TS_go 7 ?_
              replace h := condO h
              rcases h with ⟨hb12, h⟩ | ⟨hb12, h⟩
              · refine TS_know 74 (b := true) hb12 (by kernel_rfl) (by kernel_rfl) ?_
                refine TS_know 75 (b := true) hb12 (by kernel_rfl) (by kernel_rfl) ?_
                refine TS_go 9 ?_
                refine TS_F (by kernel_rfl) rfl ?_
                refine TS_go 4 ?_
                replace h := bindO h
                obtain ⟨l13, hl13, h⟩ := h
                refine TS_appNR 85 39 20 S_Down.cs (fun _ => by kernel_rfl) (l2 := a0) .whole hl13 (by kernel_rfl) (by kernel_rfl) ?_
                refine TS_go 9 ?_
                replace h := condO h
                rcases h with ⟨hb14, h⟩ | ⟨hb14, h⟩
                · refine TS_know 88 (b := true) hb14 (by kernel_rfl) (by kernel_rfl) ?_
                  refine TS_T (by kernel_rfl) rfl ?_
                  refine TS_go 6 ?_
                  replace h := condO h
                  rcases h with ⟨hb15, h⟩ | ⟨hb15, h⟩
                  · subst hb15
                    refine TS_F (by kernel_rfl) rfl ?_
                    refine TS_go 2 ?_
                    refine TS_draw (by kernel_rfl) ?_
                    refine TD_go 2 ?_
                    replace h := chkO h
                    obtain ⟨hc16, h⟩ := h
                    refine TD_slRow 85 20 (List.length l13) (a := 0) (b := v8.1) hc16 rfl (by kernel_rfl) (by kernel_rfl) ?_
                    refine TD_go 3 ?_
                    replace h := chkO h
                    obtain ⟨hc17, h⟩ := h
                    refine TD_slSub 85 20 (List.length l13) (a := IntKind.wrap .i64 (v8.1 + 1)) (b := (List.length l13 : Int)) hc17 (by kernel_rfl) (by kernel_rfl) ?_
                    replace h := chkO h
                    obtain ⟨hc18, h⟩ := h
                    refine TD_appP 85 39 20 48 (List.length l13) (Int.toNat v8.1) S_Down.cs (fun _ => by kernel_rfl) (l1 := l13) (l2 := l13) (.part (Int.toNat (IntKind.wrap .i64 (v8.1 + 1))) (Int.toNat (List.length l13 : Int) - Int.toNat (IntKind.wrap .i64 (v8.1 + 1)))) hc18 (by kernel_rfl) (by kernel_rfl) ?_
                    refine TD_go 3 ?_
                    refine TD_end (by kernel_rfl) ?_
                    refine TS_settle 85 (by kernel_rfl) ?_
                    refine TS_recast 94 (sz := 20) (N := (Int.toNat v8.1)) (xs := List.take (Int.toNat v8.1) (List.map S_Down.cs (List.take (Int.toNat v8.1) l13 ++ (Cut.app (.part (Int.toNat (IntKind.wrap .i64 (v8.1 + 1))) (Int.toNat (List.length l13 : Int) - Int.toNat (IntKind.wrap .i64 (v8.1 + 1)))) l13) ++ List.drop ((Int.toNat v8.1) + List.length (Cut.app (.part (Int.toNat (IntKind.wrap .i64 (v8.1 + 1))) (Int.toNat (List.length l13 : Int) - Int.toNat (IntKind.wrap .i64 (v8.1 + 1)))) l13)) l13))) (List.length (List.take (Int.toNat v8.1) (List.take (Int.toNat v8.1) l13 ++ (Cut.app (.part (Int.toNat (IntKind.wrap .i64 (v8.1 + 1))) (Int.toNat (List.length l13 : Int) - Int.toNat (IntKind.wrap .i64 (v8.1 + 1)))) l13) ++ List.drop ((Int.toNat v8.1) + List.length (Cut.app (.part (Int.toNat (IntKind.wrap .i64 (v8.1 + 1))) (Int.toNat (List.length l13 : Int) - Int.toNat (IntKind.wrap .i64 (v8.1 + 1)))) l13)) l13))) (List.map S_Down.cs (List.take (Int.toNat v8.1) (List.take (Int.toNat v8.1) l13 ++ (Cut.app (.part (Int.toNat (IntKind.wrap .i64 (v8.1 + 1))) (Int.toNat (List.length l13 : Int) - Int.toNat (IntKind.wrap .i64 (v8.1 + 1)))) l13) ++ List.drop ((Int.toNat v8.1) + List.length (Cut.app (.part (Int.toNat (IntKind.wrap .i64 (v8.1 + 1))) (Int.toNat (List.length l13 : Int) - Int.toNat (IntKind.wrap .i64 (v8.1 + 1)))) l13)) l13))) List.map_take.symm (List.length_map _) (by kernel_rfl) (by kernel_rfl) ?_
                    refine TS_recast 99 (sz := 20) (N := ((Int.toNat v8.1) + List.length (Cut.app (.part (Int.toNat (IntKind.wrap .i64 (v8.1 + 1))) (Int.toNat (List.length l13 : Int) - Int.toNat (IntKind.wrap .i64 (v8.1 + 1)))) l13))) (xs := List.take ((Int.toNat v8.1) + List.length (Cut.app (.part (Int.toNat (IntKind.wrap .i64 (v8.1 + 1))) (Int.toNat (List.length l13 : Int) - Int.toNat (IntKind.wrap .i64 (v8.1 + 1)))) l13)) (List.map S_Down.cs (List.take (Int.toNat v8.1) l13 ++ (Cut.app (.part (Int.toNat (IntKind.wrap .i64 (v8.1 + 1))) (Int.toNat (List.length l13 : Int) - Int.toNat (IntKind.wrap .i64 (v8.1 + 1)))) l13) ++ List.drop ((Int.toNat v8.1) + List.length (Cut.app (.part (Int.toNat (IntKind.wrap .i64 (v8.1 + 1))) (Int.toNat (List.length l13 : Int) - Int.toNat (IntKind.wrap .i64 (v8.1 + 1)))) l13)) l13))) (List.length (List.take ((Int.toNat v8.1) + List.length (Cut.app (.part (Int.toNat (IntKind.wrap .i64 (v8.1 + 1))) (Int.toNat (List.length l13 : Int) - Int.toNat (IntKind.wrap .i64 (v8.1 + 1)))) l13)) (List.take (Int.toNat v8.1) l13 ++ (Cut.app (.part (Int.toNat (IntKind.wrap .i64 (v8.1 + 1))) (Int.toNat (List.length l13 : Int) - Int.toNat (IntKind.wrap .i64 (v8.1 + 1)))) l13) ++ List.drop ((Int.toNat v8.1) + List.length (Cut.app (.part (Int.toNat (IntKind.wrap .i64 (v8.1 + 1))) (Int.toNat (List.length l13 : Int) - Int.toNat (IntKind.wrap .i64 (v8.1 + 1)))) l13)) l13))) (List.map S_Down.cs (List.take ((Int.toNat v8.1) + List.length (Cut.app (.part (Int.toNat (IntKind.wrap .i64 (v8.1 + 1))) (Int.toNat (List.length l13 : Int) - Int.toNat (IntKind.wrap .i64 (v8.1 + 1)))) l13)) (List.take (Int.toNat v8.1) l13 ++ (Cut.app (.part (Int.toNat (IntKind.wrap .i64 (v8.1 + 1))) (Int.toNat (List.length l13 : Int) - Int.toNat (IntKind.wrap .i64 (v8.1 + 1)))) l13) ++ List.drop ((Int.toNat v8.1) + List.length (Cut.app (.part (Int.toNat (IntKind.wrap .i64 (v8.1 + 1))) (Int.toNat (List.length l13 : Int) - Int.toNat (IntKind.wrap .i64 (v8.1 + 1)))) l13)) l13))) List.map_take.symm (List.length_map _) (by kernel_rfl) (by kernel_rfl) ?_
                    refine TS_recast 8 (sz := 20) (N := ((Int.toNat v8.1) + List.length (Cut.app (.part (Int.toNat (IntKind.wrap .i64 (v8.1 + 1))) (Int.toNat (List.length l13 : Int) - Int.toNat (IntKind.wrap .i64 (v8.1 + 1)))) l13))) (xs := List.take ((Int.toNat v8.1) + List.length (Cut.app (.part (Int.toNat (IntKind.wrap .i64 (v8.1 + 1))) (Int.toNat (List.length l13 : Int) - Int.toNat (IntKind.wrap .i64 (v8.1 + 1)))) l13)) (List.map S_Down.cs (List.take (Int.toNat v8.1) l13 ++ (Cut.app (.part (Int.toNat (IntKind.wrap .i64 (v8.1 + 1))) (Int.toNat (List.length l13 : Int) - Int.toNat (IntKind.wrap .i64 (v8.1 + 1)))) l13) ++ List.drop ((Int.toNat v8.1) + List.length (Cut.app (.part (Int.toNat (IntKind.wrap .i64 (v8.1 + 1))) (Int.toNat (List.length l13 : Int) - Int.toNat (IntKind.wrap .i64 (v8.1 + 1)))) l13)) l13))) (List.length (List.take ((Int.toNat v8.1) + List.length (Cut.app (.part (Int.toNat (IntKind.wrap .i64 (v8.1 + 1))) (Int.toNat (List.length l13 : Int) - Int.toNat (IntKind.wrap .i64 (v8.1 + 1)))) l13)) (List.take (Int.toNat v8.1) l13 ++ (Cut.app (.part (Int.toNat (IntKind.wrap .i64 (v8.1 + 1))) (Int.toNat (List.length l13 : Int) - Int.toNat (IntKind.wrap .i64 (v8.1 + 1)))) l13) ++ List.drop ((Int.toNat v8.1) + List.length (Cut.app (.part (Int.toNat (IntKind.wrap .i64 (v8.1 + 1))) (Int.toNat (List.length l13 : Int) - Int.toNat (IntKind.wrap .i64 (v8.1 + 1)))) l13)) l13))) (List.map S_Down.cs (List.take ((Int.toNat v8.1) + List.length (Cut.app (.part (Int.toNat (IntKind.wrap .i64 (v8.1 + 1))) (Int.toNat (List.length l13 : Int) - Int.toNat (IntKind.wrap .i64 (v8.1 + 1)))) l13)) (List.take (Int.toNat v8.1) l13 ++ (Cut.app (.part (Int.toNat (IntKind.wrap .i64 (v8.1 + 1))) (Int.toNat (List.length l13 : Int) - Int.toNat (IntKind.wrap .i64 (v8.1 + 1)))) l13) ++ List.drop ((Int.toNat v8.1) + List.length (Cut.app (.part (Int.toNat (IntKind.wrap .i64 (v8.1 + 1))) (Int.toNat (List.length l13 : Int) - Int.toNat (IntKind.wrap .i64 (v8.1 + 1)))) l13)) l13))) List.map_take.symm (List.length_map _) (by kernel_rfl) (by kernel_rfl) ?_
                    refine TS_go 2 ?_
                    obtain rfl := Option.some.inj h
                    exact TS_ret (by kernel_rfl) (by kernel_rfl) (by kernel_rfl)
                  · subst hb15
                    refine TS_T (by kernel_rfl) rfl ?_
                    refine TS_go 7 ?_
                    refine TS_settle 85 (by kernel_rfl) ?_
                    refine TS_go 3 ?_
                    obtain rfl := Option.some.inj h
                    exact TS_ret (by kernel_rfl) (by kernel_rfl) (by kernel_rfl)
                · refine TS_know 88 (b := false) hb14 (by kernel_rfl) (by kernel_rfl) ?_
                  refine TS_F (by kernel_rfl) rfl ?_
                  refine TS_go 23 ?_
                  refine TS_F (by kernel_rfl) rfl ?_
                  refine TS_go 3 ?_
                  refine TS_draw (by kernel_rfl) ?_
                  refine TD_go 2 ?_
                  replace h := condO h
                  rcases h with ⟨hb19, h⟩ | ⟨hb19, h⟩
                  · subst hb19
                    refine TD_go 2 ?_
                    replace h := bindO h
                    obtain ⟨e20, he20, h⟩ := h
                    refine TD_idx S_Down.cs he20 (by kernel_rfl) (by kernel_rfl) ?_
                    refine TD_go 5 ?_
                    replace h := condO h
                    rcases h with ⟨hb21, h⟩ | ⟨hb21, h⟩
                    · refine TD_know 140 (b := true) hb21 trivial (by kernel_rfl) (by kernel_rfl) ?_
                      refine TD_go 2 ?_
                      replace h := bindO h
                      obtain ⟨e22, he22, h⟩ := h
                      refine TD_idx S_Down.cs he22 (by kernel_rfl) (by kernel_rfl) ?_
                      refine TD_go 6 ?_
                      replace h := condO h
                      rcases h with ⟨hb23, h⟩ | ⟨hb23, h⟩
                      · refine TD_know 150 (b := true) hb23 trivial (by kernel_rfl) (by kernel_rfl) ?_
                        refine TD_go 2 ?_
                        replace h := bindO h
                        obtain ⟨e24, he24, h⟩ := h
                        refine TD_idx S_Down.cs he24 (by kernel_rfl) (by kernel_rfl) ?_
                        refine TD_go 6 ?_
                        refine TD_end (by kernel_rfl) ?_
                        replace h := condO h
                        rcases h with ⟨hb25, h⟩ | ⟨hb25, h⟩
                        · refine TS_know 138 (b := true) hb21 (by kernel_rfl) (by kernel_rfl) ?_
                          refine TS_know 139 (b := true) hb21 (by kernel_rfl) (by kernel_rfl) ?_
                          refine TS_know 148 (b := true) hb23 (by kernel_rfl) (by kernel_rfl) ?_
                          refine TS_know 149 (b := true) hb23 (by kernel_rfl) (by kernel_rfl) ?_
                          refine TS_know 158 (b := true) hb25 (by kernel_rfl) (by kernel_rfl) ?_
                          refine TS_know 159 (b := true) hb25 (by kernel_rfl) (by kernel_rfl) ?_
                          refine TS_T (by kernel_rfl) rfl ?_
                          refine TS_go 7 ?_
                          refine TS_settle 85 (by kernel_rfl) ?_
                          refine TS_go 2 ?_
                          obtain rfl := Option.some.inj h
                          exact TS_ret (by kernel_rfl) (by kernel_rfl) (by kernel_rfl)
                        · refine TS_know 138 (b := true) hb21 (by kernel_rfl) (by kernel_rfl) ?_
                          refine TS_know 139 (b := true) hb21 (by kernel_rfl) (by kernel_rfl) ?_
                          refine TS_know 148 (b := true) hb23 (by kernel_rfl) (by kernel_rfl) ?_
                          refine TS_know 149 (b := true) hb23 (by kernel_rfl) (by kernel_rfl) ?_
                          refine TS_know 158 (b := false) hb25 (by kernel_rfl) (by kernel_rfl) ?_
                          refine TS_know 159 (b := false) hb25 (by kernel_rfl) (by kernel_rfl) ?_
                          refine TS_F (by kernel_rfl) rfl ?_
                          refine TS_go 6 ?_
                          replace h := bindO h
                          obtain ⟨e26, he26, h⟩ := h
                          refine TS_idxR 85 20 0 S_Down.cs .whole he26 (by kernel_rfl) (by kernel_rfl) ?_
                          replace h := bindO h
                          obtain ⟨e27, he27, h⟩ := h
                          refine TS_stE 85 39 20 (List.length l13) (0 + Int.toNat v8.1) 0 S_Down.cs (ds := [.lit (.int .u8 ((a3.Target.IP.getD 0 0))), .lit (.int .u8 ((a3.Target.IP.getD 1 0))), .lit (.int .u8 ((a3.Target.IP.getD 2 0))), .lit (.int .u8 ((a3.Target.IP.getD 3 0))), .lit (.int .u8 ((a3.Target.IP.getD 4 0))), .lit (.int .u8 ((a3.Target.IP.getD 5 0))), .lit (.int .u8 ((a3.Target.IP.getD 6 0))), .lit (.int .u8 ((a3.Target.IP.getD 7 0))), .lit (.int .u8 ((a3.Target.IP.getD 8 0))), .lit (.int .u8 ((a3.Target.IP.getD 9 0))), .lit (.int .u8 ((a3.Target.IP.getD 10 0))), .lit (.int .u8 ((a3.Target.IP.getD 11 0))), .lit (.int .u8 ((a3.Target.IP.getD 12 0))), .lit (.int .u8 ((a3.Target.IP.getD 13 0))), .lit (.int .u8 ((a3.Target.IP.getD 14 0))), .lit (.int .u8 ((a3.Target.IP.getD 15 0))), .lit (.int .i64 (a3.Target.Bits)), .lit (.int .u64 (a2)), .lit (.int .u8 (a3.Sequence)), .lit (.int .i64 (if 1099511627776 < IntKind.wrap .i64 (a1 + a3.Lifetime) then 1099511627776 else IntKind.wrap .i64 (a1 + a3.Lifetime)))]) (S_Down.mk a3.Target a2 a3.Sequence (if 1099511627776 < IntKind.wrap .i64 (a1 + a3.Lifetime) then 1099511627776 else IntKind.wrap .i64 (a1 + a3.Lifetime))) he27 (by kernel_rfl) (by kernel_rfl) (by kernel_rfl) (by kernel_rfl) ?_
                          refine TS_go 8 ?_
                          refine TS_settle 85 (by kernel_rfl) ?_
                          refine TS_go 1 ?_
                          obtain rfl := Option.some.inj h
                          exact TS_ret (by kernel_rfl) (by kernel_rfl) (by kernel_rfl)
                      · refine TD_know 150 (b := false) hb23 trivial (by kernel_rfl) (by kernel_rfl) ?_
                        refine TD_go 9 ?_
                        refine TD_end (by kernel_rfl) ?_
                        refine TS_F (by kernel_rfl) rfl ?_
                        refine TS_go 6 ?_
                        replace h := bindO h
                        obtain ⟨e28, he28, h⟩ := h
                        refine TS_idxR 85 20 0 S_Down.cs .whole he28 (by kernel_rfl) (by kernel_rfl) ?_
                        replace h := bindO h
                        obtain ⟨e29, he29, h⟩ := h
                        refine TS_stE 85 39 20 (List.length l13) (0 + Int.toNat v8.1) 0 S_Down.cs (ds := [.lit (.int .u8 ((a3.Target.IP.getD 0 0))), .lit (.int .u8 ((a3.Target.IP.getD 1 0))), .lit (.int .u8 ((a3.Target.IP.getD 2 0))), .lit (.int .u8 ((a3.Target.IP.getD 3 0))), .lit (.int .u8 ((a3.Target.IP.getD 4 0))), .lit (.int .u8 ((a3.Target.IP.getD 5 0))), .lit (.int .u8 ((a3.Target.IP.getD 6 0))), .lit (.int .u8 ((a3.Target.IP.getD 7 0))), .lit (.int .u8 ((a3.Target.IP.getD 8 0))), .lit (.int .u8 ((a3.Target.IP.getD 9 0))), .lit (.int .u8 ((a3.Target.IP.getD 10 0))), .lit (.int .u8 ((a3.Target.IP.getD 11 0))), .lit (.int .u8 ((a3.Target.IP.getD 12 0))), .lit (.int .u8 ((a3.Target.IP.getD 13 0))), .lit (.int .u8 ((a3.Target.IP.getD 14 0))), .lit (.int .u8 ((a3.Target.IP.getD 15 0))), .lit (.int .i64 (a3.Target.Bits)), .lit (.int .u64 (a2)), .lit (.int .u8 (a3.Sequence)), .lit (.int .i64 (if 1099511627776 < IntKind.wrap .i64 (a1 + a3.Lifetime) then 1099511627776 else IntKind.wrap .i64 (a1 + a3.Lifetime)))]) (S_Down.mk a3.Target a2 a3.Sequence (if 1099511627776 < IntKind.wrap .i64 (a1 + a3.Lifetime) then 1099511627776 else IntKind.wrap .i64 (a1 + a3.Lifetime))) he29 (by kernel_rfl) (by kernel_rfl) (by kernel_rfl) (by kernel_rfl) ?_
                        refine TS_go 8 ?_
                        refine TS_settle 85 (by kernel_rfl) ?_
                        refine TS_go 1 ?_
                        obtain rfl := Option.some.inj h
                        exact TS_ret (by kernel_rfl) (by kernel_rfl) (by kernel_rfl)
                    · refine TD_know 140 (b := false) hb21 trivial (by kernel_rfl) (by kernel_rfl) ?_
                      refine TD_go 19 ?_
                      refine TD_end (by kernel_rfl) ?_
                      refine TS_F (by kernel_rfl) rfl ?_
                      refine TS_go 6 ?_
                      replace h := bindO h
                      obtain ⟨e30, he30, h⟩ := h
                      refine TS_idxR 85 20 0 S_Down.cs .whole he30 (by kernel_rfl) (by kernel_rfl) ?_
                      replace h := bindO h
                      obtain ⟨e31, he31, h⟩ := h
                      refine TS_stE 85 39 20 (List.length l13) (0 + Int.toNat v8.1) 0 S_Down.cs (ds := [.lit (.int .u8 ((a3.Target.IP.getD 0 0))), .lit (.int .u8 ((a3.Target.IP.getD 1 0))), .lit (.int .u8 ((a3.Target.IP.getD 2 0))), .lit (.int .u8 ((a3.Target.IP.getD 3 0))), .lit (.int .u8 ((a3.Target.IP.getD 4 0))), .lit (.int .u8 ((a3.Target.IP.getD 5 0))), .lit (.int .u8 ((a3.Target.IP.getD 6 0))), .lit (.int .u8 ((a3.Target.IP.getD 7 0))), .lit (.int .u8 ((a3.Target.IP.getD 8 0))), .lit (.int .u8 ((a3.Target.IP.getD 9 0))), .lit (.int .u8 ((a3.Target.IP.getD 10 0))), .lit (.int .u8 ((a3.Target.IP.getD 11 0))), .lit (.int .u8 ((a3.Target.IP.getD 12 0))), .lit (.int .u8 ((a3.Target.IP.getD 13 0))), .lit (.int .u8 ((a3.Target.IP.getD 14 0))), .lit (.int .u8 ((a3.Target.IP.getD 15 0))), .lit (.int .i64 (a3.Target.Bits)), .lit (.int .u64 (a2)), .lit (.int .u8 (a3.Sequence)), .lit (.int .i64 (if 1099511627776 < IntKind.wrap .i64 (a1 + a3.Lifetime) then 1099511627776 else IntKind.wrap .i64 (a1 + a3.Lifetime)))]) (S_Down.mk a3.Target a2 a3.Sequence (if 1099511627776 < IntKind.wrap .i64 (a1 + a3.Lifetime) then 1099511627776 else IntKind.wrap .i64 (a1 + a3.Lifetime))) he31 (by kernel_rfl) (by kernel_rfl) (by kernel_rfl) (by kernel_rfl) ?_
                      refine TS_go 8 ?_
                      refine TS_settle 85 (by kernel_rfl) ?_
                      refine TS_go 1 ?_
                      obtain rfl := Option.some.inj h
                      exact TS_ret (by kernel_rfl) (by kernel_rfl) (by kernel_rfl)
                  · subst hb19
                    refine TD_go 28 ?_
                    refine TD_end (by kernel_rfl) ?_
                    refine TS_F (by kernel_rfl) rfl ?_
                    refine TS_go 6 ?_
                    replace h := bindO h
                    obtain ⟨e32, he32, h⟩ := h
                    refine TS_idxR 85 20 0 S_Down.cs .whole he32 (by kernel_rfl) (by kernel_rfl) ?_
                    replace h := bindO h
                    obtain ⟨e33, he33, h⟩ := h
                    refine TS_stE 85 39 20 (List.length l13) (0 + Int.toNat v8.1) 0 S_Down.cs (ds := [.lit (.int .u8 ((a3.Target.IP.getD 0 0))), .lit (.int .u8 ((a3.Target.IP.getD 1 0))), .lit (.int .u8 ((a3.Target.IP.getD 2 0))), .lit (.int .u8 ((a3.Target.IP.getD 3 0))), .lit (.int .u8 ((a3.Target.IP.getD 4 0))), .lit (.int .u8 ((a3.Target.IP.getD 5 0))), .lit (.int .u8 ((a3.Target.IP.getD 6 0))), .lit (.int .u8 ((a3.Target.IP.getD 7 0))), .lit (.int .u8 ((a3.Target.IP.getD 8 0))), .lit (.int .u8 ((a3.Target.IP.getD 9 0))), .lit (.int .u8 ((a3.Target.IP.getD 10 0))), .lit (.int .u8 ((a3.Target.IP.getD 11 0))), .lit (.int .u8 ((a3.Target.IP.getD 12 0))), .lit (.int .u8 ((a3.Target.IP.getD 13 0))), .lit (.int .u8 ((a3.Target.IP.getD 14 0))), .lit (.int .u8 ((a3.Target.IP.getD 15 0))), .lit (.int .i64 (a3.Target.Bits)), .lit (.int .u64 (a2)), .lit (.int .u8 (a3.Sequence)), .lit (.int .i64 (if 1099511627776 < IntKind.wrap .i64 (a1 + a3.Lifetime) then 1099511627776 else IntKind.wrap .i64 (a1 + a3.Lifetime)))]) (S_Down.mk a3.Target a2 a3.Sequence (if 1099511627776 < IntKind.wrap .i64 (a1 + a3.Lifetime) then 1099511627776 else IntKind.wrap .i64 (a1 + a3.Lifetime))) he33 (by kernel_rfl) (by kernel_rfl) (by kernel_rfl) (by kernel_rfl) ?_
                    refine TS_go 8 ?_
                    refine TS_settle 85 (by kernel_rfl) ?_
                    refine TS_go 1 ?_
                    obtain rfl := Option.some.inj h
                    exact TS_ret (by kernel_rfl) (by kernel_rfl) (by kernel_rfl)
              · refine TS_know 74 (b := false) hb12 (by kernel_rfl) (by kernel_rfl) ?_
                refine TS_know 75 (b := false) hb12 (by kernel_rfl) (by kernel_rfl) ?_
                refine TS_go 9 ?_
                refine TS_F (by kernel_rfl) rfl ?_
                refine TS_go 4 ?_
                replace h := bindO h
                obtain ⟨l34, hl34, h⟩ := h
                refine TS_appNR 85 39 20 S_Down.cs (fun _ => by kernel_rfl) (l2 := a0) .whole hl34 (by kernel_rfl) (by kernel_rfl) ?_
                refine TS_go 9 ?_
                replace h := condO h
                rcases h with ⟨hb35, h⟩ | ⟨hb35, h⟩
                · refine TS_know 88 (b := true) hb35 (by kernel_rfl) (by kernel_rfl) ?_
                  refine TS_T (by kernel_rfl) rfl ?_
                  refine TS_go 6 ?_
                  replace h := condO h
                  rcases h with ⟨hb36, h⟩ | ⟨hb36, h⟩
                  · subst hb36
                    refine TS_F (by kernel_rfl) rfl ?_
                    refine TS_go 2 ?_
                    refine TS_draw (by kernel_rfl) ?_
                    refine TD_go 2 ?_
                    replace h := chkO h
                    obtain ⟨hc37, h⟩ := h
                    refine TD_slRow 85 20 (List.length l34) (a := 0) (b := v8.1) hc37 rfl (by kernel_rfl) (by kernel_rfl) ?_
                    refine TD_go 3 ?_
                    replace h := chkO h
                    obtain ⟨hc38, h⟩ := h
                    refine TD_slSub 85 20 (List.length l34) (a := IntKind.wrap .i64 (v8.1 + 1)) (b := (List.length l34 : Int)) hc38 (by kernel_rfl) (by kernel_rfl) ?_
                    replace h := chkO h
                    obtain ⟨hc39, h⟩ := h
                    refine TD_appP 85 39 20 48 (List.length l34) (Int.toNat v8.1) S_Down.cs (fun _ => by kernel_rfl) (l1 := l34) (l2 := l34) (.part (Int.toNat (IntKind.wrap .i64 (v8.1 + 1))) (Int.toNat (List.length l34 : Int) - Int.toNat (IntKind.wrap .i64 (v8.1 + 1)))) hc39 (by kernel_rfl) (by kernel_rfl) ?_
                    refine TD_go 3 ?_
                    refine TD_end (by kernel_rfl) ?_
                    refine TS_settle 85 (by kernel_rfl) ?_
                    refine TS_recast 94 (sz := 20) (N := (Int.toNat v8.1)) (xs := List.take (Int.toNat v8.1) (List.map S_Down.cs (List.take (Int.toNat v8.1) l34 ++ (Cut.app (.part (Int.toNat (IntKind.wrap .i64 (v8.1 + 1))) (Int.toNat (List.length l34 : Int) - Int.toNat (IntKind.wrap .i64 (v8.1 + 1)))) l34) ++ List.drop ((Int.toNat v8.1) + List.length (Cut.app (.part (Int.toNat (IntKind.wrap .i64 (v8.1 + 1))) (Int.toNat (List.length l34 : Int) - Int.toNat (IntKind.wrap .i64 (v8.1 + 1)))) l34)) l34))) (List.length (List.take (Int.toNat v8.1) (List.take (Int.toNat v8.1) l34 ++ (Cut.app (.part (Int.toNat (IntKind.wrap .i64 (v8.1 + 1))) (Int.toNat (List.length l34 : Int) - Int.toNat (IntKind.wrap .i64 (v8.1 + 1)))) l34) ++ List.drop ((Int.toNat v8.1) + List.length (Cut.app (.part (Int.toNat (IntKind.wrap .i64 (v8.1 + 1))) (Int.toNat (List.length l34 : Int) - Int.toNat (IntKind.wrap .i64 (v8.1 + 1)))) l34)) l34))) (List.map S_Down.cs (List.take (Int.toNat v8.1) (List.take (Int.toNat v8.1) l34 ++ (Cut.app (.part (Int.toNat (IntKind.wrap .i64 (v8.1 + 1))) (Int.toNat (List.length l34 : Int) - Int.toNat (IntKind.wrap .i64 (v8.1 + 1)))) l34) ++ List.drop ((Int.toNat v8.1) + List.length (Cut.app (.part (Int.toNat (IntKind.wrap .i64 (v8.1 + 1))) (Int.toNat (List.length l34 : Int) - Int.toNat (IntKind.wrap .i64 (v8.1 + 1)))) l34)) l34))) List.map_take.symm (List.length_map _) (by kernel_rfl) (by kernel_rfl) ?_
                    refine TS_recast 99 (sz := 20) (N := ((Int.toNat v8.1) + List.length (Cut.app (.part (Int.toNat (IntKind.wrap .i64 (v8.1 + 1))) (Int.toNat (List.length l34 : Int) - Int.toNat (IntKind.wrap .i64 (v8.1 + 1)))) l34))) (xs := List.take ((Int.toNat v8.1) + List.length (Cut.app (.part (Int.toNat (IntKind.wrap .i64 (v8.1 + 1))) (Int.toNat (List.length l34 : Int) - Int.toNat (IntKind.wrap .i64 (v8.1 + 1)))) l34)) (List.map S_Down.cs (List.take (Int.toNat v8.1) l34 ++ (Cut.app (.part (Int.toNat (IntKind.wrap .i64 (v8.1 + 1))) (Int.toNat (List.length l34 : Int) - Int.toNat (IntKind.wrap .i64 (v8.1 + 1)))) l34) ++ List.drop ((Int.toNat v8.1) + List.length (Cut.app (.part (Int.toNat (IntKind.wrap .i64 (v8.1 + 1))) (Int.toNat (List.length l34 : Int) - Int.toNat (IntKind.wrap .i64 (v8.1 + 1)))) l34)) l34))) (List.length (List.take ((Int.toNat v8.1) + List.length (Cut.app (.part (Int.toNat (IntKind.wrap .i64 (v8.1 + 1))) (Int.toNat (List.length l34 : Int) - Int.toNat (IntKind.wrap .i64 (v8.1 + 1)))) l34)) (List.take (Int.toNat v8.1) l34 ++ (Cut.app (.part (Int.toNat (IntKind.wrap .i64 (v8.1 + 1))) (Int.toNat (List.length l34 : Int) - Int.toNat (IntKind.wrap .i64 (v8.1 + 1)))) l34) ++ List.drop ((Int.toNat v8.1) + List.length (Cut.app (.part (Int.toNat (IntKind.wrap .i64 (v8.1 + 1))) (Int.toNat (List.length l34 : Int) - Int.toNat (IntKind.wrap .i64 (v8.1 + 1)))) l34)) l34))) (List.map S_Down.cs (List.take ((Int.toNat v8.1) + List.length (Cut.app (.part (Int.toNat (IntKind.wrap .i64 (v8.1 + 1))) (Int.toNat (List.length l34 : Int) - Int.toNat (IntKind.wrap .i64 (v8.1 + 1)))) l34)) (List.take (Int.toNat v8.1) l34 ++ (Cut.app (.part (Int.toNat (IntKind.wrap .i64 (v8.1 + 1))) (Int.toNat (List.length l34 : Int) - Int.toNat (IntKind.wrap .i64 (v8.1 + 1)))) l34) ++ List.drop ((Int.toNat v8.1) + List.length (Cut.app (.part (Int.toNat (IntKind.wrap .i64 (v8.1 + 1))) (Int.toNat (List.length l34 : Int) - Int.toNat (IntKind.wrap .i64 (v8.1 + 1)))) l34)) l34))) List.map_take.symm (List.length_map _) (by kernel_rfl) (by kernel_rfl) ?_
                    refine TS_recast 8 (sz := 20) (N := ((Int.toNat v8.1) + List.length (Cut.app (.part (Int.toNat (IntKind.wrap .i64 (v8.1 + 1))) (Int.toNat (List.length l34 : Int) - Int.toNat (IntKind.wrap .i64 (v8.1 + 1)))) l34))) (xs := List.take ((Int.toNat v8.1) + List.length (Cut.app (.part (Int.toNat (IntKind.wrap .i64 (v8.1 + 1))) (Int.toNat (List.length l34 : Int) - Int.toNat (IntKind.wrap .i64 (v8.1 + 1)))) l34)) (List.map S_Down.cs (List.take (Int.toNat v8.1) l34 ++ (Cut.app (.part (Int.toNat (IntKind.wrap .i64 (v8.1 + 1))) (Int.toNat (List.length l34 : Int) - Int.toNat (IntKind.wrap .i64 (v8.1 + 1)))) l34) ++ List.drop ((Int.toNat v8.1) + List.length (Cut.app (.part (Int.toNat (IntKind.wrap .i64 (v8.1 + 1))) (Int.toNat (List.length l34 : Int) - Int.toNat (IntKind.wrap .i64 (v8.1 + 1)))) l34)) l34))) (List.length (List.take ((Int.toNat v8.1) + List.length (Cut.app (.part (Int.toNat (IntKind.wrap .i64 (v8.1 + 1))) (Int.toNat (List.length l34 : Int) - Int.toNat (IntKind.wrap .i64 (v8.1 + 1)))) l34)) (List.take (Int.toNat v8.1) l34 ++ (Cut.app (.part (Int.toNat (IntKind.wrap .i64 (v8.1 + 1))) (Int.toNat (List.length l34 : Int) - Int.toNat (IntKind.wrap .i64 (v8.1 + 1)))) l34) ++ List.drop ((Int.toNat v8.1) + List.length (Cut.app (.part (Int.toNat (IntKind.wrap .i64 (v8.1 + 1))) (Int.toNat (List.length l34 : Int) - Int.toNat (IntKind.wrap .i64 (v8.1 + 1)))) l34)) l34))) (List.map S_Down.cs (List.take ((Int.toNat v8.1) + List.length (Cut.app (.part (Int.toNat (IntKind.wrap .i64 (v8.1 + 1))) (Int.toNat (List.length l34 : Int) - Int.toNat (IntKind.wrap .i64 (v8.1 + 1)))) l34)) (List.take (Int.toNat v8.1) l34 ++ (Cut.app (.part (Int.toNat (IntKind.wrap .i64 (v8.1 + 1))) (Int.toNat (List.length l34 : Int) - Int.toNat (IntKind.wrap .i64 (v8.1 + 1)))) l34) ++ List.drop ((Int.toNat v8.1) + List.length (Cut.app (.part (Int.toNat (IntKind.wrap .i64 (v8.1 + 1))) (Int.toNat (List.length l34 : Int) - Int.toNat (IntKind.wrap .i64 (v8.1 + 1)))) l34)) l34))) List.map_take.symm (List.length_map _) (by kernel_rfl) (by kernel_rfl) ?_
                    refine TS_go 2 ?_
                    obtain rfl := Option.some.inj h
                    exact TS_ret (by kernel_rfl) (by kernel_rfl) (by kernel_rfl)
                  · subst hb36
                    refine TS_T (by kernel_rfl) rfl ?_
                    refine TS_go 7 ?_
                    refine TS_settle 85 (by kernel_rfl) ?_
                    refine TS_go 3 ?_
                    obtain rfl := Option.some.inj h
                    exact TS_ret (by kernel_rfl) (by kernel_rfl) (by kernel_rfl)
                · refine TS_know 88 (b := false) hb35 (by kernel_rfl) (by kernel_rfl) ?_
                  refine TS_F (by kernel_rfl) rfl ?_
                  refine TS_go 23 ?_
                  refine TS_F (by kernel_rfl) rfl ?_
                  refine TS_go 3 ?_
                  refine TS_draw (by kernel_rfl) ?_
                  refine TD_go 2 ?_
                  replace h := condO h
                  rcases h with ⟨hb40, h⟩ | ⟨hb40, h⟩
                  · subst hb40
                    refine TD_go 2 ?_
                    replace h := bindO h
                    obtain ⟨e41, he41, h⟩ := h
                    refine TD_idx S_Down.cs he41 (by kernel_rfl) (by kernel_rfl) ?_
                    refine TD_go 5 ?_
                    replace h := condO h
                    rcases h with ⟨hb42, h⟩ | ⟨hb42, h⟩
                    · refine TD_know 140 (b := true) hb42 trivial (by kernel_rfl) (by kernel_rfl) ?_
                      refine TD_go 2 ?_
                      replace h := bindO h
                      obtain ⟨e43, he43, h⟩ := h
                      refine TD_idx S_Down.cs he43 (by kernel_rfl) (by kernel_rfl) ?_
                      refine TD_go 6 ?_
                      replace h := condO h
                      rcases h with ⟨hb44, h⟩ | ⟨hb44, h⟩
                      · refine TD_know 150 (b := true) hb44 trivial (by kernel_rfl) (by kernel_rfl) ?_
                        refine TD_go 2 ?_
                        replace h := bindO h
                        obtain ⟨e45, he45, h⟩ := h
                        refine TD_idx S_Down.cs he45 (by kernel_rfl) (by kernel_rfl) ?_
                        refine TD_go 6 ?_
                        refine TD_end (by kernel_rfl) ?_
                        replace h := condO h
                        rcases h with ⟨hb46, h⟩ | ⟨hb46, h⟩
                        · refine TS_know 138 (b := true) hb42 (by kernel_rfl) (by kernel_rfl) ?_
                          refine TS_know 139 (b := true) hb42 (by kernel_rfl) (by kernel_rfl) ?_
                          refine TS_know 148 (b := true) hb44 (by kernel_rfl) (by kernel_rfl) ?_
                          refine TS_know 149 (b := true) hb44 (by kernel_rfl) (by kernel_rfl) ?_
                          refine TS_know 158 (b := true) hb46 (by kernel_rfl) (by kernel_rfl) ?_
                          refine TS_know 159 (b := true) hb46 (by kernel_rfl) (by kernel_rfl) ?_
                          refine TS_T (by kernel_rfl) rfl ?_
                          refine TS_go 7 ?_
                          refine TS_settle 85 (by kernel_rfl) ?_
                          refine TS_go 2 ?_
                          obtain rfl := Option.some.inj h
                          exact TS_ret (by kernel_rfl) (by kernel_rfl) (by kernel_rfl)
                        · refine TS_know 138 (b := true) hb42 (by kernel_rfl) (by kernel_rfl) ?_
                          refine TS_know 139 (b := true) hb42 (by kernel_rfl) (by kernel_rfl) ?_
                          refine TS_know 148 (b := true) hb44 (by kernel_rfl) (by kernel_rfl) ?_
                          refine TS_know 149 (b := true) hb44 (by kernel_rfl) (by kernel_rfl) ?_
                          refine TS_know 158 (b := false) hb46 (by kernel_rfl) (by kernel_rfl) ?_
                          refine TS_know 159 (b := false) hb46 (by kernel_rfl) (by kernel_rfl) ?_
                          refine TS_F (by kernel_rfl) rfl ?_
                          refine TS_go 6 ?_
                          replace h := bindO h
                          obtain ⟨e47, he47, h⟩ := h
                          refine TS_idxR 85 20 0 S_Down.cs .whole he47 (by kernel_rfl) (by kernel_rfl) ?_
                          replace h := bindO h
                          obtain ⟨e48, he48, h⟩ := h
                          refine TS_stE 85 39 20 (List.length l34) (0 + Int.toNat v8.1) 0 S_Down.cs (ds := [.lit (.int .u8 ((a3.Target.IP.getD 0 0))), .lit (.int .u8 ((a3.Target.IP.getD 1 0))), .lit (.int .u8 ((a3.Target.IP.getD 2 0))), .lit (.int .u8 ((a3.Target.IP.getD 3 0))), .lit (.int .u8 ((a3.Target.IP.getD 4 0))), .lit (.int .u8 ((a3.Target.IP.getD 5 0))), .lit (.int .u8 ((a3.Target.IP.getD 6 0))), .lit (.int .u8 ((a3.Target.IP.getD 7 0))), .lit (.int .u8 ((a3.Target.IP.getD 8 0))), .lit (.int .u8 ((a3.Target.IP.getD 9 0))), .lit (.int .u8 ((a3.Target.IP.getD 10 0))), .lit (.int .u8 ((a3.Target.IP.getD 11 0))), .lit (.int .u8 ((a3.Target.IP.getD 12 0))), .lit (.int .u8 ((a3.Target.IP.getD 13 0))), .lit (.int .u8 ((a3.Target.IP.getD 14 0))), .lit (.int .u8 ((a3.Target.IP.getD 15 0))), .lit (.int .i64 (a3.Target.Bits)), .lit (.int .u64 (a2)), .lit (.int .u8 (a3.Sequence)), .lit (.int .i64 (if 1099511627776 < IntKind.wrap .i64 (a1 + a3.Lifetime) then 1099511627776 else IntKind.wrap .i64 (a1 + a3.Lifetime)))]) (S_Down.mk a3.Target a2 a3.Sequence (if 1099511627776 < IntKind.wrap .i64 (a1 + a3.Lifetime) then 1099511627776 else IntKind.wrap .i64 (a1 + a3.Lifetime))) he48 (by kernel_rfl) (by kernel_rfl) (by kernel_rfl) (by kernel_rfl) ?_
                          refine TS_go 8 ?_
                          refine TS_settle 85 (by kernel_rfl) ?_
                          refine TS_go 1 ?_
                          obtain rfl := Option.some.inj h
                          exact TS_ret (by kernel_rfl) (by kernel_rfl) (by kernel_rfl)
                      · refine TD_know 150 (b := false) hb44 trivial (by kernel_rfl) (by kernel_rfl) ?_
                        refine TD_go 9 ?_
                        refine TD_end (by kernel_rfl) ?_
                        refine TS_F (by kernel_rfl) rfl ?_
                        refine TS_go 6 ?_
                        replace h := bindO h
                        obtain ⟨e49, he49, h⟩ := h
                        refine TS_idxR 85 20 0 S_Down.cs .whole he49 (by kernel_rfl) (by kernel_rfl) ?_
                        replace h := bindO h
                        obtain ⟨e50, he50, h⟩ := h
                        refine TS_stE 85 39 20 (List.length l34) (0 + Int.toNat v8.1) 0 S_Down.cs (ds := [.lit (.int .u8 ((a3.Target.IP.getD 0 0))), .lit (.int .u8 ((a3.Target.IP.getD 1 0))), .lit (.int .u8 ((a3.Target.IP.getD 2 0))), .lit (.int .u8 ((a3.Target.IP.getD 3 0))), .lit (.int .u8 ((a3.Target.IP.getD 4 0))), .lit (.int .u8 ((a3.Target.IP.getD 5 0))), .lit (.int .u8 ((a3.Target.IP.getD 6 0))), .lit (.int .u8 ((a3.Target.IP.getD 7 0))), .lit (.int .u8 ((a3.Target.IP.getD 8 0))), .lit (.int .u8 ((a3.Target.IP.getD 9 0))), .lit (.int .u8 ((a3.Target.IP.getD 10 0))), .lit (.int .u8 ((a3.Target.IP.getD 11 0))), .lit (.int .u8 ((a3.Target.IP.getD 12 0))), .lit (.int .u8 ((a3.Target.IP.getD 13 0))), .lit (.int .u8 ((a3.Target.IP.getD 14 0))), .lit (.int .u8 ((a3.Target.IP.getD 15 0))), .lit (.int .i64 (a3.Target.Bits)), .lit (.int .u64 (a2)), .lit (.int .u8 (a3.Sequence)), .lit (.int .i64 (if 1099511627776 < IntKind.wrap .i64 (a1 + a3.Lifetime) then 1099511627776 else IntKind.wrap .i64 (a1 + a3.Lifetime)))]) (S_Down.mk a3.Target a2 a3.Sequence (if 1099511627776 < IntKind.wrap .i64 (a1 + a3.Lifetime) then 1099511627776 else IntKind.wrap .i64 (a1 + a3.Lifetime))) he50 (by kernel_rfl) (by kernel_rfl) (by kernel_rfl) (by kernel_rfl) ?_
                        refine TS_go 8 ?_
                        refine TS_settle 85 (by kernel_rfl) ?_
                        refine TS_go 1 ?_
                        obtain rfl := Option.some.inj h
                        exact TS_ret (by kernel_rfl) (by kernel_rfl) (by kernel_rfl)
                    · refine TD_know 140 (b := false) hb42 trivial (by kernel_rfl) (by kernel_rfl) ?_
                      refine TD_go 19 ?_
                      refine TD_end (by kernel_rfl) ?_
                      refine TS_F (by kernel_rfl) rfl ?_
                      refine TS_go 6 ?_
                      replace h := bindO h
                      obtain ⟨e51, he51, h⟩ := h
                      refine TS_idxR 85 20 0 S_Down.cs .whole he51 (by kernel_rfl) (by kernel_rfl) ?_
                      replace h := bindO h
                      obtain ⟨e52, he52, h⟩ := h
                      refine TS_stE 85 39 20 (List.length l34) (0 + Int.toNat v8.1) 0 S_Down.cs (ds := [.lit (.int .u8 ((a3.Target.IP.getD 0 0))), .lit (.int .u8 ((a3.Target.IP.getD 1 0))), .lit (.int .u8 ((a3.Target.IP.getD 2 0))), .lit (.int .u8 ((a3.Target.IP.getD 3 0))), .lit (.int .u8 ((a3.Target.IP.getD 4 0))), .lit (.int .u8 ((a3.Target.IP.getD 5 0))), .lit (.int .u8 ((a3.Target.IP.getD 6 0))), .lit (.int .u8 ((a3.Target.IP.getD 7 0))), .lit (.int .u8 ((a3.Target.IP.getD 8 0))), .lit (.int .u8 ((a3.Target.IP.getD 9 0))), .lit (.int .u8 ((a3.Target.IP.getD 10 0))), .lit (.int .u8 ((a3.Target.IP.getD 11 0))), .lit (.int .u8 ((a3.Target.IP.getD 12 0))), .lit (.int .u8 ((a3.Target.IP.getD 13 0))), .lit (.int .u8 ((a3.Target.IP.getD 14 0))), .lit (.int .u8 ((a3.Target.IP.getD 15 0))), .lit (.int .i64 (a3.Target.Bits)), .lit (.int .u64 (a2)), .lit (.int .u8 (a3.Sequence)), .lit (.int .i64 (if 1099511627776 < IntKind.wrap .i64 (a1 + a3.Lifetime) then 1099511627776 else IntKind.wrap .i64 (a1 + a3.Lifetime)))]) (S_Down.mk a3.Target a2 a3.Sequence (if 1099511627776 < IntKind.wrap .i64 (a1 + a3.Lifetime) then 1099511627776 else IntKind.wrap .i64 (a1 + a3.Lifetime))) he52 (by kernel_rfl) (by kernel_rfl) (by kernel_rfl) (by kernel_rfl) ?_
                      refine TS_go 8 ?_
                      refine TS_settle 85 (by kernel_rfl) ?_
                      refine TS_go 1 ?_
                      obtain rfl := Option.some.inj h
                      exact TS_ret (by kernel_rfl) (by kernel_rfl) (by kernel_rfl)
                  · subst hb40
                    refine TD_go 28 ?_
                    refine TD_end (by kernel_rfl) ?_
                    refine TS_F (by kernel_rfl) rfl ?_
                    refine TS_go 6 ?_
                    replace h := bindO h
                    obtain ⟨e53, he53, h⟩ := h
                    refine TS_idxR 85 20 0 S_Down.cs .whole he53 (by kernel_rfl) (by kernel_rfl) ?_
                    replace h := bindO h
                    obtain ⟨e54, he54, h⟩ := h
                    refine TS_stE 85 39 20 (List.length l34) (0 + Int.toNat v8.1) 0 S_Down.cs (ds := [.lit (.int .u8 ((a3.Target.IP.getD 0 0))), .lit (.int .u8 ((a3.Target.IP.getD 1 0))), .lit (.int .u8 ((a3.Target.IP.getD 2 0))), .lit (.int .u8 ((a3.Target.IP.getD 3 0))), .lit (.int .u8 ((a3.Target.IP.getD 4 0))), .lit (.int .u8 ((a3.Target.IP.getD 5 0))), .lit (.int .u8 ((a3.Target.IP.getD 6 0))), .lit (.int .u8 ((a3.Target.IP.getD 7 0))), .lit (.int .u8 ((a3.Target.IP.getD 8 0))), .lit (.int .u8 ((a3.Target.IP.getD 9 0))), .lit (.int .u8 ((a3.Target.IP.getD 10 0))), .lit (.int .u8 ((a3.Target.IP.getD 11 0))), .lit (.int .u8 ((a3.Target.IP.getD 12 0))), .lit (.int .u8 ((a3.Target.IP.getD 13 0))), .lit (.int .u8 ((a3.Target.IP.getD 14 0))), .lit (.int .u8 ((a3.Target.IP.getD 15 0))), .lit (.int .i64 (a3.Target.Bits)), .lit (.int .u64 (a2)), .lit (.int .u8 (a3.Sequence)), .lit (.int .i64 (if 1099511627776 < IntKind.wrap .i64 (a1 + a3.Lifetime) then 1099511627776 else IntKind.wrap .i64 (a1 + a3.Lifetime)))]) (S_Down.mk a3.Target a2 a3.Sequence (if 1099511627776 < IntKind.wrap .i64 (a1 + a3.Lifetime) then 1099511627776 else IntKind.wrap .i64 (a1 + a3.Lifetime))) he54 (by kernel_rfl) (by kernel_rfl) (by kernel_rfl) (by kernel_rfl) ?_
                    refine TS_go 8 ?_
                    refine TS_settle 85 (by kernel_rfl) ?_
                    refine TS_go 1 ?_
                    obtain rfl := Option.some.inj h
                    exact TS_ret (by kernel_rfl) (by kernel_rfl) (by kernel_rfl)
            · refine TS_go 4 ?_
              replace h := condO h
              rcases h with ⟨hb55, h⟩ | ⟨hb55, h⟩
              · refine TS_know 13 (b := true) hb55 (by kernel_rfl) (by kernel_rfl) ?_
                refine TS_know 49 (b := true) hb55 (by kernel_rfl) (by kernel_rfl) ?_
                refine TS_T (by kernel_rfl) rfl ?_
                refine TS_go 4 ?_
                replace h := bindO h
                obtain ⟨e56, he56, h⟩ := h
                refine TS_idx S_Down.cs he56 (by kernel_rfl) (by kernel_rfl) ?_
                refine TS_go 10 ?_
                replace h := bindO h
                obtain ⟨v57, hv57, h⟩ := h
                refine TS_call [] (ok_registration_Newer e56.Sequence a3.Sequence v57 hv57) (by kernel_rfl) (by kernel_rfl) ?_
                refine TS_go 1 ?_
                replace h := condO h
                rcases h with ⟨hb58, h⟩ | ⟨hb58, h⟩
                · subst hb58
                  refine TS_go 13 ?_
                  refine TS_T (by kernel_rfl) rfl ?_
                  refine TS_go 7 ?_
                  refine TS_outJ (by kernel_rfl) ?_
                  obtain rfl := Option.some.inj h
                  exact TS_ret (by kernel_rfl) (by kernel_rfl) (by kernel_rfl)
                · subst hb58
                  refine TS_go 6 ?_
                  replace h := condO h
                  rcases h with ⟨hb59, h⟩ | ⟨hb59, h⟩
                  · refine TS_know 64 (b := true) hb59 (by kernel_rfl) (by kernel_rfl) ?_
                    refine TS_know 65 (b := true) hb59 (by kernel_rfl) (by kernel_rfl) ?_
                    refine TS_go 7 ?_
                    replace h := condO h
                    rcases h with ⟨hb60, h⟩ | ⟨hb60, h⟩
                    · refine TS_know 69 (b := true) hb60 (by kernel_rfl) (by kernel_rfl) ?_
                      refine TS_know 70 (b := true) hb60 (by kernel_rfl) (by kernel_rfl) ?_
                      refine TS_know 71 (b := true) hb60 (by kernel_rfl) (by kernel_rfl) ?_
                      refine TS_T (by kernel_rfl) rfl ?_
                      refine TS_go 7 ?_
                      refine TS_outJ (by kernel_rfl) ?_
                      obtain rfl := Option.some.inj h
                      exact TS_ret (by kernel_rfl) (by kernel_rfl) (by kernel_rfl)
                    · refine TS_know 69 (b := false) hb60 (by kernel_rfl) (by kernel_rfl) ?_
                      refine TS_know 70 (b := false) hb60 (by kernel_rfl) (by kernel_rfl) ?_
                      refine TS_know 71 (b := false) hb60 (by kernel_rfl) (by kernel_rfl) ?_
                      refine TS_F (by kernel_rfl) rfl ?_
                      refine TS_go 1 ?_
                      exact TS_meet true ⟨[(0, []), (1, []), (2, []), (7, []), (11, []), (12, []), (13, [])], [(7, (7, []))]⟩ h (by kernel_rfl) (by kernel_rfl)
                  · refine TS_know 64 (b := false) hb59 (by kernel_rfl) (by kernel_rfl) ?_
                    refine TS_know 65 (b := false) hb59 (by kernel_rfl) (by kernel_rfl) ?_
                    refine TS_go 7 ?_
                    refine TS_F (by kernel_rfl) rfl ?_
                    refine TS_go 1 ?_
                    exact TS_meet true ⟨[(0, []), (1, []), (2, []), (7, []), (11, []), (12, []), (13, [])], [(7, (7, []))]⟩ h (by kernel_rfl) (by kernel_rfl)
              · refine TS_know 13 (b := false) hb55 (by kernel_rfl) (by kernel_rfl) ?_
                refine TS_know 49 (b := false) hb55 (by kernel_rfl) (by kernel_rfl) ?_
                refine TS_F (by kernel_rfl) rfl ?_
                refine TS_go 1 ?_
                exact TS_meet false ⟨[(0, []), (1, []), (2, []), (7, []), (11, []), (12, []), (13, [])], [(7, (7, []))]⟩ h (by kernel_rfl) (by kernel_rfl)
          · refine TS_know 38 (b := false) hb9 (by kernel_rfl) (by kernel_rfl) ?_
            refine TS_know 12 (b := false) hb9 (by kernel_rfl) (by kernel_rfl) ?_
            refine TS_know 39 (b := false) hb9 (by kernel_rfl) (by kernel_rfl) ?_
            refine TS_know 40 (b := false) hb9 (by kernel_rfl) (by kernel_rfl) ?_
            refine TS_go 15 ?_
            refine TS_F (by kernel_rfl) rfl ?_
            refine TS_go 8 ?_
            replace h := condO h
            rcases h with ⟨hb61, h⟩ | ⟨hb61, h⟩
            · refine TS_know 74 (b := true) hb61 (by kernel_rfl) (by kernel_rfl) ?_
              refine TS_know 75 (b := true) hb61 (by kernel_rfl) (by kernel_rfl) ?_
              refine TS_go 9 ?_
              replace h := condO h
              rcases h with ⟨hb62, h⟩ | ⟨hb62, h⟩
              · refine TS_know 82 (b := true) hb62 (by kernel_rfl) (by kernel_rfl) ?_
                refine TS_know 83 (b := true) hb62 (by kernel_rfl) (by kernel_rfl) ?_
                refine TS_T (by kernel_rfl) rfl ?_
                refine TS_go 8 ?_
                obtain rfl := Option.some.inj h
                exact TS_ret (by kernel_rfl) (by kernel_rfl) (by kernel_rfl)
              · refine TS_know 82 (b := false) hb62 (by kernel_rfl) (by kernel_rfl) ?_
                refine TS_know 83 (b := false) hb62 (by kernel_rfl) (by kernel_rfl) ?_
                refine TS_F (by kernel_rfl) rfl ?_
                refine TS_go 4 ?_
                replace h := bindO h
                obtain ⟨l63, hl63, h⟩ := h
                refine TS_appNR 85 39 20 S_Down.cs (fun _ => by kernel_rfl) (l2 := a0) .whole hl63 (by kernel_rfl) (by kernel_rfl) ?_
                refine TS_go 9 ?_
                replace h := condO h
                rcases h with ⟨hb64, h⟩ | ⟨hb64, h⟩
                · refine TS_know 88 (b := true) hb64 (by kernel_rfl) (by kernel_rfl) ?_
                  refine TS_T (by kernel_rfl) rfl ?_
                  refine TS_go 6 ?_
                  refine TS_T (by kernel_rfl) rfl ?_
                  refine TS_go 7 ?_
                  refine TS_settle 85 (by kernel_rfl) ?_
                  refine TS_go 3 ?_
                  obtain rfl := Option.some.inj h
                  exact TS_ret (by kernel_rfl) (by kernel_rfl) (by kernel_rfl)
                · refine TS_know 88 (b := false) hb64 (by kernel_rfl) (by kernel_rfl) ?_
                  refine TS_F (by kernel_rfl) rfl ?_
                  refine TS_go 23 ?_
                  refine TS_T (by kernel_rfl) rfl ?_
                  refine TS_go 4 ?_
                  refine TS_litNT 115 39 20 S_Down.cs [] ([(S_Down.mk (S_Prefix.mk [0, 0, 0, 0, 0, 0, 0, 0, 0, 0, 0, 0, 0, 0, 0, 0] 0) 0 0 0)] : List S_Down) (by kernel_rfl) (by kernel_rfl) ?_
                  replace h := bindO h
                  obtain ⟨l65, hl65, h⟩ := h
                  refine TS_appR (d := 85) (e := 39) (sz := 20) (N := List.length l63) (m := (List.length l63)) S_Down.cs (fun _ => by kernel_rfl) (l1 := l63) (l2 := ([(S_Down.mk (S_Prefix.mk [0, 0, 0, 0, 0, 0, 0, 0, 0, 0, 0, 0, 0, 0, 0, 0] 0) 0 0 0)] : List S_Down)) (c := .whole) hl65 (by kernel_rfl) (by kernel_rfl) ?_
                  refine TS_go 3 ?_
                  refine TS_draw (by kernel_rfl) ?_
                  refine TD_go 3 ?_
                  replace h := chkO h
                  obtain ⟨hc66, h⟩ := h
                  refine TD_slSub 85 20 (List.length l65) (a := IntKind.wrap .i64 (v8.1 + 1)) (b := (List.length l65 : Int)) hc66 (by kernel_rfl) (by kernel_rfl) ?_
                  refine TD_go 2 ?_
                  replace h := chkO h
                  obtain ⟨hc67, h⟩ := h
                  refine TD_slSub 85 20 (List.length l65) (a := v8.1) (b := (List.length l65 : Int)) hc67 (by kernel_rfl) (by kernel_rfl) ?_
                  refine TD_cpR 85 39 20 (List.length l65) (Int.toNat (IntKind.wrap .i64 (v8.1 + 1))) S_Down.cs (fun _ => by kernel_rfl) (l := l65) (l2 := l65) (.part (Int.toNat (IntKind.wrap .i64 (v8.1 + 1))) (Int.toNat (List.length l65 : Int) - Int.toNat (IntKind.wrap .i64 (v8.1 + 1)))) (.part (Int.toNat v8.1) (Int.toNat (List.length l65 : Int) - Int.toNat v8.1)) (by kernel_rfl) (by kernel_rfl) ?_
                  refine TD_end (by kernel_rfl) ?_
                  refine TS_go 5 ?_
                  replace h := bindO h
                  obtain ⟨e68, he68, h⟩ := h
                  refine TS_idxR 85 20 0 S_Down.cs .whole he68 (by kernel_rfl) (by kernel_rfl) ?_
                  replace h := bindO h
                  obtain ⟨e69, he69, h⟩ := h
                  refine TS_stE 85 39 20 (List.length (cpL l65 (Int.toNat (IntKind.wrap .i64 (v8.1 + 1))) (List.length (Cut.app (.part (Int.toNat (IntKind.wrap .i64 (v8.1 + 1))) (Int.toNat (List.length l65 : Int) - Int.toNat (IntKind.wrap .i64 (v8.1 + 1)))) l65)) (Cut.app (.part (Int.toNat v8.1) (Int.toNat (List.length l65 : Int) - Int.toNat v8.1)) l65))) (0 + Int.toNat v8.1) 0 S_Down.cs (ds := [.lit (.int .u8 ((a3.Target.IP.getD 0 0))), .lit (.int .u8 ((a3.Target.IP.getD 1 0))), .lit (.int .u8 ((a3.Target.IP.getD 2 0))), .lit (.int .u8 ((a3.Target.IP.getD 3 0))), .lit (.int .u8 ((a3.Target.IP.getD 4 0))), .lit (.int .u8 ((a3.Target.IP.getD 5 0))), .lit (.int .u8 ((a3.Target.IP.getD 6 0))), .lit (.int .u8 ((a3.Target.IP.getD 7 0))), .lit (.int .u8 ((a3.Target.IP.getD 8 0))), .lit (.int .u8 ((a3.Target.IP.getD 9 0))), .lit (.int .u8 ((a3.Target.IP.getD 10 0))), .lit (.int .u8 ((a3.Target.IP.getD 11 0))), .lit (.int .u8 ((a3.Target.IP.getD 12 0))), .lit (.int .u8 ((a3.Target.IP.getD 13 0))), .lit (.int .u8 ((a3.Target.IP.getD 14 0))), .lit (.int .u8 ((a3.Target.IP.getD 15 0))), .lit (.int .i64 (a3.Target.Bits)), .lit (.int .u64 (a2)), .lit (.int .u8 (a3.Sequence)), .lit (.int .i64 (if 1099511627776 < IntKind.wrap .i64 (a1 + a3.Lifetime) then 1099511627776 else IntKind.wrap .i64 (a1 + a3.Lifetime)))]) (S_Down.mk a3.Target a2 a3.Sequence (if 1099511627776 < IntKind.wrap .i64 (a1 + a3.Lifetime) then 1099511627776 else IntKind.wrap .i64 (a1 + a3.Lifetime))) he69 (by kernel_rfl) (by kernel_rfl) (by kernel_rfl) (by kernel_rfl) ?_
                  refine TS_go 8 ?_
                  refine TS_settle 85 (by kernel_rfl) ?_
                  refine TS_go 2 ?_
                  obtain rfl := Option.some.inj h
                  exact TS_ret (by kernel_rfl) (by kernel_rfl) (by kernel_rfl)
            · refine TS_know 74 (b := false) hb61 (by kernel_rfl) (by kernel_rfl) ?_
              refine TS_know 75 (b := false) hb61 (by kernel_rfl) (by kernel_rfl) ?_
              refine TS_go 9 ?_
              refine TS_F (by kernel_rfl) rfl ?_
              refine TS_go 4 ?_
              replace h := bindO h
              obtain ⟨l70, hl70, h⟩ := h
              refine TS_appNR 85 39 20 S_Down.cs (fun _ => by kernel_rfl) (l2 := a0) .whole hl70 (by kernel_rfl) (by kernel_rfl) ?_
              refine TS_go 9 ?_
              replace h := condO h
              rcases h with ⟨hb71, h⟩ | ⟨hb71, h⟩
              · refine TS_know 88 (b := true) hb71 (by kernel_rfl) (by kernel_rfl) ?_
                refine TS_T (by kernel_rfl) rfl ?_
                refine TS_go 6 ?_
                refine TS_T (by kernel_rfl) rfl ?_
                refine TS_go 7 ?_
                refine TS_settle 85 (by kernel_rfl) ?_
                refine TS_go 3 ?_
                obtain rfl := Option.some.inj h
                exact TS_ret (by kernel_rfl) (by kernel_rfl) (by kernel_rfl)
              · refine TS_know 88 (b := false) hb71 (by kernel_rfl) (by kernel_rfl) ?_
                refine TS_F (by kernel_rfl) rfl ?_
                refine TS_go 23 ?_
                refine TS_T (by kernel_rfl) rfl ?_
                refine TS_go 4 ?_
                refine TS_litNT 115 39 20 S_Down.cs [] ([(S_Down.mk (S_Prefix.mk [0, 0, 0, 0, 0, 0, 0, 0, 0, 0, 0, 0, 0, 0, 0, 0] 0) 0 0 0)] : List S_Down) (by kernel_rfl) (by kernel_rfl) ?_
                replace h := bindO h
                obtain ⟨l72, hl72, h⟩ := h
                refine TS_appR (d := 85) (e := 39) (sz := 20) (N := List.length l70) (m := (List.length l70)) S_Down.cs (fun _ => by kernel_rfl) (l1 := l70) (l2 := ([(S_Down.mk (S_Prefix.mk [0, 0, 0, 0, 0, 0, 0, 0, 0, 0, 0, 0, 0, 0, 0, 0] 0) 0 0 0)] : List S_Down)) (c := .whole) hl72 (by kernel_rfl) (by kernel_rfl) ?_
                refine TS_go 3 ?_
                refine TS_draw (by kernel_rfl) ?_
                refine TD_go 3 ?_
                replace h := chkO h
                obtain ⟨hc73, h⟩ := h
                refine TD_slSub 85 20 (List.length l72) (a := IntKind.wrap .i64 (v8.1 + 1)) (b := (List.length l72 : Int)) hc73 (by kernel_rfl) (by kernel_rfl) ?_
                refine TD_go 2 ?_
                replace h := chkO h
                obtain ⟨hc74, h⟩ := h
                refine TD_slSub 85 20 (List.length l72) (a := v8.1) (b := (List.length l72 : Int)) hc74 (by kernel_rfl) (by kernel_rfl) ?_
                refine TD_cpR 85 39 20 (List.length l72) (Int.toNat (IntKind.wrap .i64 (v8.1 + 1))) S_Down.cs (fun _ => by kernel_rfl) (l := l72) (l2 := l72) (.part (Int.toNat (IntKind.wrap .i64 (v8.1 + 1))) (Int.toNat (List.length l72 : Int) - Int.toNat (IntKind.wrap .i64 (v8.1 + 1)))) (.part (Int.toNat v8.1) (Int.toNat (List.length l72 : Int) - Int.toNat v8.1)) (by kernel_rfl) (by kernel_rfl) ?_
                refine TD_end (by kernel_rfl) ?_
                refine TS_go 5 ?_
                replace h := bindO h
                obtain ⟨e75, he75, h⟩ := h
                refine TS_idxR 85 20 0 S_Down.cs .whole he75 (by kernel_rfl) (by kernel_rfl) ?_
                replace h := bindO h
                obtain ⟨e76, he76, h⟩ := h
                refine TS_stE 85 39 20 (List.length (cpL l72 (Int.toNat (IntKind.wrap .i64 (v8.1 + 1))) (List.length (Cut.app (.part (Int.toNat (IntKind.wrap .i64 (v8.1 + 1))) (Int.toNat (List.length l72 : Int) - Int.toNat (IntKind.wrap .i64 (v8.1 + 1)))) l72)) (Cut.app (.part (Int.toNat v8.1) (Int.toNat (List.length l72 : Int) - Int.toNat v8.1)) l72))) (0 + Int.toNat v8.1) 0 S_Down.cs (ds := [.lit (.int .u8 ((a3.Target.IP.getD 0 0))), .lit (.int .u8 ((a3.Target.IP.getD 1 0))), .lit (.int .u8 ((a3.Target.IP.getD 2 0))), .lit (.int .u8 ((a3.Target.IP.getD 3 0))), .lit (.int .u8 ((a3.Target.IP.getD 4 0))), .lit (.int .u8 ((a3.Target.IP.getD 5 0))), .lit (.int .u8 ((a3.Target.IP.getD 6 0))), .lit (.int .u8 ((a3.Target.IP.getD 7 0))), .lit (.int .u8 ((a3.Target.IP.getD 8 0))), .lit (.int .u8 ((a3.Target.IP.getD 9 0))), .lit (.int .u8 ((a3.Target.IP.getD 10 0))), .lit (.int .u8 ((a3.Target.IP.getD 11 0))), .lit (.int .u8 ((a3.Target.IP.getD 12 0))), .lit (.int .u8 ((a3.Target.IP.getD 13 0))), .lit (.int .u8 ((a3.Target.IP.getD 14 0))), .lit (.int .u8 ((a3.Target.IP.getD 15 0))), .lit (.int .i64 (a3.Target.Bits)), .lit (.int .u64 (a2)), .lit (.int .u8 (a3.Sequence)), .lit (.int .i64 (if 1099511627776 < IntKind.wrap .i64 (a1 + a3.Lifetime) then 1099511627776 else IntKind.wrap .i64 (a1 + a3.Lifetime)))]) (S_Down.mk a3.Target a2 a3.Sequence (if 1099511627776 < IntKind.wrap .i64 (a1 + a3.Lifetime) then 1099511627776 else IntKind.wrap .i64 (a1 + a3.Lifetime))) he76 (by kernel_rfl) (by kernel_rfl) (by kernel_rfl) (by kernel_rfl) ?_
                refine TS_go 8 ?_
                refine TS_settle 85 (by kernel_rfl) ?_
                refine TS_go 2 ?_
                obtain rfl := Option.some.inj h
                exact TS_ret (by kernel_rfl) (by kernel_rfl) (by kernel_rfl)
        · subst hb7
          refine TS_T (by kernel_rfl) rfl ?_
          refine TS_go 8 ?_
          obtain rfl := Option.some.inj h
          exact TS_ret (by kernel_rfl) (by kernel_rfl) (by kernel_rfl)
    · subst hb4
      refine TS_go 4 ?_
      refine TS_T (by kernel_rfl) rfl ?_
      refine TS_go 8 ?_
      obtain rfl := Option.some.inj h
      exact TS_ret (by kernel_rfl) (by kernel_rfl) (by kernel_rfl)
  · subst hb2
    refine TS_go 9 ?_
    refine TS_T (by kernel_rfl) rfl ?_
    refine TS_go 8 ?_
    obtain rfl := Option.some.inj h
    exact TS_ret (by kernel_rfl) (by kernel_rfl) (by kernel_rfl)

end Go.Proofs.Ytonlajdaaljncaa
