/-
  Written by cc3.py: what the Go functions compute, as plain functions, and that they do.
-/
import Derived.Test.YtonlajdaaljncaaCe3
namespace Go.Proofs.Ytonlajdaaljncaa
open Go.RowKit
attribute [local irreducible] TS go TD goD

/-- multihop/storing.Expire -/
noncomputable def F_storing_Expire_j2 (s5 : (List S_Down) × Int) (v9 : (List S_Down)) : Option (((List S_Down) × Int) ⊕ ((List S_Down))) :=
  some (Sum.inl (v9, IntKind.wrap .i64 (s5.2 + 1)))
noncomputable def F_storing_Expire_l1 (a0 : List S_Down) (a1 : Int) (s5 : (List S_Down) × Int) : Option (((List S_Down) × Int) ⊕ ((List S_Down))) :=
  bif (decide (s5.2 < (List.length a0 : Int))) then
    (idx a0 s5.2).bind fun e10 =>
    bif (decide (e10.Until > a1)) then
      (appO 48 s5.1 (Cut.app .whole ([e10] : List S_Down))).bind fun l12 =>
      (F_storing_Expire_j2 s5) l12
    else
      (F_storing_Expire_j2 s5) s5.1
  else
    some (Sum.inr s5.1)
noncomputable def F_storing_Expire (a0 : List S_Down) (a1 : Int) : Option ((List S_Down)) :=
  (F_storing_Valid a0).bind fun v1 =>
  bif v1 then
    (F_storing_isTime a1).bind fun v3 =>
    bif v3 then
      (loopO (F_storing_Expire_l1 a0 a1) (([] : List S_Down), 0)).bind fun b6 =>
      some (b6)
    else
      some (([] : List S_Down))
  else
    some (([] : List S_Down))
set_option maxRecDepth 100000 in
set_option maxHeartbeats 40000000 in
theorem okT_storing_Expire (a0 : List S_Down) (a1 : Int) (r : (List S_Down)) (h : F_storing_Expire a0 a1 = some r) : Con Try.prog 29 [.c (eS 20 S_Down.cs (a0)), .c (.lit (.int .i64 (a1)))] [] (.c (.slc 20 900002 (List.length r) (List.map S_Down.cs r))) [(900000, .spare 39 20 (List.length r))] := by
  unfold F_storing_Expire at h
  refine con_of [] [(900000, [])] 16 Try.func29 rfl rfl (by kernel_rfl) (fun K => ?_)
  refine TS_go 9 ?_
  replace h := bindO h
  obtain ⟨v1, hv1, h⟩ := h
  refine TS_call [] (ok_storing_Valid a0 v1 hv1) (by kernel_rfl) (by kernel_rfl) ?_
  refine TS_go 2 ?_
  replace h := condO h
  rcases h with ⟨hb2, h⟩ | ⟨hb2, h⟩
  · subst hb2
    refine TS_go 1 ?_
    replace h := bindO h
    obtain ⟨v3, hv3, h⟩ := h
    refine TS_call [] (ok_storing_isTime a1 v3 hv3) (by kernel_rfl) (by kernel_rfl) ?_
    refine TS_go 3 ?_
    replace h := condO h
    rcases h with ⟨hb4, h⟩ | ⟨hb4, h⟩
    · subst hb4
      refine TS_F (by kernel_rfl) rfl ?_
      refine TS_go 4 ?_
      refine TS_mkf (f := 47) (cs := [.box 3 0]) (by kernel_rfl) (by kernel_rfl) ?_
      refine TS_cut ⟨[(13, []), (14, [])], [(3, (3, []))]⟩ (.mk [opsFr (codeAt [1, 1, 0] (bodyOf Try.f29)) 2, .code (codeAt [1, 1, 1] (bodyOf Try.f29))] .normal ⟨[(13, .c (.slc 20 0 (List.length a0) (List.map S_Down.cs a0))), (14, .c (.clo 47 [.box 3 0]))], [(3, .box [.lit (.int .i64 (a1))])]⟩) (by kernel_rfl) (by kernel_rfl) ?_
      refine TS_bump 2000 (by kernel_rfl) ?_
      refine TS_inl 23 Try.func46 rfl rfl (by kernel_rfl) (fun K15 => ?_)
      refine TS_go 16 ?_
      refine TS_nilT 5 600000 39 20 (by kernel_rfl) ?_
      refine TS_cut ⟨[(1, []), (5, []), (8, []), (9, []), (10, [])], [(2003, (2003, [])), (600000, (600000, []))]⟩ (.mk [.code (codeAt [1, 1, 0, 1, 0] (bodyOf Try.f46)), .blk 0, .code (codeAt [1, 1, 1] (bodyOf Try.f46))] .normal ⟨[(1, .c (.clo 47 [.box 2003 0])), (5, .c (.slc 20 600002 (List.length ([] : List S_Down)) (List.map S_Down.cs ([] : List S_Down)))), (8, .c (.slc 20 0 (List.length a0) (List.map S_Down.cs a0))), (9, .c (.lit (.int .i64 ((List.length a0 : Int))))), (10, .c (.lit (.int .i64 (0))))], [(2003, .box [.lit (.int .i64 (a1))]), (600000, .spare 39 20 (List.length ([] : List S_Down)))]⟩) (by kernel_rfl) (by kernel_rfl) ?_
      replace h := bindO h
      obtain ⟨y7, hl1, hK1⟩ := h
      refine TS_loopB (F_storing_Expire_l1 a0 a1) ⟨[(1, []), (5, []), (8, []), (9, []), (10, [])], [(2003, (2003, [])), (600000, (600000, []))]⟩ (fun (s5 : (List S_Down) × Int) => [(1, .c (.clo 47 [.box 2003 0])), (5, .c (.slc 20 600002 (List.length s5.1) (List.map S_Down.cs s5.1))), (8, .c (.slc 20 0 (List.length a0) (List.map S_Down.cs a0))), (9, .c (.lit (.int .i64 ((List.length a0 : Int))))), (10, .c (.lit (.int .i64 (s5.2))))]) (fun (s5 : (List S_Down) × Int) => [(2003, .box [.lit (.int .i64 (a1))]), (600000, .spare 39 20 (List.length s5.1))]) (([] : List S_Down), 0) y7 (.exit 0) (fun (b : (List S_Down)) => b) ⟨[(5, [])], [(600000, (600000, []))]⟩ (fun (b6 : (List S_Down)) => [(5, .c (.slc 20 600002 (List.length b6) (List.map S_Down.cs b6)))]) (fun (b6 : (List S_Down)) => [(600000, .spare 39 20 (List.length b6))]) hl1 (by kernel_rfl) (by kernel_rfl) ?_ ?_
      · intro s5 x h hy1
        unfold F_storing_Expire_l1 at h
        refine TS_go 5 ?_
        replace h := condO h
        rcases h with ⟨hb8, h⟩ | ⟨hb8, h⟩
        · refine TS_know 11 (b := true) hb8 (by kernel_rfl) (by kernel_rfl) ?_
          refine TS_T (by kernel_rfl) rfl ?_
          refine TS_go 1 ?_
          refine TS_cut ⟨[(1, []), (5, []), (8, []), (9, []), (10, [])], [(2003, (2003, [])), (600000, (600000, []))]⟩ (.mk [.code (codeAt [1, 1, 0, 1, 0, 0, 1, 1] (bodyOf Try.f46))] .normal ⟨[(1, .c (.clo 47 [.box 2003 0])), (5, .c (.slc 20 600002 (List.length s5.1) (List.map S_Down.cs s5.1))), (8, .c (.slc 20 0 (List.length a0) (List.map S_Down.cs a0))), (9, .c (.lit (.int .i64 ((List.length a0 : Int))))), (10, .c (.lit (.int .i64 (s5.2))))], [(2003, .box [.lit (.int .i64 (a1))]), (600000, .spare 39 20 (List.length s5.1))]⟩) (by kernel_rfl) (by kernel_rfl) ?_
          refine TS_joinB ⟨[(1, []), (5, []), (8, []), (9, []), (10, [])], [(2003, (2003, [])), (600000, (600000, []))]⟩ (fun (v9 : (List S_Down)) => [(1, .c (.clo 47 [.box 2003 0])), (5, .c (.slc 20 600002 (List.length v9) (List.map S_Down.cs v9))), (8, .c (.slc 20 0 (List.length a0) (List.map S_Down.cs a0))), (9, .c (.lit (.int .i64 ((List.length a0 : Int))))), (10, .c (.lit (.int .i64 (s5.2))))]) (fun (v9 : (List S_Down)) => [(2003, .box [.lit (.int .i64 (a1))]), (600000, .spare 39 20 (List.length v9))]) (F_storing_Expire_j2 s5) x ?_ ?_
          · clear h
            intro v9 h
            unfold F_storing_Expire_j2 at h
            refine TS_go 4 ?_
            obtain rfl := Option.some.inj h
            exact TS_againB _ ⟨[(1, []), (5, []), (8, []), (9, []), (10, [])], [(2003, (2003, [])), (600000, (600000, []))]⟩ rfl (by kernel_rfl) (by kernel_rfl)
          · refine TS_go 3 ?_
            replace h := bindO h
            obtain ⟨e10, he10, h⟩ := h
            refine TS_idx S_Down.cs he10 (by kernel_rfl) (by kernel_rfl) ?_
            refine TS_go 8 ?_
            refine TS_cut ⟨[(1, []), (5, []), (8, []), (9, []), (10, []), (7, []), (14, []), (15, [])], [(2003, (2003, [])), (600000, (600000, [])), (7, (7, []))]⟩ (.mk [opsFr (codeAt [1, 1, 0, 1, 0, 0, 1, 1, 0, 0, 1, 0] (bodyOf Try.f46)) 2, .code (codeAt [1, 1, 0, 1, 0, 0, 1, 1, 0, 0, 1, 1] (bodyOf Try.f46)), .blk 1] .normal ⟨[(1, .c (.clo 47 [.box 2003 0])), (5, .c (.slc 20 600002 (List.length s5.1) (List.map S_Down.cs s5.1))), (8, .c (.slc 20 0 (List.length a0) (List.map S_Down.cs a0))), (9, .c (.lit (.int .i64 ((List.length a0 : Int))))), (10, .c (.lit (.int .i64 (s5.2)))), (7, .c (.box 7 0)), (14, .c (.clo 47 [.box 2003 0])), (15, .agg [.lit (.int .u8 ((e10.Target.IP.getD 0 0))), .lit (.int .u8 ((e10.Target.IP.getD 1 0))), .lit (.int .u8 ((e10.Target.IP.getD 2 0))), .lit (.int .u8 ((e10.Target.IP.getD 3 0))), .lit (.int .u8 ((e10.Target.IP.getD 4 0))), .lit (.int .u8 ((e10.Target.IP.getD 5 0))), .lit (.int .u8 ((e10.Target.IP.getD 6 0))), .lit (.int .u8 ((e10.Target.IP.getD 7 0))), .lit (.int .u8 ((e10.Target.IP.getD 8 0))), .lit (.int .u8 ((e10.Target.IP.getD 9 0))), .lit (.int .u8 ((e10.Target.IP.getD 10 0))), .lit (.int .u8 ((e10.Target.IP.getD 11 0))), .lit (.int .u8 ((e10.Target.IP.getD 12 0))), .lit (.int .u8 ((e10.Target.IP.getD 13 0))), .lit (.int .u8 ((e10.Target.IP.getD 14 0))), .lit (.int .u8 ((e10.Target.IP.getD 15 0))), .lit (.int .i64 (e10.Target.Bits)), .lit (.int .u64 (e10.Via)), .lit (.int .u8 (e10.Sequence)), .lit (.int .i64 (e10.Until))])], [(2003, .box [.lit (.int .i64 (a1))]), (600000, .spare 39 20 (List.length s5.1)), (7, .box [.lit (.int .u8 ((e10.Target.IP.getD 0 0))), .lit (.int .u8 ((e10.Target.IP.getD 1 0))), .lit (.int .u8 ((e10.Target.IP.getD 2 0))), .lit (.int .u8 ((e10.Target.IP.getD 3 0))), .lit (.int .u8 ((e10.Target.IP.getD 4 0))), .lit (.int .u8 ((e10.Target.IP.getD 5 0))), .lit (.int .u8 ((e10.Target.IP.getD 6 0))), .lit (.int .u8 ((e10.Target.IP.getD 7 0))), .lit (.int .u8 ((e10.Target.IP.getD 8 0))), .lit (.int .u8 ((e10.Target.IP.getD 9 0))), .lit (.int .u8 ((e10.Target.IP.getD 10 0))), .lit (.int .u8 ((e10.Target.IP.getD 11 0))), .lit (.int .u8 ((e10.Target.IP.getD 12 0))), .lit (.int .u8 ((e10.Target.IP.getD 13 0))), .lit (.int .u8 ((e10.Target.IP.getD 14 0))), .lit (.int .u8 ((e10.Target.IP.getD 15 0))), .lit (.int .i64 (e10.Target.Bits)), .lit (.int .u64 (e10.Via)), .lit (.int .u8 (e10.Sequence)), .lit (.int .i64 (e10.Until))])]⟩) (by kernel_rfl) (by kernel_rfl) ?_
            refine TS_bump 2000 (by kernel_rfl) ?_
            refine TS_inl 8 Try.func47 rfl rfl (by kernel_rfl) (fun K13 => ?_)
            refine TS_go 14 ?_
            refine TS_inlR (by kernel_rfl) (by kernel_rfl) ?_
            refine TS_go 1 ?_
            replace h := condO h
            rcases h with ⟨hb11, h⟩ | ⟨hb11, h⟩
            · refine TS_know 16 (b := true) hb11 (by kernel_rfl) (by kernel_rfl) ?_
              refine TS_T (by kernel_rfl) rfl ?_
              refine TS_go 3 ?_
              refine TS_litNT 19 39 20 S_Down.cs [] ([e10] : List S_Down) (by kernel_rfl) (by kernel_rfl) ?_
              replace h := bindO h
              obtain ⟨l12, hl12, h⟩ := h
              refine TS_appT (d := 602000) (e := 39) (sz := 20) (N := List.length s5.1) S_Down.cs (fun _ => by kernel_rfl) (l1 := s5.1) (l2 := ([e10] : List S_Down)) (c := .whole) hl12 (by kernel_rfl) (by kernel_rfl) ?_
              refine TS_go 3 ?_
              exact TS_meet l12 ⟨[(1, []), (5, []), (8, []), (9, []), (10, [])], [(4003, (2003, [])), (602000, (600000, []))]⟩ h (by kernel_rfl) (by kernel_rfl)
            · refine TS_know 16 (b := false) hb11 (by kernel_rfl) (by kernel_rfl) ?_
              refine TS_F (by kernel_rfl) rfl ?_
              refine TS_go 2 ?_
              exact TS_meet s5.1 ⟨[(1, []), (5, []), (8, []), (9, []), (10, [])], [(4003, (2003, [])), (602000, (600000, []))]⟩ h (by kernel_rfl) (by kernel_rfl)
        · refine TS_know 11 (b := false) hb8 (by kernel_rfl) (by kernel_rfl) ?_
          refine TS_F (by kernel_rfl) rfl ?_
          refine TS_go 2 ?_
          obtain rfl := Option.some.inj h
          exact TS_brkB s5.1 ⟨[(5, [])], [(600000, (600000, []))]⟩ rfl (by kernel_rfl) (by kernel_rfl) (by kernel_rfl)
      · intro b6 hb
        subst y7
        have h := hK1
        refine TS_go 7 ?_
        refine TS_inlR (by kernel_rfl) (by kernel_rfl) ?_
        refine TS_go 2 ?_
        refine TS_fitU ⟨[(4, [])], [(600000, (900000, []))]⟩ (by kernel_rfl) ?_
        refine TS_go 1 ?_
        obtain rfl := Option.some.inj h
        exact TS_ret (by kernel_rfl) (by kernel_rfl) (by kernel_rfl)
    · subst hb4
      refine TS_T (by kernel_rfl) rfl ?_
      refine TS_go 4 ?_
      refine TS_nilT 4 600000 39 20 (by kernel_rfl) ?_
      refine TS_fitU ⟨[(4, [])], [(600000, (900000, []))]⟩ (by kernel_rfl) ?_
      refine TS_go 2 ?_
      obtain rfl := Option.some.inj h
      exact TS_ret (by kernel_rfl) (by kernel_rfl) (by kernel_rfl)
  · subst hb2
    refine TS_go 5 ?_
    refine TS_T (by kernel_rfl) rfl ?_
    refine TS_go 4 ?_
    refine TS_nilT 4 600000 39 20 (by kernel_rfl) ?_
    refine TS_fitU ⟨[(4, [])], [(600000, (900000, []))]⟩ (by kernel_rfl) ?_
    refine TS_go 2 ?_
    obtain rfl := Option.some.inj h
    exact TS_ret (by kernel_rfl) (by kernel_rfl) (by kernel_rfl)
theorem ok_storing_Expire (a0 : List S_Down) (a1 : Int) (r : (List S_Down)) (h : F_storing_Expire a0 a1 = some r) : Con Try.prog 29 [.c (eS 20 S_Down.cs (a0)), .c (.lit (.int .i64 (a1)))] [] (.c (eS 20 S_Down.cs (r))) [] :=
  con_drop [[21]] [] (okT_storing_Expire a0 a1 r h) (by kernel_rfl) (by kernel_rfl) (by kernel_rfl)

/-- multihop/storing.Drop -/
noncomputable def F_storing_Drop_j2 (s3 : (List S_Down) × Int × (List S_Register)) (v7 : (List S_Down) × (List S_Register)) : Option (((List S_Down) × Int × (List S_Register)) ⊕ ((List S_Down) × (List S_Register))) :=
  some (Sum.inl (v7.1, IntKind.wrap .i64 (s3.2.1 + 1), v7.2))
noncomputable def F_storing_Drop_j3 (s3 : (List S_Down) × Int × (List S_Register)) (e8 : S_Down) (v9 : Bool × (List S_Register)) : Option (((List S_Down) × Int × (List S_Register)) ⊕ ((List S_Down) × (List S_Register))) :=
  bif v9.1 then
    (appO 48 s3.1 (Cut.app .whole ([e8] : List S_Down))).bind fun l11 =>
    (F_storing_Drop_j2 s3) (l11, v9.2)
  else
    (F_storing_Drop_j2 s3) (s3.1, v9.2)
noncomputable def F_storing_Drop_l1 (a0 : List S_Down) (a1 : Int) (s3 : (List S_Down) × Int × (List S_Register)) : Option (((List S_Down) × Int × (List S_Register)) ⊕ ((List S_Down) × (List S_Register))) :=
  bif (decide (s3.2.1 < (List.length a0 : Int))) then
    (idx a0 s3.2.1).bind fun e8 =>
    bif (e8.Via == a1) then
      (appO 40 s3.2.2 (Cut.app .whole ([(S_Register.mk e8.Target e8.Sequence 0)] : List S_Register))).bind fun l13 =>
      (F_storing_Drop_j3 s3 e8) (false, l13)
    else
      (F_storing_Drop_j3 s3 e8) (true, s3.2.2)
  else
    some (Sum.inr (s3.1, s3.2.2))
noncomputable def F_storing_Drop (a0 : List S_Down) (a1 : Int) : Option ((List S_Down) × (List S_Register)) :=
  (F_storing_Valid a0).bind fun v1 =>
  bif v1 then
    (loopO (F_storing_Drop_l1 a0 a1) (([] : List S_Down), 0, ([] : List S_Register))).bind fun b4 =>
    some ((b4.1, b4.2))
  else
    some ((([] : List S_Down), ([] : List S_Register)))
set_option maxRecDepth 100000 in
set_option maxHeartbeats 40000000 in
theorem okT_storing_Drop (a0 : List S_Down) (a1 : Int) (r : (List S_Down) × (List S_Register)) (h : F_storing_Drop a0 a1 = some r) : Con Try.prog 30 [.c (eS 20 S_Down.cs (a0)), .c (.lit (.int .u64 (a1)))] [] (.tup [(false, [.slc 20 900002 (List.length r.1) (List.map S_Down.cs r.1)]), (false, [.slc 19 900003 (List.length r.2) (List.map S_Register.cs r.2)])]) [(900000, .spare 39 20 (List.length r.1)), (900001, .spare 31 19 (List.length r.2))] := by
  unfold F_storing_Drop at h
  refine con_of [] [(900000, []), (900001, [])] 16 Try.func30 rfl rfl (by kernel_rfl) (fun K => ?_)
  refine TS_go 10 ?_
  replace h := bindO h
  obtain ⟨v1, hv1, h⟩ := h
  refine TS_call [] (ok_storing_Valid a0 v1 hv1) (by kernel_rfl) (by kernel_rfl) ?_
  refine TS_go 2 ?_
  replace h := condO h
  rcases h with ⟨hb2, h⟩ | ⟨hb2, h⟩
  · subst hb2
    refine TS_F (by kernel_rfl) rfl ?_
    refine TS_go 8 ?_
    refine TS_mkf (f := 48) (cs := [.box 3 0, .box 6 0]) (by kernel_rfl) (by kernel_rfl) ?_
    refine TS_cut ⟨[(6, []), (11, []), (12, [])], [(3, (3, [])), (6, (6, []))]⟩ (.mk [opsFr (codeAt [1, 1, 1, 0] (bodyOf Try.f30)) 2, .code (codeAt [1, 1, 1, 1] (bodyOf Try.f30))] .normal ⟨[(6, .c (.box 6 0)), (11, .c (.slc 20 0 (List.length a0) (List.map S_Down.cs a0))), (12, .c (.clo 48 [.box 3 0, .box 6 0]))], [(3, .box [.lit (.int .u64 (a1))]), (6, .box [.lit (.slice none 0 0)])]⟩) (by kernel_rfl) (by kernel_rfl) ?_
    refine TS_bump 2000 (by kernel_rfl) ?_
    refine TS_inl 23 Try.func46 rfl rfl (by kernel_rfl) (fun K16 => ?_)
    refine TS_go 16 ?_
    refine TS_nilT 5 600000 39 20 (by kernel_rfl) ?_
    refine TS_nilB 2006 0 600001 31 19 (by kernel_rfl) ?_
    refine TS_cut ⟨[(1, []), (2000006, []), (5, []), (8, []), (9, []), (10, [])], [(2003, (2003, [])), (2006, (2006, [])), (600000, (600000, [])), (600001, (600001, []))]⟩ (.mk [.code (codeAt [1, 1, 0, 1, 0] (bodyOf Try.f46)), .blk 0, .code (codeAt [1, 1, 1] (bodyOf Try.f46))] .normal ⟨[(1, .c (.clo 48 [.box 2003 0, .box 2006 0])), (2000006, .c (.box 2006 0)), (5, .c (.slc 20 600002 (List.length ([] : List S_Down)) (List.map S_Down.cs ([] : List S_Down)))), (8, .c (.slc 20 0 (List.length a0) (List.map S_Down.cs a0))), (9, .c (.lit (.int .i64 ((List.length a0 : Int))))), (10, .c (.lit (.int .i64 (0))))], [(2003, .box [.lit (.int .u64 (a1))]), (2006, .box [.slc 19 600003 (List.length ([] : List S_Register)) (List.map S_Register.cs ([] : List S_Register))]), (600000, .spare 39 20 (List.length ([] : List S_Down))), (600001, .spare 31 19 (List.length ([] : List S_Register)))]⟩) (by kernel_rfl) (by kernel_rfl) ?_
    replace h := bindO h
    obtain ⟨y5, hl1, hK1⟩ := h
    refine TS_loopB (F_storing_Drop_l1 a0 a1) ⟨[(1, []), (5, []), (8, []), (9, []), (10, []), (2000006, [])], [(2003, (2003, [])), (2006, (2006, [])), (600000, (600000, [])), (600001, (600001, []))]⟩ (fun (s3 : (List S_Down) × Int × (List S_Register)) => [(1, .c (.clo 48 [.box 2003 0, .box 2006 0])), (5, .c (.slc 20 600002 (List.length s3.1) (List.map S_Down.cs s3.1))), (8, .c (.slc 20 0 (List.length a0) (List.map S_Down.cs a0))), (9, .c (.lit (.int .i64 ((List.length a0 : Int))))), (10, .c (.lit (.int .i64 (s3.2.1)))), (2000006, .c (.box 2006 0))]) (fun (s3 : (List S_Down) × Int × (List S_Register)) => [(2003, .box [.lit (.int .u64 (a1))]), (2006, .box [.slc 19 600003 (List.length s3.2.2) (List.map S_Register.cs s3.2.2)]), (600000, .spare 39 20 (List.length s3.1)), (600001, .spare 31 19 (List.length s3.2.2))]) (([] : List S_Down), 0, ([] : List S_Register)) y5 (.exit 0) (fun (b : (List S_Down) × (List S_Register)) => b) ⟨[(5, []), (2000006, [])], [(600000, (600000, [])), (2006, (2006, [])), (600001, (600001, []))]⟩ (fun (b4 : (List S_Down) × (List S_Register)) => [(5, .c (.slc 20 600002 (List.length b4.1) (List.map S_Down.cs b4.1))), (2000006, .c (.box 2006 0))]) (fun (b4 : (List S_Down) × (List S_Register)) => [(2006, .box [.slc 19 600003 (List.length b4.2) (List.map S_Register.cs b4.2)]), (600000, .spare 39 20 (List.length b4.1)), (600001, .spare 31 19 (List.length b4.2))]) hl1 (by kernel_rfl) (by kernel_rfl) ?_ ?_
    · intro s3 x h hy1
      unfold F_storing_Drop_l1 at h
      refine TS_go 5 ?_
      replace h := condO h
      rcases h with ⟨hb6, h⟩ | ⟨hb6, h⟩
      · refine TS_know 11 (b := true) hb6 (by kernel_rfl) (by kernel_rfl) ?_
        refine TS_T (by kernel_rfl) rfl ?_
        refine TS_go 1 ?_
        refine TS_cut ⟨[(1, []), (5, []), (8, []), (9, []), (10, []), (2000006, [])], [(2003, (2003, [])), (2006, (2006, [])), (600000, (600000, [])), (600001, (600001, []))]⟩ (.mk [.code (codeAt [1, 1, 0, 1, 0, 0, 1, 1] (bodyOf Try.f46))] .normal ⟨[(1, .c (.clo 48 [.box 2003 0, .box 2006 0])), (5, .c (.slc 20 600002 (List.length s3.1) (List.map S_Down.cs s3.1))), (8, .c (.slc 20 0 (List.length a0) (List.map S_Down.cs a0))), (9, .c (.lit (.int .i64 ((List.length a0 : Int))))), (10, .c (.lit (.int .i64 (s3.2.1)))), (2000006, .c (.box 2006 0))], [(2003, .box [.lit (.int .u64 (a1))]), (2006, .box [.slc 19 600003 (List.length s3.2.2) (List.map S_Register.cs s3.2.2)]), (600000, .spare 39 20 (List.length s3.1)), (600001, .spare 31 19 (List.length s3.2.2))]⟩) (by kernel_rfl) (by kernel_rfl) ?_
        refine TS_joinB ⟨[(1, []), (5, []), (8, []), (9, []), (10, []), (2000006, [])], [(2003, (2003, [])), (2006, (2006, [])), (600000, (600000, [])), (600001, (600001, []))]⟩ (fun (v7 : (List S_Down) × (List S_Register)) => [(1, .c (.clo 48 [.box 2003 0, .box 2006 0])), (5, .c (.slc 20 600002 (List.length v7.1) (List.map S_Down.cs v7.1))), (8, .c (.slc 20 0 (List.length a0) (List.map S_Down.cs a0))), (9, .c (.lit (.int .i64 ((List.length a0 : Int))))), (10, .c (.lit (.int .i64 (s3.2.1)))), (2000006, .c (.box 2006 0))]) (fun (v7 : (List S_Down) × (List S_Register)) => [(2003, .box [.lit (.int .u64 (a1))]), (2006, .box [.slc 19 600003 (List.length v7.2) (List.map S_Register.cs v7.2)]), (600000, .spare 39 20 (List.length v7.1)), (600001, .spare 31 19 (List.length v7.2))]) (F_storing_Drop_j2 s3) x ?_ ?_
        · clear h
          intro v7 h
          unfold F_storing_Drop_j2 at h
          refine TS_go 4 ?_
          obtain rfl := Option.some.inj h
          exact TS_againB _ ⟨[(1, []), (5, []), (8, []), (9, []), (10, []), (2000006, [])], [(2003, (2003, [])), (2006, (2006, [])), (600000, (600000, [])), (600001, (600001, []))]⟩ rfl (by kernel_rfl) (by kernel_rfl)
        · refine TS_go 3 ?_
          replace h := bindO h
          obtain ⟨e8, he8, h⟩ := h
          refine TS_idx S_Down.cs he8 (by kernel_rfl) (by kernel_rfl) ?_
          refine TS_go 8 ?_
          refine TS_cut ⟨[(1, []), (5, []), (8, []), (9, []), (10, []), (2000006, []), (7, []), (14, []), (15, [])], [(2003, (2003, [])), (2006, (2006, [])), (600000, (600000, [])), (600001, (600001, [])), (7, (7, []))]⟩ (.mk [opsFr (codeAt [1, 1, 0, 1, 0, 0, 1, 1, 0, 0, 1, 0] (bodyOf Try.f46)) 2, .code (codeAt [1, 1, 0, 1, 0, 0, 1, 1, 0, 0, 1, 1] (bodyOf Try.f46)), .blk 1] .normal ⟨[(1, .c (.clo 48 [.box 2003 0, .box 2006 0])), (5, .c (.slc 20 600002 (List.length s3.1) (List.map S_Down.cs s3.1))), (8, .c (.slc 20 0 (List.length a0) (List.map S_Down.cs a0))), (9, .c (.lit (.int .i64 ((List.length a0 : Int))))), (10, .c (.lit (.int .i64 (s3.2.1)))), (2000006, .c (.box 2006 0)), (7, .c (.box 7 0)), (14, .c (.clo 48 [.box 2003 0, .box 2006 0])), (15, .agg [.lit (.int .u8 ((e8.Target.IP.getD 0 0))), .lit (.int .u8 ((e8.Target.IP.getD 1 0))), .lit (.int .u8 ((e8.Target.IP.getD 2 0))), .lit (.int .u8 ((e8.Target.IP.getD 3 0))), .lit (.int .u8 ((e8.Target.IP.getD 4 0))), .lit (.int .u8 ((e8.Target.IP.getD 5 0))), .lit (.int .u8 ((e8.Target.IP.getD 6 0))), .lit (.int .u8 ((e8.Target.IP.getD 7 0))), .lit (.int .u8 ((e8.Target.IP.getD 8 0))), .lit (.int .u8 ((e8.Target.IP.getD 9 0))), .lit (.int .u8 ((e8.Target.IP.getD 10 0))), .lit (.int .u8 ((e8.Target.IP.getD 11 0))), .lit (.int .u8 ((e8.Target.IP.getD 12 0))), .lit (.int .u8 ((e8.Target.IP.getD 13 0))), .lit (.int .u8 ((e8.Target.IP.getD 14 0))), .lit (.int .u8 ((e8.Target.IP.getD 15 0))), .lit (.int .i64 (e8.Target.Bits)), .lit (.int .u64 (e8.Via)), .lit (.int .u8 (e8.Sequence)), .lit (.int .i64 (e8.Until))])], [(2003, .box [.lit (.int .u64 (a1))]), (2006, .box [.slc 19 600003 (List.length s3.2.2) (List.map S_Register.cs s3.2.2)]), (600000, .spare 39 20 (List.length s3.1)), (600001, .spare 31 19 (List.length s3.2.2)), (7, .box [.lit (.int .u8 ((e8.Target.IP.getD 0 0))), .lit (.int .u8 ((e8.Target.IP.getD 1 0))), .lit (.int .u8 ((e8.Target.IP.getD 2 0))), .lit (.int .u8 ((e8.Target.IP.getD 3 0))), .lit (.int .u8 ((e8.Target.IP.getD 4 0))), .lit (.int .u8 ((e8.Target.IP.getD 5 0))), .lit (.int .u8 ((e8.Target.IP.getD 6 0))), .lit (.int .u8 ((e8.Target.IP.getD 7 0))), .lit (.int .u8 ((e8.Target.IP.getD 8 0))), .lit (.int .u8 ((e8.Target.IP.getD 9 0))), .lit (.int .u8 ((e8.Target.IP.getD 10 0))), .lit (.int .u8 ((e8.Target.IP.getD 11 0))), .lit (.int .u8 ((e8.Target.IP.getD 12 0))), .lit (.int .u8 ((e8.Target.IP.getD 13 0))), .lit (.int .u8 ((e8.Target.IP.getD 14 0))), .lit (.int .u8 ((e8.Target.IP.getD 15 0))), .lit (.int .i64 (e8.Target.Bits)), .lit (.int .u64 (e8.Via)), .lit (.int .u8 (e8.Sequence)), .lit (.int .i64 (e8.Until))])]⟩) (by kernel_rfl) (by kernel_rfl) ?_
          refine TS_bump 2000 (by kernel_rfl) ?_
          refine TS_inlJ 17 Try.func48 rfl rfl ⟨[(1, []), (5, []), (7, []), (8, []), (9, []), (10, []), (2000006, [])], [(4003, (4003, [])), (4006, (4006, [])), (602000, (602000, [])), (2007, (2007, [])), (602001, (602001, []))]⟩ (fun (v9 : Bool × (List S_Register)) => [(1, .c (.clo 48 [.box 4003 0, .box 4006 0])), (5, .c (.slc 20 602002 (List.length s3.1) (List.map S_Down.cs s3.1))), (7, .c (.box 2007 0)), (8, .c (.slc 20 0 (List.length a0) (List.map S_Down.cs a0))), (9, .c (.lit (.int .i64 ((List.length a0 : Int))))), (10, .c (.lit (.int .i64 (s3.2.1)))), (2000006, .c (.box 4006 0)), (16, .c (.lit (.bool (v9.1))))]) (fun (v9 : Bool × (List S_Register)) => [(4003, .box [.lit (.int .u64 (a1))]), (4006, .box [.slc 19 602003 (List.length v9.2) (List.map S_Register.cs v9.2)]), (2007, .box [.lit (.int .u8 ((e8.Target.IP.getD 0 0))), .lit (.int .u8 ((e8.Target.IP.getD 1 0))), .lit (.int .u8 ((e8.Target.IP.getD 2 0))), .lit (.int .u8 ((e8.Target.IP.getD 3 0))), .lit (.int .u8 ((e8.Target.IP.getD 4 0))), .lit (.int .u8 ((e8.Target.IP.getD 5 0))), .lit (.int .u8 ((e8.Target.IP.getD 6 0))), .lit (.int .u8 ((e8.Target.IP.getD 7 0))), .lit (.int .u8 ((e8.Target.IP.getD 8 0))), .lit (.int .u8 ((e8.Target.IP.getD 9 0))), .lit (.int .u8 ((e8.Target.IP.getD 10 0))), .lit (.int .u8 ((e8.Target.IP.getD 11 0))), .lit (.int .u8 ((e8.Target.IP.getD 12 0))), .lit (.int .u8 ((e8.Target.IP.getD 13 0))), .lit (.int .u8 ((e8.Target.IP.getD 14 0))), .lit (.int .u8 ((e8.Target.IP.getD 15 0))), .lit (.int .i64 (e8.Target.Bits)), .lit (.int .u64 (e8.Via)), .lit (.int .u8 (e8.Sequence)), .lit (.int .i64 (e8.Until))]), (602000, .spare 39 20 (List.length s3.1)), (602001, .spare 31 19 (List.length v9.2))]) (F_storing_Drop_j3 s3 e8) x (by kernel_rfl) ?_ (fun K14 => ?_)
          · clear h
            intro v9 h
            unfold F_storing_Drop_j3 at h
            refine TS_go 1 ?_
            replace h := condO h
            rcases h with ⟨hb10, h⟩ | ⟨hb10, h⟩
            · refine TS_know 16 (b := true) hb10 (by kernel_rfl) (by kernel_rfl) ?_
              refine TS_T (by kernel_rfl) rfl ?_
              refine TS_go 3 ?_
              refine TS_litNT 19 39 20 S_Down.cs [] ([e8] : List S_Down) (by kernel_rfl) (by kernel_rfl) ?_
              replace h := bindO h
              obtain ⟨l11, hl11, h⟩ := h
              refine TS_appT (d := 602000) (e := 39) (sz := 20) (N := List.length s3.1) S_Down.cs (fun _ => by kernel_rfl) (l1 := s3.1) (l2 := ([e8] : List S_Down)) (c := .whole) hl11 (by kernel_rfl) (by kernel_rfl) ?_
              refine TS_go 3 ?_
              exact TS_meet (l11, v9.2) ⟨[(1, []), (5, []), (8, []), (9, []), (10, []), (2000006, [])], [(4003, (2003, [])), (4006, (2006, [])), (602000, (600000, [])), (602001, (600001, []))]⟩ h (by kernel_rfl) (by kernel_rfl)
            · refine TS_know 16 (b := false) hb10 (by kernel_rfl) (by kernel_rfl) ?_
              refine TS_F (by kernel_rfl) rfl ?_
              refine TS_go 2 ?_
              exact TS_meet (s3.1, v9.2) ⟨[(1, []), (5, []), (8, []), (9, []), (10, []), (2000006, [])], [(4003, (2003, [])), (4006, (2006, [])), (602000, (600000, [])), (602001, (600001, []))]⟩ h (by kernel_rfl) (by kernel_rfl)
          · refine TS_go 13 ?_
            replace h := condO h
            rcases h with ⟨hb12, h⟩ | ⟨hb12, h⟩
            · refine TS_know 8 (b := true) hb12 (by kernel_rfl) (by kernel_rfl) ?_
              refine TS_T (by kernel_rfl) rfl ?_
              refine TS_go 8 ?_
              refine TS_litNT 15 31 19 S_Register.cs [] ([(S_Register.mk e8.Target e8.Sequence 0)] : List S_Register) (by kernel_rfl) (by kernel_rfl) ?_
              replace h := bindO h
              obtain ⟨l13, hl13, h⟩ := h
              refine TS_appT (d := 602001) (e := 31) (sz := 19) (N := List.length s3.2.2) S_Register.cs (fun _ => by kernel_rfl) (l1 := s3.2.2) (l2 := ([(S_Register.mk e8.Target e8.Sequence 0)] : List S_Register)) (c := .whole) hl13 (by kernel_rfl) (by kernel_rfl) ?_
              refine TS_go 8 ?_
              exact TS_inlM (false, l13) ⟨[(1, []), (5, []), (7, []), (8, []), (9, []), (10, []), (2000006, []), (16, [])], [(4003, (4003, [])), (4006, (4006, [])), (602000, (602000, [])), (2007, (2007, [])), (602001, (602001, []))]⟩ h (by kernel_rfl) (by kernel_rfl) (by kernel_rfl)
            · refine TS_know 8 (b := false) hb12 (by kernel_rfl) (by kernel_rfl) ?_
              refine TS_F (by kernel_rfl) rfl ?_
              refine TS_go 6 ?_
              exact TS_inlM (true, s3.2.2) ⟨[(1, []), (5, []), (7, []), (8, []), (9, []), (10, []), (2000006, []), (16, [])], [(4003, (4003, [])), (4006, (4006, [])), (602000, (602000, [])), (2007, (2007, [])), (602001, (602001, []))]⟩ h (by kernel_rfl) (by kernel_rfl) (by kernel_rfl)
      · refine TS_know 11 (b := false) hb6 (by kernel_rfl) (by kernel_rfl) ?_
        refine TS_F (by kernel_rfl) rfl ?_
        refine TS_go 2 ?_
        obtain rfl := Option.some.inj h
        exact TS_brkB (s3.1, s3.2.2) ⟨[(5, []), (2000006, [])], [(600000, (600000, [])), (2006, (2006, [])), (600001, (600001, []))]⟩ rfl (by kernel_rfl) (by kernel_rfl) (by kernel_rfl)
    · intro b4 hb
      subst y5
      have h := hK1
      refine TS_go 7 ?_
      refine TS_inlR (by kernel_rfl) (by kernel_rfl) ?_
      refine TS_go 3 ?_
      refine TS_draw (by kernel_rfl) ?_
      refine TD_go 4 ?_
      refine TD_end (by kernel_rfl) ?_
      refine TS_fitU ⟨[(4, []), (5, [])], [(600000, (900000, [])), (600001, (900001, []))]⟩ (by kernel_rfl) ?_
      refine TS_go 1 ?_
      obtain rfl := Option.some.inj h
      exact TS_ret (by kernel_rfl) (by kernel_rfl) (by kernel_rfl)
  · subst hb2
    refine TS_T (by kernel_rfl) rfl ?_
    refine TS_go 5 ?_
    refine TS_nilT 4 600000 39 20 (by kernel_rfl) ?_
    refine TS_nilT 5 600001 31 19 (by kernel_rfl) ?_
    refine TS_fitU ⟨[(4, []), (5, [])], [(600000, (900000, [])), (600001, (900001, []))]⟩ (by kernel_rfl) ?_
    refine TS_go 2 ?_
    obtain rfl := Option.some.inj h
    exact TS_ret (by kernel_rfl) (by kernel_rfl) (by kernel_rfl)
theorem ok_storing_Drop (a0 : List S_Down) (a1 : Int) (r : (List S_Down) × (List S_Register)) (h : F_storing_Drop a0 a1 = some r) : Con Try.prog 30 [.c (eS 20 S_Down.cs (a0)), .c (.lit (.int .u64 (a1)))] [] (.tup [(false, [eS 20 S_Down.cs (r.1)]), (false, [eS 19 S_Register.cs (r.2)])]) [] :=
  con_drop [[21], [20]] [] (okT_storing_Drop a0 a1 r h) (by kernel_rfl) (by kernel_rfl) (by kernel_rfl)

/-- multihop/multihoplaw33.StoringPasses -/
noncomputable def F_law33_StoringPasses_l1 (v4 : (List S_Register)) (v2 : Int × S_multihopmade_Tape) (s5 : (List S_Down) × Int) : Option (((List S_Down) × Int) ⊕ (((List S_Down)) ⊕ (Bool))) :=
  bif (decide (s5.2 < (List.length v4 : Int))) then
    (idx v4 s5.2).bind fun e9 =>
    (F_storing_Accept s5.1 (Int.tmod v2.1 1000) 9 e9).bind fun v10 =>
    bif (v10.2.2 != 0) then
      some (Sum.inr (Sum.inr false))
    else
      bif v10.2.1 then
        some (Sum.inl (v10.1, IntKind.wrap .i64 (s5.2 + 1)))
      else
        some (Sum.inr (Sum.inr false))
  else
    some (Sum.inr (Sum.inl s5.1))
noncomputable def F_law33_StoringPasses_l2 (b6 : (List S_Down)) (v14 : (List S_Down)) (s16 : Int) : Option ((Int) ⊕ ((Unit) ⊕ (Bool))) :=
  bif (decide (s16 < (List.length b6 : Int))) then
    (idx b6 s16).bind fun e20 =>
    (idx v14 s16).bind fun e21 =>
    bif (S_Prefix.eqb e20.Target e21.Target) then
      (idx b6 s16).bind fun e23 =>
      (idx v14 s16).bind fun e24 =>
      bif (e23.Until != e24.Until) then
        some (Sum.inr (Sum.inr false))
      else
        (idx b6 s16).bind fun e26 =>
        bif (e26.Via != 9) then
          some (Sum.inr (Sum.inr false))
        else
          some (Sum.inl (IntKind.wrap .i64 (s16 + 1)))
    else
      some (Sum.inr (Sum.inr false))
  else
    some (Sum.inr (Sum.inl ()))
noncomputable def F_law33_StoringPasses_l3 (v30 : (List S_Down) × (List S_Register)) (v2 : Int × S_multihopmade_Tape) (s31 : (List S_Down) × Int) : Option (((List S_Down) × Int) ⊕ (((List S_Down)) ⊕ (Bool))) :=
  bif (decide (s31.2 < (List.length v30.2 : Int))) then
    (idx v30.2 s31.2).bind fun e35 =>
    (F_storing_Accept s31.1 (Int.tmod v2.1 1000) 9 e35).bind fun v36 =>
    bif (v36.2.2 != 0) then
      some (Sum.inr (Sum.inr false))
    else
      some (Sum.inl (v36.1, IntKind.wrap .i64 (s31.2 + 1)))
  else
    some (Sum.inr (Sum.inl s31.1))
noncomputable def F_law33_StoringPasses_l4 (v14 : (List S_Down)) (b32 : (List S_Down)) (v2 : Int × S_multihopmade_Tape) (v29 : Int × S_multihopmade_Tape) (s39 : Int) : Option ((Int) ⊕ ((Unit) ⊕ (Bool))) :=
  bif (decide (s39 < (List.length v14 : Int))) then
    (idx v14 s39).bind fun e43 =>
    (F_ref33_Find b32 (Int.tmod v2.1 1000) e43.Target).bind fun v44 =>
    bif (v44.2 == (e43.Via != v29.1)) then
      some (Sum.inl (IntKind.wrap .i64 (s39 + 1)))
    else
      some (Sum.inr (Sum.inr false))
  else
    some (Sum.inr (Sum.inl ()))
noncomputable def F_law33_StoringPasses (a0 : List Int) : Option (Bool) :=
  (F_made_New a0).bind fun v1 =>
  (F_world_Base v1).bind fun v2 =>
  (F_world_Downs v2.2 (Int.tmod v2.1 1000)).bind fun v3 =>
  (F_storing_Export v3.1 (Int.tmod v2.1 1000)).bind fun v4 =>
  (loopO (F_law33_StoringPasses_l1 v4 v2) (([] : List S_Down), 0)).bind (Sum.elim (fun b6 =>
    (F_storing_Expire v3.1 (Int.tmod v2.1 1000)).bind fun v14 =>
    bif ((List.length b6 : Int) != (List.length v14 : Int)) then
      some (false)
    else
      (loopO (F_law33_StoringPasses_l2 b6 v14) 0).bind (Sum.elim (fun b17 =>
        (F_world_EUI v3.2).bind fun v29 =>
        (F_storing_Drop v14 v29.1).bind fun v30 =>
        (loopO (F_law33_StoringPasses_l3 v30 v2) (b6, 0)).bind (Sum.elim (fun b32 =>
          (loopO (F_law33_StoringPasses_l4 v14 b32 v2 v29) 0).bind (Sum.elim (fun b40 =>
            (F_law33_known ).bind fun v47 =>
            some (v47)
          ) (fun w46 => some w46))
        ) (fun w38 => some w38))
      ) (fun w28 => some w28))
  ) (fun w13 => some w13))
set_option maxRecDepth 100000 in
set_option maxHeartbeats 40000000 in
theorem ok_law33_StoringPasses (a0 : List Int) (r : Bool) (h : F_law33_StoringPasses a0 = some r) : Con Try.prog 7 [.c (eS 1 (ecI .i64) (a0))] [] (.c (.lit (.bool (r)))) [] := by
  unfold F_law33_StoringPasses at h
  refine con_of [] [] 152 Try.func7 rfl rfl (by kernel_rfl) (fun K => ?_)
  refine TS_go 7 ?_
  replace h := bindO h
  obtain ⟨v1, hv1, h⟩ := h
  refine TS_con [] [(27, 10)] none (ok_made_New a0 v1 hv1) (by kernel_rfl) (by kernel_rfl) (by kernel_rfl) ?_
  refine TS_go 5 ?_
  replace h := bindO h
  obtain ⟨v2, hv2, h⟩ := h
  refine TS_con [] [] (some (27, 0)) (ok_world_Base v1 v2 hv2) (by kernel_rfl) (by kernel_rfl) (by kernel_rfl) ?_
  refine TS_go 7 ?_
  replace h := bindO h
  obtain ⟨v3, hv3, h⟩ := h
  refine TS_con [] [(33, 900000)] (some (27, 0)) (okT_world_Downs v2.2 (Int.tmod v2.1 1000) v3 hv3) (by kernel_rfl) (by kernel_rfl) (by kernel_rfl) ?_
  refine TS_go 11 ?_
  replace h := bindO h
  obtain ⟨v4, hv4, h⟩ := h
  refine TS_con [[21]] [(36, 900000)] none (okT_storing_Export v3.1 (Int.tmod v2.1 1000) v4 hv4) (by kernel_rfl) (by kernel_rfl) (by kernel_rfl) ?_
  refine TS_go 4 ?_
  refine TS_cut ⟨[(3, []), (4, []), (5, []), (6, []), (36, []), (37, []), (38, [])], [(27, (27, [])), (33, (33, [])), (36, (36, []))]⟩ (.mk [.code (codeAt [1, 1, 1, 1, 1, 0, 1, 0] (bodyOf Try.f7)), .blk 0, .code (codeAt [1, 1, 1, 1, 1, 1] (bodyOf Try.f7))] .normal ⟨[(3, .c (.box 27 0)), (4, .c (.lit (.int .i64 (Int.tmod v2.1 1000)))), (5, .c (.slc 20 35 (List.length v3.1) (List.map S_Down.cs v3.1))), (6, .c (.lit (.slice none 0 0))), (36, .c (.slc 19 38 (List.length v4) (List.map S_Register.cs v4))), (37, .c (.lit (.int .i64 ((List.length v4 : Int))))), (38, .c (.lit (.int .i64 (0))))], [(27, .box [.slc 1 0 (List.length v3.2.l) (List.map (ecI .i64) v3.2.l), .lit (.int .i64 (v3.2.at_))]), (33, .spare 39 20 (List.length v3.1)), (36, .spare 31 19 (List.length v4))]⟩) (by kernel_rfl) (by kernel_rfl) ?_
  replace h := bindO h
  obtain ⟨y7, hl1, hK1⟩ := h
  refine TS_loopB (F_law33_StoringPasses_l1 v4 v2) ⟨[(3, []), (4, []), (5, []), (6, [21]), (36, []), (37, []), (38, [])], [(27, (27, [])), (33, (33, [])), (36, (36, []))]⟩ (fun (s5 : (List S_Down) × Int) => [(6, .c (eS 20 S_Down.cs (s5.1))), (38, .c (.lit (.int .i64 (s5.2))))]) (fun (s5 : (List S_Down) × Int) => []) (([] : List S_Down), 0) y7 (.exit 0) (fun (b : (List S_Down)) => (Sum.inl b : ((List S_Down)) ⊕ (Bool))) ⟨[(3, []), (4, []), (5, []), (6, [21])], [(27, (27, [])), (33, (33, []))]⟩ (fun (b6 : (List S_Down)) => [(6, .c (eS 20 S_Down.cs (b6)))]) (fun (b6 : (List S_Down)) => []) hl1 (by kernel_rfl) (by kernel_rfl) ?_ ?_
  · intro s5 x h hy1
    unfold F_law33_StoringPasses_l1 at h
    refine TS_go 5 ?_
    replace h := condO h
    rcases h with ⟨hb8, h⟩ | ⟨hb8, h⟩
    · refine TS_know 39 (b := true) hb8 (by kernel_rfl) (by kernel_rfl) ?_
      refine TS_T (by kernel_rfl) rfl ?_
      refine TS_go 5 ?_
      replace h := bindO h
      obtain ⟨e9, he9, h⟩ := h
      refine TS_idx S_Register.cs he9 (by kernel_rfl) (by kernel_rfl) ?_
      refine TS_go 9 ?_
      replace h := bindO h
      obtain ⟨v10, hv10, h⟩ := h
      refine TS_call [] (ok_storing_Accept s5.1 (Int.tmod v2.1 1000) 9 e9 v10 hv10) (by kernel_rfl) (by kernel_rfl) ?_
      refine TS_go 14 ?_
      replace h := condO h
      rcases h with ⟨hb11, h⟩ | ⟨hb11, h⟩
      · refine TS_know 51 (b := true) hb11 (by kernel_rfl) (by kernel_rfl) ?_
        refine TS_know 52 (b := true) hb11 (by kernel_rfl) (by kernel_rfl) ?_
        refine TS_go 4 ?_
        refine TS_T (by kernel_rfl) rfl ?_
        refine TS_go 8 ?_
        obtain rfl := Option.some.inj h
        have hy1q := hy1 _ rfl
        subst hy1q
        replace h := (elimR hK1)
        refine TS_retB rfl (by kernel_rfl) ?_
        refine TS_go 2 ?_
        obtain rfl := Option.some.inj h
        exact TS_ret (by kernel_rfl) (by kernel_rfl) (by kernel_rfl)
      · refine TS_know 51 (b := false) hb11 (by kernel_rfl) (by kernel_rfl) ?_
        refine TS_know 52 (b := false) hb11 (by kernel_rfl) (by kernel_rfl) ?_
        refine TS_go 4 ?_
        replace h := condO h
        rcases h with ⟨hb12, h⟩ | ⟨hb12, h⟩
        · refine TS_know 48 (b := true) hb12 (by kernel_rfl) (by kernel_rfl) ?_
          refine TS_know 10 (b := true) hb12 (by kernel_rfl) (by kernel_rfl) ?_
          refine TS_know 53 (b := true) hb12 (by kernel_rfl) (by kernel_rfl) ?_
          refine TS_know 54 (b := false) (notF hb12) (by kernel_rfl) (by kernel_rfl) ?_
          refine TS_know 55 (b := false) (notF hb12) (by kernel_rfl) (by kernel_rfl) ?_
          refine TS_F (by kernel_rfl) rfl ?_
          refine TS_go 10 ?_
          obtain rfl := Option.some.inj h
          exact TS_againB _ ⟨[(3, []), (4, []), (5, []), (6, []), (36, []), (37, []), (38, [])], [(27, (27, [])), (33, (33, [])), (36, (36, []))]⟩ rfl (by kernel_rfl) (by kernel_rfl)
        · refine TS_know 48 (b := false) hb12 (by kernel_rfl) (by kernel_rfl) ?_
          refine TS_know 10 (b := false) hb12 (by kernel_rfl) (by kernel_rfl) ?_
          refine TS_know 53 (b := false) hb12 (by kernel_rfl) (by kernel_rfl) ?_
          refine TS_know 54 (b := true) (notT hb12) (by kernel_rfl) (by kernel_rfl) ?_
          refine TS_know 55 (b := true) (notT hb12) (by kernel_rfl) (by kernel_rfl) ?_
          refine TS_T (by kernel_rfl) rfl ?_
          refine TS_go 8 ?_
          obtain rfl := Option.some.inj h
          have hy1q := hy1 _ rfl
          subst hy1q
          replace h := (elimR hK1)
          refine TS_retB rfl (by kernel_rfl) ?_
          refine TS_go 2 ?_
          obtain rfl := Option.some.inj h
          exact TS_ret (by kernel_rfl) (by kernel_rfl) (by kernel_rfl)
    · refine TS_know 39 (b := false) hb8 (by kernel_rfl) (by kernel_rfl) ?_
      refine TS_F (by kernel_rfl) rfl ?_
      refine TS_go 2 ?_
      obtain rfl := Option.some.inj h
      exact TS_brkB s5.1 ⟨[(3, []), (4, []), (5, []), (6, [])], [(27, (27, [])), (33, (33, []))]⟩ rfl (by kernel_rfl) (by kernel_rfl) (by kernel_rfl)
  · intro b6 hb
    subst y7
    have h := elimL hK1
    refine TS_go 5 ?_
    replace h := bindO h
    obtain ⟨v14, hv14, h⟩ := h
    refine TS_con [[21]] [(60, 900000)] none (okT_storing_Expire v3.1 (Int.tmod v2.1 1000) v14 hv14) (by kernel_rfl) (by kernel_rfl) (by kernel_rfl) ?_
    refine TS_go 11 ?_
    replace h := condO h
    rcases h with ⟨hb15, h⟩ | ⟨hb15, h⟩
    · refine TS_know 65 (b := true) hb15 (by kernel_rfl) (by kernel_rfl) ?_
      refine TS_T (by kernel_rfl) rfl ?_
      refine TS_go 6 ?_
      obtain rfl := Option.some.inj h
      exact TS_ret (by kernel_rfl) (by kernel_rfl) (by kernel_rfl)
    · refine TS_know 65 (b := false) hb15 (by kernel_rfl) (by kernel_rfl) ?_
      refine TS_F (by kernel_rfl) rfl ?_
      refine TS_go 9 ?_
      refine TS_cut ⟨[(3, []), (4, []), (6, []), (12, []), (67, []), (68, [])], [(27, (27, [])), (60, (60, []))]⟩ (.mk [.code (codeAt [1, 1, 1, 1, 1, 1, 1, 1, 0, 1, 0] (bodyOf Try.f7)), .blk 2, .code (codeAt [1, 1, 1, 1, 1, 1, 1, 1, 1] (bodyOf Try.f7))] .normal ⟨[(3, .c (.box 27 0)), (4, .c (.lit (.int .i64 (Int.tmod v2.1 1000)))), (6, .c (.slc 20 0 (List.length b6) (List.map S_Down.cs b6))), (12, .c (.slc 20 62 (List.length v14) (List.map S_Down.cs v14))), (67, .c (.lit (.int .i64 ((List.length b6 : Int))))), (68, .c (.lit (.int .i64 (0))))], [(27, .box [.slc 1 0 (List.length v3.2.l) (List.map (ecI .i64) v3.2.l), .lit (.int .i64 (v3.2.at_))]), (60, .spare 39 20 (List.length v14))]⟩) (by kernel_rfl) (by kernel_rfl) ?_
      replace h := bindO h
      obtain ⟨y18, hl2, hK2⟩ := h
      refine TS_loopB (F_law33_StoringPasses_l2 b6 v14) ⟨[(3, []), (4, []), (6, []), (12, []), (67, []), (68, [])], [(27, (27, [])), (60, (60, []))]⟩ (fun (s16 : Int) => [(68, .c (.lit (.int .i64 (s16))))]) (fun (s16 : Int) => []) 0 y18 (.exit 2) (fun (b : Unit) => (Sum.inl b : (Unit) ⊕ (Bool))) ⟨[(3, []), (4, []), (6, []), (12, [])], [(27, (27, [])), (60, (60, []))]⟩ (fun (b17 : Unit) => []) (fun (b17 : Unit) => []) hl2 (by kernel_rfl) (by kernel_rfl) ?_ ?_
      · intro s16 x h hy2
        unfold F_law33_StoringPasses_l2 at h
        refine TS_go 5 ?_
        replace h := condO h
        rcases h with ⟨hb19, h⟩ | ⟨hb19, h⟩
        · refine TS_know 69 (b := true) hb19 (by kernel_rfl) (by kernel_rfl) ?_
          refine TS_T (by kernel_rfl) rfl ?_
          refine TS_go 9 ?_
          refine TS_draw (by kernel_rfl) ?_
          refine TD_go 2 ?_
          replace h := bindO h
          obtain ⟨e20, he20, h⟩ := h
          refine TD_idx S_Down.cs he20 (by kernel_rfl) (by kernel_rfl) ?_
          refine TD_go 4 ?_
          replace h := bindO h
          obtain ⟨e21, he21, h⟩ := h
          refine TD_idx S_Down.cs he21 (by kernel_rfl) (by kernel_rfl) ?_
          refine TD_go 3 ?_
          replace h := condO h
          rcases h with ⟨hb22, h⟩ | ⟨hb22, h⟩
          · refine TD_know 82 (b := false) (notF hb22) trivial (by kernel_rfl) (by kernel_rfl) ?_
            refine TD_go 2 ?_
            replace h := bindO h
            obtain ⟨e23, he23, h⟩ := h
            refine TD_idx S_Down.cs he23 (by kernel_rfl) (by kernel_rfl) ?_
            refine TD_go 4 ?_
            replace h := bindO h
            obtain ⟨e24, he24, h⟩ := h
            refine TD_idx S_Down.cs he24 (by kernel_rfl) (by kernel_rfl) ?_
            refine TD_go 4 ?_
            replace h := condO h
            rcases h with ⟨hb25, h⟩ | ⟨hb25, h⟩
            · refine TD_know 95 (b := true) hb25 trivial (by kernel_rfl) (by kernel_rfl) ?_
              refine TD_go 7 ?_
              refine TD_end (by kernel_rfl) ?_
              refine TS_T (by kernel_rfl) rfl ?_
              refine TS_go 7 ?_
              obtain rfl := Option.some.inj h
              have hy2q := hy2 _ rfl
              subst hy2q
              replace h := (elimR hK2)
              refine TS_retB rfl (by kernel_rfl) ?_
              refine TS_go 2 ?_
              obtain rfl := Option.some.inj h
              exact TS_ret (by kernel_rfl) (by kernel_rfl) (by kernel_rfl)
            · refine TD_know 95 (b := false) hb25 trivial (by kernel_rfl) (by kernel_rfl) ?_
              refine TD_go 2 ?_
              replace h := bindO h
              obtain ⟨e26, he26, h⟩ := h
              refine TD_idx S_Down.cs he26 (by kernel_rfl) (by kernel_rfl) ?_
              refine TD_go 4 ?_
              refine TD_end (by kernel_rfl) ?_
              replace h := condO h
              rcases h with ⟨hb27, h⟩ | ⟨hb27, h⟩
              · refine TS_know 81 (b := false) (notF hb22) (by kernel_rfl) (by kernel_rfl) ?_
                refine TS_know 93 (b := false) hb25 (by kernel_rfl) (by kernel_rfl) ?_
                refine TS_know 94 (b := false) hb25 (by kernel_rfl) (by kernel_rfl) ?_
                refine TS_know 101 (b := true) hb27 (by kernel_rfl) (by kernel_rfl) ?_
                refine TS_know 102 (b := true) hb27 (by kernel_rfl) (by kernel_rfl) ?_
                refine TS_T (by kernel_rfl) rfl ?_
                refine TS_go 7 ?_
                obtain rfl := Option.some.inj h
                have hy2q := hy2 _ rfl
                subst hy2q
                replace h := (elimR hK2)
                refine TS_retB rfl (by kernel_rfl) ?_
                refine TS_go 2 ?_
                obtain rfl := Option.some.inj h
                exact TS_ret (by kernel_rfl) (by kernel_rfl) (by kernel_rfl)
              · refine TS_know 81 (b := false) (notF hb22) (by kernel_rfl) (by kernel_rfl) ?_
                refine TS_know 93 (b := false) hb25 (by kernel_rfl) (by kernel_rfl) ?_
                refine TS_know 94 (b := false) hb25 (by kernel_rfl) (by kernel_rfl) ?_
                refine TS_know 101 (b := false) hb27 (by kernel_rfl) (by kernel_rfl) ?_
                refine TS_know 102 (b := false) hb27 (by kernel_rfl) (by kernel_rfl) ?_
                refine TS_F (by kernel_rfl) rfl ?_
                refine TS_go 6 ?_
                obtain rfl := Option.some.inj h
                exact TS_againB _ ⟨[(3, []), (4, []), (6, []), (12, []), (67, []), (68, [])], [(27, (27, [])), (60, (60, []))]⟩ rfl (by kernel_rfl) (by kernel_rfl)
          · refine TD_know 82 (b := true) (notT hb22) trivial (by kernel_rfl) (by kernel_rfl) ?_
            refine TD_go 20 ?_
            refine TD_end (by kernel_rfl) ?_
            refine TS_T (by kernel_rfl) rfl ?_
            refine TS_go 7 ?_
            obtain rfl := Option.some.inj h
            have hy2q := hy2 _ rfl
            subst hy2q
            replace h := (elimR hK2)
            refine TS_retB rfl (by kernel_rfl) ?_
            refine TS_go 2 ?_
            obtain rfl := Option.some.inj h
            exact TS_ret (by kernel_rfl) (by kernel_rfl) (by kernel_rfl)
        · refine TS_know 69 (b := false) hb19 (by kernel_rfl) (by kernel_rfl) ?_
          refine TS_F (by kernel_rfl) rfl ?_
          refine TS_go 2 ?_
          obtain rfl := Option.some.inj h
          exact TS_brkB () ⟨[(3, []), (4, []), (6, []), (12, [])], [(27, (27, [])), (60, (60, []))]⟩ rfl (by kernel_rfl) (by kernel_rfl) (by kernel_rfl)
      · intro b17 hb
        subst y18
        have h := elimL hK2
        refine TS_go 4 ?_
        replace h := bindO h
        obtain ⟨v29, hv29, h⟩ := h
        refine TS_con [] [] (some (27, 0)) (ok_world_EUI v3.2 v29 hv29) (by kernel_rfl) (by kernel_rfl) (by kernel_rfl) ?_
        refine TS_go 6 ?_
        replace h := bindO h
        obtain ⟨v30, hv30, h⟩ := h
        refine TS_con [[21]] [(109, 900000), (600000, 900001)] none (okT_storing_Drop v14 v29.1 v30 hv30) (by kernel_rfl) (by kernel_rfl) (by kernel_rfl) ?_
        refine TS_go 14 ?_
        refine TS_cut ⟨[(4, []), (6, []), (12, []), (14, []), (112, []), (113, []), (114, [])], [(60, (60, [])), (600000, (600000, []))]⟩ (.mk [.code (codeAt [1, 1, 1, 1, 1, 1, 1, 1, 1, 1, 1, 0, 1, 0] (bodyOf Try.f7)), .blk 4, .code (codeAt [1, 1, 1, 1, 1, 1, 1, 1, 1, 1, 1, 1] (bodyOf Try.f7))] .normal ⟨[(4, .c (.lit (.int .i64 (Int.tmod v2.1 1000)))), (6, .c (.slc 20 0 (List.length b6) (List.map S_Down.cs b6))), (12, .c (.slc 20 62 (List.length v14) (List.map S_Down.cs v14))), (14, .c (.lit (.int .u64 (v29.1)))), (112, .c (.slc 19 600002 (List.length v30.2) (List.map S_Register.cs v30.2))), (113, .c (.lit (.int .i64 ((List.length v30.2 : Int))))), (114, .c (.lit (.int .i64 (0))))], [(60, .spare 39 20 (List.length v14)), (600000, .spare 31 19 (List.length v30.2))]⟩) (by kernel_rfl) (by kernel_rfl) ?_
        replace h := bindO h
        obtain ⟨y33, hl3, hK3⟩ := h
        refine TS_loopB (F_law33_StoringPasses_l3 v30 v2) ⟨[(4, []), (6, []), (12, []), (14, []), (112, []), (113, []), (114, [])], [(60, (60, [])), (600000, (600000, []))]⟩ (fun (s31 : (List S_Down) × Int) => [(6, .c (eS 20 S_Down.cs (s31.1))), (114, .c (.lit (.int .i64 (s31.2))))]) (fun (s31 : (List S_Down) × Int) => []) (b6, 0) y33 (.exit 4) (fun (b : (List S_Down)) => (Sum.inl b : ((List S_Down)) ⊕ (Bool))) ⟨[(4, []), (6, []), (12, []), (14, [])], [(60, (60, []))]⟩ (fun (b32 : (List S_Down)) => [(6, .c (eS 20 S_Down.cs (b32)))]) (fun (b32 : (List S_Down)) => []) hl3 (by kernel_rfl) (by kernel_rfl) ?_ ?_
        · intro s31 x h hy3
          unfold F_law33_StoringPasses_l3 at h
          refine TS_go 5 ?_
          replace h := condO h
          rcases h with ⟨hb34, h⟩ | ⟨hb34, h⟩
          · refine TS_know 115 (b := true) hb34 (by kernel_rfl) (by kernel_rfl) ?_
            refine TS_T (by kernel_rfl) rfl ?_
            refine TS_go 5 ?_
            replace h := bindO h
            obtain ⟨e35, he35, h⟩ := h
            refine TS_idx S_Register.cs he35 (by kernel_rfl) (by kernel_rfl) ?_
            refine TS_go 9 ?_
            replace h := bindO h
            obtain ⟨v36, hv36, h⟩ := h
            refine TS_call [] (ok_storing_Accept s31.1 (Int.tmod v2.1 1000) 9 e35 v36 hv36) (by kernel_rfl) (by kernel_rfl) ?_
            refine TS_go 14 ?_
            replace h := condO h
            rcases h with ⟨hb37, h⟩ | ⟨hb37, h⟩
            · refine TS_know 127 (b := true) hb37 (by kernel_rfl) (by kernel_rfl) ?_
              refine TS_T (by kernel_rfl) rfl ?_
              refine TS_go 8 ?_
              obtain rfl := Option.some.inj h
              have hy3q := hy3 _ rfl
              subst hy3q
              replace h := (elimR hK3)
              refine TS_retB rfl (by kernel_rfl) ?_
              refine TS_go 2 ?_
              obtain rfl := Option.some.inj h
              exact TS_ret (by kernel_rfl) (by kernel_rfl) (by kernel_rfl)
            · refine TS_know 127 (b := false) hb37 (by kernel_rfl) (by kernel_rfl) ?_
              refine TS_F (by kernel_rfl) rfl ?_
              refine TS_go 10 ?_
              obtain rfl := Option.some.inj h
              exact TS_againB _ ⟨[(4, []), (6, []), (12, []), (14, []), (112, []), (113, []), (114, [])], [(60, (60, [])), (600000, (600000, []))]⟩ rfl (by kernel_rfl) (by kernel_rfl)
          · refine TS_know 115 (b := false) hb34 (by kernel_rfl) (by kernel_rfl) ?_
            refine TS_F (by kernel_rfl) rfl ?_
            refine TS_go 2 ?_
            obtain rfl := Option.some.inj h
            exact TS_brkB s31.1 ⟨[(4, []), (6, []), (12, []), (14, [])], [(60, (60, []))]⟩ rfl (by kernel_rfl) (by kernel_rfl) (by kernel_rfl)
        · intro b32 hb
          subst y33
          have h := elimL hK3
          refine TS_go 9 ?_
          refine TS_cut ⟨[(4, []), (6, []), (14, []), (130, []), (131, []), (132, [])], [(60, (60, []))]⟩ (.mk [.code (codeAt [1, 1, 1, 1, 1, 1, 1, 1, 1, 1, 1, 1, 0, 1, 0] (bodyOf Try.f7)), .blk 6, .code (codeAt [1, 1, 1, 1, 1, 1, 1, 1, 1, 1, 1, 1, 1] (bodyOf Try.f7))] .normal ⟨[(4, .c (.lit (.int .i64 (Int.tmod v2.1 1000)))), (6, .c (.slc 20 0 (List.length b32) (List.map S_Down.cs b32))), (14, .c (.lit (.int .u64 (v29.1)))), (130, .c (.slc 20 62 (List.length v14) (List.map S_Down.cs v14))), (131, .c (.lit (.int .i64 ((List.length v14 : Int))))), (132, .c (.lit (.int .i64 (0))))], [(60, .spare 39 20 (List.length v14))]⟩) (by kernel_rfl) (by kernel_rfl) ?_
          replace h := bindO h
          obtain ⟨y41, hl4, hK4⟩ := h
          refine TS_loopB (F_law33_StoringPasses_l4 v14 b32 v2 v29) ⟨[(4, []), (6, []), (14, []), (130, []), (131, []), (132, [])], [(60, (60, []))]⟩ (fun (s39 : Int) => [(132, .c (.lit (.int .i64 (s39))))]) (fun (s39 : Int) => []) 0 y41 (.exit 6) (fun (b : Unit) => (Sum.inl b : (Unit) ⊕ (Bool))) ⟨[], []⟩ (fun (b40 : Unit) => []) (fun (b40 : Unit) => []) hl4 (by kernel_rfl) (by kernel_rfl) ?_ ?_
          · intro s39 x h hy4
            unfold F_law33_StoringPasses_l4 at h
            refine TS_go 5 ?_
            replace h := condO h
            rcases h with ⟨hb42, h⟩ | ⟨hb42, h⟩
            · refine TS_know 133 (b := true) hb42 (by kernel_rfl) (by kernel_rfl) ?_
              refine TS_T (by kernel_rfl) rfl ?_
              refine TS_go 5 ?_
              replace h := bindO h
              obtain ⟨e43, he43, h⟩ := h
              refine TS_idx S_Down.cs he43 (by kernel_rfl) (by kernel_rfl) ?_
              refine TS_go 10 ?_
              replace h := bindO h
              obtain ⟨v44, hv44, h⟩ := h
              refine TS_call [] (ok_ref33_Find b32 (Int.tmod v2.1 1000) e43.Target v44 hv44) (by kernel_rfl) (by kernel_rfl) ?_
              refine TS_go 16 ?_
              replace h := condO h
              rcases h with ⟨hb45, h⟩ | ⟨hb45, h⟩
              · refine TS_know 149 (b := false) (notF hb45) (by kernel_rfl) (by kernel_rfl) ?_
                refine TS_F (by kernel_rfl) rfl ?_
                refine TS_go 6 ?_
                obtain rfl := Option.some.inj h
                exact TS_againB _ ⟨[(4, []), (6, []), (14, []), (130, []), (131, []), (132, [])], [(60, (60, []))]⟩ rfl (by kernel_rfl) (by kernel_rfl)
              · refine TS_know 149 (b := true) (notT hb45) (by kernel_rfl) (by kernel_rfl) ?_
                refine TS_T (by kernel_rfl) rfl ?_
                refine TS_go 7 ?_
                obtain rfl := Option.some.inj h
                have hy4q := hy4 _ rfl
                subst hy4q
                replace h := (elimR hK4)
                refine TS_retB rfl (by kernel_rfl) ?_
                refine TS_go 2 ?_
                obtain rfl := Option.some.inj h
                exact TS_ret (by kernel_rfl) (by kernel_rfl) (by kernel_rfl)
            · refine TS_know 133 (b := false) hb42 (by kernel_rfl) (by kernel_rfl) ?_
              refine TS_F (by kernel_rfl) rfl ?_
              refine TS_go 2 ?_
              obtain rfl := Option.some.inj h
              exact TS_brkB () ⟨[], []⟩ rfl (by kernel_rfl) (by kernel_rfl) (by kernel_rfl)
          · intro b40 hb
            subst y41
            have h := elimL hK4
            refine TS_go 3 ?_
            replace h := bindO h
            obtain ⟨v47, hv47, h⟩ := h
            refine TS_call [] (ok_law33_known  v47 hv47) (by kernel_rfl) (by kernel_rfl) ?_
            refine TS_go 3 ?_
            obtain rfl := Option.some.inj h
            exact TS_ret (by kernel_rfl) (by kernel_rfl) (by kernel_rfl)

/-- multihop/multihopref33.Drop -/
noncomputable def F_ref33_Drop_j2 (s3 : (List S_Down) × (List S_Register) × Int) (v7 : (List S_Down) × (List S_Register)) : Option (((List S_Down) × (List S_Register) × Int) ⊕ ((List S_Down) × (List S_Register))) :=
  some (Sum.inl (v7.1, v7.2, IntKind.wrap .i64 (s3.2.2 + 1)))
noncomputable def F_ref33_Drop_l1 (a0 : List S_Down) (a1 : Int) (s3 : (List S_Down) × (List S_Register) × Int) : Option (((List S_Down) × (List S_Register) × Int) ⊕ ((List S_Down) × (List S_Register))) :=
  bif (decide (s3.2.2 < (List.length a0 : Int))) then
    (idx a0 s3.2.2).bind fun e8 =>
    bif (e8.Via == a1) then
      (appO 40 s3.2.1 (Cut.app .whole ([(S_Register.mk e8.Target e8.Sequence 0)] : List S_Register))).bind fun l10 =>
      (F_ref33_Drop_j2 s3) (s3.1, l10)
    else
      (appO 48 s3.1 (Cut.app .whole ([e8] : List S_Down))).bind fun l11 =>
      (F_ref33_Drop_j2 s3) (l11, s3.2.1)
  else
    some (Sum.inr (s3.1, s3.2.1))
noncomputable def F_ref33_Drop (a0 : List S_Down) (a1 : Int) : Option ((List S_Down) × (List S_Register)) :=
  (F_ref33_Valid a0).bind fun v1 =>
  bif v1 then
    (loopO (F_ref33_Drop_l1 a0 a1) (([] : List S_Down), ([] : List S_Register), 0)).bind fun b4 =>
    some ((b4.1, b4.2))
  else
    some ((([] : List S_Down), ([] : List S_Register)))
set_option maxRecDepth 100000 in
set_option maxHeartbeats 40000000 in
theorem okT_ref33_Drop (a0 : List S_Down) (a1 : Int) (r : (List S_Down) × (List S_Register)) (h : F_ref33_Drop a0 a1 = some r) : Con Try.prog 49 [.c (eS 20 S_Down.cs (a0)), .c (.lit (.int .u64 (a1)))] [] (.tup [(false, [.slc 20 900002 (List.length r.1) (List.map S_Down.cs r.1)]), (false, [.slc 19 900003 (List.length r.2) (List.map S_Register.cs r.2)])]) [(900000, .spare 39 20 (List.length r.1)), (900001, .spare 31 19 (List.length r.2))] := by
  unfold F_ref33_Drop at h
  refine con_of [] [(900000, []), (900001, [])] 38 Try.func49 rfl rfl (by kernel_rfl) (fun K => ?_)
  refine TS_go 9 ?_
  replace h := bindO h
  obtain ⟨v1, hv1, h⟩ := h
  refine TS_call [] (ok_ref33_Valid a0 v1 hv1) (by kernel_rfl) (by kernel_rfl) ?_
  refine TS_go 2 ?_
  replace h := condO h
  rcases h with ⟨hb2, h⟩ | ⟨hb2, h⟩
  · subst hb2
    refine TS_F (by kernel_rfl) rfl ?_
    refine TS_go 17 ?_
    refine TS_nilT 6 600000 39 20 (by kernel_rfl) ?_
    refine TS_nilT 7 600001 31 19 (by kernel_rfl) ?_
    refine TS_cut ⟨[(1, []), (6, []), (7, []), (13, []), (14, []), (15, [])], [(600000, (600000, [])), (600001, (600001, []))]⟩ (.mk [.code (codeAt [1, 1, 1, 1, 0, 1, 0] (bodyOf Try.f49)), .blk 0, .code (codeAt [1, 1, 1, 1, 1] (bodyOf Try.f49))] .normal ⟨[(1, .c (.lit (.int .u64 (a1)))), (6, .c (.slc 20 600002 (List.length ([] : List S_Down)) (List.map S_Down.cs ([] : List S_Down)))), (7, .c (.slc 19 600003 (List.length ([] : List S_Register)) (List.map S_Register.cs ([] : List S_Register)))), (13, .c (.slc 20 0 (List.length a0) (List.map S_Down.cs a0))), (14, .c (.lit (.int .i64 ((List.length a0 : Int))))), (15, .c (.lit (.int .i64 (0))))], [(600000, .spare 39 20 (List.length ([] : List S_Down))), (600001, .spare 31 19 (List.length ([] : List S_Register)))]⟩) (by kernel_rfl) (by kernel_rfl) ?_
    replace h := bindO h
    obtain ⟨y5, hl1, hK1⟩ := h
    refine TS_loopB (F_ref33_Drop_l1 a0 a1) ⟨[(1, []), (6, []), (7, []), (13, []), (14, []), (15, [])], [(600000, (600000, [])), (600001, (600001, []))]⟩ (fun (s3 : (List S_Down) × (List S_Register) × Int) => [(6, .c (.slc 20 600002 (List.length s3.1) (List.map S_Down.cs s3.1))), (7, .c (.slc 19 600003 (List.length s3.2.1) (List.map S_Register.cs s3.2.1))), (15, .c (.lit (.int .i64 (s3.2.2))))]) (fun (s3 : (List S_Down) × (List S_Register) × Int) => [(600000, .spare 39 20 (List.length s3.1)), (600001, .spare 31 19 (List.length s3.2.1))]) (([] : List S_Down), ([] : List S_Register), 0) y5 (.exit 0) (fun (b : (List S_Down) × (List S_Register)) => b) ⟨[(6, []), (7, [])], [(600000, (600000, [])), (600001, (600001, []))]⟩ (fun (b4 : (List S_Down) × (List S_Register)) => [(6, .c (.slc 20 600002 (List.length b4.1) (List.map S_Down.cs b4.1))), (7, .c (.slc 19 600003 (List.length b4.2) (List.map S_Register.cs b4.2)))]) (fun (b4 : (List S_Down) × (List S_Register)) => [(600000, .spare 39 20 (List.length b4.1)), (600001, .spare 31 19 (List.length b4.2))]) hl1 (by kernel_rfl) (by kernel_rfl) ?_ ?_
    · intro s3 x h hy1
      unfold F_ref33_Drop_l1 at h
      refine TS_go 5 ?_
      replace h := condO h
      rcases h with ⟨hb6, h⟩ | ⟨hb6, h⟩
      · refine TS_know 16 (b := true) hb6 (by kernel_rfl) (by kernel_rfl) ?_
        refine TS_T (by kernel_rfl) rfl ?_
        refine TS_go 1 ?_
        refine TS_cut ⟨[(1, []), (6, []), (7, []), (13, []), (14, []), (15, [])], [(600000, (600000, [])), (600001, (600001, []))]⟩ (.mk [.code (codeAt [1, 1, 1, 1, 0, 1, 0, 0, 1, 1] (bodyOf Try.f49))] .normal ⟨[(1, .c (.lit (.int .u64 (a1)))), (6, .c (.slc 20 600002 (List.length s3.1) (List.map S_Down.cs s3.1))), (7, .c (.slc 19 600003 (List.length s3.2.1) (List.map S_Register.cs s3.2.1))), (13, .c (.slc 20 0 (List.length a0) (List.map S_Down.cs a0))), (14, .c (.lit (.int .i64 ((List.length a0 : Int))))), (15, .c (.lit (.int .i64 (s3.2.2))))], [(600000, .spare 39 20 (List.length s3.1)), (600001, .spare 31 19 (List.length s3.2.1))]⟩) (by kernel_rfl) (by kernel_rfl) ?_
        refine TS_joinB ⟨[(1, []), (6, []), (7, []), (13, []), (14, []), (15, [])], [(600000, (600000, [])), (600001, (600001, []))]⟩ (fun (v7 : (List S_Down) × (List S_Register)) => [(6, .c (.slc 20 600002 (List.length v7.1) (List.map S_Down.cs v7.1))), (7, .c (.slc 19 600003 (List.length v7.2) (List.map S_Register.cs v7.2)))]) (fun (v7 : (List S_Down) × (List S_Register)) => [(600000, .spare 39 20 (List.length v7.1)), (600001, .spare 31 19 (List.length v7.2))]) (F_ref33_Drop_j2 s3) x ?_ ?_
        · clear h
          intro v7 h
          unfold F_ref33_Drop_j2 at h
          refine TS_go 4 ?_
          obtain rfl := Option.some.inj h
          exact TS_againB _ ⟨[(1, []), (6, []), (7, []), (13, []), (14, []), (15, [])], [(600000, (600000, [])), (600001, (600001, []))]⟩ rfl (by kernel_rfl) (by kernel_rfl)
        · refine TS_go 3 ?_
          replace h := bindO h
          obtain ⟨e8, he8, h⟩ := h
          refine TS_idx S_Down.cs he8 (by kernel_rfl) (by kernel_rfl) ?_
          refine TS_go 11 ?_
          replace h := condO h
          rcases h with ⟨hb9, h⟩ | ⟨hb9, h⟩
          · refine TS_know 22 (b := true) hb9 (by kernel_rfl) (by kernel_rfl) ?_
            refine TS_T (by kernel_rfl) rfl ?_
            refine TS_go 7 ?_
            refine TS_litNT 29 31 19 S_Register.cs [] ([(S_Register.mk e8.Target e8.Sequence 0)] : List S_Register) (by kernel_rfl) (by kernel_rfl) ?_
            replace h := bindO h
            obtain ⟨l10, hl10, h⟩ := h
            refine TS_appT (d := 600001) (e := 31) (sz := 19) (N := List.length s3.2.1) S_Register.cs (fun _ => by kernel_rfl) (l1 := s3.2.1) (l2 := ([(S_Register.mk e8.Target e8.Sequence 0)] : List S_Register)) (c := .whole) hl10 (by kernel_rfl) (by kernel_rfl) ?_
            refine TS_go 3 ?_
            exact TS_meet (s3.1, l10) ⟨[(1, []), (6, []), (7, []), (13, []), (14, []), (15, [])], [(600000, (600000, [])), (600001, (600001, []))]⟩ h (by kernel_rfl) (by kernel_rfl)
          · refine TS_know 22 (b := false) hb9 (by kernel_rfl) (by kernel_rfl) ?_
            refine TS_F (by kernel_rfl) rfl ?_
            refine TS_go 3 ?_
            refine TS_litNT 33 39 20 S_Down.cs [] ([e8] : List S_Down) (by kernel_rfl) (by kernel_rfl) ?_
            replace h := bindO h
            obtain ⟨l11, hl11, h⟩ := h
            refine TS_appT (d := 600000) (e := 39) (sz := 20) (N := List.length s3.1) S_Down.cs (fun _ => by kernel_rfl) (l1 := s3.1) (l2 := ([e8] : List S_Down)) (c := .whole) hl11 (by kernel_rfl) (by kernel_rfl) ?_
            refine TS_go 3 ?_
            exact TS_meet (l11, s3.2.1) ⟨[(1, []), (6, []), (7, []), (13, []), (14, []), (15, [])], [(600000, (600000, [])), (600001, (600001, []))]⟩ h (by kernel_rfl) (by kernel_rfl)
      · refine TS_know 16 (b := false) hb6 (by kernel_rfl) (by kernel_rfl) ?_
        refine TS_F (by kernel_rfl) rfl ?_
        refine TS_go 2 ?_
        obtain rfl := Option.some.inj h
        exact TS_brkB (s3.1, s3.2.1) ⟨[(6, []), (7, [])], [(600000, (600000, [])), (600001, (600001, []))]⟩ rfl (by kernel_rfl) (by kernel_rfl) (by kernel_rfl)
    · intro b4 hb
      subst y5
      have h := hK1
      refine TS_go 8 ?_
      refine TS_fitU ⟨[(4, []), (5, [])], [(600000, (900000, [])), (600001, (900001, []))]⟩ (by kernel_rfl) ?_
      refine TS_go 1 ?_
      obtain rfl := Option.some.inj h
      exact TS_ret (by kernel_rfl) (by kernel_rfl) (by kernel_rfl)
  · subst hb2
    refine TS_T (by kernel_rfl) rfl ?_
    refine TS_go 5 ?_
    refine TS_nilT 4 600000 39 20 (by kernel_rfl) ?_
    refine TS_nilT 5 600001 31 19 (by kernel_rfl) ?_
    refine TS_fitU ⟨[(4, []), (5, [])], [(600000, (900000, [])), (600001, (900001, []))]⟩ (by kernel_rfl) ?_
    refine TS_go 2 ?_
    obtain rfl := Option.some.inj h
    exact TS_ret (by kernel_rfl) (by kernel_rfl) (by kernel_rfl)
theorem ok_ref33_Drop (a0 : List S_Down) (a1 : Int) (r : (List S_Down) × (List S_Register)) (h : F_ref33_Drop a0 a1 = some r) : Con Try.prog 49 [.c (eS 20 S_Down.cs (a0)), .c (.lit (.int .u64 (a1)))] [] (.tup [(false, [eS 20 S_Down.cs (r.1)]), (false, [eS 19 S_Register.cs (r.2)])]) [] :=
  con_drop [[21], [20]] [] (okT_ref33_Drop a0 a1 r h) (by kernel_rfl) (by kernel_rfl) (by kernel_rfl)

/-- multihop/multihopref33.Next -/
noncomputable def F_ref33_Next_j2 (s5 : Int × Int × Int) (v9 : Int × Int) : Option ((Int × Int × Int) ⊕ (Int × Int)) :=
  some (Sum.inl (v9.1, v9.2, IntKind.wrap .i64 (s5.2.2 + 1)))
noncomputable def F_ref33_Next_l1 (a0 : List S_Down) (a1 : Int) (a2 : List Int) (s5 : Int × Int × Int) : Option ((Int × Int × Int) ⊕ (Int × Int)) :=
  bif (decide (s5.2.2 < (List.length a0 : Int))) then
    (idx a0 s5.2.2).bind fun e10 =>
    bif (decide (e10.Until > a1)) then
      bif (decide (e10.Target.Bits > s5.1)) then
        (F_ref04_Contains e10.Target a2).bind fun v13 =>
        bif v13 then
          (F_ref33_Next_j2 s5) (e10.Target.Bits, e10.Via)
        else
          (F_ref33_Next_j2 s5) (s5.1, s5.2.1)
      else
        (F_ref33_Next_j2 s5) (s5.1, s5.2.1)
    else
      (F_ref33_Next_j2 s5) (s5.1, s5.2.1)
  else
    some (Sum.inr (s5.1, s5.2.1))
noncomputable def F_ref33_Next (a0 : List S_Down) (a1 : Int) (a2 : List Int) : Option (Int × Int) :=
  (F_ref33_Valid a0).bind fun v1 =>
  bif v1 then
    (F_ref22_IsTime a1).bind fun v3 =>
    bif v3 then
      (loopO (F_ref33_Next_l1 a0 a1 a2) ((-1), 0, 0)).bind fun b6 =>
      bif (decide (b6.1 < 0)) then
        some ((0, 15))
      else
        some ((b6.2, 0))
    else
      some ((0, 2))
  else
    some ((0, 1))
set_option maxRecDepth 100000 in
set_option maxHeartbeats 40000000 in
theorem ok_ref33_Next (a0 : List S_Down) (a1 : Int) (a2 : List Int) (r : Int × Int) (h : F_ref33_Next a0 a1 a2 = some r) : Con Try.prog 50 [.c (eS 20 S_Down.cs (a0)), .c (.lit (.int .i64 (a1))), .agg (arrS .u8 16 a2)] [] (.tup [(false, [.lit (.int .u64 (r.1))]), (false, [.lit (.int .i64 (r.2))])]) [] := by
  unfold F_ref33_Next at h
  refine con_of [] [] 50 Try.func50 rfl rfl (by kernel_rfl) (fun K => ?_)
  refine TS_go 10 ?_
  replace h := bindO h
  obtain ⟨v1, hv1, h⟩ := h
  refine TS_call [] (ok_ref33_Valid a0 v1 hv1) (by kernel_rfl) (by kernel_rfl) ?_
  refine TS_go 2 ?_
  replace h := condO h
  rcases h with ⟨hb2, h⟩ | ⟨hb2, h⟩
  · subst hb2
    refine TS_F (by kernel_rfl) rfl ?_
    refine TS_go 5 ?_
    replace h := bindO h
    obtain ⟨v3, hv3, h⟩ := h
    refine TS_call [] (ok_ref22_IsTime a1 v3 hv3) (by kernel_rfl) (by kernel_rfl) ?_
    refine TS_go 2 ?_
    replace h := condO h
    rcases h with ⟨hb4, h⟩ | ⟨hb4, h⟩
    · subst hb4
      refine TS_F (by kernel_rfl) rfl ?_
      refine TS_go 17 ?_
      refine TS_cut ⟨[(1, []), (5, []), (8, []), (9, []), (18, []), (19, []), (20, [])], [(5, (5, []))]⟩ (.mk [.code (codeAt [1, 1, 1, 1, 1, 0, 1, 0] (bodyOf Try.f50)), .blk 0, .code (codeAt [1, 1, 1, 1, 1, 1] (bodyOf Try.f50))] .normal ⟨[(1, .c (.lit (.int .i64 (a1)))), (5, .c (.box 5 0)), (8, .c (.lit (.int .i64 ((-1))))), (9, .c (.lit (.int .u64 (0)))), (18, .c (.slc 20 0 (List.length a0) (List.map S_Down.cs a0))), (19, .c (.lit (.int .i64 ((List.length a0 : Int))))), (20, .c (.lit (.int .i64 (0))))], [(5, .box [.lit (.int .u8 ((a2.getD 0 0))), .lit (.int .u8 ((a2.getD 1 0))), .lit (.int .u8 ((a2.getD 2 0))), .lit (.int .u8 ((a2.getD 3 0))), .lit (.int .u8 ((a2.getD 4 0))), .lit (.int .u8 ((a2.getD 5 0))), .lit (.int .u8 ((a2.getD 6 0))), .lit (.int .u8 ((a2.getD 7 0))), .lit (.int .u8 ((a2.getD 8 0))), .lit (.int .u8 ((a2.getD 9 0))), .lit (.int .u8 ((a2.getD 10 0))), .lit (.int .u8 ((a2.getD 11 0))), .lit (.int .u8 ((a2.getD 12 0))), .lit (.int .u8 ((a2.getD 13 0))), .lit (.int .u8 ((a2.getD 14 0))), .lit (.int .u8 ((a2.getD 15 0)))])]⟩) (by kernel_rfl) (by kernel_rfl) ?_
      replace h := bindO h
      obtain ⟨y7, hl1, hK1⟩ := h
      refine TS_loopB (F_ref33_Next_l1 a0 a1 a2) ⟨[(1, []), (5, []), (8, []), (9, []), (18, []), (19, []), (20, [])], [(5, (5, []))]⟩ (fun (s5 : Int × Int × Int) => [(8, .c (.lit (.int .i64 (s5.1)))), (9, .c (.lit (.int .u64 (s5.2.1)))), (20, .c (.lit (.int .i64 (s5.2.2))))]) (fun (s5 : Int × Int × Int) => []) ((-1), 0, 0) y7 (.exit 0) (fun (b : Int × Int) => b) ⟨[(8, []), (9, [])], []⟩ (fun (b6 : Int × Int) => [(8, .c (.lit (.int .i64 (b6.1)))), (9, .c (.lit (.int .u64 (b6.2))))]) (fun (b6 : Int × Int) => []) hl1 (by kernel_rfl) (by kernel_rfl) ?_ ?_
      · intro s5 x h hy1
        unfold F_ref33_Next_l1 at h
        refine TS_go 5 ?_
        replace h := condO h
        rcases h with ⟨hb8, h⟩ | ⟨hb8, h⟩
        · refine TS_know 21 (b := true) hb8 (by kernel_rfl) (by kernel_rfl) ?_
          refine TS_T (by kernel_rfl) rfl ?_
          refine TS_go 1 ?_
          refine TS_cut ⟨[(1, []), (5, []), (8, []), (9, []), (18, []), (19, []), (20, [])], [(5, (5, []))]⟩ (.mk [.code (codeAt [1, 1, 1, 1, 1, 0, 1, 0, 0, 1, 1] (bodyOf Try.f50))] .normal ⟨[(1, .c (.lit (.int .i64 (a1)))), (5, .c (.box 5 0)), (8, .c (.lit (.int .i64 (s5.1)))), (9, .c (.lit (.int .u64 (s5.2.1)))), (18, .c (.slc 20 0 (List.length a0) (List.map S_Down.cs a0))), (19, .c (.lit (.int .i64 ((List.length a0 : Int))))), (20, .c (.lit (.int .i64 (s5.2.2))))], [(5, .box [.lit (.int .u8 ((a2.getD 0 0))), .lit (.int .u8 ((a2.getD 1 0))), .lit (.int .u8 ((a2.getD 2 0))), .lit (.int .u8 ((a2.getD 3 0))), .lit (.int .u8 ((a2.getD 4 0))), .lit (.int .u8 ((a2.getD 5 0))), .lit (.int .u8 ((a2.getD 6 0))), .lit (.int .u8 ((a2.getD 7 0))), .lit (.int .u8 ((a2.getD 8 0))), .lit (.int .u8 ((a2.getD 9 0))), .lit (.int .u8 ((a2.getD 10 0))), .lit (.int .u8 ((a2.getD 11 0))), .lit (.int .u8 ((a2.getD 12 0))), .lit (.int .u8 ((a2.getD 13 0))), .lit (.int .u8 ((a2.getD 14 0))), .lit (.int .u8 ((a2.getD 15 0)))])]⟩) (by kernel_rfl) (by kernel_rfl) ?_
          refine TS_joinB ⟨[(1, []), (5, []), (8, []), (9, []), (18, []), (19, []), (20, [])], [(5, (5, []))]⟩ (fun (v9 : Int × Int) => [(8, .c (.lit (.int .i64 (v9.1)))), (9, .c (.lit (.int .u64 (v9.2))))]) (fun (v9 : Int × Int) => []) (F_ref33_Next_j2 s5) x ?_ ?_
          · clear h
            intro v9 h
            unfold F_ref33_Next_j2 at h
            refine TS_go 4 ?_
            obtain rfl := Option.some.inj h
            exact TS_againB _ ⟨[(1, []), (5, []), (8, []), (9, []), (18, []), (19, []), (20, [])], [(5, (5, []))]⟩ rfl (by kernel_rfl) (by kernel_rfl)
          · refine TS_go 3 ?_
            replace h := bindO h
            obtain ⟨e10, he10, h⟩ := h
            refine TS_idx S_Down.cs he10 (by kernel_rfl) (by kernel_rfl) ?_
            refine TS_go 11 ?_
            replace h := condO h
            rcases h with ⟨hb11, h⟩ | ⟨hb11, h⟩
            · refine TS_know 27 (b := true) hb11 (by kernel_rfl) (by kernel_rfl) ?_
              refine TS_know 28 (b := true) hb11 (by kernel_rfl) (by kernel_rfl) ?_
              refine TS_go 7 ?_
              replace h := condO h
              rcases h with ⟨hb12, h⟩ | ⟨hb12, h⟩
              · refine TS_know 33 (b := true) hb12 (by kernel_rfl) (by kernel_rfl) ?_
                refine TS_know 34 (b := true) hb12 (by kernel_rfl) (by kernel_rfl) ?_
                refine TS_know 35 (b := true) hb12 (by kernel_rfl) (by kernel_rfl) ?_
                refine TS_go 3 ?_
                replace h := bindO h
                obtain ⟨v13, hv13, h⟩ := h
                refine TS_call [] (ok_ref04_Contains e10.Target a2 v13 hv13) (by kernel_rfl) (by kernel_rfl) ?_
                refine TS_go 2 ?_
                replace h := condO h
                rcases h with ⟨hb14, h⟩ | ⟨hb14, h⟩
                · subst hb14
                  refine TS_T (by kernel_rfl) rfl ?_
                  refine TS_go 13 ?_
                  exact TS_meet (e10.Target.Bits, e10.Via) ⟨[(1, []), (5, []), (8, []), (9, []), (18, []), (19, []), (20, [])], [(5, (5, []))]⟩ h (by kernel_rfl) (by kernel_rfl)
                · subst hb14
                  refine TS_F (by kernel_rfl) rfl ?_
                  refine TS_go 2 ?_
                  exact TS_meet (s5.1, s5.2.1) ⟨[(1, []), (5, []), (8, []), (9, []), (18, []), (19, []), (20, [])], [(5, (5, []))]⟩ h (by kernel_rfl) (by kernel_rfl)
              · refine TS_know 33 (b := false) hb12 (by kernel_rfl) (by kernel_rfl) ?_
                refine TS_know 34 (b := false) hb12 (by kernel_rfl) (by kernel_rfl) ?_
                refine TS_know 35 (b := false) hb12 (by kernel_rfl) (by kernel_rfl) ?_
                refine TS_go 6 ?_
                refine TS_F (by kernel_rfl) rfl ?_
                refine TS_go 2 ?_
                exact TS_meet (s5.1, s5.2.1) ⟨[(1, []), (5, []), (8, []), (9, []), (18, []), (19, []), (20, [])], [(5, (5, []))]⟩ h (by kernel_rfl) (by kernel_rfl)
            · refine TS_know 27 (b := false) hb11 (by kernel_rfl) (by kernel_rfl) ?_
              refine TS_know 28 (b := false) hb11 (by kernel_rfl) (by kernel_rfl) ?_
              refine TS_go 13 ?_
              refine TS_F (by kernel_rfl) rfl ?_
              refine TS_go 2 ?_
              exact TS_meet (s5.1, s5.2.1) ⟨[(1, []), (5, []), (8, []), (9, []), (18, []), (19, []), (20, [])], [(5, (5, []))]⟩ h (by kernel_rfl) (by kernel_rfl)
        · refine TS_know 21 (b := false) hb8 (by kernel_rfl) (by kernel_rfl) ?_
          refine TS_F (by kernel_rfl) rfl ?_
          refine TS_go 2 ?_
          obtain rfl := Option.some.inj h
          exact TS_brkB (s5.1, s5.2.1) ⟨[(8, []), (9, [])], []⟩ rfl (by kernel_rfl) (by kernel_rfl) (by kernel_rfl)
      · intro b6 hb
        subst y7
        have h := hK1
        refine TS_go 7 ?_
        replace h := condO h
        rcases h with ⟨hb16, h⟩ | ⟨hb16, h⟩
        · refine TS_know 48 (b := true) hb16 (by kernel_rfl) (by kernel_rfl) ?_
          refine TS_T (by kernel_rfl) rfl ?_
          refine TS_go 7 ?_
          obtain rfl := Option.some.inj h
          exact TS_ret (by kernel_rfl) (by kernel_rfl) (by kernel_rfl)
        · refine TS_know 48 (b := false) hb16 (by kernel_rfl) (by kernel_rfl) ?_
          refine TS_F (by kernel_rfl) rfl ?_
          refine TS_go 8 ?_
          obtain rfl := Option.some.inj h
          exact TS_ret (by kernel_rfl) (by kernel_rfl) (by kernel_rfl)
    · subst hb4
      refine TS_T (by kernel_rfl) rfl ?_
      refine TS_go 7 ?_
      obtain rfl := Option.some.inj h
      exact TS_ret (by kernel_rfl) (by kernel_rfl) (by kernel_rfl)
  · subst hb2
    refine TS_T (by kernel_rfl) rfl ?_
    refine TS_go 7 ?_
    obtain rfl := Option.some.inj h
    exact TS_ret (by kernel_rfl) (by kernel_rfl) (by kernel_rfl)

/-- slices.Equal[[]multihop/api.Registermultihop/api.Register] -/
noncomputable def F_slices_Equal_api_Register_api_Register_l1 (a0 : List S_Register) (a1 : List S_Register) (s2 : Int) : Option ((Int) ⊕ ((Unit) ⊕ (Bool))) :=
  bif (decide (s2 < (List.length a0 : Int))) then
    (idx a0 s2).bind fun e6 =>
    (idx a1 s2).bind fun e7 =>
    bif (S_Register.eqb e6 e7) then
      some (Sum.inl (IntKind.wrap .i64 (s2 + 1)))
    else
      some (Sum.inr (Sum.inr false))
  else
    some (Sum.inr (Sum.inl ()))
noncomputable def F_slices_Equal_api_Register_api_Register (a0 : List S_Register) (a1 : List S_Register) : Option (Bool) :=
  bif ((List.length a0 : Int) != (List.length a1 : Int)) then
    some (false)
  else
    (loopO (F_slices_Equal_api_Register_api_Register_l1 a0 a1) 0).bind (Sum.elim (fun b3 =>
      some (true)
    ) (fun w9 => some w9))
set_option maxRecDepth 100000 in
set_option maxHeartbeats 40000000 in
theorem ok_slices_Equal_api_Register_api_Register (a0 : List S_Register) (a1 : List S_Register) (r : Bool) (h : F_slices_Equal_api_Register_api_Register a0 a1 = some r) : Con Try.prog 52 [.c (eS 19 S_Register.cs (a0)), .c (eS 19 S_Register.cs (a1))] [] (.c (.lit (.bool (r)))) [] := by
  unfold F_slices_Equal_api_Register_api_Register at h
  refine con_of [] [] 26 Try.func52 rfl rfl (by kernel_rfl) (fun K => ?_)
  refine TS_go 13 ?_
  replace h := condO h
  rcases h with ⟨hb1, h⟩ | ⟨hb1, h⟩
  · refine TS_know 10 (b := true) hb1 (by kernel_rfl) (by kernel_rfl) ?_
    refine TS_T (by kernel_rfl) rfl ?_
    refine TS_go 6 ?_
    obtain rfl := Option.some.inj h
    exact TS_ret (by kernel_rfl) (by kernel_rfl) (by kernel_rfl)
  · refine TS_know 10 (b := false) hb1 (by kernel_rfl) (by kernel_rfl) ?_
    refine TS_F (by kernel_rfl) rfl ?_
    refine TS_go 9 ?_
    refine TS_cut ⟨[(0, []), (1, []), (12, []), (13, [])], []⟩ (.mk [.code (codeAt [1, 1, 0, 1, 0] (bodyOf Try.f52)), .blk 0, .code (codeAt [1, 1, 1] (bodyOf Try.f52))] .normal ⟨[(0, .c (.slc 19 0 (List.length a0) (List.map S_Register.cs a0))), (1, .c (.slc 19 0 (List.length a1) (List.map S_Register.cs a1))), (12, .c (.lit (.int .i64 ((List.length a0 : Int))))), (13, .c (.lit (.int .i64 (0))))], []⟩) (by kernel_rfl) (by kernel_rfl) ?_
    replace h := bindO h
    obtain ⟨y4, hl1, hK1⟩ := h
    refine TS_loopB (F_slices_Equal_api_Register_api_Register_l1 a0 a1) ⟨[(0, []), (1, []), (12, []), (13, [])], []⟩ (fun (s2 : Int) => [(13, .c (.lit (.int .i64 (s2))))]) (fun (s2 : Int) => []) 0 y4 (.exit 0) (fun (b : Unit) => (Sum.inl b : (Unit) ⊕ (Bool))) ⟨[], []⟩ (fun (b3 : Unit) => []) (fun (b3 : Unit) => []) hl1 (by kernel_rfl) (by kernel_rfl) ?_ ?_
    · intro s2 x h hy1
      unfold F_slices_Equal_api_Register_api_Register_l1 at h
      refine TS_go 5 ?_
      replace h := condO h
      rcases h with ⟨hb5, h⟩ | ⟨hb5, h⟩
      · refine TS_know 14 (b := true) hb5 (by kernel_rfl) (by kernel_rfl) ?_
        refine TS_T (by kernel_rfl) rfl ?_
        refine TS_go 9 ?_
        refine TS_draw (by kernel_rfl) ?_
        refine TD_go 2 ?_
        replace h := bindO h
        obtain ⟨e6, he6, h⟩ := h
        refine TD_idx S_Register.cs he6 (by kernel_rfl) (by kernel_rfl) ?_
        refine TD_go 3 ?_
        replace h := bindO h
        obtain ⟨e7, he7, h⟩ := h
        refine TD_idx S_Register.cs he7 (by kernel_rfl) (by kernel_rfl) ?_
        refine TD_go 2 ?_
        refine TD_end (by kernel_rfl) ?_
        replace h := condO h
        rcases h with ⟨hb8, h⟩ | ⟨hb8, h⟩
        · refine TS_know 24 (b := false) (notF hb8) (by kernel_rfl) (by kernel_rfl) ?_
          refine TS_F (by kernel_rfl) rfl ?_
          refine TS_go 6 ?_
          obtain rfl := Option.some.inj h
          exact TS_againB _ ⟨[(0, []), (1, []), (12, []), (13, [])], []⟩ rfl (by kernel_rfl) (by kernel_rfl)
        · refine TS_know 24 (b := true) (notT hb8) (by kernel_rfl) (by kernel_rfl) ?_
          refine TS_T (by kernel_rfl) rfl ?_
          refine TS_go 7 ?_
          obtain rfl := Option.some.inj h
          have hy1q := hy1 _ rfl
          subst hy1q
          replace h := (elimR hK1)
          refine TS_retB rfl (by kernel_rfl) ?_
          refine TS_go 2 ?_
          obtain rfl := Option.some.inj h
          exact TS_ret (by kernel_rfl) (by kernel_rfl) (by kernel_rfl)
      · refine TS_know 14 (b := false) hb5 (by kernel_rfl) (by kernel_rfl) ?_
        refine TS_F (by kernel_rfl) rfl ?_
        refine TS_go 2 ?_
        obtain rfl := Option.some.inj h
        exact TS_brkB () ⟨[], []⟩ rfl (by kernel_rfl) (by kernel_rfl) (by kernel_rfl)
    · intro b3 hb
      subst y4
      have h := elimL hK1
      refine TS_go 6 ?_
      obtain rfl := Option.some.inj h
      exact TS_ret (by kernel_rfl) (by kernel_rfl) (by kernel_rfl)

/-- multihop/multihopref33.Expire -/
noncomputable def F_ref33_Expire_j2 (s5 : (List S_Down) × Int) (v9 : (List S_Down)) : Option (((List S_Down) × Int) ⊕ ((List S_Down))) :=
  some (Sum.inl (v9, IntKind.wrap .i64 (s5.2 + 1)))
noncomputable def F_ref33_Expire_l1 (a0 : List S_Down) (a1 : Int) (s5 : (List S_Down) × Int) : Option (((List S_Down) × Int) ⊕ ((List S_Down))) :=
  bif (decide (s5.2 < (List.length a0 : Int))) then
    (idx a0 s5.2).bind fun e10 =>
    bif (decide (e10.Until > a1)) then
      (appO 48 s5.1 (Cut.app .whole ([e10] : List S_Down))).bind fun l12 =>
      (F_ref33_Expire_j2 s5) l12
    else
      (F_ref33_Expire_j2 s5) s5.1
  else
    some (Sum.inr s5.1)
noncomputable def F_ref33_Expire (a0 : List S_Down) (a1 : Int) : Option ((List S_Down)) :=
  (F_ref33_Valid a0).bind fun v1 =>
  bif v1 then
    (F_ref22_IsTime a1).bind fun v3 =>
    bif v3 then
      (loopO (F_ref33_Expire_l1 a0 a1) (([] : List S_Down), 0)).bind fun b6 =>
      some (b6)
    else
      some (([] : List S_Down))
  else
    some (([] : List S_Down))
set_option maxRecDepth 100000 in
set_option maxHeartbeats 40000000 in
theorem okT_ref33_Expire (a0 : List S_Down) (a1 : Int) (r : (List S_Down)) (h : F_ref33_Expire a0 a1 = some r) : Con Try.prog 53 [.c (eS 20 S_Down.cs (a0)), .c (.lit (.int .i64 (a1)))] [] (.c (.slc 20 900002 (List.length r) (List.map S_Down.cs r))) [(900000, .spare 39 20 (List.length r))] := by
  unfold F_ref33_Expire at h
  refine con_of [] [(900000, [])] 32 Try.func53 rfl rfl (by kernel_rfl) (fun K => ?_)
  refine TS_go 8 ?_
  replace h := bindO h
  obtain ⟨v1, hv1, h⟩ := h
  refine TS_call [] (ok_ref33_Valid a0 v1 hv1) (by kernel_rfl) (by kernel_rfl) ?_
  refine TS_go 2 ?_
  replace h := condO h
  rcases h with ⟨hb2, h⟩ | ⟨hb2, h⟩
  · subst hb2
    refine TS_go 1 ?_
    replace h := bindO h
    obtain ⟨v3, hv3, h⟩ := h
    refine TS_call [] (ok_ref22_IsTime a1 v3 hv3) (by kernel_rfl) (by kernel_rfl) ?_
    refine TS_go 3 ?_
    replace h := condO h
    rcases h with ⟨hb4, h⟩ | ⟨hb4, h⟩
    · subst hb4
      refine TS_F (by kernel_rfl) rfl ?_
      refine TS_go 13 ?_
      refine TS_nilT 5 600000 39 20 (by kernel_rfl) ?_
      refine TS_cut ⟨[(1, []), (5, []), (16, []), (17, []), (18, [])], [(600000, (600000, []))]⟩ (.mk [.code (codeAt [1, 1, 1, 0, 1, 0] (bodyOf Try.f53)), .blk 0, .code (codeAt [1, 1, 1, 1] (bodyOf Try.f53))] .normal ⟨[(1, .c (.lit (.int .i64 (a1)))), (5, .c (.slc 20 600002 (List.length ([] : List S_Down)) (List.map S_Down.cs ([] : List S_Down)))), (16, .c (.slc 20 0 (List.length a0) (List.map S_Down.cs a0))), (17, .c (.lit (.int .i64 ((List.length a0 : Int))))), (18, .c (.lit (.int .i64 (0))))], [(600000, .spare 39 20 (List.length ([] : List S_Down)))]⟩) (by kernel_rfl) (by kernel_rfl) ?_
      replace h := bindO h
      obtain ⟨y7, hl1, hK1⟩ := h
      refine TS_loopB (F_ref33_Expire_l1 a0 a1) ⟨[(1, []), (5, []), (16, []), (17, []), (18, [])], [(600000, (600000, []))]⟩ (fun (s5 : (List S_Down) × Int) => [(5, .c (.slc 20 600002 (List.length s5.1) (List.map S_Down.cs s5.1))), (18, .c (.lit (.int .i64 (s5.2))))]) (fun (s5 : (List S_Down) × Int) => [(600000, .spare 39 20 (List.length s5.1))]) (([] : List S_Down), 0) y7 (.exit 0) (fun (b : (List S_Down)) => b) ⟨[(5, [])], [(600000, (600000, []))]⟩ (fun (b6 : (List S_Down)) => [(5, .c (.slc 20 600002 (List.length b6) (List.map S_Down.cs b6)))]) (fun (b6 : (List S_Down)) => [(600000, .spare 39 20 (List.length b6))]) hl1 (by kernel_rfl) (by kernel_rfl) ?_ ?_
      · intro s5 x h hy1
        unfold F_ref33_Expire_l1 at h
        refine TS_go 5 ?_
        replace h := condO h
        rcases h with ⟨hb8, h⟩ | ⟨hb8, h⟩
        · refine TS_know 19 (b := true) hb8 (by kernel_rfl) (by kernel_rfl) ?_
          refine TS_T (by kernel_rfl) rfl ?_
          refine TS_go 1 ?_
          refine TS_cut ⟨[(1, []), (5, []), (16, []), (17, []), (18, [])], [(600000, (600000, []))]⟩ (.mk [.code (codeAt [1, 1, 1, 0, 1, 0, 0, 1, 1] (bodyOf Try.f53))] .normal ⟨[(1, .c (.lit (.int .i64 (a1)))), (5, .c (.slc 20 600002 (List.length s5.1) (List.map S_Down.cs s5.1))), (16, .c (.slc 20 0 (List.length a0) (List.map S_Down.cs a0))), (17, .c (.lit (.int .i64 ((List.length a0 : Int))))), (18, .c (.lit (.int .i64 (s5.2))))], [(600000, .spare 39 20 (List.length s5.1))]⟩) (by kernel_rfl) (by kernel_rfl) ?_
          refine TS_joinB ⟨[(1, []), (5, []), (16, []), (17, []), (18, [])], [(600000, (600000, []))]⟩ (fun (v9 : (List S_Down)) => [(5, .c (.slc 20 600002 (List.length v9) (List.map S_Down.cs v9)))]) (fun (v9 : (List S_Down)) => [(600000, .spare 39 20 (List.length v9))]) (F_ref33_Expire_j2 s5) x ?_ ?_
          · clear h
            intro v9 h
            unfold F_ref33_Expire_j2 at h
            refine TS_go 4 ?_
            obtain rfl := Option.some.inj h
            exact TS_againB _ ⟨[(1, []), (5, []), (16, []), (17, []), (18, [])], [(600000, (600000, []))]⟩ rfl (by kernel_rfl) (by kernel_rfl)
          · refine TS_go 3 ?_
            replace h := bindO h
            obtain ⟨e10, he10, h⟩ := h
            refine TS_idx S_Down.cs he10 (by kernel_rfl) (by kernel_rfl) ?_
            refine TS_go 11 ?_
            replace h := condO h
            rcases h with ⟨hb11, h⟩ | ⟨hb11, h⟩
            · refine TS_know 25 (b := true) hb11 (by kernel_rfl) (by kernel_rfl) ?_
              refine TS_T (by kernel_rfl) rfl ?_
              refine TS_go 3 ?_
              refine TS_litNT 28 39 20 S_Down.cs [] ([e10] : List S_Down) (by kernel_rfl) (by kernel_rfl) ?_
              replace h := bindO h
              obtain ⟨l12, hl12, h⟩ := h
              refine TS_appT (d := 600000) (e := 39) (sz := 20) (N := List.length s5.1) S_Down.cs (fun _ => by kernel_rfl) (l1 := s5.1) (l2 := ([e10] : List S_Down)) (c := .whole) hl12 (by kernel_rfl) (by kernel_rfl) ?_
              refine TS_go 3 ?_
              exact TS_meet l12 ⟨[(1, []), (5, []), (16, []), (17, []), (18, [])], [(600000, (600000, []))]⟩ h (by kernel_rfl) (by kernel_rfl)
            · refine TS_know 25 (b := false) hb11 (by kernel_rfl) (by kernel_rfl) ?_
              refine TS_F (by kernel_rfl) rfl ?_
              refine TS_go 2 ?_
              exact TS_meet s5.1 ⟨[(1, []), (5, []), (16, []), (17, []), (18, [])], [(600000, (600000, []))]⟩ h (by kernel_rfl) (by kernel_rfl)
        · refine TS_know 19 (b := false) hb8 (by kernel_rfl) (by kernel_rfl) ?_
          refine TS_F (by kernel_rfl) rfl ?_
          refine TS_go 2 ?_
          obtain rfl := Option.some.inj h
          exact TS_brkB s5.1 ⟨[(5, [])], [(600000, (600000, []))]⟩ rfl (by kernel_rfl) (by kernel_rfl) (by kernel_rfl)
      · intro b6 hb
        subst y7
        have h := hK1
        refine TS_go 6 ?_
        refine TS_fitU ⟨[(4, [])], [(600000, (900000, []))]⟩ (by kernel_rfl) ?_
        refine TS_go 1 ?_
        obtain rfl := Option.some.inj h
        exact TS_ret (by kernel_rfl) (by kernel_rfl) (by kernel_rfl)
    · subst hb4
      refine TS_T (by kernel_rfl) rfl ?_
      refine TS_go 4 ?_
      refine TS_nilT 4 600000 39 20 (by kernel_rfl) ?_
      refine TS_fitU ⟨[(4, [])], [(600000, (900000, []))]⟩ (by kernel_rfl) ?_
      refine TS_go 2 ?_
      obtain rfl := Option.some.inj h
      exact TS_ret (by kernel_rfl) (by kernel_rfl) (by kernel_rfl)
  · subst hb2
    refine TS_go 5 ?_
    refine TS_T (by kernel_rfl) rfl ?_
    refine TS_go 4 ?_
    refine TS_nilT 4 600000 39 20 (by kernel_rfl) ?_
    refine TS_fitU ⟨[(4, [])], [(600000, (900000, []))]⟩ (by kernel_rfl) ?_
    refine TS_go 2 ?_
    obtain rfl := Option.some.inj h
    exact TS_ret (by kernel_rfl) (by kernel_rfl) (by kernel_rfl)
theorem ok_ref33_Expire (a0 : List S_Down) (a1 : Int) (r : (List S_Down)) (h : F_ref33_Expire a0 a1 = some r) : Con Try.prog 53 [.c (eS 20 S_Down.cs (a0)), .c (.lit (.int .i64 (a1)))] [] (.c (eS 20 S_Down.cs (r))) [] :=
  con_drop [[21]] [] (okT_ref33_Expire a0 a1 r h) (by kernel_rfl) (by kernel_rfl) (by kernel_rfl)

/-- multihop/multihopref33.Export -/
noncomputable def F_ref33_Export_l1 (v1 : (List S_Down)) (a1 : Int) (s2 : (List S_Register) × Int) : Option (((List S_Register) × Int) ⊕ ((List S_Register))) :=
  bif (decide (s2.2 < (List.length v1 : Int))) then
    (idx v1 s2.2).bind fun e6 =>
    (appO 40 s2.1 (Cut.app .whole ([(S_Register.mk e6.Target e6.Sequence (IntKind.wrap .i64 (e6.Until - a1)))] : List S_Register))).bind fun l7 =>
    some (Sum.inl (l7, IntKind.wrap .i64 (s2.2 + 1)))
  else
    some (Sum.inr s2.1)
noncomputable def F_ref33_Export (a0 : List S_Down) (a1 : Int) : Option ((List S_Register)) :=
  (F_ref33_Expire a0 a1).bind fun v1 =>
  (loopO (F_ref33_Export_l1 v1 a1) (([] : List S_Register), 0)).bind fun b3 =>
  some (b3)
set_option maxRecDepth 100000 in
set_option maxHeartbeats 40000000 in
theorem okT_ref33_Export (a0 : List S_Down) (a1 : Int) (r : (List S_Register)) (h : F_ref33_Export a0 a1 = some r) : Con Try.prog 54 [.c (eS 20 S_Down.cs (a0)), .c (.lit (.int .i64 (a1)))] [] (.c (.slc 19 900002 (List.length r) (List.map S_Register.cs r))) [(900000, .spare 31 19 (List.length r))] := by
  unfold F_ref33_Export at h
  refine con_of [] [(900000, [])] 30 Try.func54 rfl rfl (by kernel_rfl) (fun K => ?_)
  refine TS_go 13 ?_
  replace h := bindO h
  obtain ⟨v1, hv1, h⟩ := h
  refine TS_con [] [(10, 900000)] none (okT_ref33_Expire a0 a1 v1 hv1) (by kernel_rfl) (by kernel_rfl) (by kernel_rfl) ?_
  refine TS_go 4 ?_
  refine TS_nilT 5 600000 31 19 (by kernel_rfl) ?_
  refine TS_cut ⟨[(1, []), (5, []), (10, []), (11, []), (12, [])], [(10, (10, [])), (600000, (600000, []))]⟩ (.mk [.code (codeAt [1, 1, 0, 1, 0] (bodyOf Try.f54)), .blk 0, .code (codeAt [1, 1, 1] (bodyOf Try.f54))] .normal ⟨[(1, .c (.lit (.int .i64 (a1)))), (5, .c (.slc 19 600002 (List.length ([] : List S_Register)) (List.map S_Register.cs ([] : List S_Register)))), (10, .c (.slc 20 12 (List.length v1) (List.map S_Down.cs v1))), (11, .c (.lit (.int .i64 ((List.length v1 : Int))))), (12, .c (.lit (.int .i64 (0))))], [(10, .spare 39 20 (List.length v1)), (600000, .spare 31 19 (List.length ([] : List S_Register)))]⟩) (by kernel_rfl) (by kernel_rfl) ?_
  replace h := bindO h
  obtain ⟨y4, hl1, hK1⟩ := h
  refine TS_loopB (F_ref33_Export_l1 v1 a1) ⟨[(1, []), (5, []), (10, []), (11, []), (12, [])], [(600000, (600000, [])), (10, (10, []))]⟩ (fun (s2 : (List S_Register) × Int) => [(5, .c (.slc 19 600002 (List.length s2.1) (List.map S_Register.cs s2.1))), (12, .c (.lit (.int .i64 (s2.2))))]) (fun (s2 : (List S_Register) × Int) => [(600000, .spare 31 19 (List.length s2.1))]) (([] : List S_Register), 0) y4 (.exit 0) (fun (b : (List S_Register)) => b) ⟨[(5, [])], [(600000, (600000, []))]⟩ (fun (b3 : (List S_Register)) => [(5, .c (.slc 19 600002 (List.length b3) (List.map S_Register.cs b3)))]) (fun (b3 : (List S_Register)) => [(600000, .spare 31 19 (List.length b3))]) hl1 (by kernel_rfl) (by kernel_rfl) ?_ ?_
  · intro s2 x h hy1
    unfold F_ref33_Export_l1 at h
    refine TS_go 5 ?_
    replace h := condO h
    rcases h with ⟨hb5, h⟩ | ⟨hb5, h⟩
    · refine TS_know 13 (b := true) hb5 (by kernel_rfl) (by kernel_rfl) ?_
      refine TS_T (by kernel_rfl) rfl ?_
      refine TS_go 5 ?_
      replace h := bindO h
      obtain ⟨e6, he6, h⟩ := h
      refine TS_idx S_Down.cs he6 (by kernel_rfl) (by kernel_rfl) ?_
      refine TS_go 15 ?_
      refine TS_litNT 26 31 19 S_Register.cs [] ([(S_Register.mk e6.Target e6.Sequence (IntKind.wrap .i64 (e6.Until - a1)))] : List S_Register) (by kernel_rfl) (by kernel_rfl) ?_
      replace h := bindO h
      obtain ⟨l7, hl7, h⟩ := h
      refine TS_appT (d := 600000) (e := 31) (sz := 19) (N := List.length s2.1) S_Register.cs (fun _ => by kernel_rfl) (l1 := s2.1) (l2 := ([(S_Register.mk e6.Target e6.Sequence (IntKind.wrap .i64 (e6.Until - a1)))] : List S_Register)) (c := .whole) hl7 (by kernel_rfl) (by kernel_rfl) ?_
      refine TS_go 7 ?_
      obtain rfl := Option.some.inj h
      exact TS_againB _ ⟨[(1, []), (5, []), (10, []), (11, []), (12, [])], [(600000, (600000, [])), (10, (10, []))]⟩ rfl (by kernel_rfl) (by kernel_rfl)
    · refine TS_know 13 (b := false) hb5 (by kernel_rfl) (by kernel_rfl) ?_
      refine TS_F (by kernel_rfl) rfl ?_
      refine TS_go 2 ?_
      obtain rfl := Option.some.inj h
      exact TS_brkB s2.1 ⟨[(5, [])], [(600000, (600000, []))]⟩ rfl (by kernel_rfl) (by kernel_rfl) (by kernel_rfl)
  · intro b3 hb
    subst y4
    have h := hK1
    refine TS_go 6 ?_
    refine TS_fitU ⟨[(4, [])], [(600000, (900000, []))]⟩ (by kernel_rfl) ?_
    refine TS_go 1 ?_
    obtain rfl := Option.some.inj h
    exact TS_ret (by kernel_rfl) (by kernel_rfl) (by kernel_rfl)
theorem ok_ref33_Export (a0 : List S_Down) (a1 : Int) (r : (List S_Register)) (h : F_ref33_Export a0 a1 = some r) : Con Try.prog 54 [.c (eS 20 S_Down.cs (a0)), .c (.lit (.int .i64 (a1)))] [] (.c (eS 19 S_Register.cs (r))) [] :=
  con_drop [[20]] [] (okT_ref33_Export a0 a1 r h) (by kernel_rfl) (by kernel_rfl) (by kernel_rfl)

/-- multihop/multihoplaw33.reads -/
noncomputable def F_law33_reads (a0 : List S_Down) (a1 : Int) (a2 : Int) (a3 : List Int) : Option (Bool) :=
  (F_storing_Drop a0 a2).bind fun v1 =>
  (F_ref33_Drop a0 a2).bind fun v2 =>
  (F_storing_Next a0 a1 a3).bind fun v3 =>
  (F_ref33_Next a0 a1 a3).bind fun v4 =>
  (F_storing_Valid a0).bind fun v5 =>
  (F_ref33_Valid a0).bind fun v6 =>
  bif (v5 == v6) then
    (F_slices_Equal_api_Down_api_Down v1.1 v2.1).bind fun v8 =>
    bif v8 then
      (F_slices_Equal_api_Register_api_Register v1.2 v2.2).bind fun v10 =>
      bif v10 then
        (F_storing_Expire a0 a1).bind fun v12 =>
        (F_ref33_Expire a0 a1).bind fun v13 =>
        (F_slices_Equal_api_Down_api_Down v12 v13).bind fun v14 =>
        bif v14 then
          bif (v3.1 == v4.1) then
            bif (v3.2 == v4.2) then
              (F_storing_Export a0 a1).bind fun v18 =>
              (F_ref33_Export a0 a1).bind fun v19 =>
              (F_slices_Equal_api_Register_api_Register v18 v19).bind fun v20 =>
              some (v20)
            else
              some (false)
          else
            some (false)
        else
          some (false)
      else
        some (false)
    else
      some (false)
  else
    some (false)
set_option maxRecDepth 100000 in
set_option maxHeartbeats 40000000 in
theorem ok_law33_reads (a0 : List S_Down) (a1 : Int) (a2 : Int) (a3 : List Int) (r : Bool) (h : F_law33_reads a0 a1 a2 a3 = some r) : Con Try.prog 31 [.c (eS 20 S_Down.cs (a0)), .c (.lit (.int .i64 (a1))), .c (.lit (.int .u64 (a2))), .agg (arrS .u8 16 a3)] [] (.c (.lit (.bool (r)))) [] := by
  unfold F_law33_reads at h
  refine con_of [] [] 86 Try.func31 rfl rfl (by kernel_rfl) (fun K => ?_)
  refine TS_go 9 ?_
  replace h := bindO h
  obtain ⟨v1, hv1, h⟩ := h
  refine TS_con [] [(20, 900000), (600000, 900001)] none (okT_storing_Drop a0 a2 v1 hv1) (by kernel_rfl) (by kernel_rfl) (by kernel_rfl) ?_
  refine TS_go 10 ?_
  replace h := bindO h
  obtain ⟨v2, hv2, h⟩ := h
  refine TS_con [] [(26, 900000), (600001, 900001)] none (okT_ref33_Drop a0 a2 v2 hv2) (by kernel_rfl) (by kernel_rfl) (by kernel_rfl) ?_
  refine TS_go 11 ?_
  replace h := bindO h
  obtain ⟨v3, hv3, h⟩ := h
  refine TS_call [] (ok_storing_Next a0 a1 a3 v3 hv3) (by kernel_rfl) (by kernel_rfl) ?_
  refine TS_go 11 ?_
  replace h := bindO h
  obtain ⟨v4, hv4, h⟩ := h
  refine TS_call [] (ok_ref33_Next a0 a1 a3 v4 hv4) (by kernel_rfl) (by kernel_rfl) ?_
  refine TS_go 9 ?_
  replace h := bindO h
  obtain ⟨v5, hv5, h⟩ := h
  refine TS_call [] (ok_storing_Valid a0 v5 hv5) (by kernel_rfl) (by kernel_rfl) ?_
  refine TS_go 1 ?_
  replace h := bindO h
  obtain ⟨v6, hv6, h⟩ := h
  refine TS_call [] (ok_ref33_Valid a0 v6 hv6) (by kernel_rfl) (by kernel_rfl) ?_
  refine TS_go 2 ?_
  replace h := condO h
  rcases h with ⟨hb7, h⟩ | ⟨hb7, h⟩
  · refine TS_know 47 (b := true) hb7 (by kernel_rfl) (by kernel_rfl) ?_
    refine TS_know 48 (b := true) hb7 (by kernel_rfl) (by kernel_rfl) ?_
    refine TS_go 2 ?_
    replace h := bindO h
    obtain ⟨v8, hv8, h⟩ := h
    refine TS_call [[21], [21]] (ok_slices_Equal_api_Down_api_Down v1.1 v2.1 v8 hv8) (by kernel_rfl) (by kernel_rfl) ?_
    refine TS_go 2 ?_
    replace h := condO h
    rcases h with ⟨hb9, h⟩ | ⟨hb9, h⟩
    · subst hb9
      refine TS_go 2 ?_
      replace h := bindO h
      obtain ⟨v10, hv10, h⟩ := h
      refine TS_call [[20], [20]] (ok_slices_Equal_api_Register_api_Register v1.2 v2.2 v10 hv10) (by kernel_rfl) (by kernel_rfl) ?_
      refine TS_go 2 ?_
      replace h := condO h
      rcases h with ⟨hb11, h⟩ | ⟨hb11, h⟩
      · subst hb11
        refine TS_go 2 ?_
        replace h := bindO h
        obtain ⟨v12, hv12, h⟩ := h
        refine TS_con [] [(61, 900000)] none (okT_storing_Expire a0 a1 v12 hv12) (by kernel_rfl) (by kernel_rfl) (by kernel_rfl) ?_
        refine TS_go 2 ?_
        replace h := bindO h
        obtain ⟨v13, hv13, h⟩ := h
        refine TS_con [] [(64, 900000)] none (okT_ref33_Expire a0 a1 v13 hv13) (by kernel_rfl) (by kernel_rfl) (by kernel_rfl) ?_
        replace h := bindO h
        obtain ⟨v14, hv14, h⟩ := h
        refine TS_call [[21], [21]] (ok_slices_Equal_api_Down_api_Down v12 v13 v14 hv14) (by kernel_rfl) (by kernel_rfl) ?_
        refine TS_go 2 ?_
        replace h := condO h
        rcases h with ⟨hb15, h⟩ | ⟨hb15, h⟩
        · subst hb15
          refine TS_go 5 ?_
          replace h := condO h
          rcases h with ⟨hb16, h⟩ | ⟨hb16, h⟩
          · refine TS_know 70 (b := true) hb16 (by kernel_rfl) (by kernel_rfl) ?_
            refine TS_know 71 (b := true) hb16 (by kernel_rfl) (by kernel_rfl) ?_
            refine TS_know 72 (b := true) hb16 (by kernel_rfl) (by kernel_rfl) ?_
            refine TS_go 5 ?_
            replace h := condO h
            rcases h with ⟨hb17, h⟩ | ⟨hb17, h⟩
            · refine TS_know 75 (b := true) hb17 (by kernel_rfl) (by kernel_rfl) ?_
              refine TS_know 76 (b := true) hb17 (by kernel_rfl) (by kernel_rfl) ?_
              refine TS_know 77 (b := true) hb17 (by kernel_rfl) (by kernel_rfl) ?_
              refine TS_go 2 ?_
              replace h := bindO h
              obtain ⟨v18, hv18, h⟩ := h
              refine TS_con [] [(80, 900000)] none (okT_storing_Export a0 a1 v18 hv18) (by kernel_rfl) (by kernel_rfl) (by kernel_rfl) ?_
              refine TS_go 2 ?_
              replace h := bindO h
              obtain ⟨v19, hv19, h⟩ := h
              refine TS_con [] [(83, 900000)] none (okT_ref33_Export a0 a1 v19 hv19) (by kernel_rfl) (by kernel_rfl) (by kernel_rfl) ?_
              replace h := bindO h
              obtain ⟨v20, hv20, h⟩ := h
              refine TS_call [[20], [20]] (ok_slices_Equal_api_Register_api_Register v18 v19 v20 hv20) (by kernel_rfl) (by kernel_rfl) ?_
              refine TS_go 4 ?_
              obtain rfl := Option.some.inj h
              exact TS_ret (by kernel_rfl) (by kernel_rfl) (by kernel_rfl)
            · refine TS_know 75 (b := false) hb17 (by kernel_rfl) (by kernel_rfl) ?_
              refine TS_know 76 (b := false) hb17 (by kernel_rfl) (by kernel_rfl) ?_
              refine TS_know 77 (b := false) hb17 (by kernel_rfl) (by kernel_rfl) ?_
              refine TS_go 11 ?_
              obtain rfl := Option.some.inj h
              exact TS_ret (by kernel_rfl) (by kernel_rfl) (by kernel_rfl)
          · refine TS_know 70 (b := false) hb16 (by kernel_rfl) (by kernel_rfl) ?_
            refine TS_know 71 (b := false) hb16 (by kernel_rfl) (by kernel_rfl) ?_
            refine TS_know 72 (b := false) hb16 (by kernel_rfl) (by kernel_rfl) ?_
            refine TS_go 16 ?_
            obtain rfl := Option.some.inj h
            exact TS_ret (by kernel_rfl) (by kernel_rfl) (by kernel_rfl)
        · subst hb15
          refine TS_go 21 ?_
          obtain rfl := Option.some.inj h
          exact TS_ret (by kernel_rfl) (by kernel_rfl) (by kernel_rfl)
      · subst hb11
        refine TS_go 30 ?_
        obtain rfl := Option.some.inj h
        exact TS_ret (by kernel_rfl) (by kernel_rfl) (by kernel_rfl)
    · subst hb9
      refine TS_go 35 ?_
      obtain rfl := Option.some.inj h
      exact TS_ret (by kernel_rfl) (by kernel_rfl) (by kernel_rfl)
  · refine TS_know 47 (b := false) hb7 (by kernel_rfl) (by kernel_rfl) ?_
    refine TS_know 48 (b := false) hb7 (by kernel_rfl) (by kernel_rfl) ?_
    refine TS_go 40 ?_
    obtain rfl := Option.some.inj h
    exact TS_ret (by kernel_rfl) (by kernel_rfl) (by kernel_rfl)

/-- multihop/multihoplaw33.StoringReads -/
noncomputable def F_law33_StoringReads_l1 (v4 : Int × S_multihopmade_Tape) (v5 : (List S_Down) × S_multihopmade_Tape) (s6 : Int × S_multihopmade_Tape) : Option ((Int × S_multihopmade_Tape) ⊕ ((S_multihopmade_Tape) ⊕ (Bool))) :=
  bif (decide (s6.1 < 4)) then
    (F_world_Time s6.2 v4.1).bind fun v10 =>
    (F_world_EUI v10.2).bind fun v11 =>
    (F_world_IP v11.2).bind fun v12 =>
    (F_law33_reads v5.1 v10.1 v11.1 v12.1).bind fun v13 =>
    bif v13 then
      some (Sum.inl (IntKind.wrap .i64 (s6.1 + 1), v12.2))
    else
      some (Sum.inr (Sum.inr false))
  else
    some (Sum.inr (Sum.inl s6.2))
noncomputable def F_law33_StoringReads (a0 : List S_Down) (a1 : List Int) (a2 : Int) (a3 : Int) (a4 : List Int) : Option (Bool) :=
  bif (decide ((List.length a0 : Int) > 150)) then
    (F_law33_known ).bind fun v2 =>
    some (v2)
  else
    (F_made_New a1).bind fun v3 =>
    (F_world_Base v3).bind fun v4 =>
    (F_world_Downs v4.2 v4.1).bind fun v5 =>
    (loopO (F_law33_StoringReads_l1 v4 v5) (0, v5.2)).bind (Sum.elim (fun b7 =>
      (F_law33_reads a0 a2 a3 a4).bind fun v16 =>
      bif v16 then
        (F_law33_reads v5.1 a2 a3 a4).bind fun v18 =>
        bif v18 then
          (F_law33_spoiled b7 v5.1).bind fun v20 =>
          (F_law33_reads v20.1 v4.1 2 a4).bind fun v21 =>
          bif v21 then
            (F_law33_known ).bind fun v23 =>
            some (v23)
          else
            some (false)
        else
          some (false)
      else
        some (false)
    ) (fun w15 => some w15))
set_option maxRecDepth 100000 in
set_option maxHeartbeats 40000000 in
theorem ok_law33_StoringReads (a0 : List S_Down) (a1 : List Int) (a2 : Int) (a3 : Int) (a4 : List Int) (r : Bool) (h : F_law33_StoringReads a0 a1 a2 a3 a4 = some r) : Con Try.prog 8 [.c (eS 20 S_Down.cs (a0)), .c (eS 1 (ecI .i64) (a1)), .c (.lit (.int .i64 (a2))), .c (.lit (.int .u64 (a3))), .agg (arrS .u8 16 a4)] [] (.c (.lit (.bool (r)))) [] := by
  unfold F_law33_StoringReads at h
  refine con_of [] [] 63 Try.func8 rfl rfl (by kernel_rfl) (fun K => ?_)
  refine TS_go 12 ?_
  replace h := condO h
  rcases h with ⟨hb1, h⟩ | ⟨hb1, h⟩
  · refine TS_know 17 (b := true) hb1 (by kernel_rfl) (by kernel_rfl) ?_
    refine TS_T (by kernel_rfl) rfl ?_
    refine TS_go 2 ?_
    replace h := bindO h
    obtain ⟨v2, hv2, h⟩ := h
    refine TS_call [] (ok_law33_known  v2 hv2) (by kernel_rfl) (by kernel_rfl) ?_
    refine TS_go 4 ?_
    obtain rfl := Option.some.inj h
    exact TS_ret (by kernel_rfl) (by kernel_rfl) (by kernel_rfl)
  · refine TS_know 17 (b := false) hb1 (by kernel_rfl) (by kernel_rfl) ?_
    refine TS_F (by kernel_rfl) rfl ?_
    refine TS_go 4 ?_
    replace h := bindO h
    obtain ⟨v3, hv3, h⟩ := h
    refine TS_con [] [(20, 10)] none (ok_made_New a1 v3 hv3) (by kernel_rfl) (by kernel_rfl) (by kernel_rfl) ?_
    refine TS_go 5 ?_
    replace h := bindO h
    obtain ⟨v4, hv4, h⟩ := h
    refine TS_con [] [] (some (20, 0)) (ok_world_Base v3 v4 hv4) (by kernel_rfl) (by kernel_rfl) (by kernel_rfl) ?_
    refine TS_go 6 ?_
    replace h := bindO h
    obtain ⟨v5, hv5, h⟩ := h
    refine TS_con [] [(25, 900000)] (some (20, 0)) (okT_world_Downs v4.2 v4.1 v5 hv5) (by kernel_rfl) (by kernel_rfl) (by kernel_rfl) ?_
    refine TS_go 8 ?_
    refine TS_cut ⟨[(0, []), (2, []), (3, []), (9, []), (11, []), (12, []), (13, []), (14, [])], [(9, (9, [])), (20, (20, [])), (25, (25, []))]⟩ (.mk [.code (codeAt [1, 1, 1, 1, 1, 0, 1, 0] (bodyOf Try.f8)), .blk 0, .code (codeAt [1, 1, 1, 1, 1, 1] (bodyOf Try.f8))] .normal ⟨[(0, .c (.slc 20 0 (List.length a0) (List.map S_Down.cs a0))), (2, .c (.lit (.int .i64 (a2)))), (3, .c (.lit (.int .u64 (a3)))), (9, .c (.box 9 0)), (11, .c (.box 20 0)), (12, .c (.lit (.int .i64 (v4.1)))), (13, .c (.slc 20 27 (List.length v5.1) (List.map S_Down.cs v5.1))), (14, .c (.lit (.int .i64 (0))))], [(9, .box [.lit (.int .u8 ((a4.getD 0 0))), .lit (.int .u8 ((a4.getD 1 0))), .lit (.int .u8 ((a4.getD 2 0))), .lit (.int .u8 ((a4.getD 3 0))), .lit (.int .u8 ((a4.getD 4 0))), .lit (.int .u8 ((a4.getD 5 0))), .lit (.int .u8 ((a4.getD 6 0))), .lit (.int .u8 ((a4.getD 7 0))), .lit (.int .u8 ((a4.getD 8 0))), .lit (.int .u8 ((a4.getD 9 0))), .lit (.int .u8 ((a4.getD 10 0))), .lit (.int .u8 ((a4.getD 11 0))), .lit (.int .u8 ((a4.getD 12 0))), .lit (.int .u8 ((a4.getD 13 0))), .lit (.int .u8 ((a4.getD 14 0))), .lit (.int .u8 ((a4.getD 15 0)))]), (20, .box [.slc 1 0 (List.length v5.2.l) (List.map (ecI .i64) v5.2.l), .lit (.int .i64 (v5.2.at_))]), (25, .spare 39 20 (List.length v5.1))]⟩) (by kernel_rfl) (by kernel_rfl) ?_
    replace h := bindO h
    obtain ⟨y8, hl1, hK1⟩ := h
    refine TS_loopB (F_law33_StoringReads_l1 v4 v5) ⟨[(0, []), (2, []), (3, []), (9, []), (11, []), (12, []), (13, []), (14, [])], [(9, (9, [])), (20, (20, [])), (25, (25, []))]⟩ (fun (s6 : Int × S_multihopmade_Tape) => [(14, .c (.lit (.int .i64 (s6.1))))]) (fun (s6 : Int × S_multihopmade_Tape) => [(20, .box (S_multihopmade_Tape.cs s6.2))]) (0, v5.2) y8 (.exit 0) (fun (b : S_multihopmade_Tape) => (Sum.inl b : (S_multihopmade_Tape) ⊕ (Bool))) ⟨[(0, []), (2, []), (3, []), (9, []), (11, []), (12, []), (13, [])], [(9, (9, [])), (20, (20, [])), (25, (25, []))]⟩ (fun (b7 : S_multihopmade_Tape) => []) (fun (b7 : S_multihopmade_Tape) => [(20, .box (S_multihopmade_Tape.cs b7))]) hl1 (by kernel_rfl) (by kernel_rfl) ?_ ?_
    · intro s6 x h hy1
      unfold F_law33_StoringReads_l1 at h
      refine TS_go 6 ?_
      replace h := condO h
      rcases h with ⟨hb9, h⟩ | ⟨hb9, h⟩
      · refine TS_know 27 (b := true) hb9 (by kernel_rfl) (by kernel_rfl) ?_
        refine TS_T (by kernel_rfl) rfl ?_
        refine TS_go 8 ?_
        replace h := bindO h
        obtain ⟨v10, hv10, h⟩ := h
        refine TS_con [] [] (some (20, 0)) (ok_world_Time s6.2 v4.1 v10 hv10) (by kernel_rfl) (by kernel_rfl) (by kernel_rfl) ?_
        refine TS_go 1 ?_
        replace h := bindO h
        obtain ⟨v11, hv11, h⟩ := h
        refine TS_con [] [] (some (20, 0)) (ok_world_EUI v10.2 v11 hv11) (by kernel_rfl) (by kernel_rfl) (by kernel_rfl) ?_
        refine TS_go 1 ?_
        replace h := bindO h
        obtain ⟨v12, hv12, h⟩ := h
        refine TS_con [] [] (some (20, 0)) (ok_world_IP v11.2 v12 hv12) (by kernel_rfl) (by kernel_rfl) (by kernel_rfl) ?_
        replace h := bindO h
        obtain ⟨v13, hv13, h⟩ := h
        refine TS_call [[21]] (ok_law33_reads v5.1 v10.1 v11.1 v12.1 v13 hv13) (by kernel_rfl) (by kernel_rfl) ?_
        refine TS_go 2 ?_
        replace h := condO h
        rcases h with ⟨hb14, h⟩ | ⟨hb14, h⟩
        · subst hb14
          refine TS_F (by kernel_rfl) rfl ?_
          refine TS_go 7 ?_
          obtain rfl := Option.some.inj h
          exact TS_againB _ ⟨[(0, []), (2, []), (3, []), (9, []), (11, []), (12, []), (13, []), (14, [])], [(9, (9, [])), (20, (20, [])), (25, (25, []))]⟩ rfl (by kernel_rfl) (by kernel_rfl)
        · subst hb14
          refine TS_T (by kernel_rfl) rfl ?_
          refine TS_go 7 ?_
          obtain rfl := Option.some.inj h
          have hy1q := hy1 _ rfl
          subst hy1q
          replace h := (elimR hK1)
          refine TS_retB rfl (by kernel_rfl) ?_
          refine TS_go 2 ?_
          obtain rfl := Option.some.inj h
          exact TS_ret (by kernel_rfl) (by kernel_rfl) (by kernel_rfl)
      · refine TS_know 27 (b := false) hb9 (by kernel_rfl) (by kernel_rfl) ?_
        refine TS_F (by kernel_rfl) rfl ?_
        refine TS_go 2 ?_
        obtain rfl := Option.some.inj h
        exact TS_brkB s6.2 ⟨[(0, []), (2, []), (3, []), (9, []), (11, []), (12, []), (13, [])], [(9, (9, [])), (20, (20, [])), (25, (25, []))]⟩ rfl (by kernel_rfl) (by kernel_rfl) (by kernel_rfl)
    · intro b7 hb
      subst y8
      have h := elimL hK1
      refine TS_go 2 ?_
      refine TS_draw (by kernel_rfl) ?_
      refine TD_go 4 ?_
      replace h := bindO h
      obtain ⟨v16, hv16, h⟩ := h
      refine TD_call [] (ok_law33_reads a0 a2 a3 a4 v16 hv16) (by kernel_rfl) (by kernel_rfl) ?_
      refine TD_go 1 ?_
      replace h := condO h
      rcases h with ⟨hb17, h⟩ | ⟨hb17, h⟩
      · subst hb17
        refine TD_go 4 ?_
        replace h := bindO h
        obtain ⟨v18, hv18, h⟩ := h
        refine TD_call [[21]] (ok_law33_reads v5.1 a2 a3 a4 v18 hv18) (by kernel_rfl) (by kernel_rfl) ?_
        refine TD_go 2 ?_
        replace h := condO h
        rcases h with ⟨hb19, h⟩ | ⟨hb19, h⟩
        · subst hb19
          refine TD_go 2 ?_
          replace h := bindO h
          obtain ⟨v20, hv20, h⟩ := h
          refine TD_con (h := []) (h' := []) [[], [21]] 20 0 [.slc 1 0 (List.length b7.l) (List.map (ecI .i64) b7.l), .lit (.int .i64 (b7.at_))] _ _ (ok_law33_spoiled b7 v5.1 v20 hv20) (by kernel_rfl) (by kernel_rfl) (by kernel_rfl) (by kernel_rfl) ?_
          refine TD_go 2 ?_
          replace h := bindO h
          obtain ⟨v21, hv21, h⟩ := h
          refine TD_call [] (ok_law33_reads v20.1 v4.1 2 a4 v21 hv21) (by kernel_rfl) (by kernel_rfl) ?_
          refine TD_go 2 ?_
          replace h := condO h
          rcases h with ⟨hb22, h⟩ | ⟨hb22, h⟩
          · subst hb22
            replace h := bindO h
            obtain ⟨v23, hv23, h⟩ := h
            refine TD_call [] (ok_law33_known  v23 hv23) (by kernel_rfl) (by kernel_rfl) ?_
            refine TD_go 2 ?_
            refine TD_end (by kernel_rfl) ?_
            refine TS_go 1 ?_
            obtain rfl := Option.some.inj h
            exact TS_ret (by kernel_rfl) (by kernel_rfl) (by kernel_rfl)
          · subst hb22
            refine TD_go 3 ?_
            refine TD_end (by kernel_rfl) ?_
            refine TS_go 1 ?_
            obtain rfl := Option.some.inj h
            exact TS_ret (by kernel_rfl) (by kernel_rfl) (by kernel_rfl)
        · subst hb19
          refine TD_go 11 ?_
          refine TD_end (by kernel_rfl) ?_
          refine TS_go 1 ?_
          obtain rfl := Option.some.inj h
          exact TS_ret (by kernel_rfl) (by kernel_rfl) (by kernel_rfl)
      · subst hb17
        refine TD_go 18 ?_
        refine TD_end (by kernel_rfl) ?_
        refine TS_go 1 ?_
        obtain rfl := Option.some.inj h
        exact TS_ret (by kernel_rfl) (by kernel_rfl) (by kernel_rfl)

end Go.Proofs.Ytonlajdaaljncaa
