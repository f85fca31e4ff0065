/-
  Part 4 of what the proof of this law rests on.
-/
import Derived.Test.YtleadcbdbfjefaaKF3
namespace Go.Proofs.Ytleadcbdbfjefaa
section
open Go.RowKit
attribute [local irreducible] TS go TD goD

/-- multihop/multihopref09.Step -/
noncomputable def F_ref09_Step_j1  (v4 : (List S_Outcome) × S_Link) : Option (S_Link × Bool × (List S_Outcome)) :=
  some ((v4.2, false, v4.1))
noncomputable def F_ref09_Step_j2  (v8 : S_Link × (List S_Outcome)) : Option (S_Link × Bool × (List S_Outcome)) :=
  some ((v8.1, false, v8.2))
noncomputable def F_ref09_Step_j3  (v23 : S_Link × (List S_Outcome)) : Option (S_Link × Bool × (List S_Outcome)) :=
  (F_ref09_Step_j1) (v23.2, v23.1)
noncomputable def F_ref09_Step_j4  (v29 : S_Link × (List S_Outcome)) : Option (S_Link × Bool × (List S_Outcome)) :=
  (F_ref09_Step_j1) (v29.2, v29.1)
noncomputable def F_ref09_Step (a0 : S_Link) (a1 : S_Slot) : Option (S_Link × Bool × (List S_Outcome)) :=
  (F_ref09_Valid a0).bind fun v1 =>
  bif v1 then
    (F_ref09_rest a0.Queue).bind fun v3 =>
    bif (a0.Phase == 1) then
      (F_ref08_Step a0.Backoff a1.Busy a1.Draw).bind fun v6 =>
      bif (v6.State == 4) then
        bif (decide ((IntKind.wrap .i64 (a0.Attempts + 1)) > 3)) then
          (F_ref09_finish (S_Link.mk v3 a0.Phase (IntKind.wrap .i64 (a0.Attempts + 1)) v6 a0.Left) false a1.Draw).bind fun v10 =>
          (F_ref09_Step_j2) (v10.1, v10.2)
        else
          (F_ref08_Begin a1.Draw).bind fun v11 =>
          (F_ref09_Step_j2) ((S_Link.mk v3 1 (IntKind.wrap .i64 (a0.Attempts + 1)) v11 0), ([] : List S_Outcome))
      else
        bif (v6.State != 3) then
          some (((S_Link.mk v3 a0.Phase a0.Attempts v6 a0.Left), false, ([] : List S_Outcome)))
        else
          (idx v3 0).bind fun e14 =>
          bif e14.AckRequest then
            some (((S_Link.mk v3 2 (IntKind.wrap .i64 (a0.Attempts + 1)) (S_Backoff.mk 0 0 0 0 0) 3), true, ([] : List S_Outcome)))
          else
            (F_ref09_finish (S_Link.mk v3 a0.Phase (IntKind.wrap .i64 (a0.Attempts + 1)) v6 a0.Left) true a1.Draw).bind fun v16 =>
            some ((v16.1, true, v16.2))
    else
      bif (a0.Phase == 2) then
        bif a1.Ack then
          (idx v3 0).bind fun e19 =>
          bif (a1.Seq == e19.Seq) then
            (F_ref09_finish (S_Link.mk v3 a0.Phase a0.Attempts a0.Backoff a0.Left) true a1.Draw).bind fun v21 =>
            some ((v21.1, false, v21.2))
          else
            bif ((IntKind.wrap .i64 (a0.Left - 1)) == 0) then
              bif (decide (a0.Attempts > 3)) then
                (F_ref09_finish (S_Link.mk v3 a0.Phase a0.Attempts a0.Backoff (IntKind.wrap .i64 (a0.Left - 1))) false a1.Draw).bind fun v25 =>
                (F_ref09_Step_j3) (v25.1, v25.2)
              else
                (F_ref08_Begin a1.Draw).bind fun v26 =>
                (F_ref09_Step_j3) ((S_Link.mk v3 1 a0.Attempts v26 0), ([] : List S_Outcome))
            else
              (F_ref09_Step_j1) (([] : List S_Outcome), (S_Link.mk v3 a0.Phase a0.Attempts a0.Backoff (IntKind.wrap .i64 (a0.Left - 1))))
        else
          bif ((IntKind.wrap .i64 (a0.Left - 1)) == 0) then
            bif (decide (a0.Attempts > 3)) then
              (F_ref09_finish (S_Link.mk v3 a0.Phase a0.Attempts a0.Backoff (IntKind.wrap .i64 (a0.Left - 1))) false a1.Draw).bind fun v31 =>
              (F_ref09_Step_j4) (v31.1, v31.2)
            else
              (F_ref08_Begin a1.Draw).bind fun v32 =>
              (F_ref09_Step_j4) ((S_Link.mk v3 1 a0.Attempts v32 0), ([] : List S_Outcome))
          else
            (F_ref09_Step_j1) (([] : List S_Outcome), (S_Link.mk v3 a0.Phase a0.Attempts a0.Backoff (IntKind.wrap .i64 (a0.Left - 1))))
      else
        (F_ref09_Step_j1) (([] : List S_Outcome), (S_Link.mk v3 a0.Phase a0.Attempts a0.Backoff a0.Left))
  else
    some (((S_Link.mk ([] : List S_Frame) 0 0 (S_Backoff.mk 0 0 0 0 0) 0), false, ([] : List S_Outcome)))
set_option maxRecDepth 100000 in
set_option maxHeartbeats 40000000 in
theorem ok_ref09_Step (a0 : S_Link) (a1 : S_Slot) (r : S_Link × Bool × (List S_Outcome)) (h : F_ref09_Step a0 a1 = some r) : Con Try.prog 18 [.agg (S_Link.cs a0), .agg (S_Slot.cs a1)] [] (.tup [(true, S_Link.cs r.1), (false, [.lit (.bool (r.2.1))]), (false, [eS 18 S_Outcome.cs (r.2.2)])]) [] := by
  unfold F_ref09_Step at h
  refine con_of [[17], [], [19]] [] 113 Try.func18 rfl rfl (by kernel_rfl) (fun K => ?_)
  refine TS_go 12 ?_
  replace h := bindO h
  obtain ⟨v1, hv1, h⟩ := h
  refine TS_call [] (ok_ref09_Valid a0 v1 hv1) (by kernel_rfl) (by kernel_rfl) ?_
  refine TS_go 2 ?_
  replace h := condO h
  rcases h with ⟨hb2, h⟩ | ⟨hb2, h⟩
  · subst hb2
    refine TS_F (by kernel_rfl) rfl ?_
    refine TS_go 5 ?_
    replace h := bindO h
    obtain ⟨v3, hv3, h⟩ := h
    refine TS_con [] [(14, 900000)] none (okT_ref09_rest a0.Queue v3 hv3) (by kernel_rfl) (by kernel_rfl) (by kernel_rfl) ?_
    refine TS_go 7 ?_
    refine TS_cut ⟨[(2, []), (3, []), (4, []), (7, [])], [(2, (2, [])), (3, (3, [])), (4, (4, [])), (14, (14, []))]⟩ (.mk [.code (codeAt [1, 1, 1, 1] (bodyOf Try.f18))] .normal ⟨[(2, .c (.box 2 0)), (3, .c (.box 3 0)), (4, .c (.box 4 0)), (7, .c (.lit (.slice none 0 0)))], [(2, .box [.slc 16 16 (List.length v3) (List.map S_Frame.cs v3), .lit (.int .i64 (a0.Phase)), .lit (.int .i64 (a0.Attempts)), .lit (.int .i64 (a0.Backoff.State)), .lit (.int .i64 (a0.Backoff.Busy)), .lit (.int .i64 (a0.Backoff.Exponent)), .lit (.int .i64 (a0.Backoff.Clear)), .lit (.int .i64 (a0.Backoff.Wait)), .lit (.int .i64 (a0.Left))]), (3, .box [.lit (.bool (a1.Busy)), .lit (.bool (a1.Ack)), .lit (.int .u8 (a1.Seq)), .lit (.int .u32 (a1.Draw))]), (4, .box [.lit (.slice none 0 0), .lit (.int .i64 (0)), .lit (.int .i64 (0)), .lit (.int .i64 (0)), .lit (.int .i64 (0)), .lit (.int .i64 (0)), .lit (.int .i64 (0)), .lit (.int .i64 (0)), .lit (.int .i64 (0))]), (14, .spare 36 16 (List.length v3))]⟩) (by kernel_rfl) (by kernel_rfl) ?_
    refine TS_joinB ⟨[(2, []), (4, []), (7, [19])], [(2, (2, [17])), (4, (4, []))]⟩ (fun (v4 : (List S_Outcome) × S_Link) => [(2, .c (.box 2 0)), (4, .c (.box 4 0)), (7, .c (eS 18 S_Outcome.cs (v4.1)))]) (fun (v4 : (List S_Outcome) × S_Link) => [(2, .box (S_Link.cs v4.2)), (4, .box [.lit (.slice none 0 0), .lit (.int .i64 (0)), .lit (.int .i64 (0)), .lit (.int .i64 (0)), .lit (.int .i64 (0)), .lit (.int .i64 (0)), .lit (.int .i64 (0)), .lit (.int .i64 (0)), .lit (.int .i64 (0))])]) (F_ref09_Step_j1) r ?_ ?_
    · clear h
      intro v4 h
      unfold F_ref09_Step_j1 at h
      refine TS_go 9 ?_
      have ret := Option.some.inj h
      subst ret
      exact TS_ret (by kernel_rfl) (by kernel_rfl) (by kernel_rfl)
    · refine TS_go 11 ?_
      replace h := condO h
      rcases h with ⟨hb5, h⟩ | ⟨hb5, h⟩
      · refine TS_know 19 (b := true) hb5 (by kernel_rfl) (by kernel_rfl) ?_
        refine TS_know 18 (b := true) hb5 (by kernel_rfl) (by kernel_rfl) ?_
        refine TS_T (by kernel_rfl) rfl ?_
        refine TS_go 8 ?_
        replace h := bindO h
        obtain ⟨v6, hv6, h⟩ := h
        refine TS_call [] (ok_ref08_Step a0.Backoff a1.Busy a1.Draw v6 hv6) (by kernel_rfl) (by kernel_rfl) ?_
        refine TS_go 11 ?_
        replace h := condO h
        rcases h with ⟨hb7, h⟩ | ⟨hb7, h⟩
        · refine TS_know 31 (b := true) hb7 (by kernel_rfl) (by kernel_rfl) ?_
          refine TS_T (by kernel_rfl) rfl ?_
          refine TS_go 13 ?_
          refine TS_cut ⟨[(2, []), (4, []), (37, []), (39, [])], [(2, (2, [])), (4, (4, [])), (14, (14, []))]⟩ (.mk [opsFr (codeAt [1, 1, 1, 1, 0, 1, 0, 1, 0, 1, 0, 1, 0, 1, 0] (bodyOf Try.f18)) 3, .code (codeAt [1, 1, 1, 1, 0, 1, 0, 1, 0, 1, 0, 1, 0, 1, 1] (bodyOf Try.f18)), .code (codeAt [1, 1, 1, 1, 0, 1, 0, 1, 0, 1, 1] (bodyOf Try.f18)), .blk 0] .normal ⟨[(2, .c (.box 2 0)), (4, .c (.box 4 0)), (37, .agg [.slc 16 16 (List.length v3) (List.map S_Frame.cs v3), .lit (.int .i64 (a0.Phase)), .lit (.int .i64 (IntKind.wrap .i64 (a0.Attempts + 1))), .lit (.int .i64 (v6.State)), .lit (.int .i64 (v6.Busy)), .lit (.int .i64 (v6.Exponent)), .lit (.int .i64 (v6.Clear)), .lit (.int .i64 (v6.Wait)), .lit (.int .i64 (a0.Left))]), (39, .c (.lit (.int .u32 (a1.Draw))))], [(2, .box [.slc 16 16 (List.length v3) (List.map S_Frame.cs v3), .lit (.int .i64 (a0.Phase)), .lit (.int .i64 (IntKind.wrap .i64 (a0.Attempts + 1))), .lit (.int .i64 (v6.State)), .lit (.int .i64 (v6.Busy)), .lit (.int .i64 (v6.Exponent)), .lit (.int .i64 (v6.Clear)), .lit (.int .i64 (v6.Wait)), .lit (.int .i64 (a0.Left))]), (4, .box [.lit (.slice none 0 0), .lit (.int .i64 (0)), .lit (.int .i64 (0)), .lit (.int .i64 (0)), .lit (.int .i64 (0)), .lit (.int .i64 (0)), .lit (.int .i64 (0)), .lit (.int .i64 (0)), .lit (.int .i64 (0))]), (14, .spare 36 16 (List.length v3))]⟩) (by kernel_rfl) (by kernel_rfl) ?_
          refine TS_bump 2000 (by kernel_rfl) ?_
          refine TS_inlJ 20 Try.func47 rfl rfl ⟨[(2, []), (4, [])], [(2002, (2002, [])), (2004, (2004, [])), (2014, (2014, []))]⟩ (fun (v8 : S_Link × (List S_Outcome)) => [(2, .c (.box 2002 0)), (4, .c (.box 2004 0)), (40, .tup [(true, [.slc 16 0 (List.length v8.1.Queue) (List.map S_Frame.cs v8.1.Queue), .lit (.int .i64 (v8.1.Phase)), .lit (.int .i64 (v8.1.Attempts)), .lit (.int .i64 (v8.1.Backoff.State)), .lit (.int .i64 (v8.1.Backoff.Busy)), .lit (.int .i64 (v8.1.Backoff.Exponent)), .lit (.int .i64 (v8.1.Backoff.Clear)), .lit (.int .i64 (v8.1.Backoff.Wait)), .lit (.int .i64 (v8.1.Left))]), (false, [.slc 18 0 (List.length v8.2) (List.map S_Outcome.cs v8.2)])])]) (fun (v8 : S_Link × (List S_Outcome)) => [(2002, .box [.slc 16 2016 (List.length v3) (List.map S_Frame.cs v3), .lit (.int .i64 (a0.Phase)), .lit (.int .i64 (IntKind.wrap .i64 (a0.Attempts + 1))), .lit (.int .i64 (v6.State)), .lit (.int .i64 (v6.Busy)), .lit (.int .i64 (v6.Exponent)), .lit (.int .i64 (v6.Clear)), .lit (.int .i64 (v6.Wait)), .lit (.int .i64 (a0.Left))]), (2004, .box [.lit (.slice none 0 0), .lit (.int .i64 (0)), .lit (.int .i64 (0)), .lit (.int .i64 (0)), .lit (.int .i64 (0)), .lit (.int .i64 (0)), .lit (.int .i64 (0)), .lit (.int .i64 (0)), .lit (.int .i64 (0))]), (2014, .spare 36 16 (List.length v3))]) (F_ref09_Step_j2) r (by kernel_rfl) ?_ (fun K12 => ?_)
          · clear h
            intro v8 h
            unfold F_ref09_Step_j2 at h
            refine TS_go 17 ?_
            refine TS_outJ (by kernel_rfl) ?_
            have ret := Option.some.inj h
            subst ret
            exact TS_ret (by kernel_rfl) (by kernel_rfl) (by kernel_rfl)
          · refine TS_go 13 ?_
            replace h := condO h
            rcases h with ⟨hb9, h⟩ | ⟨hb9, h⟩
            · refine TS_know 8 (b := true) hb9 (by kernel_rfl) (by kernel_rfl) ?_
              refine TS_T (by kernel_rfl) rfl ?_
              refine TS_go 4 ?_
              replace h := bindO h
              obtain ⟨v10, hv10, h⟩ := h
              refine TS_con [[17]] [(11, 900064)] none (okT_ref09_finish (S_Link.mk v3 a0.Phase (IntKind.wrap .i64 (a0.Attempts + 1)) v6 a0.Left) false a1.Draw v10 hv10) (by kernel_rfl) (by kernel_rfl) (by kernel_rfl) ?_
              refine TS_go 7 ?_
              exact TS_inlM (v10.1, v10.2) ⟨[(2, []), (4, []), (40, [0, 0, 0, 0, 0, 0, 0, 0, 0, 19])], [(2002, (2002, [])), (2004, (2004, [])), (2014, (2014, []))]⟩ h (by kernel_rfl) (by kernel_rfl) (by kernel_rfl)
            · refine TS_know 8 (b := false) hb9 (by kernel_rfl) (by kernel_rfl) ?_
              refine TS_F (by kernel_rfl) rfl ?_
              refine TS_go 4 ?_
              replace h := bindO h
              obtain ⟨v11, hv11, h⟩ := h
              refine TS_call [] (ok_ref08_Begin a1.Draw v11 hv11) (by kernel_rfl) (by kernel_rfl) ?_
              refine TS_go 14 ?_
              exact TS_inlM ((S_Link.mk v3 1 (IntKind.wrap .i64 (a0.Attempts + 1)) v11 0), ([] : List S_Outcome)) ⟨[(2, []), (4, []), (40, [17, 0, 0, 0, 0, 0, 0, 0, 0, 19])], [(2002, (2002, [])), (2004, (2004, [])), (2014, (2014, []))]⟩ h (by kernel_rfl) (by kernel_rfl) (by kernel_rfl)
        · refine TS_know 31 (b := false) hb7 (by kernel_rfl) (by kernel_rfl) ?_
          refine TS_F (by kernel_rfl) rfl ?_
          refine TS_go 9 ?_
          replace h := condO h
          rcases h with ⟨hb13, h⟩ | ⟨hb13, h⟩
          · refine TS_know 48 (b := true) hb13 (by kernel_rfl) (by kernel_rfl) ?_
            refine TS_T (by kernel_rfl) rfl ?_
            refine TS_go 10 ?_
            refine TS_outJ (by kernel_rfl) ?_
            have ret := Option.some.inj h
            subst ret
            exact TS_ret (by kernel_rfl) (by kernel_rfl) (by kernel_rfl)
          · refine TS_know 48 (b := false) hb13 (by kernel_rfl) (by kernel_rfl) ?_
            refine TS_F (by kernel_rfl) rfl ?_
            refine TS_go 14 ?_
            replace h := bindO h
            obtain ⟨_e14, he14, h⟩ := h
            refine TS_idx S_Frame.cs he14 (by kernel_rfl) (by kernel_rfl) ?_
            refine TS_go 4 ?_
            replace h := condO h
            rcases h with ⟨hb15, h⟩ | ⟨hb15, h⟩
            · refine TS_know 58 (b := true) hb15 (by kernel_rfl) (by kernel_rfl) ?_
              refine TS_know 59 (b := false) (notF hb15) (by kernel_rfl) (by kernel_rfl) ?_
              refine TS_F (by kernel_rfl) rfl ?_
              refine TS_go 20 ?_
              refine TS_outJ (by kernel_rfl) ?_
              have ret := Option.some.inj h
              subst ret
              exact TS_ret (by kernel_rfl) (by kernel_rfl) (by kernel_rfl)
            · refine TS_know 58 (b := false) hb15 (by kernel_rfl) (by kernel_rfl) ?_
              refine TS_know 59 (b := true) (notT hb15) (by kernel_rfl) (by kernel_rfl) ?_
              refine TS_T (by kernel_rfl) rfl ?_
              refine TS_go 5 ?_
              replace h := bindO h
              obtain ⟨v16, hv16, h⟩ := h
              refine TS_con [[17]] [(64, 900064)] none (okT_ref09_finish (S_Link.mk v3 a0.Phase (IntKind.wrap .i64 (a0.Attempts + 1)) v6 a0.Left) true a1.Draw v16 hv16) (by kernel_rfl) (by kernel_rfl) (by kernel_rfl) ?_
              refine TS_go 17 ?_
              refine TS_outJ (by kernel_rfl) ?_
              have ret := Option.some.inj h
              subst ret
              exact TS_ret (by kernel_rfl) (by kernel_rfl) (by kernel_rfl)
      · refine TS_know 19 (b := false) hb5 (by kernel_rfl) (by kernel_rfl) ?_
        refine TS_know 18 (b := false) hb5 (by kernel_rfl) (by kernel_rfl) ?_
        refine TS_F (by kernel_rfl) rfl ?_
        refine TS_go 5 ?_
        replace h := condO h
        rcases h with ⟨hb17, h⟩ | ⟨hb17, h⟩
        · refine TS_know 75 (b := true) hb17 (by kernel_rfl) (by kernel_rfl) ?_
          refine TS_know 74 (b := true) hb17 (by kernel_rfl) (by kernel_rfl) ?_
          refine TS_T (by kernel_rfl) rfl ?_
          refine TS_go 2 ?_
          refine TS_draw (by kernel_rfl) ?_
          refine TD_go 2 ?_
          replace h := condO h
          rcases h with ⟨hb18, h⟩ | ⟨hb18, h⟩
          · refine TD_know 78 (b := true) hb18 trivial (by kernel_rfl) (by kernel_rfl) ?_
            refine TD_go 4 ?_
            replace h := bindO h
            obtain ⟨_e19, he19, h⟩ := h
            refine TD_idx S_Frame.cs he19 (by kernel_rfl) (by kernel_rfl) ?_
            refine TD_go 4 ?_
            refine TD_end (by kernel_rfl) ?_
            replace h := condO h
            rcases h with ⟨hb20, h⟩ | ⟨hb20, h⟩
            · refine TS_know 77 (b := true) hb18 (by kernel_rfl) (by kernel_rfl) ?_
              refine TS_know 86 (b := true) hb20 (by kernel_rfl) (by kernel_rfl) ?_
              refine TS_know 87 (b := true) hb20 (by kernel_rfl) (by kernel_rfl) ?_
              refine TS_T (by kernel_rfl) rfl ?_
              refine TS_go 5 ?_
              replace h := bindO h
              obtain ⟨v21, hv21, h⟩ := h
              refine TS_con [[17]] [(92, 900064)] none (okT_ref09_finish (S_Link.mk v3 a0.Phase a0.Attempts a0.Backoff a0.Left) true a1.Draw v21 hv21) (by kernel_rfl) (by kernel_rfl) (by kernel_rfl) ?_
              refine TS_go 17 ?_
              refine TS_outJ (by kernel_rfl) ?_
              have ret := Option.some.inj h
              subst ret
              exact TS_ret (by kernel_rfl) (by kernel_rfl) (by kernel_rfl)
            · refine TS_know 77 (b := true) hb18 (by kernel_rfl) (by kernel_rfl) ?_
              refine TS_know 86 (b := false) hb20 (by kernel_rfl) (by kernel_rfl) ?_
              refine TS_know 87 (b := false) hb20 (by kernel_rfl) (by kernel_rfl) ?_
              refine TS_F (by kernel_rfl) rfl ?_
              refine TS_go 15 ?_
              replace h := condO h
              rcases h with ⟨hb22, h⟩ | ⟨hb22, h⟩
              · refine TS_know 103 (b := true) hb22 (by kernel_rfl) (by kernel_rfl) ?_
                refine TS_T (by kernel_rfl) rfl ?_
                refine TS_go 4 ?_
                refine TS_cut ⟨[(2, []), (4, []), (105, []), (107, [])], [(2, (2, [])), (4, (4, [])), (14, (14, []))]⟩ (.mk [opsFr (codeAt [1, 1, 1, 1, 0, 1, 0, 1, 1, 1, 0, 1, 1, 1, 0] (bodyOf Try.f18)) 3, .blk 0] .normal ⟨[(2, .c (.box 2 0)), (4, .c (.box 4 0)), (105, .agg [.slc 16 16 (List.length v3) (List.map S_Frame.cs v3), .lit (.int .i64 (a0.Phase)), .lit (.int .i64 (a0.Attempts)), .lit (.int .i64 (a0.Backoff.State)), .lit (.int .i64 (a0.Backoff.Busy)), .lit (.int .i64 (a0.Backoff.Exponent)), .lit (.int .i64 (a0.Backoff.Clear)), .lit (.int .i64 (a0.Backoff.Wait)), .lit (.int .i64 (IntKind.wrap .i64 (a0.Left - 1)))]), (107, .c (.lit (.int .u32 (a1.Draw))))], [(2, .box [.slc 16 16 (List.length v3) (List.map S_Frame.cs v3), .lit (.int .i64 (a0.Phase)), .lit (.int .i64 (a0.Attempts)), .lit (.int .i64 (a0.Backoff.State)), .lit (.int .i64 (a0.Backoff.Busy)), .lit (.int .i64 (a0.Backoff.Exponent)), .lit (.int .i64 (a0.Backoff.Clear)), .lit (.int .i64 (a0.Backoff.Wait)), .lit (.int .i64 (IntKind.wrap .i64 (a0.Left - 1)))]), (4, .box [.lit (.slice none 0 0), .lit (.int .i64 (0)), .lit (.int .i64 (0)), .lit (.int .i64 (0)), .lit (.int .i64 (0)), .lit (.int .i64 (0)), .lit (.int .i64 (0)), .lit (.int .i64 (0)), .lit (.int .i64 (0))]), (14, .spare 36 16 (List.length v3))]⟩) (by kernel_rfl) (by kernel_rfl) ?_
                refine TS_bump 2000 (by kernel_rfl) ?_
                refine TS_inlJ 20 Try.func47 rfl rfl ⟨[(2, []), (4, [])], [(2002, (2002, [])), (2004, (2004, [])), (2014, (2014, []))]⟩ (fun (v23 : S_Link × (List S_Outcome)) => [(2, .c (.box 2002 0)), (4, .c (.box 2004 0)), (108, .tup [(true, [.slc 16 0 (List.length v23.1.Queue) (List.map S_Frame.cs v23.1.Queue), .lit (.int .i64 (v23.1.Phase)), .lit (.int .i64 (v23.1.Attempts)), .lit (.int .i64 (v23.1.Backoff.State)), .lit (.int .i64 (v23.1.Backoff.Busy)), .lit (.int .i64 (v23.1.Backoff.Exponent)), .lit (.int .i64 (v23.1.Backoff.Clear)), .lit (.int .i64 (v23.1.Backoff.Wait)), .lit (.int .i64 (v23.1.Left))]), (false, [.slc 18 0 (List.length v23.2) (List.map S_Outcome.cs v23.2)])])]) (fun (v23 : S_Link × (List S_Outcome)) => [(2002, .box [.slc 16 2016 (List.length v3) (List.map S_Frame.cs v3), .lit (.int .i64 (a0.Phase)), .lit (.int .i64 (a0.Attempts)), .lit (.int .i64 (a0.Backoff.State)), .lit (.int .i64 (a0.Backoff.Busy)), .lit (.int .i64 (a0.Backoff.Exponent)), .lit (.int .i64 (a0.Backoff.Clear)), .lit (.int .i64 (a0.Backoff.Wait)), .lit (.int .i64 (IntKind.wrap .i64 (a0.Left - 1)))]), (2004, .box [.lit (.slice none 0 0), .lit (.int .i64 (0)), .lit (.int .i64 (0)), .lit (.int .i64 (0)), .lit (.int .i64 (0)), .lit (.int .i64 (0)), .lit (.int .i64 (0)), .lit (.int .i64 (0)), .lit (.int .i64 (0))]), (2014, .spare 36 16 (List.length v3))]) (F_ref09_Step_j3) r (by kernel_rfl) ?_ (fun K27 => ?_)
                · clear h
                  intro v23 h
                  unfold F_ref09_Step_j3 at h
                  refine TS_go 7 ?_
                  exact TS_meet (v23.2, v23.1) ⟨[(2, []), (4, []), (7, [])], [(2002, (2, [])), (2004, (4, []))]⟩ h (by kernel_rfl) (by kernel_rfl)
                · refine TS_go 13 ?_
                  replace h := condO h
                  rcases h with ⟨hb24, h⟩ | ⟨hb24, h⟩
                  · refine TS_know 8 (b := true) hb24 (by kernel_rfl) (by kernel_rfl) ?_
                    refine TS_T (by kernel_rfl) rfl ?_
                    refine TS_go 4 ?_
                    replace h := bindO h
                    obtain ⟨v25, hv25, h⟩ := h
                    refine TS_con [[17]] [(11, 900064)] none (okT_ref09_finish (S_Link.mk v3 a0.Phase a0.Attempts a0.Backoff (IntKind.wrap .i64 (a0.Left - 1))) false a1.Draw v25 hv25) (by kernel_rfl) (by kernel_rfl) (by kernel_rfl) ?_
                    refine TS_go 7 ?_
                    exact TS_inlM (v25.1, v25.2) ⟨[(2, []), (4, []), (108, [0, 0, 0, 0, 0, 0, 0, 0, 0, 19])], [(2002, (2002, [])), (2004, (2004, [])), (2014, (2014, []))]⟩ h (by kernel_rfl) (by kernel_rfl) (by kernel_rfl)
                  · refine TS_know 8 (b := false) hb24 (by kernel_rfl) (by kernel_rfl) ?_
                    refine TS_F (by kernel_rfl) rfl ?_
                    refine TS_go 4 ?_
                    replace h := bindO h
                    obtain ⟨v26, hv26, h⟩ := h
                    refine TS_call [] (ok_ref08_Begin a1.Draw v26 hv26) (by kernel_rfl) (by kernel_rfl) ?_
                    refine TS_go 14 ?_
                    exact TS_inlM ((S_Link.mk v3 1 a0.Attempts v26 0), ([] : List S_Outcome)) ⟨[(2, []), (4, []), (108, [17, 0, 0, 0, 0, 0, 0, 0, 0, 19])], [(2002, (2002, [])), (2004, (2004, [])), (2014, (2014, []))]⟩ h (by kernel_rfl) (by kernel_rfl) (by kernel_rfl)
              · refine TS_know 103 (b := false) hb22 (by kernel_rfl) (by kernel_rfl) ?_
                refine TS_F (by kernel_rfl) rfl ?_
                refine TS_go 2 ?_
                exact TS_meet (([] : List S_Outcome), (S_Link.mk v3 a0.Phase a0.Attempts a0.Backoff (IntKind.wrap .i64 (a0.Left - 1)))) ⟨[(2, []), (4, []), (7, [19])], [(2, (2, [17])), (4, (4, []))]⟩ h (by kernel_rfl) (by kernel_rfl)
          · refine TD_know 78 (b := false) hb18 trivial (by kernel_rfl) (by kernel_rfl) ?_
            refine TD_go 9 ?_
            refine TD_end (by kernel_rfl) ?_
            refine TS_F (by kernel_rfl) rfl ?_
            refine TS_go 15 ?_
            replace h := condO h
            rcases h with ⟨hb28, h⟩ | ⟨hb28, h⟩
            · refine TS_know 77 (b := false) hb18 (by kernel_rfl) (by kernel_rfl) ?_
              refine TS_know 103 (b := true) hb28 (by kernel_rfl) (by kernel_rfl) ?_
              refine TS_T (by kernel_rfl) rfl ?_
              refine TS_go 4 ?_
              refine TS_cut ⟨[(2, []), (4, []), (105, []), (107, [])], [(2, (2, [])), (4, (4, [])), (14, (14, []))]⟩ (.mk [opsFr (codeAt [1, 1, 1, 1, 0, 1, 0, 1, 1, 1, 0, 1, 1, 1, 0] (bodyOf Try.f18)) 3, .blk 0] .normal ⟨[(2, .c (.box 2 0)), (4, .c (.box 4 0)), (105, .agg [.slc 16 16 (List.length v3) (List.map S_Frame.cs v3), .lit (.int .i64 (a0.Phase)), .lit (.int .i64 (a0.Attempts)), .lit (.int .i64 (a0.Backoff.State)), .lit (.int .i64 (a0.Backoff.Busy)), .lit (.int .i64 (a0.Backoff.Exponent)), .lit (.int .i64 (a0.Backoff.Clear)), .lit (.int .i64 (a0.Backoff.Wait)), .lit (.int .i64 (IntKind.wrap .i64 (a0.Left - 1)))]), (107, .c (.lit (.int .u32 (a1.Draw))))], [(2, .box [.slc 16 16 (List.length v3) (List.map S_Frame.cs v3), .lit (.int .i64 (a0.Phase)), .lit (.int .i64 (a0.Attempts)), .lit (.int .i64 (a0.Backoff.State)), .lit (.int .i64 (a0.Backoff.Busy)), .lit (.int .i64 (a0.Backoff.Exponent)), .lit (.int .i64 (a0.Backoff.Clear)), .lit (.int .i64 (a0.Backoff.Wait)), .lit (.int .i64 (IntKind.wrap .i64 (a0.Left - 1)))]), (4, .box [.lit (.slice none 0 0), .lit (.int .i64 (0)), .lit (.int .i64 (0)), .lit (.int .i64 (0)), .lit (.int .i64 (0)), .lit (.int .i64 (0)), .lit (.int .i64 (0)), .lit (.int .i64 (0)), .lit (.int .i64 (0))]), (14, .spare 36 16 (List.length v3))]⟩) (by kernel_rfl) (by kernel_rfl) ?_
              refine TS_bump 2000 (by kernel_rfl) ?_
              refine TS_inlJ 20 Try.func47 rfl rfl ⟨[(2, []), (4, [])], [(2002, (2002, [])), (2004, (2004, [])), (2014, (2014, []))]⟩ (fun (v29 : S_Link × (List S_Outcome)) => [(2, .c (.box 2002 0)), (4, .c (.box 2004 0)), (108, .tup [(true, [.slc 16 0 (List.length v29.1.Queue) (List.map S_Frame.cs v29.1.Queue), .lit (.int .i64 (v29.1.Phase)), .lit (.int .i64 (v29.1.Attempts)), .lit (.int .i64 (v29.1.Backoff.State)), .lit (.int .i64 (v29.1.Backoff.Busy)), .lit (.int .i64 (v29.1.Backoff.Exponent)), .lit (.int .i64 (v29.1.Backoff.Clear)), .lit (.int .i64 (v29.1.Backoff.Wait)), .lit (.int .i64 (v29.1.Left))]), (false, [.slc 18 0 (List.length v29.2) (List.map S_Outcome.cs v29.2)])])]) (fun (v29 : S_Link × (List S_Outcome)) => [(2002, .box [.slc 16 2016 (List.length v3) (List.map S_Frame.cs v3), .lit (.int .i64 (a0.Phase)), .lit (.int .i64 (a0.Attempts)), .lit (.int .i64 (a0.Backoff.State)), .lit (.int .i64 (a0.Backoff.Busy)), .lit (.int .i64 (a0.Backoff.Exponent)), .lit (.int .i64 (a0.Backoff.Clear)), .lit (.int .i64 (a0.Backoff.Wait)), .lit (.int .i64 (IntKind.wrap .i64 (a0.Left - 1)))]), (2004, .box [.lit (.slice none 0 0), .lit (.int .i64 (0)), .lit (.int .i64 (0)), .lit (.int .i64 (0)), .lit (.int .i64 (0)), .lit (.int .i64 (0)), .lit (.int .i64 (0)), .lit (.int .i64 (0)), .lit (.int .i64 (0))]), (2014, .spare 36 16 (List.length v3))]) (F_ref09_Step_j4) r (by kernel_rfl) ?_ (fun K33 => ?_)
              · clear h
                intro v29 h
                unfold F_ref09_Step_j4 at h
                refine TS_go 7 ?_
                exact TS_meet (v29.2, v29.1) ⟨[(2, []), (4, []), (7, [])], [(2002, (2, [])), (2004, (4, []))]⟩ h (by kernel_rfl) (by kernel_rfl)
              · refine TS_go 13 ?_
                replace h := condO h
                rcases h with ⟨hb30, h⟩ | ⟨hb30, h⟩
                · refine TS_know 8 (b := true) hb30 (by kernel_rfl) (by kernel_rfl) ?_
                  refine TS_T (by kernel_rfl) rfl ?_
                  refine TS_go 4 ?_
                  replace h := bindO h
                  obtain ⟨v31, hv31, h⟩ := h
                  refine TS_con [[17]] [(11, 900064)] none (okT_ref09_finish (S_Link.mk v3 a0.Phase a0.Attempts a0.Backoff (IntKind.wrap .i64 (a0.Left - 1))) false a1.Draw v31 hv31) (by kernel_rfl) (by kernel_rfl) (by kernel_rfl) ?_
                  refine TS_go 7 ?_
                  exact TS_inlM (v31.1, v31.2) ⟨[(2, []), (4, []), (108, [0, 0, 0, 0, 0, 0, 0, 0, 0, 19])], [(2002, (2002, [])), (2004, (2004, [])), (2014, (2014, []))]⟩ h (by kernel_rfl) (by kernel_rfl) (by kernel_rfl)
                · refine TS_know 8 (b := false) hb30 (by kernel_rfl) (by kernel_rfl) ?_
                  refine TS_F (by kernel_rfl) rfl ?_
                  refine TS_go 4 ?_
                  replace h := bindO h
                  obtain ⟨v32, hv32, h⟩ := h
                  refine TS_call [] (ok_ref08_Begin a1.Draw v32 hv32) (by kernel_rfl) (by kernel_rfl) ?_
                  refine TS_go 14 ?_
                  exact TS_inlM ((S_Link.mk v3 1 a0.Attempts v32 0), ([] : List S_Outcome)) ⟨[(2, []), (4, []), (108, [17, 0, 0, 0, 0, 0, 0, 0, 0, 19])], [(2002, (2002, [])), (2004, (2004, [])), (2014, (2014, []))]⟩ h (by kernel_rfl) (by kernel_rfl) (by kernel_rfl)
            · refine TS_know 77 (b := false) hb18 (by kernel_rfl) (by kernel_rfl) ?_
              refine TS_know 103 (b := false) hb28 (by kernel_rfl) (by kernel_rfl) ?_
              refine TS_F (by kernel_rfl) rfl ?_
              refine TS_go 2 ?_
              exact TS_meet (([] : List S_Outcome), (S_Link.mk v3 a0.Phase a0.Attempts a0.Backoff (IntKind.wrap .i64 (a0.Left - 1)))) ⟨[(2, []), (4, []), (7, [19])], [(2, (2, [17])), (4, (4, []))]⟩ h (by kernel_rfl) (by kernel_rfl)
        · refine TS_know 75 (b := false) hb17 (by kernel_rfl) (by kernel_rfl) ?_
          refine TS_know 74 (b := false) hb17 (by kernel_rfl) (by kernel_rfl) ?_
          refine TS_F (by kernel_rfl) rfl ?_
          refine TS_go 2 ?_
          exact TS_meet (([] : List S_Outcome), (S_Link.mk v3 a0.Phase a0.Attempts a0.Backoff a0.Left)) ⟨[(2, []), (4, []), (7, [19])], [(2, (2, [17])), (4, (4, []))]⟩ h (by kernel_rfl) (by kernel_rfl)
  · subst hb2
    refine TS_T (by kernel_rfl) rfl ?_
    refine TS_go 9 ?_
    have ret := Option.some.inj h
    subst ret
    exact TS_ret (by kernel_rfl) (by kernel_rfl) (by kernel_rfl)

/-- (*multihop/multihopmade.Tape).Link -/
noncomputable def F_made_Tape_Link_l1  (s2 : Int × S_multihopmade_Tape × S_Link) : Option ((Int × S_multihopmade_Tape × S_Link) ⊕ (S_multihopmade_Tape × S_Link)) :=
  bif (decide (s2.1 > 0)) then
    (F_made_Tape_Frame s2.2.1 3).bind fun v6 =>
    (F_made_Tape_Next v6.2 1000).bind fun v7 =>
    (F_ref09_Enqueue s2.2.2 v6.1 (IntKind.wrap .u32 v7.1)).bind fun v8 =>
    some (Sum.inl (IntKind.wrap .i64 (s2.1 - 1), v7.2, v8.1))
  else
    some (Sum.inr (s2.2.1, s2.2.2))
noncomputable def F_made_Tape_Link_l2  (s11 : Int × S_Link) : Option ((Int × S_Link) ⊕ (S_Link)) :=
  bif (decide (s11.1 > 0)) then
    (F_ref09_Step s11.2 (S_Slot.mk ((Int.tmod s11.1 7) == 0) false 0 (IntKind.wrap .u32 s11.1))).bind fun v15 =>
    some (Sum.inl (IntKind.wrap .i64 (s11.1 - 1), v15.1))
  else
    some (Sum.inr s11.2)
noncomputable def F_made_Tape_Link (a0 : S_multihopmade_Tape) : Option (S_Link × S_multihopmade_Tape) :=
  (F_made_Tape_Next a0 5).bind fun v1 =>
  (loopO (F_made_Tape_Link_l1) (v1.1, v1.2, (S_Link.mk ([] : List S_Frame) 0 0 (S_Backoff.mk 0 0 0 0 0) 0))).bind fun b3 =>
  (F_made_Tape_Next b3.1 60).bind fun v10 =>
  (loopO (F_made_Tape_Link_l2) (v10.1, b3.2)).bind fun b12 =>
  some ((b12, v10.2))
set_option maxRecDepth 100000 in
set_option maxHeartbeats 40000000 in
theorem ok_made_Tape_Link (a0 : S_multihopmade_Tape) (r : S_Link × S_multihopmade_Tape) (h : F_made_Tape_Link a0 = some r) : Con Try.prog 10 [.c (.box 1000000 0)] [(1000000, .box (S_multihopmade_Tape.cs a0))] (.agg (S_Link.cs r.1)) [(1000000, .box (S_multihopmade_Tape.cs r.2))] := by
  unfold F_made_Tape_Link at h
  refine con_of [[17]] [(1000000, [2])] 42 Try.func10 rfl rfl (by kernel_rfl) (fun K => ?_)
  refine TS_go 14 ?_
  replace h := bindO h
  obtain ⟨v1, hv1, h⟩ := h
  refine TS_con [] [] (some (1000000, 0)) (ok_made_Tape_Next a0 5 v1 hv1) (by kernel_rfl) (by kernel_rfl) (by kernel_rfl) ?_
  refine TS_go 3 ?_
  refine TS_cut ⟨[(0, []), (2, []), (3, []), (4, [])], [(1000000, (1000000, [])), (2, (2, [])), (3, (3, []))]⟩ (.mk [.code (codeAt [1, 1, 0, 1, 0] (bodyOf Try.f10)), .blk 0, .code (codeAt [1, 1, 1] (bodyOf Try.f10))] .normal ⟨[(0, .c (.box 1000000 0)), (2, .c (.box 2 0)), (3, .c (.box 3 0)), (4, .c (.lit (.int .i64 (v1.1))))], [(1000000, .box [.slc 1 0 (List.length v1.2.l) (List.map (ecI .i64) v1.2.l), .lit (.int .i64 (v1.2.at_))]), (2, .box [.lit (.slice none 0 0), .lit (.int .i64 (0)), .lit (.int .i64 (0)), .lit (.int .i64 (0)), .lit (.int .i64 (0)), .lit (.int .i64 (0)), .lit (.int .i64 (0)), .lit (.int .i64 (0)), .lit (.int .i64 (0))]), (3, .box [.lit (.slice none 0 0), .lit (.int .i64 (0)), .lit (.int .i64 (0)), .lit (.int .i64 (0)), .lit (.int .i64 (0)), .lit (.int .i64 (0)), .lit (.int .i64 (0)), .lit (.int .i64 (0)), .lit (.int .i64 (0))])]⟩) (by kernel_rfl) (by kernel_rfl) ?_
  replace h := bindO h
  obtain ⟨y4, hl1, hK1⟩ := h
  refine TS_loopB (F_made_Tape_Link_l1) ⟨[(0, []), (2, []), (3, []), (4, [])], [(1000000, (1000000, [])), (2, (2, [])), (3, (3, [17]))]⟩ (fun (s2 : Int × S_multihopmade_Tape × S_Link) => [(4, .c (.lit (.int .i64 (s2.1))))]) (fun (s2 : Int × S_multihopmade_Tape × S_Link) => [(1000000, .box (S_multihopmade_Tape.cs s2.2.1)), (3, .box (S_Link.cs s2.2.2))]) (v1.1, v1.2, (S_Link.mk ([] : List S_Frame) 0 0 (S_Backoff.mk 0 0 0 0 0) 0)) y4 (.exit 0) (fun (b : S_multihopmade_Tape × S_Link) => b) ⟨[(0, []), (2, []), (3, [])], [(1000000, (1000000, [])), (2, (2, [])), (3, (3, [17]))]⟩ (fun (b3 : S_multihopmade_Tape × S_Link) => []) (fun (b3 : S_multihopmade_Tape × S_Link) => [(1000000, .box (S_multihopmade_Tape.cs b3.1)), (3, .box (S_Link.cs b3.2))]) hl1 (by kernel_rfl) (by kernel_rfl) ?_ ?_
  · intro s2 x h hy1
    unfold F_made_Tape_Link_l1 at h
    refine TS_go 6 ?_
    replace h := condO h
    rcases h with ⟨hb5, h⟩ | ⟨hb5, h⟩
    · refine TS_know 10 (b := true) hb5 (by kernel_rfl) (by kernel_rfl) ?_
      refine TS_T (by kernel_rfl) rfl ?_
      refine TS_go 3 ?_
      refine TS_draw (by kernel_rfl) ?_
      refine TD_go 2 ?_
      replace h := bindO h
      obtain ⟨v6, hv6, h⟩ := h
      refine TD_con (_h := []) (_h' := []) [] 1000000 0 [.slc 1 0 (List.length s2.2.1.l) (List.map (ecI .i64) s2.2.1.l), .lit (.int .i64 (s2.2.1.at_))] _ _ (ok_made_Tape_Frame s2.2.1 3 v6 hv6) (by kernel_rfl) (by kernel_rfl) (by kernel_rfl) (by kernel_rfl) ?_
      refine TD_go 1 ?_
      replace h := bindO h
      obtain ⟨v7, hv7, h⟩ := h
      refine TD_con (_h := []) (_h' := []) [] 1000000 0 [.slc 1 0 (List.length v6.2.l) (List.map (ecI .i64) v6.2.l), .lit (.int .i64 (v6.2.at_))] _ _ (ok_made_Tape_Next v6.2 1000 v7 hv7) (by kernel_rfl) (by kernel_rfl) (by kernel_rfl) (by kernel_rfl) ?_
      refine TD_go 1 ?_
      replace h := bindO h
      obtain ⟨v8, hv8, h⟩ := h
      refine TD_call [] (ok_ref09_Enqueue s2.2.2 v6.1 (IntKind.wrap .u32 v7.1) v8 hv8) (by kernel_rfl) (by kernel_rfl) ?_
      refine TD_go 4 ?_
      refine TD_end (by kernel_rfl) ?_
      refine TS_go 6 ?_
      have ret := Option.some.inj h
      subst ret
      exact TS_againB _ ⟨[(0, []), (2, []), (3, []), (4, [])], [(1000000, (1000000, [])), (2, (2, [])), (3, (3, []))]⟩ rfl (by kernel_rfl) (by kernel_rfl)
    · refine TS_know 10 (b := false) hb5 (by kernel_rfl) (by kernel_rfl) ?_
      refine TS_F (by kernel_rfl) rfl ?_
      refine TS_go 2 ?_
      have ret := Option.some.inj h
      subst ret
      exact TS_brkB (s2.2.1, s2.2.2) ⟨[(0, []), (2, []), (3, [])], [(1000000, (1000000, [])), (2, (2, [])), (3, (3, []))]⟩ rfl (by kernel_rfl) (by kernel_rfl) (by kernel_rfl)
  · intro b3 hb
    subst y4
    have h := hK1
    refine TS_go 5 ?_
    replace h := bindO h
    obtain ⟨v10, hv10, h⟩ := h
    refine TS_con [] [] (some (1000000, 0)) (ok_made_Tape_Next b3.1 60 v10 hv10) (by kernel_rfl) (by kernel_rfl) (by kernel_rfl) ?_
    refine TS_go 3 ?_
    refine TS_cut ⟨[(2, []), (3, []), (5, [])], [(1000000, (1000000, [])), (2, (2, [])), (3, (3, []))]⟩ (.mk [.code (codeAt [1, 1, 1, 0, 1, 0] (bodyOf Try.f10)), .blk 2, .code (codeAt [1, 1, 1, 1] (bodyOf Try.f10))] .normal ⟨[(2, .c (.box 2 0)), (3, .c (.box 3 0)), (5, .c (.lit (.int .i64 (v10.1))))], [(1000000, .box [.slc 1 0 (List.length v10.2.l) (List.map (ecI .i64) v10.2.l), .lit (.int .i64 (v10.2.at_))]), (2, .box [.lit (.slice none 0 0), .lit (.int .i64 (0)), .lit (.int .i64 (0)), .lit (.int .i64 (0)), .lit (.int .i64 (0)), .lit (.int .i64 (0)), .lit (.int .i64 (0)), .lit (.int .i64 (0)), .lit (.int .i64 (0))]), (3, .box [.slc 16 0 (List.length b3.2.Queue) (List.map S_Frame.cs b3.2.Queue), .lit (.int .i64 (b3.2.Phase)), .lit (.int .i64 (b3.2.Attempts)), .lit (.int .i64 (b3.2.Backoff.State)), .lit (.int .i64 (b3.2.Backoff.Busy)), .lit (.int .i64 (b3.2.Backoff.Exponent)), .lit (.int .i64 (b3.2.Backoff.Clear)), .lit (.int .i64 (b3.2.Backoff.Wait)), .lit (.int .i64 (b3.2.Left))])]⟩) (by kernel_rfl) (by kernel_rfl) ?_
    replace h := bindO h
    obtain ⟨y13, hl2, hK2⟩ := h
    refine TS_loopB (F_made_Tape_Link_l2) ⟨[(2, []), (3, []), (5, [])], [(1000000, (1000000, [])), (2, (2, [])), (3, (3, []))]⟩ (fun (s11 : Int × S_Link) => [(5, .c (.lit (.int .i64 (s11.1))))]) (fun (s11 : Int × S_Link) => [(3, .box (S_Link.cs s11.2))]) (v10.1, b3.2) y13 (.exit 2) (fun (b : S_Link) => b) ⟨[(2, []), (3, [])], [(1000000, (1000000, [])), (2, (2, [])), (3, (3, []))]⟩ (fun (b12 : S_Link) => []) (fun (b12 : S_Link) => [(3, .box (S_Link.cs b12))]) hl2 (by kernel_rfl) (by kernel_rfl) ?_ ?_
    · intro s11 x h hy2
      unfold F_made_Tape_Link_l2 at h
      refine TS_go 6 ?_
      replace h := condO h
      rcases h with ⟨hb14, h⟩ | ⟨hb14, h⟩
      · refine TS_know 26 (b := true) hb14 (by kernel_rfl) (by kernel_rfl) ?_
        refine TS_T (by kernel_rfl) rfl ?_
        refine TS_go 11 ?_
        replace h := bindO h
        obtain ⟨v15, hv15, h⟩ := h
        refine TS_call [] (ok_ref09_Step s11.2 (S_Slot.mk ((Int.tmod s11.1 7) == 0) false 0 (IntKind.wrap .u32 s11.1)) v15 hv15) (by kernel_rfl) (by kernel_rfl) ?_
        refine TS_go 12 ?_
        have ret := Option.some.inj h
        subst ret
        exact TS_againB _ ⟨[(2, []), (3, []), (5, [])], [(1000000, (1000000, [])), (2, (2, [])), (3, (3, []))]⟩ rfl (by kernel_rfl) (by kernel_rfl)
      · refine TS_know 26 (b := false) hb14 (by kernel_rfl) (by kernel_rfl) ?_
        refine TS_F (by kernel_rfl) rfl ?_
        refine TS_go 2 ?_
        have ret := Option.some.inj h
        subst ret
        exact TS_brkB s11.2 ⟨[(2, []), (3, [])], [(1000000, (1000000, [])), (2, (2, [])), (3, (3, []))]⟩ rfl (by kernel_rfl) (by kernel_rfl) (by kernel_rfl)
    · intro b12 hb
      subst y13
      have h := hK2
      refine TS_go 7 ?_
      have ret := Option.some.inj h
      subst ret
      exact TS_ret (by kernel_rfl) (by kernel_rfl) (by kernel_rfl)

/-- (*multihop/multihopmade.Tape).Addr -/
noncomputable def F_made_Tape_Addr (a0 : S_multihopmade_Tape) : Option (S_Addr × S_multihopmade_Tape) :=
  (F_made_Tape_Next a0 6).bind fun v1 =>
  bif (v1.1 == 4) then
    some (((S_Addr.mk 2 65535 0), v1.2))
  else
    bif (v1.1 == 5) then
      some (((S_Addr.mk 0 0 0), v1.2))
    else
      (F_made_Tape_Device v1.2).bind fun v4 =>
      some ((v4.1, v4.2))
set_option maxRecDepth 100000 in
set_option maxHeartbeats 40000000 in
theorem ok_made_Tape_Addr (a0 : S_multihopmade_Tape) (r : S_Addr × S_multihopmade_Tape) (h : F_made_Tape_Addr a0 = some r) : Con Try.prog 29 [.c (.box 1000000 0)] [(1000000, .box (S_multihopmade_Tape.cs a0))] (.agg (S_Addr.cs r.1)) [(1000000, .box (S_multihopmade_Tape.cs r.2))] := by
  unfold F_made_Tape_Addr at h
  refine con_of [] [(1000000, [2])] 13 Try.func29 rfl rfl (by kernel_rfl) (fun K => ?_)
  refine TS_go 8 ?_
  replace h := bindO h
  obtain ⟨v1, hv1, h⟩ := h
  refine TS_con [] [] (some (1000000, 0)) (ok_made_Tape_Next a0 6 v1 hv1) (by kernel_rfl) (by kernel_rfl) (by kernel_rfl) ?_
  refine TS_go 7 ?_
  replace h := condO h
  rcases h with ⟨hb2, h⟩ | ⟨hb2, h⟩
  · refine TS_know 6 (b := true) hb2 (by kernel_rfl) (by kernel_rfl) ?_
    refine TS_know 5 (b := true) hb2 (by kernel_rfl) (by kernel_rfl) ?_
    refine TS_T (by kernel_rfl) rfl ?_
    refine TS_go 8 ?_
    have ret := Option.some.inj h
    subst ret
    exact TS_ret (by kernel_rfl) (by kernel_rfl) (by kernel_rfl)
  · refine TS_know 6 (b := false) hb2 (by kernel_rfl) (by kernel_rfl) ?_
    refine TS_know 5 (b := false) hb2 (by kernel_rfl) (by kernel_rfl) ?_
    refine TS_F (by kernel_rfl) rfl ?_
    refine TS_go 5 ?_
    replace h := condO h
    rcases h with ⟨hb3, h⟩ | ⟨hb3, h⟩
    · refine TS_know 9 (b := true) hb3 (by kernel_rfl) (by kernel_rfl) ?_
      refine TS_know 8 (b := true) hb3 (by kernel_rfl) (by kernel_rfl) ?_
      refine TS_T (by kernel_rfl) rfl ?_
      refine TS_go 8 ?_
      have ret := Option.some.inj h
      subst ret
      exact TS_ret (by kernel_rfl) (by kernel_rfl) (by kernel_rfl)
    · refine TS_know 9 (b := false) hb3 (by kernel_rfl) (by kernel_rfl) ?_
      refine TS_know 8 (b := false) hb3 (by kernel_rfl) (by kernel_rfl) ?_
      refine TS_F (by kernel_rfl) rfl ?_
      refine TS_go 5 ?_
      replace h := bindO h
      obtain ⟨v4, hv4, h⟩ := h
      refine TS_con [] [] (some (1000000, 0)) (ok_made_Tape_Device v1.2 v4 hv4) (by kernel_rfl) (by kernel_rfl) (by kernel_rfl) ?_
      refine TS_go 3 ?_
      have ret := Option.some.inj h
      subst ret
      exact TS_ret (by kernel_rfl) (by kernel_rfl) (by kernel_rfl)

/-- multihop/multihopref05.Size -/
noncomputable def F_ref05_Size (a0 : S_Frame) : Option (Int) :=
  (F_ref05_Valid a0).bind fun v1 =>
  bif v1 then
    (F_ref05_header a0).bind fun v3 =>
    some (IntKind.wrap .i64 ((IntKind.wrap .i64 ((List.length v3 : Int) + (List.length a0.MIC : Int))) + 2))
  else
    some (0)
set_option maxRecDepth 100000 in
set_option maxHeartbeats 40000000 in
theorem ok_ref05_Size (a0 : S_Frame) (r : Int) (h : F_ref05_Size a0 = some r) : Con Try.prog 55 [.agg (S_Frame.cs a0)] [] (.c (.lit (.int .i64 (r)))) [] := by
  unfold F_ref05_Size at h
  refine con_of [] [] 14 Try.func55 rfl rfl (by kernel_rfl) (fun K => ?_)
  refine TS_go 9 ?_
  replace h := bindO h
  obtain ⟨v1, hv1, h⟩ := h
  refine TS_call [] (ok_ref05_Valid a0 v1 hv1) (by kernel_rfl) (by kernel_rfl) ?_
  refine TS_go 2 ?_
  replace h := condO h
  rcases h with ⟨hb2, h⟩ | ⟨hb2, h⟩
  · subst hb2
    refine TS_F (by kernel_rfl) rfl ?_
    refine TS_go 2 ?_
    refine TS_draw (by kernel_rfl) ?_
    refine TD_go 1 ?_
    replace h := bindO h
    obtain ⟨v3, hv3, h⟩ := h
    refine TD_conX (d := 7) (e := 900000) [] (okT_ref05_header a0 v3 hv3) (by kernel_rfl) (by kernel_rfl) ?_
    refine TD_go 7 ?_
    refine TD_end (by kernel_rfl) ?_
    refine TS_go 1 ?_
    have ret := Option.some.inj h
    subst ret
    exact TS_ret (by kernel_rfl) (by kernel_rfl) (by kernel_rfl)
  · subst hb2
    refine TS_T (by kernel_rfl) rfl ?_
    refine TS_go 6 ?_
    have ret := Option.some.inj h
    subst ret
    exact TS_ret (by kernel_rfl) (by kernel_rfl) (by kernel_rfl)

/-- multihop/multihopref05.Room -/
noncomputable def F_ref05_Room (a0 : S_Frame) : Option (Int) :=
  (F_ref05_Valid a0).bind fun v1 =>
  bif v1 then
    bif (a0.Kind == 2) then
      some (0)
    else
      (F_ref05_Size a0).bind fun v4 =>
      some (IntKind.wrap .i64 (127 - v4))
  else
    some (0)
set_option maxRecDepth 100000 in
set_option maxHeartbeats 40000000 in
theorem ok_ref05_Room (a0 : S_Frame) (r : Int) (h : F_ref05_Room a0 = some r) : Con Try.prog 32 [.agg (S_Frame.cs a0)] [] (.c (.lit (.int .i64 (r)))) [] := by
  unfold F_ref05_Room at h
  refine con_of [] [] 14 Try.func32 rfl rfl (by kernel_rfl) (fun K => ?_)
  refine TS_go 9 ?_
  replace h := bindO h
  obtain ⟨v1, hv1, h⟩ := h
  refine TS_call [] (ok_ref05_Valid a0 v1 hv1) (by kernel_rfl) (by kernel_rfl) ?_
  refine TS_go 2 ?_
  replace h := condO h
  rcases h with ⟨hb2, h⟩ | ⟨hb2, h⟩
  · subst hb2
    refine TS_go 5 ?_
    replace h := condO h
    rcases h with ⟨hb3, h⟩ | ⟨hb3, h⟩
    · refine TS_know 9 (b := true) hb3 (by kernel_rfl) (by kernel_rfl) ?_
      refine TS_know 10 (b := true) hb3 (by kernel_rfl) (by kernel_rfl) ?_
      refine TS_T (by kernel_rfl) rfl ?_
      refine TS_go 6 ?_
      have ret := Option.some.inj h
      subst ret
      exact TS_ret (by kernel_rfl) (by kernel_rfl) (by kernel_rfl)
    · refine TS_know 9 (b := false) hb3 (by kernel_rfl) (by kernel_rfl) ?_
      refine TS_know 10 (b := false) hb3 (by kernel_rfl) (by kernel_rfl) ?_
      refine TS_F (by kernel_rfl) rfl ?_
      refine TS_go 4 ?_
      replace h := bindO h
      obtain ⟨v4, hv4, h⟩ := h
      refine TS_call [] (ok_ref05_Size a0 v4 hv4) (by kernel_rfl) (by kernel_rfl) ?_
      refine TS_go 4 ?_
      have ret := Option.some.inj h
      subst ret
      exact TS_ret (by kernel_rfl) (by kernel_rfl) (by kernel_rfl)
  · subst hb2
    refine TS_go 5 ?_
    refine TS_T (by kernel_rfl) rfl ?_
    refine TS_go 6 ?_
    have ret := Option.some.inj h
    subst ret
    exact TS_ret (by kernel_rfl) (by kernel_rfl) (by kernel_rfl)

/-- (*multihop/multihopmade.Tape).Fill -/
noncomputable def F_made_Tape_Fill_l1 (a1 : Int) (v1 : Int × S_multihopmade_Tape) (v2 : Int × S_multihopmade_Tape) (v3 : Int × S_multihopmade_Tape) (s5 : Int × (List Int)) : Option ((Int × (List Int)) ⊕ ((List Int))) :=
  bif (decide (s5.1 < a1)) then
    bif decide ((0 : Int) ≤ (Int.tmod s5.1 5) ∧ (Int.tmod s5.1 5) < (5 : Int)) then
      (idx (Cut.app .whole s5.2) s5.1).bind fun _e10 =>
      (s5.2[(0 + Int.toNat s5.1)]?).bind fun _e11 =>
      some (Sum.inl (IntKind.wrap .i64 (s5.1 + 1), (List.set s5.2 (0 + Int.toNat s5.1) (IntKind.wrap .u8 ((List.getD [IntKind.wrap .u8 v1.1, IntKind.wrap .u8 v2.1, 0, IntKind.wrap .u8 v3.1, 7] (Int.toNat (Int.tmod s5.1 5)) 0) + (IntKind.wrap .u8 (iquo .i64 s5.1 5)))))))
    else none
  else
    some (Sum.inr s5.2)
noncomputable def F_made_Tape_Fill (a0 : S_multihopmade_Tape) (a1 : Int) : Option ((List Int) × S_multihopmade_Tape) :=
  (F_made_Tape_Next a0 256).bind fun v1 =>
  (F_made_Tape_Next v1.2 256).bind fun v2 =>
  (F_made_Tape_Next v2.2 256).bind fun v3 =>
  (mkO 1 a1 a1).bind fun n4 =>
  (loopO (F_made_Tape_Fill_l1 a1 v1 v2 v3) (0, (List.replicate n4 (0 : Int)))).bind fun b6 =>
  some ((b6, v3.2))
set_option maxRecDepth 100000 in
set_option maxHeartbeats 40000000 in
theorem okT_made_Tape_Fill (a0 : S_multihopmade_Tape) (a1 : Int) (r : (List Int) × S_multihopmade_Tape) (h : F_made_Tape_Fill a0 a1 = some r) : Con Try.prog 31 [.c (.box 1000000 0), .c (.lit (.int .i64 (a1)))] [(1000000, .box (S_multihopmade_Tape.cs a0))] (.c (.slc 1 900002 (List.length r.1) (List.map (ecI .u8) r.1))) [(1000000, .box (S_multihopmade_Tape.cs r.2)), (900000, .spare 5 1 (List.length r.1))] := by
  unfold F_made_Tape_Fill at h
  refine con_of [] [(1000000, [2]), (900000, [])] 37 Try.func31 rfl rfl (by kernel_rfl) (fun K => ?_)
  refine TS_go 7 ?_
  replace h := bindO h
  obtain ⟨v1, hv1, h⟩ := h
  refine TS_con [] [] (some (1000000, 0)) (ok_made_Tape_Next a0 256 v1 hv1) (by kernel_rfl) (by kernel_rfl) (by kernel_rfl) ?_
  refine TS_go 2 ?_
  replace h := bindO h
  obtain ⟨v2, hv2, h⟩ := h
  refine TS_con [] [] (some (1000000, 0)) (ok_made_Tape_Next v1.2 256 v2 hv2) (by kernel_rfl) (by kernel_rfl) (by kernel_rfl) ?_
  refine TS_go 2 ?_
  replace h := bindO h
  obtain ⟨v3, hv3, h⟩ := h
  refine TS_con [] [] (some (1000000, 0)) (ok_made_Tape_Next v2.2 256 v3 hv3) (by kernel_rfl) (by kernel_rfl) (by kernel_rfl) ?_
  refine TS_go 8 ?_
  replace h := bindO h
  obtain ⟨n4, hn4, h⟩ := h
  refine TS_makeR 19 5 1 (ecI .u8) (0 : Int) [] (cs := [.lit (.int .u8 (0))]) (l := a1) (c := a1) hn4 (by kernel_rfl) (by kernel_rfl) (by kernel_rfl) ?_
  refine TS_go 8 ?_
  refine TS_cut ⟨[(1, []), (5, []), (6, []), (7, [])], [(1000000, (1000000, [])), (5, (5, [])), (19, (19, []))]⟩ (.mk [.code (codeAt [1, 1, 1, 0, 1, 0] (bodyOf Try.f31)), .blk 0, .code (codeAt [1, 1, 1, 1] (bodyOf Try.f31))] .normal ⟨[(1, .c (.lit (.int .i64 (a1)))), (5, .c (.box 5 0)), (6, .c (.own 19)), (7, .c (.lit (.int .i64 (0))))], [(1000000, .box [.slc 1 0 (List.length v3.2.l) (List.map (ecI .i64) v3.2.l), .lit (.int .i64 (v3.2.at_))]), (5, .box [.lit (.int .u8 (IntKind.wrap .u8 v1.1)), .lit (.int .u8 (IntKind.wrap .u8 v2.1)), .lit (.int .u8 (0)), .lit (.int .u8 (IntKind.wrap .u8 v3.1)), .lit (.int .u8 (7))]), (19, .row 5 1 (List.length (List.replicate n4 (0 : Int))) (List.map (ecI .u8) (List.replicate n4 (0 : Int))))]⟩) (by kernel_rfl) (by kernel_rfl) ?_
  replace h := bindO h
  obtain ⟨y7, hl1, hK1⟩ := h
  refine TS_loopB (F_made_Tape_Fill_l1 a1 v1 v2 v3) ⟨[(1, []), (5, []), (6, []), (7, [])], [(1000000, (1000000, [])), (5, (5, [])), (19, (19, []))]⟩ (fun (s5 : Int × (List Int)) => [(7, .c (.lit (.int .i64 (s5.1))))]) (fun (s5 : Int × (List Int)) => [(19, .row 5 1 (List.length s5.2) (List.map (ecI .u8) s5.2))]) (0, (List.replicate n4 (0 : Int))) y7 (.exit 0) (fun (b : (List Int)) => b) ⟨[(6, [])], [(1000000, (1000000, [])), (19, (19, []))]⟩ (fun (b6 : (List Int)) => []) (fun (b6 : (List Int)) => [(19, .row 5 1 (List.length b6) (List.map (ecI .u8) b6))]) hl1 (by kernel_rfl) (by kernel_rfl) ?_ ?_
  · intro s5 x h hy1
    unfold F_made_Tape_Fill_l1 at h
    refine TS_go 7 ?_
    replace h := condO h
    rcases h with ⟨hb8, h⟩ | ⟨hb8, h⟩
    · refine TS_know 22 (b := true) hb8 (by kernel_rfl) (by kernel_rfl) ?_
      refine TS_T (by kernel_rfl) rfl ?_
      refine TS_go 8 ?_
      replace h := chkO h
      obtain ⟨hc9, h⟩ := h
      refine TS_idxA 5 0 5 (i := Int.tmod s5.1 5) hc9 (by kernel_rfl) (by kernel_rfl) ?_
      refine TS_ldA .u8 0 5 (i := Int.tmod s5.1 5) [IntKind.wrap .u8 v1.1, IntKind.wrap .u8 v2.1, 0, IntKind.wrap .u8 v3.1, 7] hc9 (by kernel_rfl) (by kernel_rfl) ?_
      refine TS_go 4 ?_
      replace h := bindO h
      obtain ⟨_e10, he10, h⟩ := h
      refine TS_idxR 19 1 0 (ecI .u8) .whole he10 (by kernel_rfl) (by kernel_rfl) ?_
      replace h := bindO h
      obtain ⟨_e11, he11, h⟩ := h
      refine TS_stE 19 5 1 (List.length s5.2) (0 + Int.toNat s5.1) 0 (ecI .u8) (ds := [.lit (.int .u8 (IntKind.wrap .u8 ((List.getD [IntKind.wrap .u8 v1.1, IntKind.wrap .u8 v2.1, 0, IntKind.wrap .u8 v3.1, 7] (Int.toNat (Int.tmod s5.1 5)) 0) + (IntKind.wrap .u8 (iquo .i64 s5.1 5)))))]) (IntKind.wrap .u8 ((List.getD [IntKind.wrap .u8 v1.1, IntKind.wrap .u8 v2.1, 0, IntKind.wrap .u8 v3.1, 7] (Int.toNat (Int.tmod s5.1 5)) 0) + (IntKind.wrap .u8 (iquo .i64 s5.1 5)))) he11 (by kernel_rfl) (by kernel_rfl) (by kernel_rfl) (by kernel_rfl) ?_
      refine TS_go 7 ?_
      have ret := Option.some.inj h
      subst ret
      exact TS_againB _ ⟨[(1, []), (5, []), (6, []), (7, [])], [(1000000, (1000000, [])), (5, (5, [])), (19, (19, []))]⟩ rfl (by kernel_rfl) (by kernel_rfl)
    · refine TS_know 22 (b := false) hb8 (by kernel_rfl) (by kernel_rfl) ?_
      refine TS_F (by kernel_rfl) rfl ?_
      refine TS_go 2 ?_
      have ret := Option.some.inj h
      subst ret
      exact TS_brkB s5.2 ⟨[(6, [])], [(1000000, (1000000, [])), (19, (19, []))]⟩ rfl (by kernel_rfl) (by kernel_rfl) (by kernel_rfl)
  · intro b6 hb
    subst y7
    have h := hK1
    refine TS_go 6 ?_
    refine TS_settle 19 (by kernel_rfl) ?_
    refine TS_fitU ⟨[(4, [])], [(19, (900000, [])), (1000000, (1000000, []))]⟩ (by kernel_rfl) ?_
    refine TS_go 1 ?_
    have ret := Option.some.inj h
    subst ret
    exact TS_ret (by kernel_rfl) (by kernel_rfl) (by kernel_rfl)
theorem ok_made_Tape_Fill (a0 : S_multihopmade_Tape) (a1 : Int) (r : (List Int) × S_multihopmade_Tape) (h : F_made_Tape_Fill a0 a1 = some r) : Con Try.prog 31 [.c (.box 1000000 0), .c (.lit (.int .i64 (a1)))] [(1000000, .box (S_multihopmade_Tape.cs a0))] (.c (eS 1 (ecI .u8) (r.1))) [(1000000, .box (S_multihopmade_Tape.cs r.2))] :=
  con_drop [[2]] [(1000000, [])] (okT_made_Tape_Fill a0 a1 r h) (by kernel_rfl) (by kernel_rfl) (by kernel_rfl)

/-- (*multihop/multihopmade.Tape).Spoiled -/
noncomputable def F_made_Tape_Spoiled_j1  (v1 : S_multihopmade_Tape × S_Frame) : Option (S_Frame × S_multihopmade_Tape) :=
  some ((v1.2, v1.1))
noncomputable def F_made_Tape_Spoiled (a0 : S_multihopmade_Tape) (a1 : S_Frame) : Option (S_Frame × S_multihopmade_Tape) :=
  (F_made_Tape_Next a0 8).bind fun v2 =>
  bif (v2.1 == 0) then
    (F_made_Tape_Next v2.2 6).bind fun v4 =>
    (F_made_Tape_Spoiled_j1) (v4.2, (S_Frame.mk (IntKind.wrap .i64 (v4.1 - 1)) a1.AckRequest a1.Pending a1.Secure a1.Seq a1.Pan a1.Dst a1.Src a1.Counter a1.Key a1.Payload a1.MIC))
  else
    bif (v2.1 == 1) then
      (F_made_Tape_Next v2.2 5).bind fun v6 =>
      (F_made_Tape_Next v6.2 2).bind fun v7 =>
      (F_made_Tape_Next v7.2 2).bind fun v8 =>
      (F_made_Tape_Spoiled_j1) (v8.2, (S_Frame.mk a1.Kind a1.AckRequest a1.Pending a1.Secure a1.Seq a1.Pan (S_Addr.mk v6.1 (IntKind.wrap .u16 v7.1) (IntKind.wrap .u64 v8.1)) a1.Src a1.Counter a1.Key a1.Payload a1.MIC))
    else
      bif (v2.1 == 2) then
        (F_made_Tape_Addr v2.2).bind fun v10 =>
        (F_made_Tape_Spoiled_j1) (v10.2, (S_Frame.mk a1.Kind a1.AckRequest a1.Pending a1.Secure a1.Seq a1.Pan a1.Dst v10.1 a1.Counter a1.Key a1.Payload a1.MIC))
      else
        bif (v2.1 == 3) then
          (F_made_Tape_Spoiled_j1) (v2.2, (S_Frame.mk a1.Kind a1.AckRequest a1.Pending (!a1.Secure) a1.Seq a1.Pan a1.Dst a1.Src a1.Counter a1.Key a1.Payload a1.MIC))
        else
          bif (v2.1 == 4) then
            (F_made_Tape_Bytes v2.2 6).bind fun v13 =>
            (F_made_Tape_Spoiled_j1) (v13.2, (S_Frame.mk a1.Kind a1.AckRequest a1.Pending a1.Secure a1.Seq a1.Pan a1.Dst a1.Src a1.Counter a1.Key a1.Payload v13.1))
          else
            bif (v2.1 == 5) then
              (F_ref05_Room a1).bind fun v15 =>
              (F_made_Tape_Fill v2.2 (IntKind.wrap .i64 ((IntKind.wrap .i64 (v15 + (List.length a1.Payload : Int))) + 1))).bind fun v16 =>
              (F_made_Tape_Spoiled_j1) (v16.2, (S_Frame.mk a1.Kind a1.AckRequest a1.Pending a1.Secure a1.Seq a1.Pan a1.Dst a1.Src a1.Counter a1.Key v16.1 a1.MIC))
            else
              bif (v2.1 == 6) then
                (F_made_Tape_Spoiled_j1) (v2.2, (S_Frame.mk a1.Kind a1.AckRequest a1.Pending a1.Secure a1.Seq a1.Pan a1.Dst a1.Src (IntKind.wrap .u32 (a1.Counter + 1)) a1.Key a1.Payload a1.MIC))
              else
                (F_made_Tape_Spoiled_j1) (v2.2, (S_Frame.mk a1.Kind (!a1.AckRequest) a1.Pending a1.Secure a1.Seq a1.Pan a1.Dst a1.Src a1.Counter a1.Key a1.Payload a1.MIC))
set_option maxRecDepth 100000 in
set_option maxHeartbeats 40000000 in
theorem ok_made_Tape_Spoiled (a0 : S_multihopmade_Tape) (a1 : S_Frame) (r : S_Frame × S_multihopmade_Tape) (h : F_made_Tape_Spoiled a0 a1 = some r) : Con Try.prog 12 [.c (.box 1000000 0), .agg (S_Frame.cs a1)] [(1000000, .box (S_multihopmade_Tape.cs a0))] (.agg (S_Frame.cs r.1)) [(1000000, .box (S_multihopmade_Tape.cs r.2))] := by
  unfold F_made_Tape_Spoiled at h
  refine con_of [[0, 0, 0, 0, 0, 0, 0, 0, 0, 0, 0, 0, 0, 0, 2, 2]] [(1000000, [2])] 64 Try.func12 rfl rfl (by kernel_rfl) (fun K => ?_)
  refine TS_go 5 ?_
  refine TS_cut ⟨[(0, []), (3, []), (4, [])], [(1000000, (1000000, [])), (3, (3, [])), (4, (4, []))]⟩ (.mk [.code (codeAt [1] (bodyOf Try.f12))] .normal ⟨[(0, .c (.box 1000000 0)), (3, .c (.box 3 0)), (4, .c (.box 4 0))], [(1000000, .box [.slc 1 0 (List.length a0.l) (List.map (ecI .i64) a0.l), .lit (.int .i64 (a0.at_))]), (3, .box [.lit (.int .i64 (a1.Kind)), .lit (.bool (a1.AckRequest)), .lit (.bool (a1.Pending)), .lit (.bool (a1.Secure)), .lit (.int .u8 (a1.Seq)), .lit (.int .u16 (a1.Pan)), .lit (.int .i64 (a1.Dst.Mode)), .lit (.int .u16 (a1.Dst.Short)), .lit (.int .u64 (a1.Dst.EUI)), .lit (.int .i64 (a1.Src.Mode)), .lit (.int .u16 (a1.Src.Short)), .lit (.int .u64 (a1.Src.EUI)), .lit (.int .u32 (a1.Counter)), .lit (.int .u8 (a1.Key)), .slc 1 0 (List.length a1.Payload) (List.map (ecI .u8) a1.Payload), .slc 1 0 (List.length a1.MIC) (List.map (ecI .u8) a1.MIC)]), (4, .box [.lit (.int .i64 (0)), .lit (.bool (false)), .lit (.bool (false)), .lit (.bool (false)), .lit (.int .u8 (0)), .lit (.int .u16 (0)), .lit (.int .i64 (0)), .lit (.int .u16 (0)), .lit (.int .u64 (0)), .lit (.int .i64 (0)), .lit (.int .u16 (0)), .lit (.int .u64 (0)), .lit (.int .u32 (0)), .lit (.int .u8 (0)), .lit (.slice none 0 0), .lit (.slice none 0 0)])]⟩) (by kernel_rfl) (by kernel_rfl) ?_
  refine TS_joinB ⟨[(3, []), (4, [])], [(1000000, (1000000, [])), (3, (3, [])), (4, (4, []))]⟩ (fun (v1 : S_multihopmade_Tape × S_Frame) => []) (fun (v1 : S_multihopmade_Tape × S_Frame) => [(1000000, .box (S_multihopmade_Tape.cs v1.1)), (3, .box (S_Frame.cs v1.2))]) (F_made_Tape_Spoiled_j1) r ?_ ?_
  · clear h
    intro v1 h
    unfold F_made_Tape_Spoiled_j1 at h
    refine TS_go 6 ?_
    have ret := Option.some.inj h
    subst ret
    exact TS_ret (by kernel_rfl) (by kernel_rfl) (by kernel_rfl)
  · refine TS_go 3 ?_
    replace h := bindO h
    obtain ⟨v2, hv2, h⟩ := h
    refine TS_con [] [] (some (1000000, 0)) (ok_made_Tape_Next a0 8 v2 hv2) (by kernel_rfl) (by kernel_rfl) (by kernel_rfl) ?_
    refine TS_go 7 ?_
    replace h := condO h
    rcases h with ⟨hb3, h⟩ | ⟨hb3, h⟩
    · refine TS_know 12 (b := true) hb3 (by kernel_rfl) (by kernel_rfl) ?_
      refine TS_know 11 (b := true) hb3 (by kernel_rfl) (by kernel_rfl) ?_
      refine TS_T (by kernel_rfl) rfl ?_
      refine TS_go 2 ?_
      replace h := bindO h
      obtain ⟨v4, hv4, h⟩ := h
      refine TS_con [] [] (some (1000000, 0)) (ok_made_Tape_Next v2.2 6 v4 hv4) (by kernel_rfl) (by kernel_rfl) (by kernel_rfl) ?_
      refine TS_go 5 ?_
      exact TS_meet (v4.2, (S_Frame.mk (IntKind.wrap .i64 (v4.1 - 1)) a1.AckRequest a1.Pending a1.Secure a1.Seq a1.Pan a1.Dst a1.Src a1.Counter a1.Key a1.Payload a1.MIC)) ⟨[(3, []), (4, [])], [(1000000, (1000000, [])), (3, (3, [])), (4, (4, []))]⟩ h (by kernel_rfl) (by kernel_rfl)
    · refine TS_know 12 (b := false) hb3 (by kernel_rfl) (by kernel_rfl) ?_
      refine TS_know 11 (b := false) hb3 (by kernel_rfl) (by kernel_rfl) ?_
      refine TS_F (by kernel_rfl) rfl ?_
      refine TS_go 5 ?_
      replace h := condO h
      rcases h with ⟨hb5, h⟩ | ⟨hb5, h⟩
      · refine TS_know 18 (b := true) hb5 (by kernel_rfl) (by kernel_rfl) ?_
        refine TS_know 17 (b := true) hb5 (by kernel_rfl) (by kernel_rfl) ?_
        refine TS_T (by kernel_rfl) rfl ?_
        refine TS_go 2 ?_
        replace h := bindO h
        obtain ⟨v6, hv6, h⟩ := h
        refine TS_con [] [] (some (1000000, 0)) (ok_made_Tape_Next v2.2 5 v6 hv6) (by kernel_rfl) (by kernel_rfl) (by kernel_rfl) ?_
        refine TS_go 1 ?_
        replace h := bindO h
        obtain ⟨v7, hv7, h⟩ := h
        refine TS_con [] [] (some (1000000, 0)) (ok_made_Tape_Next v6.2 2 v7 hv7) (by kernel_rfl) (by kernel_rfl) (by kernel_rfl) ?_
        refine TS_go 2 ?_
        replace h := bindO h
        obtain ⟨v8, hv8, h⟩ := h
        refine TS_con [] [] (some (1000000, 0)) (ok_made_Tape_Next v7.2 2 v8 hv8) (by kernel_rfl) (by kernel_rfl) (by kernel_rfl) ?_
        refine TS_go 6 ?_
        exact TS_meet (v8.2, (S_Frame.mk a1.Kind a1.AckRequest a1.Pending a1.Secure a1.Seq a1.Pan (S_Addr.mk v6.1 (IntKind.wrap .u16 v7.1) (IntKind.wrap .u64 v8.1)) a1.Src a1.Counter a1.Key a1.Payload a1.MIC)) ⟨[(3, []), (4, [])], [(1000000, (1000000, [])), (3, (3, [])), (4, (4, []))]⟩ h (by kernel_rfl) (by kernel_rfl)
      · refine TS_know 18 (b := false) hb5 (by kernel_rfl) (by kernel_rfl) ?_
        refine TS_know 17 (b := false) hb5 (by kernel_rfl) (by kernel_rfl) ?_
        refine TS_F (by kernel_rfl) rfl ?_
        refine TS_go 5 ?_
        replace h := condO h
        rcases h with ⟨hb9, h⟩ | ⟨hb9, h⟩
        · refine TS_know 30 (b := true) hb9 (by kernel_rfl) (by kernel_rfl) ?_
          refine TS_know 29 (b := true) hb9 (by kernel_rfl) (by kernel_rfl) ?_
          refine TS_T (by kernel_rfl) rfl ?_
          refine TS_go 2 ?_
          replace h := bindO h
          obtain ⟨v10, hv10, h⟩ := h
          refine TS_con [] [] (some (1000000, 0)) (ok_made_Tape_Addr v2.2 v10 hv10) (by kernel_rfl) (by kernel_rfl) (by kernel_rfl) ?_
          refine TS_go 4 ?_
          exact TS_meet (v10.2, (S_Frame.mk a1.Kind a1.AckRequest a1.Pending a1.Secure a1.Seq a1.Pan a1.Dst v10.1 a1.Counter a1.Key a1.Payload a1.MIC)) ⟨[(3, []), (4, [])], [(1000000, (1000000, [])), (3, (3, [])), (4, (4, []))]⟩ h (by kernel_rfl) (by kernel_rfl)
        · refine TS_know 30 (b := false) hb9 (by kernel_rfl) (by kernel_rfl) ?_
          refine TS_know 29 (b := false) hb9 (by kernel_rfl) (by kernel_rfl) ?_
          refine TS_F (by kernel_rfl) rfl ?_
          refine TS_go 5 ?_
          replace h := condO h
          rcases h with ⟨hb11, h⟩ | ⟨hb11, h⟩
          · refine TS_know 35 (b := true) hb11 (by kernel_rfl) (by kernel_rfl) ?_
            refine TS_know 34 (b := true) hb11 (by kernel_rfl) (by kernel_rfl) ?_
            refine TS_T (by kernel_rfl) rfl ?_
            refine TS_go 8 ?_
            exact TS_meet (v2.2, (S_Frame.mk a1.Kind a1.AckRequest a1.Pending (!a1.Secure) a1.Seq a1.Pan a1.Dst a1.Src a1.Counter a1.Key a1.Payload a1.MIC)) ⟨[(3, []), (4, [])], [(1000000, (1000000, [])), (3, (3, [])), (4, (4, []))]⟩ h (by kernel_rfl) (by kernel_rfl)
          · refine TS_know 35 (b := false) hb11 (by kernel_rfl) (by kernel_rfl) ?_
            refine TS_know 34 (b := false) hb11 (by kernel_rfl) (by kernel_rfl) ?_
            refine TS_F (by kernel_rfl) rfl ?_
            refine TS_go 5 ?_
            replace h := condO h
            rcases h with ⟨hb12, h⟩ | ⟨hb12, h⟩
            · refine TS_know 41 (b := true) hb12 (by kernel_rfl) (by kernel_rfl) ?_
              refine TS_know 40 (b := true) hb12 (by kernel_rfl) (by kernel_rfl) ?_
              refine TS_T (by kernel_rfl) rfl ?_
              refine TS_go 2 ?_
              replace h := bindO h
              obtain ⟨v13, hv13, h⟩ := h
              refine TS_con [] [(43, 900000)] (some (1000000, 0)) (okT_made_Tape_Bytes v2.2 6 v13 hv13) (by kernel_rfl) (by kernel_rfl) (by kernel_rfl) ?_
              refine TS_go 4 ?_
              exact TS_meet (v13.2, (S_Frame.mk a1.Kind a1.AckRequest a1.Pending a1.Secure a1.Seq a1.Pan a1.Dst a1.Src a1.Counter a1.Key a1.Payload v13.1)) ⟨[(3, []), (4, [])], [(1000000, (1000000, [])), (3, (3, [0, 0, 0, 0, 0, 0, 0, 0, 0, 0, 0, 0, 0, 0, 0, 2])), (4, (4, []))]⟩ h (by kernel_rfl) (by kernel_rfl)
            · refine TS_know 41 (b := false) hb12 (by kernel_rfl) (by kernel_rfl) ?_
              refine TS_know 40 (b := false) hb12 (by kernel_rfl) (by kernel_rfl) ?_
              refine TS_F (by kernel_rfl) rfl ?_
              refine TS_go 5 ?_
              replace h := condO h
              rcases h with ⟨hb14, h⟩ | ⟨hb14, h⟩
              · refine TS_know 46 (b := true) hb14 (by kernel_rfl) (by kernel_rfl) ?_
                refine TS_know 45 (b := true) hb14 (by kernel_rfl) (by kernel_rfl) ?_
                refine TS_T (by kernel_rfl) rfl ?_
                refine TS_draw (by kernel_rfl) ?_
                refine TD_go 2 ?_
                replace h := bindO h
                obtain ⟨v15, hv15, h⟩ := h
                refine TD_call [] (ok_ref05_Room a1 v15 hv15) (by kernel_rfl) (by kernel_rfl) ?_
                refine TD_go 5 ?_
                replace h := bindO h
                obtain ⟨v16, hv16, h⟩ := h
                refine TD_con (_h := []) (_h' := []) [] 1000000 0 [.slc 1 0 (List.length v2.2.l) (List.map (ecI .i64) v2.2.l), .lit (.int .i64 (v2.2.at_))] _ _ (ok_made_Tape_Fill v2.2 (IntKind.wrap .i64 ((IntKind.wrap .i64 (v15 + (List.length a1.Payload : Int))) + 1)) v16 hv16) (by kernel_rfl) (by kernel_rfl) (by kernel_rfl) (by kernel_rfl) ?_
                refine TD_go 2 ?_
                refine TD_end (by kernel_rfl) ?_
                refine TS_go 1 ?_
                exact TS_meet (v16.2, (S_Frame.mk a1.Kind a1.AckRequest a1.Pending a1.Secure a1.Seq a1.Pan a1.Dst a1.Src a1.Counter a1.Key v16.1 a1.MIC)) ⟨[(3, []), (4, [])], [(1000000, (1000000, [])), (3, (3, [])), (4, (4, []))]⟩ h (by kernel_rfl) (by kernel_rfl)
              · refine TS_know 46 (b := false) hb14 (by kernel_rfl) (by kernel_rfl) ?_
                refine TS_know 45 (b := false) hb14 (by kernel_rfl) (by kernel_rfl) ?_
                refine TS_F (by kernel_rfl) rfl ?_
                refine TS_go 5 ?_
                replace h := condO h
                rcases h with ⟨hb17, h⟩ | ⟨hb17, h⟩
                · refine TS_know 58 (b := true) hb17 (by kernel_rfl) (by kernel_rfl) ?_
                  refine TS_know 57 (b := true) hb17 (by kernel_rfl) (by kernel_rfl) ?_
                  refine TS_T (by kernel_rfl) rfl ?_
                  refine TS_go 8 ?_
                  exact TS_meet (v2.2, (S_Frame.mk a1.Kind a1.AckRequest a1.Pending a1.Secure a1.Seq a1.Pan a1.Dst a1.Src (IntKind.wrap .u32 (a1.Counter + 1)) a1.Key a1.Payload a1.MIC)) ⟨[(3, []), (4, [])], [(1000000, (1000000, [])), (3, (3, [])), (4, (4, []))]⟩ h (by kernel_rfl) (by kernel_rfl)
                · refine TS_know 58 (b := false) hb17 (by kernel_rfl) (by kernel_rfl) ?_
                  refine TS_know 57 (b := false) hb17 (by kernel_rfl) (by kernel_rfl) ?_
                  refine TS_F (by kernel_rfl) rfl ?_
                  refine TS_go 8 ?_
                  exact TS_meet (v2.2, (S_Frame.mk a1.Kind (!a1.AckRequest) a1.Pending a1.Secure a1.Seq a1.Pan a1.Dst a1.Src a1.Counter a1.Key a1.Payload a1.MIC)) ⟨[(3, []), (4, [])], [(1000000, (1000000, [])), (3, (3, [])), (4, (4, []))]⟩ h (by kernel_rfl) (by kernel_rfl)

/-- (*multihop/multihopmade.Tape).Word -/
noncomputable def F_made_Tape_Word (a0 : S_multihopmade_Tape) : Option (Int × S_multihopmade_Tape) :=
  (F_made_Tape_Next a0 65536).bind fun v1 =>
  (F_made_Tape_Next v1.2 5).bind fun v2 =>
  bif (v2.1 == 0) then
    some ((IntKind.wrap .u64 v1.1, v2.2))
  else
    bif (v2.1 == 1) then
      some ((IntKind.wrap .u64 ((ishl .u64 (IntKind.wrap .u64 v1.1) 48) + (IntKind.wrap .u64 v1.1)), v2.2))
    else
      bif (v2.1 == 2) then
        some ((IntKind.wrap .u64 (9223372036854775808 + (IntKind.wrap .u64 v1.1)), v2.2))
      else
        bif (v2.1 == 3) then
          some ((IntKind.wrap .u64 (18446744073709551615 - (Int.tmod (IntKind.wrap .u64 v1.1) 4)), v2.2))
        else
          some ((Int.tmod (IntKind.wrap .u64 v1.1) 4, v2.2))
set_option maxRecDepth 100000 in
set_option maxHeartbeats 40000000 in
theorem ok_made_Tape_Word (a0 : S_multihopmade_Tape) (r : Int × S_multihopmade_Tape) (h : F_made_Tape_Word a0 = some r) : Con Try.prog 35 [.c (.box 1000000 0)] [(1000000, .box (S_multihopmade_Tape.cs a0))] (.c (.lit (.int .u64 (r.1)))) [(1000000, .box (S_multihopmade_Tape.cs r.2))] := by
  unfold F_made_Tape_Word at h
  refine con_of [] [(1000000, [2])] 29 Try.func35 rfl rfl (by kernel_rfl) (fun K => ?_)
  refine TS_go 7 ?_
  replace h := bindO h
  obtain ⟨v1, hv1, h⟩ := h
  refine TS_con [] [] (some (1000000, 0)) (ok_made_Tape_Next a0 65536 v1 hv1) (by kernel_rfl) (by kernel_rfl) (by kernel_rfl) ?_
  refine TS_go 7 ?_
  replace h := bindO h
  obtain ⟨v2, hv2, h⟩ := h
  refine TS_con [] [] (some (1000000, 0)) (ok_made_Tape_Next v1.2 5 v2 hv2) (by kernel_rfl) (by kernel_rfl) (by kernel_rfl) ?_
  refine TS_go 7 ?_
  replace h := condO h
  rcases h with ⟨hb3, h⟩ | ⟨hb3, h⟩
  · refine TS_know 10 (b := true) hb3 (by kernel_rfl) (by kernel_rfl) ?_
    refine TS_know 9 (b := true) hb3 (by kernel_rfl) (by kernel_rfl) ?_
    refine TS_T (by kernel_rfl) rfl ?_
    refine TS_go 8 ?_
    have ret := Option.some.inj h
    subst ret
    exact TS_ret (by kernel_rfl) (by kernel_rfl) (by kernel_rfl)
  · refine TS_know 10 (b := false) hb3 (by kernel_rfl) (by kernel_rfl) ?_
    refine TS_know 9 (b := false) hb3 (by kernel_rfl) (by kernel_rfl) ?_
    refine TS_F (by kernel_rfl) rfl ?_
    refine TS_go 5 ?_
    replace h := condO h
    rcases h with ⟨hb4, h⟩ | ⟨hb4, h⟩
    · refine TS_know 13 (b := true) hb4 (by kernel_rfl) (by kernel_rfl) ?_
      refine TS_know 12 (b := true) hb4 (by kernel_rfl) (by kernel_rfl) ?_
      refine TS_T (by kernel_rfl) rfl ?_
      refine TS_go 11 ?_
      have ret := Option.some.inj h
      subst ret
      exact TS_ret (by kernel_rfl) (by kernel_rfl) (by kernel_rfl)
    · refine TS_know 13 (b := false) hb4 (by kernel_rfl) (by kernel_rfl) ?_
      refine TS_know 12 (b := false) hb4 (by kernel_rfl) (by kernel_rfl) ?_
      refine TS_F (by kernel_rfl) rfl ?_
      refine TS_go 5 ?_
      replace h := condO h
      rcases h with ⟨hb5, h⟩ | ⟨hb5, h⟩
      · refine TS_know 19 (b := true) hb5 (by kernel_rfl) (by kernel_rfl) ?_
        refine TS_know 18 (b := true) hb5 (by kernel_rfl) (by kernel_rfl) ?_
        refine TS_T (by kernel_rfl) rfl ?_
        refine TS_go 9 ?_
        have ret := Option.some.inj h
        subst ret
        exact TS_ret (by kernel_rfl) (by kernel_rfl) (by kernel_rfl)
      · refine TS_know 19 (b := false) hb5 (by kernel_rfl) (by kernel_rfl) ?_
        refine TS_know 18 (b := false) hb5 (by kernel_rfl) (by kernel_rfl) ?_
        refine TS_F (by kernel_rfl) rfl ?_
        refine TS_go 5 ?_
        replace h := condO h
        rcases h with ⟨hb6, h⟩ | ⟨hb6, h⟩
        · refine TS_know 23 (b := true) hb6 (by kernel_rfl) (by kernel_rfl) ?_
          refine TS_know 22 (b := true) hb6 (by kernel_rfl) (by kernel_rfl) ?_
          refine TS_T (by kernel_rfl) rfl ?_
          refine TS_go 10 ?_
          have ret := Option.some.inj h
          subst ret
          exact TS_ret (by kernel_rfl) (by kernel_rfl) (by kernel_rfl)
        · refine TS_know 23 (b := false) hb6 (by kernel_rfl) (by kernel_rfl) ?_
          refine TS_know 22 (b := false) hb6 (by kernel_rfl) (by kernel_rfl) ?_
          refine TS_F (by kernel_rfl) rfl ?_
          refine TS_go 9 ?_
          have ret := Option.some.inj h
          subst ret
          exact TS_ret (by kernel_rfl) (by kernel_rfl) (by kernel_rfl)

/-- (*multihop/multihopmade.Tape).AnyFrame -/
noncomputable def F_made_Tape_AnyFrame_j1  (v2 : S_multihopmade_Tape × S_Frame) : Option (S_Frame × S_multihopmade_Tape) :=
  some ((v2.2, v2.1))
noncomputable def F_made_Tape_AnyFrame (a0 : S_multihopmade_Tape) : Option (S_Frame × S_multihopmade_Tape) :=
  (F_made_Tape_Frame a0 20).bind fun v1 =>
  (F_made_Tape_Next v1.2 4).bind fun v3 =>
  bif (v3.1 == 0) then
    (F_made_Tape_Bool v3.2 2).bind fun v5 =>
    some (((S_Frame.mk 2 false v5.1 false v1.1.Seq 0 (S_Addr.mk 0 0 0) (S_Addr.mk 0 0 0) 0 0 ([] : List Int) ([] : List Int)), v5.2))
  else
    bif (v3.1 == 1) then
      (F_made_Tape_Word v3.2).bind fun v7 =>
      (F_made_Tape_Next v7.2 3).bind fun v8 =>
      (F_made_Tape_Fill v8.2 4).bind fun v9 =>
      (F_made_Tape_AnyFrame_j1) (v9.2, (S_Frame.mk v1.1.Kind v1.1.AckRequest v1.1.Pending true v1.1.Seq v1.1.Pan v1.1.Dst v1.1.Src (IntKind.wrap .u32 v7.1) (IntKind.wrap .u8 v8.1) v1.1.Payload v9.1))
    else
      bif (v3.1 == 2) then
        (F_ref05_Room v1.1).bind fun v11 =>
        (F_made_Tape_Next v3.2 3).bind fun v12 =>
        (F_ref05_Room v1.1).bind fun v13 =>
        bif decide ((IntKind.wrap .i64 (1 + v13)) ≠ 0) then
          (F_made_Tape_Fill v12.2 (IntKind.wrap .i64 ((IntKind.wrap .i64 (v11 + (List.length v1.1.Payload : Int))) - (Int.tmod v12.1 (IntKind.wrap .i64 (1 + v13)))))).bind fun v15 =>
          (F_made_Tape_AnyFrame_j1) (v15.2, (S_Frame.mk v1.1.Kind v1.1.AckRequest v1.1.Pending v1.1.Secure v1.1.Seq v1.1.Pan v1.1.Dst v1.1.Src v1.1.Counter v1.1.Key v15.1 v1.1.MIC))
        else none
      else
        (F_made_Tape_AnyFrame_j1) (v3.2, v1.1)
set_option maxRecDepth 100000 in
set_option maxHeartbeats 40000000 in
theorem ok_made_Tape_AnyFrame (a0 : S_multihopmade_Tape) (r : S_Frame × S_multihopmade_Tape) (h : F_made_Tape_AnyFrame a0 = some r) : Con Try.prog 14 [.c (.box 1000000 0)] [(1000000, .box (S_multihopmade_Tape.cs a0))] (.agg (S_Frame.cs r.1)) [(1000000, .box (S_multihopmade_Tape.cs r.2))] := by
  unfold F_made_Tape_AnyFrame at h
  refine con_of [[0, 0, 0, 0, 0, 0, 0, 0, 0, 0, 0, 0, 0, 0, 2, 2]] [(1000000, [2])] 48 Try.func14 rfl rfl (by kernel_rfl) (fun K => ?_)
  refine TS_go 7 ?_
  replace h := bindO h
  obtain ⟨v1, hv1, h⟩ := h
  refine TS_con [] [(5, 900014)] (some (1000000, 0)) (okT_made_Tape_Frame a0 20 v1 hv1) (by kernel_rfl) (by kernel_rfl) (by kernel_rfl) ?_
  refine TS_go 3 ?_
  refine TS_cut ⟨[(0, []), (2, []), (3, [])], [(1000000, (1000000, [])), (2, (2, [])), (5, (5, [])), (3, (3, []))]⟩ (.mk [.code (codeAt [1, 1] (bodyOf Try.f14))] .normal ⟨[(0, .c (.box 1000000 0)), (2, .c (.box 2 0)), (3, .c (.box 3 0))], [(1000000, .box [.slc 1 0 (List.length v1.2.l) (List.map (ecI .i64) v1.2.l), .lit (.int .i64 (v1.2.at_))]), (2, .box [.lit (.int .i64 (0)), .lit (.bool (false)), .lit (.bool (false)), .lit (.bool (false)), .lit (.int .u8 (0)), .lit (.int .u16 (0)), .lit (.int .i64 (0)), .lit (.int .u16 (0)), .lit (.int .u64 (0)), .lit (.int .i64 (0)), .lit (.int .u16 (0)), .lit (.int .u64 (0)), .lit (.int .u32 (0)), .lit (.int .u8 (0)), .lit (.slice none 0 0), .lit (.slice none 0 0)]), (5, .spare 5 1 (List.length v1.1.Payload)), (3, .box [.lit (.int .i64 (v1.1.Kind)), .lit (.bool (v1.1.AckRequest)), .lit (.bool (v1.1.Pending)), .lit (.bool (v1.1.Secure)), .lit (.int .u8 (v1.1.Seq)), .lit (.int .u16 (v1.1.Pan)), .lit (.int .i64 (v1.1.Dst.Mode)), .lit (.int .u16 (v1.1.Dst.Short)), .lit (.int .u64 (v1.1.Dst.EUI)), .lit (.int .i64 (v1.1.Src.Mode)), .lit (.int .u16 (v1.1.Src.Short)), .lit (.int .u64 (v1.1.Src.EUI)), .lit (.int .u32 (v1.1.Counter)), .lit (.int .u8 (v1.1.Key)), .slc 1 7 (List.length v1.1.Payload) (List.map (ecI .u8) v1.1.Payload), .slc 1 0 (List.length v1.1.MIC) (List.map (ecI .u8) v1.1.MIC)])]⟩) (by kernel_rfl) (by kernel_rfl) ?_
  refine TS_joinB ⟨[(2, []), (3, [])], [(1000000, (1000000, [])), (2, (2, [])), (3, (3, [0, 0, 0, 0, 0, 0, 0, 0, 0, 0, 0, 0, 0, 0, 2]))]⟩ (fun (v2 : S_multihopmade_Tape × S_Frame) => []) (fun (v2 : S_multihopmade_Tape × S_Frame) => [(1000000, .box (S_multihopmade_Tape.cs v2.1)), (3, .box (S_Frame.cs v2.2))]) (F_made_Tape_AnyFrame_j1) r ?_ ?_
  · clear h
    intro v2 h
    unfold F_made_Tape_AnyFrame_j1 at h
    refine TS_go 6 ?_
    have ret := Option.some.inj h
    subst ret
    exact TS_ret (by kernel_rfl) (by kernel_rfl) (by kernel_rfl)
  · refine TS_go 3 ?_
    replace h := bindO h
    obtain ⟨v3, hv3, h⟩ := h
    refine TS_con [] [] (some (1000000, 0)) (ok_made_Tape_Next v1.2 4 v3 hv3) (by kernel_rfl) (by kernel_rfl) (by kernel_rfl) ?_
    refine TS_go 7 ?_
    replace h := condO h
    rcases h with ⟨hb4, h⟩ | ⟨hb4, h⟩
    · refine TS_know 9 (b := true) hb4 (by kernel_rfl) (by kernel_rfl) ?_
      refine TS_know 8 (b := true) hb4 (by kernel_rfl) (by kernel_rfl) ?_
      refine TS_T (by kernel_rfl) rfl ?_
      refine TS_go 1 ?_
      refine TS_draw (by kernel_rfl) ?_
      refine TD_go 1 ?_
      replace h := bindO h
      obtain ⟨v5, hv5, h⟩ := h
      refine TD_con (_h := []) (_h' := []) [] 1000000 0 [.slc 1 0 (List.length v3.2.l) (List.map (ecI .i64) v3.2.l), .lit (.int .i64 (v3.2.at_))] _ _ (ok_made_Tape_Bool v3.2 2 v5 hv5) (by kernel_rfl) (by kernel_rfl) (by kernel_rfl) (by kernel_rfl) ?_
      refine TD_go 4 ?_
      refine TD_end (by kernel_rfl) ?_
      refine TS_go 2 ?_
      refine TS_outJ (by kernel_rfl) ?_
      have ret := Option.some.inj h
      subst ret
      exact TS_ret (by kernel_rfl) (by kernel_rfl) (by kernel_rfl)
    · refine TS_know 9 (b := false) hb4 (by kernel_rfl) (by kernel_rfl) ?_
      refine TS_know 8 (b := false) hb4 (by kernel_rfl) (by kernel_rfl) ?_
      refine TS_F (by kernel_rfl) rfl ?_
      refine TS_go 5 ?_
      replace h := condO h
      rcases h with ⟨hb6, h⟩ | ⟨hb6, h⟩
      · refine TS_know 16 (b := true) hb6 (by kernel_rfl) (by kernel_rfl) ?_
        refine TS_know 15 (b := true) hb6 (by kernel_rfl) (by kernel_rfl) ?_
        refine TS_T (by kernel_rfl) rfl ?_
        refine TS_go 2 ?_
        replace h := bindO h
        obtain ⟨v7, hv7, h⟩ := h
        refine TS_con [] [] (some (1000000, 0)) (ok_made_Tape_Word v3.2 v7 hv7) (by kernel_rfl) (by kernel_rfl) (by kernel_rfl) ?_
        refine TS_go 2 ?_
        replace h := bindO h
        obtain ⟨v8, hv8, h⟩ := h
        refine TS_con [] [] (some (1000000, 0)) (ok_made_Tape_Next v7.2 3 v8 hv8) (by kernel_rfl) (by kernel_rfl) (by kernel_rfl) ?_
        refine TS_go 2 ?_
        replace h := bindO h
        obtain ⟨v9, hv9, h⟩ := h
        refine TS_con [] [(24, 900000)] (some (1000000, 0)) (okT_made_Tape_Fill v8.2 4 v9 hv9) (by kernel_rfl) (by kernel_rfl) (by kernel_rfl) ?_
        refine TS_go 10 ?_
        exact TS_meet (v9.2, (S_Frame.mk v1.1.Kind v1.1.AckRequest v1.1.Pending true v1.1.Seq v1.1.Pan v1.1.Dst v1.1.Src (IntKind.wrap .u32 v7.1) (IntKind.wrap .u8 v8.1) v1.1.Payload v9.1)) ⟨[(2, []), (3, [])], [(1000000, (1000000, [])), (2, (2, [])), (3, (3, [0, 0, 0, 0, 0, 0, 0, 0, 0, 0, 0, 0, 0, 0, 2, 2]))]⟩ h (by kernel_rfl) (by kernel_rfl)
      · refine TS_know 16 (b := false) hb6 (by kernel_rfl) (by kernel_rfl) ?_
        refine TS_know 15 (b := false) hb6 (by kernel_rfl) (by kernel_rfl) ?_
        refine TS_F (by kernel_rfl) rfl ?_
        refine TS_go 5 ?_
        replace h := condO h
        rcases h with ⟨hb10, h⟩ | ⟨hb10, h⟩
        · refine TS_know 30 (b := true) hb10 (by kernel_rfl) (by kernel_rfl) ?_
          refine TS_know 29 (b := true) hb10 (by kernel_rfl) (by kernel_rfl) ?_
          refine TS_T (by kernel_rfl) rfl ?_
          refine TS_draw (by kernel_rfl) ?_
          refine TD_go 2 ?_
          replace h := bindO h
          obtain ⟨v11, hv11, h⟩ := h
          refine TD_call [[0, 0, 0, 0, 0, 0, 0, 0, 0, 0, 0, 0, 0, 0, 2, 2]] (ok_ref05_Room v1.1 v11 hv11) (by kernel_rfl) (by kernel_rfl) ?_
          refine TD_go 5 ?_
          replace h := bindO h
          obtain ⟨v12, hv12, h⟩ := h
          refine TD_con (_h := []) (_h' := []) [] 1000000 0 [.slc 1 0 (List.length v3.2.l) (List.map (ecI .i64) v3.2.l), .lit (.int .i64 (v3.2.at_))] _ _ (ok_made_Tape_Next v3.2 3 v12 hv12) (by kernel_rfl) (by kernel_rfl) (by kernel_rfl) (by kernel_rfl) ?_
          refine TD_go 1 ?_
          replace h := bindO h
          obtain ⟨v13, hv13, h⟩ := h
          refine TD_call [[0, 0, 0, 0, 0, 0, 0, 0, 0, 0, 0, 0, 0, 0, 2, 2]] (ok_ref05_Room v1.1 v13 hv13) (by kernel_rfl) (by kernel_rfl) ?_
          refine TD_go 1 ?_
          replace h := chkO h
          obtain ⟨hc14, h⟩ := h
          refine TD_num (op := .rem) (k := .i64) (k' := .i64) (m := v12.1) (i := IntKind.wrap .i64 (1 + v13)) (of_decide_eq_true hc14) rfl (by simp) (by kernel_rfl) (by kernel_rfl) ?_
          refine TD_go 1 ?_
          replace h := bindO h
          obtain ⟨v15, hv15, h⟩ := h
          refine TD_con (_h := []) (_h' := []) [] 1000000 0 [.slc 1 0 (List.length v12.2.l) (List.map (ecI .i64) v12.2.l), .lit (.int .i64 (v12.2.at_))] _ _ (ok_made_Tape_Fill v12.2 (IntKind.wrap .i64 ((IntKind.wrap .i64 (v11 + (List.length v1.1.Payload : Int))) - (Int.tmod v12.1 (IntKind.wrap .i64 (1 + v13))))) v15 hv15) (by kernel_rfl) (by kernel_rfl) (by kernel_rfl) (by kernel_rfl) ?_
          refine TD_go 2 ?_
          refine TD_end (by kernel_rfl) ?_
          refine TS_go 1 ?_
          exact TS_meet (v15.2, (S_Frame.mk v1.1.Kind v1.1.AckRequest v1.1.Pending v1.1.Secure v1.1.Seq v1.1.Pan v1.1.Dst v1.1.Src v1.1.Counter v1.1.Key v15.1 v1.1.MIC)) ⟨[(2, []), (3, [])], [(1000000, (1000000, [])), (2, (2, [])), (3, (3, []))]⟩ h (by kernel_rfl) (by kernel_rfl)
        · refine TS_know 30 (b := false) hb10 (by kernel_rfl) (by kernel_rfl) ?_
          refine TS_know 29 (b := false) hb10 (by kernel_rfl) (by kernel_rfl) ?_
          refine TS_F (by kernel_rfl) rfl ?_
          refine TS_go 2 ?_
          exact TS_meet (v3.2, v1.1) ⟨[(2, []), (3, [])], [(1000000, (1000000, [])), (2, (2, [])), (3, (3, [0, 0, 0, 0, 0, 0, 0, 0, 0, 0, 0, 0, 0, 0, 2]))]⟩ h (by kernel_rfl) (by kernel_rfl)

/-- multihop/frame.validAck -/
noncomputable def F_frame_validAck (a0 : S_Frame) : Option (Bool) :=
  bif a0.AckRequest then
    some (false)
  else
    bif a0.Secure then
      some (false)
    else
      bif (a0.Pan == 0) then
        bif (a0.Counter == 0) then
          bif (a0.Key == 0) then
            bif (S_Addr.eqb a0.Dst (S_Addr.mk 0 0 0)) then
              bif (S_Addr.eqb a0.Src (S_Addr.mk 0 0 0)) then
                bif ((List.length a0.Payload : Int) == 0) then
                  some (((List.length a0.MIC : Int) == 0))
                else
                  some (false)
              else
                some (false)
            else
              some (false)
          else
            some (false)
        else
          some (false)
      else
        some (false)
set_option maxRecDepth 100000 in
set_option maxHeartbeats 40000000 in
theorem ok_frame_validAck (a0 : S_Frame) (r : Bool) (h : F_frame_validAck a0 = some r) : Con Try.prog 69 [.agg (S_Frame.cs a0)] [] (.c (.lit (.bool (r)))) [] := by
  unfold F_frame_validAck at h
  refine con_of [] [] 52 Try.func69 rfl rfl (by kernel_rfl) (fun K => ?_)
  refine TS_go 17 ?_
  replace h := condO h
  rcases h with ⟨hb1, h⟩ | ⟨hb1, h⟩
  · refine TS_know 6 (b := true) hb1 (by kernel_rfl) (by kernel_rfl) ?_
    refine TS_know 7 (b := false) (notF hb1) (by kernel_rfl) (by kernel_rfl) ?_
    refine TS_know 8 (b := false) (notF hb1) (by kernel_rfl) (by kernel_rfl) ?_
    refine TS_go 46 ?_
    have ret := Option.some.inj h
    subst ret
    exact TS_ret (by kernel_rfl) (by kernel_rfl) (by kernel_rfl)
  · refine TS_know 6 (b := false) hb1 (by kernel_rfl) (by kernel_rfl) ?_
    refine TS_know 7 (b := true) (notT hb1) (by kernel_rfl) (by kernel_rfl) ?_
    refine TS_know 8 (b := true) (notT hb1) (by kernel_rfl) (by kernel_rfl) ?_
    refine TS_go 5 ?_
    replace h := condO h
    rcases h with ⟨hb2, h⟩ | ⟨hb2, h⟩
    · refine TS_know 10 (b := true) hb2 (by kernel_rfl) (by kernel_rfl) ?_
      refine TS_know 11 (b := false) (notF hb2) (by kernel_rfl) (by kernel_rfl) ?_
      refine TS_know 12 (b := false) (notF hb2) (by kernel_rfl) (by kernel_rfl) ?_
      refine TS_know 13 (b := false) (notF hb2) (by kernel_rfl) (by kernel_rfl) ?_
      refine TS_go 41 ?_
      have ret := Option.some.inj h
      subst ret
      exact TS_ret (by kernel_rfl) (by kernel_rfl) (by kernel_rfl)
    · refine TS_know 10 (b := false) hb2 (by kernel_rfl) (by kernel_rfl) ?_
      refine TS_know 11 (b := true) (notT hb2) (by kernel_rfl) (by kernel_rfl) ?_
      refine TS_know 12 (b := true) (notT hb2) (by kernel_rfl) (by kernel_rfl) ?_
      refine TS_know 13 (b := true) (notT hb2) (by kernel_rfl) (by kernel_rfl) ?_
      refine TS_go 5 ?_
      replace h := condO h
      rcases h with ⟨hb3, h⟩ | ⟨hb3, h⟩
      · refine TS_know 16 (b := true) hb3 (by kernel_rfl) (by kernel_rfl) ?_
        refine TS_know 17 (b := true) hb3 (by kernel_rfl) (by kernel_rfl) ?_
        refine TS_know 18 (b := true) hb3 (by kernel_rfl) (by kernel_rfl) ?_
        refine TS_go 5 ?_
        replace h := condO h
        rcases h with ⟨hb4, h⟩ | ⟨hb4, h⟩
        · refine TS_know 21 (b := true) hb4 (by kernel_rfl) (by kernel_rfl) ?_
          refine TS_know 22 (b := true) hb4 (by kernel_rfl) (by kernel_rfl) ?_
          refine TS_know 23 (b := true) hb4 (by kernel_rfl) (by kernel_rfl) ?_
          refine TS_go 5 ?_
          replace h := condO h
          rcases h with ⟨hb5, h⟩ | ⟨hb5, h⟩
          · refine TS_know 26 (b := true) hb5 (by kernel_rfl) (by kernel_rfl) ?_
            refine TS_know 27 (b := true) hb5 (by kernel_rfl) (by kernel_rfl) ?_
            refine TS_know 28 (b := true) hb5 (by kernel_rfl) (by kernel_rfl) ?_
            refine TS_go 6 ?_
            replace h := condO h
            rcases h with ⟨hb6, h⟩ | ⟨hb6, h⟩
            · refine TS_know 32 (b := true) hb6 (by kernel_rfl) (by kernel_rfl) ?_
              refine TS_know 33 (b := true) hb6 (by kernel_rfl) (by kernel_rfl) ?_
              refine TS_know 34 (b := true) hb6 (by kernel_rfl) (by kernel_rfl) ?_
              refine TS_go 6 ?_
              replace h := condO h
              rcases h with ⟨hb7, h⟩ | ⟨hb7, h⟩
              · refine TS_know 38 (b := true) hb7 (by kernel_rfl) (by kernel_rfl) ?_
                refine TS_know 39 (b := true) hb7 (by kernel_rfl) (by kernel_rfl) ?_
                refine TS_know 40 (b := true) hb7 (by kernel_rfl) (by kernel_rfl) ?_
                refine TS_go 6 ?_
                replace h := condO h
                rcases h with ⟨hb8, h⟩ | ⟨hb8, h⟩
                · refine TS_know 44 (b := true) hb8 (by kernel_rfl) (by kernel_rfl) ?_
                  refine TS_know 45 (b := true) hb8 (by kernel_rfl) (by kernel_rfl) ?_
                  refine TS_know 46 (b := true) hb8 (by kernel_rfl) (by kernel_rfl) ?_
                  refine TS_go 8 ?_
                  have ret := Option.some.inj h
                  subst ret
                  exact TS_ret (by kernel_rfl) (by kernel_rfl) (by kernel_rfl)
                · refine TS_know 44 (b := false) hb8 (by kernel_rfl) (by kernel_rfl) ?_
                  refine TS_know 45 (b := false) hb8 (by kernel_rfl) (by kernel_rfl) ?_
                  refine TS_know 46 (b := false) hb8 (by kernel_rfl) (by kernel_rfl) ?_
                  refine TS_go 8 ?_
                  have ret := Option.some.inj h
                  subst ret
                  exact TS_ret (by kernel_rfl) (by kernel_rfl) (by kernel_rfl)
              · refine TS_know 38 (b := false) hb7 (by kernel_rfl) (by kernel_rfl) ?_
                refine TS_know 39 (b := false) hb7 (by kernel_rfl) (by kernel_rfl) ?_
                refine TS_know 40 (b := false) hb7 (by kernel_rfl) (by kernel_rfl) ?_
                refine TS_go 14 ?_
                have ret := Option.some.inj h
                subst ret
                exact TS_ret (by kernel_rfl) (by kernel_rfl) (by kernel_rfl)
            · refine TS_know 32 (b := false) hb6 (by kernel_rfl) (by kernel_rfl) ?_
              refine TS_know 33 (b := false) hb6 (by kernel_rfl) (by kernel_rfl) ?_
              refine TS_know 34 (b := false) hb6 (by kernel_rfl) (by kernel_rfl) ?_
              refine TS_go 20 ?_
              have ret := Option.some.inj h
              subst ret
              exact TS_ret (by kernel_rfl) (by kernel_rfl) (by kernel_rfl)
          · refine TS_know 26 (b := false) hb5 (by kernel_rfl) (by kernel_rfl) ?_
            refine TS_know 27 (b := false) hb5 (by kernel_rfl) (by kernel_rfl) ?_
            refine TS_know 28 (b := false) hb5 (by kernel_rfl) (by kernel_rfl) ?_
            refine TS_go 26 ?_
            have ret := Option.some.inj h
            subst ret
            exact TS_ret (by kernel_rfl) (by kernel_rfl) (by kernel_rfl)
        · refine TS_know 21 (b := false) hb4 (by kernel_rfl) (by kernel_rfl) ?_
          refine TS_know 22 (b := false) hb4 (by kernel_rfl) (by kernel_rfl) ?_
          refine TS_know 23 (b := false) hb4 (by kernel_rfl) (by kernel_rfl) ?_
          refine TS_go 31 ?_
          have ret := Option.some.inj h
          subst ret
          exact TS_ret (by kernel_rfl) (by kernel_rfl) (by kernel_rfl)
      · refine TS_know 16 (b := false) hb3 (by kernel_rfl) (by kernel_rfl) ?_
        refine TS_know 17 (b := false) hb3 (by kernel_rfl) (by kernel_rfl) ?_
        refine TS_know 18 (b := false) hb3 (by kernel_rfl) (by kernel_rfl) ?_
        refine TS_go 36 ?_
        have ret := Option.some.inj h
        subst ret
        exact TS_ret (by kernel_rfl) (by kernel_rfl) (by kernel_rfl)

/-- multihop/address.Valid -/
noncomputable def F_address_Valid (a0 : S_Addr) : Option (Bool) :=
  bif (a0.Mode == 0) then
    some ((S_Addr.eqb a0 (S_Addr.mk 0 0 0)))
  else
    bif (a0.Mode == 2) then
      some ((a0.EUI == 0))
    else
      bif (a0.Mode == 3) then
        some ((a0.Short == 0))
      else
        some (false)
set_option maxRecDepth 100000 in
set_option maxHeartbeats 40000000 in
theorem ok_address_Valid (a0 : S_Addr) (r : Bool) (h : F_address_Valid a0 = some r) : Con Try.prog 77 [.agg (S_Addr.cs a0)] [] (.c (.lit (.bool (r)))) [] := by
  unfold F_address_Valid at h
  refine con_of [] [] 20 Try.func77 rfl rfl (by kernel_rfl) (fun K => ?_)
  refine TS_go 17 ?_
  replace h := condO h
  rcases h with ⟨hb1, h⟩ | ⟨hb1, h⟩
  · refine TS_know 6 (b := true) hb1 (by kernel_rfl) (by kernel_rfl) ?_
    refine TS_know 5 (b := true) hb1 (by kernel_rfl) (by kernel_rfl) ?_
    refine TS_T (by kernel_rfl) rfl ?_
    refine TS_go 10 ?_
    have ret := Option.some.inj h
    subst ret
    exact TS_ret (by kernel_rfl) (by kernel_rfl) (by kernel_rfl)
  · refine TS_know 6 (b := false) hb1 (by kernel_rfl) (by kernel_rfl) ?_
    refine TS_know 5 (b := false) hb1 (by kernel_rfl) (by kernel_rfl) ?_
    refine TS_F (by kernel_rfl) rfl ?_
    refine TS_go 5 ?_
    replace h := condO h
    rcases h with ⟨hb2, h⟩ | ⟨hb2, h⟩
    · refine TS_know 11 (b := true) hb2 (by kernel_rfl) (by kernel_rfl) ?_
      refine TS_know 10 (b := true) hb2 (by kernel_rfl) (by kernel_rfl) ?_
      refine TS_T (by kernel_rfl) rfl ?_
      refine TS_go 10 ?_
      have ret := Option.some.inj h
      subst ret
      exact TS_ret (by kernel_rfl) (by kernel_rfl) (by kernel_rfl)
    · refine TS_know 11 (b := false) hb2 (by kernel_rfl) (by kernel_rfl) ?_
      refine TS_know 10 (b := false) hb2 (by kernel_rfl) (by kernel_rfl) ?_
      refine TS_F (by kernel_rfl) rfl ?_
      refine TS_go 5 ?_
      replace h := condO h
      rcases h with ⟨hb3, h⟩ | ⟨hb3, h⟩
      · refine TS_know 16 (b := true) hb3 (by kernel_rfl) (by kernel_rfl) ?_
        refine TS_know 15 (b := true) hb3 (by kernel_rfl) (by kernel_rfl) ?_
        refine TS_T (by kernel_rfl) rfl ?_
        refine TS_go 10 ?_
        have ret := Option.some.inj h
        subst ret
        exact TS_ret (by kernel_rfl) (by kernel_rfl) (by kernel_rfl)
      · refine TS_know 16 (b := false) hb3 (by kernel_rfl) (by kernel_rfl) ?_
        refine TS_know 15 (b := false) hb3 (by kernel_rfl) (by kernel_rfl) ?_
        refine TS_F (by kernel_rfl) rfl ?_
        refine TS_go 7 ?_
        have ret := Option.some.inj h
        subst ret
        exact TS_ret (by kernel_rfl) (by kernel_rfl) (by kernel_rfl)

/-- multihop/address.IsBroadcast -/
noncomputable def F_address_IsBroadcast (a0 : S_Addr) : Option (Bool) :=
  some ((S_Addr.eqb a0 (S_Addr.mk 2 65535 0)))
set_option maxRecDepth 100000 in
set_option maxHeartbeats 40000000 in
theorem ok_address_IsBroadcast (a0 : S_Addr) (r : Bool) (h : F_address_IsBroadcast a0 = some r) : Con Try.prog 78 [.agg (S_Addr.cs a0)] [] (.c (.lit (.bool (r)))) [] := by
  unfold F_address_IsBroadcast at h
  refine con_of [] [] 6 Try.func78 rfl rfl (by kernel_rfl) (fun K => ?_)
  refine TS_go 13 ?_
  have ret := Option.some.inj h
  subst ret
  exact TS_ret (by kernel_rfl) (by kernel_rfl) (by kernel_rfl)

/-- multihop/frame.addrBytes -/
noncomputable def F_frame_addrBytes (a0 : S_Addr) : Option (Int) :=
  bif (a0.Mode == 2) then
    some (2)
  else
    bif (a0.Mode == 3) then
      some (8)
    else
      some (0)
set_option maxRecDepth 100000 in
set_option maxHeartbeats 40000000 in
theorem ok_frame_addrBytes (a0 : S_Addr) (r : Int) (h : F_frame_addrBytes a0 = some r) : Con Try.prog 81 [.agg (S_Addr.cs a0)] [] (.c (.lit (.int .i64 (r)))) [] := by
  unfold F_frame_addrBytes at h
  refine con_of [] [] 9 Try.func81 rfl rfl (by kernel_rfl) (fun K => ?_)
  refine TS_go 17 ?_
  replace h := condO h
  rcases h with ⟨hb1, h⟩ | ⟨hb1, h⟩
  · refine TS_know 6 (b := true) hb1 (by kernel_rfl) (by kernel_rfl) ?_
    refine TS_know 5 (b := true) hb1 (by kernel_rfl) (by kernel_rfl) ?_
    refine TS_T (by kernel_rfl) rfl ?_
    refine TS_go 7 ?_
    have ret := Option.some.inj h
    subst ret
    exact TS_ret (by kernel_rfl) (by kernel_rfl) (by kernel_rfl)
  · refine TS_know 6 (b := false) hb1 (by kernel_rfl) (by kernel_rfl) ?_
    refine TS_know 5 (b := false) hb1 (by kernel_rfl) (by kernel_rfl) ?_
    refine TS_F (by kernel_rfl) rfl ?_
    refine TS_go 5 ?_
    replace h := condO h
    rcases h with ⟨hb2, h⟩ | ⟨hb2, h⟩
    · refine TS_know 8 (b := true) hb2 (by kernel_rfl) (by kernel_rfl) ?_
      refine TS_know 7 (b := true) hb2 (by kernel_rfl) (by kernel_rfl) ?_
      refine TS_T (by kernel_rfl) rfl ?_
      refine TS_go 7 ?_
      have ret := Option.some.inj h
      subst ret
      exact TS_ret (by kernel_rfl) (by kernel_rfl) (by kernel_rfl)
    · refine TS_know 8 (b := false) hb2 (by kernel_rfl) (by kernel_rfl) ?_
      refine TS_know 7 (b := false) hb2 (by kernel_rfl) (by kernel_rfl) ?_
      refine TS_F (by kernel_rfl) rfl ?_
      refine TS_go 7 ?_
      have ret := Option.some.inj h
      subst ret
      exact TS_ret (by kernel_rfl) (by kernel_rfl) (by kernel_rfl)

/-- multihop/frame.length -/
noncomputable def F_frame_length_j2  (v2 : Int) : Option (Int) :=
  some (v2)
noncomputable def F_frame_length_j1 (a0 : S_Frame) (v1 : Int) : Option (Int) :=
  bif a0.Secure then
    (F_frame_length_j2) (IntKind.wrap .i64 (v1 + (IntKind.wrap .i64 (5 + (List.length a0.MIC : Int)))))
  else
    (F_frame_length_j2) v1
noncomputable def F_frame_length (a0 : S_Frame) : Option (Int) :=
  bif (a0.Kind != 2) then
    (F_frame_addrBytes a0.Dst).bind fun v5 =>
    (F_frame_addrBytes a0.Src).bind fun v6 =>
    (F_frame_length_j1 a0) (IntKind.wrap .i64 ((IntKind.wrap .i64 ((IntKind.wrap .i64 (3 + (List.length a0.Payload : Int))) + 2)) + (IntKind.wrap .i64 ((IntKind.wrap .i64 (2 + v5)) + v6))))
  else
    (F_frame_length_j1 a0) (IntKind.wrap .i64 ((IntKind.wrap .i64 (3 + (List.length a0.Payload : Int))) + 2))
set_option maxRecDepth 100000 in
set_option maxHeartbeats 40000000 in
theorem ok_frame_length (a0 : S_Frame) (r : Int) (h : F_frame_length a0 = some r) : Con Try.prog 79 [.agg (S_Frame.cs a0)] [] (.c (.lit (.int .i64 (r)))) [] := by
  unfold F_frame_length at h
  refine con_of [] [] 31 Try.func79 rfl rfl (by kernel_rfl) (fun K => ?_)
  refine TS_go 14 ?_
  refine TS_cut ⟨[(1, []), (3, [])], [(1, (1, []))]⟩ (.mk [.code (codeAt [1, 1] (bodyOf Try.f79))] .normal ⟨[(1, .c (.box 1 0)), (3, .c (.lit (.int .i64 (IntKind.wrap .i64 ((IntKind.wrap .i64 (3 + (List.length a0.Payload : Int))) + 2)))))], [(1, .box [.lit (.int .i64 (a0.Kind)), .lit (.bool (a0.AckRequest)), .lit (.bool (a0.Pending)), .lit (.bool (a0.Secure)), .lit (.int .u8 (a0.Seq)), .lit (.int .u16 (a0.Pan)), .lit (.int .i64 (a0.Dst.Mode)), .lit (.int .u16 (a0.Dst.Short)), .lit (.int .u64 (a0.Dst.EUI)), .lit (.int .i64 (a0.Src.Mode)), .lit (.int .u16 (a0.Src.Short)), .lit (.int .u64 (a0.Src.EUI)), .lit (.int .u32 (a0.Counter)), .lit (.int .u8 (a0.Key)), .slc 1 0 (List.length a0.Payload) (List.map (ecI .u8) a0.Payload), .slc 1 0 (List.length a0.MIC) (List.map (ecI .u8) a0.MIC)])]⟩) (by kernel_rfl) (by kernel_rfl) ?_
  refine TS_joinB ⟨[(1, []), (3, [])], [(1, (1, []))]⟩ (fun (v1 : Int) => [(3, .c (.lit (.int .i64 (v1))))]) (fun (v1 : Int) => []) (F_frame_length_j1 a0) r ?_ ?_
  · clear h
    intro v1 h
    unfold F_frame_length_j1 at h
    refine TS_cut ⟨[(1, []), (3, [])], [(1, (1, []))]⟩ (.mk [.code (codeAt [1, 1, 1] (bodyOf Try.f79))] .normal ⟨[(1, .c (.box 1 0)), (3, .c (.lit (.int .i64 (v1))))], [(1, .box [.lit (.int .i64 (a0.Kind)), .lit (.bool (a0.AckRequest)), .lit (.bool (a0.Pending)), .lit (.bool (a0.Secure)), .lit (.int .u8 (a0.Seq)), .lit (.int .u16 (a0.Pan)), .lit (.int .i64 (a0.Dst.Mode)), .lit (.int .u16 (a0.Dst.Short)), .lit (.int .u64 (a0.Dst.EUI)), .lit (.int .i64 (a0.Src.Mode)), .lit (.int .u16 (a0.Src.Short)), .lit (.int .u64 (a0.Src.EUI)), .lit (.int .u32 (a0.Counter)), .lit (.int .u8 (a0.Key)), .slc 1 0 (List.length a0.Payload) (List.map (ecI .u8) a0.Payload), .slc 1 0 (List.length a0.MIC) (List.map (ecI .u8) a0.MIC)])]⟩) (by kernel_rfl) (by kernel_rfl) ?_
    refine TS_joinB ⟨[(3, [])], []⟩ (fun (v2 : Int) => [(3, .c (.lit (.int .i64 (v2))))]) (fun (v2 : Int) => []) (F_frame_length_j2) r ?_ ?_
    · clear h
      intro v2 h
      unfold F_frame_length_j2 at h
      refine TS_go 6 ?_
      have ret := Option.some.inj h
      subst ret
      exact TS_ret (by kernel_rfl) (by kernel_rfl) (by kernel_rfl)
    · refine TS_go 5 ?_
      replace h := condO h
      rcases h with ⟨hb3, h⟩ | ⟨hb3, h⟩
      · refine TS_know 23 (b := true) hb3 (by kernel_rfl) (by kernel_rfl) ?_
        refine TS_T (by kernel_rfl) rfl ?_
        refine TS_go 9 ?_
        exact TS_meet (IntKind.wrap .i64 (v1 + (IntKind.wrap .i64 (5 + (List.length a0.MIC : Int))))) ⟨[(3, [])], []⟩ h (by kernel_rfl) (by kernel_rfl)
      · refine TS_know 23 (b := false) hb3 (by kernel_rfl) (by kernel_rfl) ?_
        refine TS_F (by kernel_rfl) rfl ?_
        refine TS_go 1 ?_
        exact TS_meet v1 ⟨[(3, [])], []⟩ h (by kernel_rfl) (by kernel_rfl)
  · refine TS_go 6 ?_
    replace h := condO h
    rcases h with ⟨hb4, h⟩ | ⟨hb4, h⟩
    · refine TS_know 11 (b := true) hb4 (by kernel_rfl) (by kernel_rfl) ?_
      refine TS_T (by kernel_rfl) rfl ?_
      refine TS_draw (by kernel_rfl) ?_
      refine TD_go 3 ?_
      replace h := bindO h
      obtain ⟨v5, hv5, h⟩ := h
      refine TD_call [] (ok_frame_addrBytes a0.Dst v5 hv5) (by kernel_rfl) (by kernel_rfl) ?_
      refine TD_go 3 ?_
      replace h := bindO h
      obtain ⟨v6, hv6, h⟩ := h
      refine TD_call [] (ok_frame_addrBytes a0.Src v6 hv6) (by kernel_rfl) (by kernel_rfl) ?_
      refine TD_go 3 ?_
      refine TD_end (by kernel_rfl) ?_
      exact TS_meet (IntKind.wrap .i64 ((IntKind.wrap .i64 ((IntKind.wrap .i64 (3 + (List.length a0.Payload : Int))) + 2)) + (IntKind.wrap .i64 ((IntKind.wrap .i64 (2 + v5)) + v6)))) ⟨[(1, []), (3, [])], [(1, (1, []))]⟩ h (by kernel_rfl) (by kernel_rfl)
    · refine TS_know 11 (b := false) hb4 (by kernel_rfl) (by kernel_rfl) ?_
      refine TS_F (by kernel_rfl) rfl ?_
      refine TS_go 1 ?_
      exact TS_meet (IntKind.wrap .i64 ((IntKind.wrap .i64 (3 + (List.length a0.Payload : Int))) + 2)) ⟨[(1, []), (3, [])], [(1, (1, []))]⟩ h (by kernel_rfl) (by kernel_rfl)

/-- multihop/frame.validData -/
noncomputable def F_frame_validData (a0 : S_Frame) : Option (Bool) :=
  (F_address_Valid a0.Dst).bind fun v1 =>
  bif v1 then
    bif (a0.Dst.Mode == 0) then
      some (false)
    else
      (F_address_Valid a0.Src).bind fun v4 =>
      bif v4 then
        bif (a0.Src.Mode == 0) then
          some (false)
        else
          (F_address_IsBroadcast a0.Src).bind fun v7 =>
          bif v7 then
            some (false)
          else
            bif a0.AckRequest then
              (F_address_IsBroadcast a0.Dst).bind fun v10 =>
              bif v10 then
                some (false)
              else
                bif a0.Secure then
                  bif ((List.length a0.MIC : Int) != 4) then
                    some (false)
                  else
                    (F_frame_length a0).bind fun v14 =>
                    some ((decide (v14 ≤ 127)))
                else
                  bif (a0.Counter != 0) then
                    some (false)
                  else
                    bif (a0.Key != 0) then
                      some (false)
                    else
                      bif ((List.length a0.MIC : Int) != 0) then
                        some (false)
                      else
                        (F_frame_length a0).bind fun v18 =>
                        some ((decide (v18 ≤ 127)))
            else
              bif a0.Secure then
                bif ((List.length a0.MIC : Int) != 4) then
                  some (false)
                else
                  (F_frame_length a0).bind fun v21 =>
                  some ((decide (v21 ≤ 127)))
              else
                bif (a0.Counter != 0) then
                  some (false)
                else
                  bif (a0.Key != 0) then
                    some (false)
                  else
                    bif ((List.length a0.MIC : Int) != 0) then
                      some (false)
                    else
                      (F_frame_length a0).bind fun v25 =>
                      some ((decide (v25 ≤ 127)))
      else
        some (false)
  else
    some (false)
set_option maxRecDepth 100000 in
set_option maxHeartbeats 40000000 in
theorem ok_frame_validData (a0 : S_Frame) (r : Bool) (h : F_frame_validData a0 = some r) : Con Try.prog 70 [.agg (S_Frame.cs a0)] [] (.c (.lit (.bool (r)))) [] := by
  unfold F_frame_validData at h
  refine con_of [] [] 67 Try.func70 rfl rfl (by kernel_rfl) (fun K => ?_)
  refine TS_go 10 ?_
  replace h := bindO h
  obtain ⟨v1, hv1, h⟩ := h
  refine TS_call [] (ok_address_Valid a0.Dst v1 hv1) (by kernel_rfl) (by kernel_rfl) ?_
  refine TS_go 2 ?_
  replace h := condO h
  rcases h with ⟨hb2, h⟩ | ⟨hb2, h⟩
  · subst hb2
    refine TS_go 6 ?_
    replace h := condO h
    rcases h with ⟨hb3, h⟩ | ⟨hb3, h⟩
    · refine TS_know 11 (b := true) hb3 (by kernel_rfl) (by kernel_rfl) ?_
      refine TS_know 12 (b := true) hb3 (by kernel_rfl) (by kernel_rfl) ?_
      refine TS_know 13 (b := true) hb3 (by kernel_rfl) (by kernel_rfl) ?_
      refine TS_go 12 ?_
      refine TS_T (by kernel_rfl) rfl ?_
      refine TS_go 6 ?_
      have ret := Option.some.inj h
      subst ret
      exact TS_ret (by kernel_rfl) (by kernel_rfl) (by kernel_rfl)
    · refine TS_know 11 (b := false) hb3 (by kernel_rfl) (by kernel_rfl) ?_
      refine TS_know 12 (b := false) hb3 (by kernel_rfl) (by kernel_rfl) ?_
      refine TS_know 13 (b := false) hb3 (by kernel_rfl) (by kernel_rfl) ?_
      refine TS_go 2 ?_
      replace h := bindO h
      obtain ⟨v4, hv4, h⟩ := h
      refine TS_call [] (ok_address_Valid a0.Src v4 hv4) (by kernel_rfl) (by kernel_rfl) ?_
      refine TS_go 3 ?_
      replace h := condO h
      rcases h with ⟨hb5, h⟩ | ⟨hb5, h⟩
      · subst hb5
        refine TS_go 6 ?_
        replace h := condO h
        rcases h with ⟨hb6, h⟩ | ⟨hb6, h⟩
        · refine TS_know 23 (b := true) hb6 (by kernel_rfl) (by kernel_rfl) ?_
          refine TS_know 24 (b := true) hb6 (by kernel_rfl) (by kernel_rfl) ?_
          refine TS_T (by kernel_rfl) rfl ?_
          refine TS_go 6 ?_
          have ret := Option.some.inj h
          subst ret
          exact TS_ret (by kernel_rfl) (by kernel_rfl) (by kernel_rfl)
        · refine TS_know 23 (b := false) hb6 (by kernel_rfl) (by kernel_rfl) ?_
          refine TS_know 24 (b := false) hb6 (by kernel_rfl) (by kernel_rfl) ?_
          refine TS_F (by kernel_rfl) rfl ?_
          refine TS_go 6 ?_
          replace h := bindO h
          obtain ⟨v7, hv7, h⟩ := h
          refine TS_call [] (ok_address_IsBroadcast a0.Src v7 hv7) (by kernel_rfl) (by kernel_rfl) ?_
          refine TS_go 1 ?_
          replace h := condO h
          rcases h with ⟨hb8, h⟩ | ⟨hb8, h⟩
          · subst hb8
            refine TS_go 9 ?_
            refine TS_T (by kernel_rfl) rfl ?_
            refine TS_go 6 ?_
            have ret := Option.some.inj h
            subst ret
            exact TS_ret (by kernel_rfl) (by kernel_rfl) (by kernel_rfl)
          · subst hb8
            refine TS_go 3 ?_
            replace h := condO h
            rcases h with ⟨hb9, h⟩ | ⟨hb9, h⟩
            · refine TS_know 30 (b := true) hb9 (by kernel_rfl) (by kernel_rfl) ?_
              refine TS_know 31 (b := true) hb9 (by kernel_rfl) (by kernel_rfl) ?_
              refine TS_go 2 ?_
              replace h := bindO h
              obtain ⟨v10, hv10, h⟩ := h
              refine TS_call [] (ok_address_IsBroadcast a0.Dst v10 hv10) (by kernel_rfl) (by kernel_rfl) ?_
              refine TS_go 3 ?_
              replace h := condO h
              rcases h with ⟨hb11, h⟩ | ⟨hb11, h⟩
              · subst hb11
                refine TS_T (by kernel_rfl) rfl ?_
                refine TS_go 6 ?_
                have ret := Option.some.inj h
                subst ret
                exact TS_ret (by kernel_rfl) (by kernel_rfl) (by kernel_rfl)
              · subst hb11
                refine TS_F (by kernel_rfl) rfl ?_
                refine TS_go 7 ?_
                replace h := condO h
                rcases h with ⟨hb12, h⟩ | ⟨hb12, h⟩
                · refine TS_know 38 (b := true) hb12 (by kernel_rfl) (by kernel_rfl) ?_
                  refine TS_know 39 (b := true) hb12 (by kernel_rfl) (by kernel_rfl) ?_
                  refine TS_go 6 ?_
                  replace h := condO h
                  rcases h with ⟨hb13, h⟩ | ⟨hb13, h⟩
                  · refine TS_know 43 (b := true) hb13 (by kernel_rfl) (by kernel_rfl) ?_
                    refine TS_know 44 (b := true) hb13 (by kernel_rfl) (by kernel_rfl) ?_
                    refine TS_T (by kernel_rfl) rfl ?_
                    refine TS_go 6 ?_
                    have ret := Option.some.inj h
                    subst ret
                    exact TS_ret (by kernel_rfl) (by kernel_rfl) (by kernel_rfl)
                  · refine TS_know 43 (b := false) hb13 (by kernel_rfl) (by kernel_rfl) ?_
                    refine TS_know 44 (b := false) hb13 (by kernel_rfl) (by kernel_rfl) ?_
                    refine TS_F (by kernel_rfl) rfl ?_
                    refine TS_go 6 ?_
                    refine TS_know 46 (b := true) hb12 (by kernel_rfl) (by kernel_rfl) ?_
                    refine TS_go 18 ?_
                    refine TS_F (by kernel_rfl) rfl ?_
                    refine TS_go 4 ?_
                    replace h := bindO h
                    obtain ⟨v14, hv14, h⟩ := h
                    refine TS_call [] (ok_frame_length a0 v14 hv14) (by kernel_rfl) (by kernel_rfl) ?_
                    refine TS_go 4 ?_
                    have ret := Option.some.inj h
                    subst ret
                    exact TS_ret (by kernel_rfl) (by kernel_rfl) (by kernel_rfl)
                · refine TS_know 38 (b := false) hb12 (by kernel_rfl) (by kernel_rfl) ?_
                  refine TS_know 39 (b := false) hb12 (by kernel_rfl) (by kernel_rfl) ?_
                  refine TS_go 6 ?_
                  refine TS_F (by kernel_rfl) rfl ?_
                  refine TS_go 6 ?_
                  refine TS_know 46 (b := false) hb12 (by kernel_rfl) (by kernel_rfl) ?_
                  refine TS_go 6 ?_
                  replace h := condO h
                  rcases h with ⟨hb15, h⟩ | ⟨hb15, h⟩
                  · refine TS_know 51 (b := true) hb15 (by kernel_rfl) (by kernel_rfl) ?_
                    refine TS_know 52 (b := true) hb15 (by kernel_rfl) (by kernel_rfl) ?_
                    refine TS_go 12 ?_
                    refine TS_T (by kernel_rfl) rfl ?_
                    refine TS_go 6 ?_
                    have ret := Option.some.inj h
                    subst ret
                    exact TS_ret (by kernel_rfl) (by kernel_rfl) (by kernel_rfl)
                  · refine TS_know 51 (b := false) hb15 (by kernel_rfl) (by kernel_rfl) ?_
                    refine TS_know 52 (b := false) hb15 (by kernel_rfl) (by kernel_rfl) ?_
                    refine TS_go 5 ?_
                    replace h := condO h
                    rcases h with ⟨hb16, h⟩ | ⟨hb16, h⟩
                    · refine TS_know 55 (b := true) hb16 (by kernel_rfl) (by kernel_rfl) ?_
                      refine TS_know 56 (b := true) hb16 (by kernel_rfl) (by kernel_rfl) ?_
                      refine TS_know 57 (b := true) hb16 (by kernel_rfl) (by kernel_rfl) ?_
                      refine TS_go 7 ?_
                      refine TS_T (by kernel_rfl) rfl ?_
                      refine TS_go 6 ?_
                      have ret := Option.some.inj h
                      subst ret
                      exact TS_ret (by kernel_rfl) (by kernel_rfl) (by kernel_rfl)
                    · refine TS_know 55 (b := false) hb16 (by kernel_rfl) (by kernel_rfl) ?_
                      refine TS_know 56 (b := false) hb16 (by kernel_rfl) (by kernel_rfl) ?_
                      refine TS_know 57 (b := false) hb16 (by kernel_rfl) (by kernel_rfl) ?_
                      refine TS_go 7 ?_
                      replace h := condO h
                      rcases h with ⟨hb17, h⟩ | ⟨hb17, h⟩
                      · refine TS_know 61 (b := true) hb17 (by kernel_rfl) (by kernel_rfl) ?_
                        refine TS_know 62 (b := true) hb17 (by kernel_rfl) (by kernel_rfl) ?_
                        refine TS_know 63 (b := true) hb17 (by kernel_rfl) (by kernel_rfl) ?_
                        refine TS_T (by kernel_rfl) rfl ?_
                        refine TS_go 6 ?_
                        have ret := Option.some.inj h
                        subst ret
                        exact TS_ret (by kernel_rfl) (by kernel_rfl) (by kernel_rfl)
                      · refine TS_know 61 (b := false) hb17 (by kernel_rfl) (by kernel_rfl) ?_
                        refine TS_know 62 (b := false) hb17 (by kernel_rfl) (by kernel_rfl) ?_
                        refine TS_know 63 (b := false) hb17 (by kernel_rfl) (by kernel_rfl) ?_
                        refine TS_F (by kernel_rfl) rfl ?_
                        refine TS_go 4 ?_
                        replace h := bindO h
                        obtain ⟨v18, hv18, h⟩ := h
                        refine TS_call [] (ok_frame_length a0 v18 hv18) (by kernel_rfl) (by kernel_rfl) ?_
                        refine TS_go 4 ?_
                        have ret := Option.some.inj h
                        subst ret
                        exact TS_ret (by kernel_rfl) (by kernel_rfl) (by kernel_rfl)
            · refine TS_know 30 (b := false) hb9 (by kernel_rfl) (by kernel_rfl) ?_
              refine TS_know 31 (b := false) hb9 (by kernel_rfl) (by kernel_rfl) ?_
              refine TS_go 6 ?_
              refine TS_F (by kernel_rfl) rfl ?_
              refine TS_go 7 ?_
              replace h := condO h
              rcases h with ⟨hb19, h⟩ | ⟨hb19, h⟩
              · refine TS_know 38 (b := true) hb19 (by kernel_rfl) (by kernel_rfl) ?_
                refine TS_know 39 (b := true) hb19 (by kernel_rfl) (by kernel_rfl) ?_
                refine TS_go 6 ?_
                replace h := condO h
                rcases h with ⟨hb20, h⟩ | ⟨hb20, h⟩
                · refine TS_know 43 (b := true) hb20 (by kernel_rfl) (by kernel_rfl) ?_
                  refine TS_know 44 (b := true) hb20 (by kernel_rfl) (by kernel_rfl) ?_
                  refine TS_T (by kernel_rfl) rfl ?_
                  refine TS_go 6 ?_
                  have ret := Option.some.inj h
                  subst ret
                  exact TS_ret (by kernel_rfl) (by kernel_rfl) (by kernel_rfl)
                · refine TS_know 43 (b := false) hb20 (by kernel_rfl) (by kernel_rfl) ?_
                  refine TS_know 44 (b := false) hb20 (by kernel_rfl) (by kernel_rfl) ?_
                  refine TS_F (by kernel_rfl) rfl ?_
                  refine TS_go 6 ?_
                  refine TS_know 46 (b := true) hb19 (by kernel_rfl) (by kernel_rfl) ?_
                  refine TS_go 18 ?_
                  refine TS_F (by kernel_rfl) rfl ?_
                  refine TS_go 4 ?_
                  replace h := bindO h
                  obtain ⟨v21, hv21, h⟩ := h
                  refine TS_call [] (ok_frame_length a0 v21 hv21) (by kernel_rfl) (by kernel_rfl) ?_
                  refine TS_go 4 ?_
                  have ret := Option.some.inj h
                  subst ret
                  exact TS_ret (by kernel_rfl) (by kernel_rfl) (by kernel_rfl)
              · refine TS_know 38 (b := false) hb19 (by kernel_rfl) (by kernel_rfl) ?_
                refine TS_know 39 (b := false) hb19 (by kernel_rfl) (by kernel_rfl) ?_
                refine TS_go 6 ?_
                refine TS_F (by kernel_rfl) rfl ?_
                refine TS_go 6 ?_
                refine TS_know 46 (b := false) hb19 (by kernel_rfl) (by kernel_rfl) ?_
                refine TS_go 6 ?_
                replace h := condO h
                rcases h with ⟨hb22, h⟩ | ⟨hb22, h⟩
                · refine TS_know 51 (b := true) hb22 (by kernel_rfl) (by kernel_rfl) ?_
                  refine TS_know 52 (b := true) hb22 (by kernel_rfl) (by kernel_rfl) ?_
                  refine TS_go 12 ?_
                  refine TS_T (by kernel_rfl) rfl ?_
                  refine TS_go 6 ?_
                  have ret := Option.some.inj h
                  subst ret
                  exact TS_ret (by kernel_rfl) (by kernel_rfl) (by kernel_rfl)
                · refine TS_know 51 (b := false) hb22 (by kernel_rfl) (by kernel_rfl) ?_
                  refine TS_know 52 (b := false) hb22 (by kernel_rfl) (by kernel_rfl) ?_
                  refine TS_go 5 ?_
                  replace h := condO h
                  rcases h with ⟨hb23, h⟩ | ⟨hb23, h⟩
                  · refine TS_know 55 (b := true) hb23 (by kernel_rfl) (by kernel_rfl) ?_
                    refine TS_know 56 (b := true) hb23 (by kernel_rfl) (by kernel_rfl) ?_
                    refine TS_know 57 (b := true) hb23 (by kernel_rfl) (by kernel_rfl) ?_
                    refine TS_go 7 ?_
                    refine TS_T (by kernel_rfl) rfl ?_
                    refine TS_go 6 ?_
                    have ret := Option.some.inj h
                    subst ret
                    exact TS_ret (by kernel_rfl) (by kernel_rfl) (by kernel_rfl)
                  · refine TS_know 55 (b := false) hb23 (by kernel_rfl) (by kernel_rfl) ?_
                    refine TS_know 56 (b := false) hb23 (by kernel_rfl) (by kernel_rfl) ?_
                    refine TS_know 57 (b := false) hb23 (by kernel_rfl) (by kernel_rfl) ?_
                    refine TS_go 7 ?_
                    replace h := condO h
                    rcases h with ⟨hb24, h⟩ | ⟨hb24, h⟩
                    · refine TS_know 61 (b := true) hb24 (by kernel_rfl) (by kernel_rfl) ?_
                      refine TS_know 62 (b := true) hb24 (by kernel_rfl) (by kernel_rfl) ?_
                      refine TS_know 63 (b := true) hb24 (by kernel_rfl) (by kernel_rfl) ?_
                      refine TS_T (by kernel_rfl) rfl ?_
                      refine TS_go 6 ?_
                      have ret := Option.some.inj h
                      subst ret
                      exact TS_ret (by kernel_rfl) (by kernel_rfl) (by kernel_rfl)
                    · refine TS_know 61 (b := false) hb24 (by kernel_rfl) (by kernel_rfl) ?_
                      refine TS_know 62 (b := false) hb24 (by kernel_rfl) (by kernel_rfl) ?_
                      refine TS_know 63 (b := false) hb24 (by kernel_rfl) (by kernel_rfl) ?_
                      refine TS_F (by kernel_rfl) rfl ?_
                      refine TS_go 4 ?_
                      replace h := bindO h
                      obtain ⟨v25, hv25, h⟩ := h
                      refine TS_call [] (ok_frame_length a0 v25 hv25) (by kernel_rfl) (by kernel_rfl) ?_
                      refine TS_go 4 ?_
                      have ret := Option.some.inj h
                      subst ret
                      exact TS_ret (by kernel_rfl) (by kernel_rfl) (by kernel_rfl)
      · subst hb5
        refine TS_go 6 ?_
        refine TS_T (by kernel_rfl) rfl ?_
        refine TS_go 6 ?_
        have ret := Option.some.inj h
        subst ret
        exact TS_ret (by kernel_rfl) (by kernel_rfl) (by kernel_rfl)
  · subst hb2
    refine TS_go 18 ?_
    refine TS_T (by kernel_rfl) rfl ?_
    refine TS_go 6 ?_
    have ret := Option.some.inj h
    subst ret
    exact TS_ret (by kernel_rfl) (by kernel_rfl) (by kernel_rfl)

/-- multihop/frame.Valid -/
noncomputable def F_frame_Valid_j1 (a0 : S_Frame) (v3 : Bool) : Option (Bool) :=
  bif v3 then
    (F_frame_validData a0).bind fun v5 =>
    some (v5)
  else
    some (false)
noncomputable def F_frame_Valid (a0 : S_Frame) : Option (Bool) :=
  bif (a0.Kind == 2) then
    (F_frame_validAck a0).bind fun v2 =>
    some (v2)
  else
    bif (a0.Kind == 1) then
      (F_frame_Valid_j1 a0) true
    else
      (F_frame_Valid_j1 a0) (a0.Kind == 3)
set_option maxRecDepth 100000 in
set_option maxHeartbeats 40000000 in
theorem ok_frame_Valid (a0 : S_Frame) (r : Bool) (h : F_frame_Valid a0 = some r) : Con Try.prog 56 [.agg (S_Frame.cs a0)] [] (.c (.lit (.bool (r)))) [] := by
  unfold F_frame_Valid at h
  refine con_of [] [] 14 Try.func56 rfl rfl (by kernel_rfl) (fun K => ?_)
  refine TS_go 17 ?_
  replace h := condO h
  rcases h with ⟨hb1, h⟩ | ⟨hb1, h⟩
  · refine TS_know 6 (b := true) hb1 (by kernel_rfl) (by kernel_rfl) ?_
    refine TS_know 5 (b := true) hb1 (by kernel_rfl) (by kernel_rfl) ?_
    refine TS_T (by kernel_rfl) rfl ?_
    refine TS_go 3 ?_
    replace h := bindO h
    obtain ⟨v2, hv2, h⟩ := h
    refine TS_call [] (ok_frame_validAck a0 v2 hv2) (by kernel_rfl) (by kernel_rfl) ?_
    refine TS_go 5 ?_
    have ret := Option.some.inj h
    subst ret
    exact TS_ret (by kernel_rfl) (by kernel_rfl) (by kernel_rfl)
  · refine TS_know 6 (b := false) hb1 (by kernel_rfl) (by kernel_rfl) ?_
    refine TS_know 5 (b := false) hb1 (by kernel_rfl) (by kernel_rfl) ?_
    refine TS_F (by kernel_rfl) rfl ?_
    refine TS_cut ⟨[(1, []), (4, [])], [(1, (1, []))]⟩ (.mk [.code (codeAt [1, 0, 1, 0, 1, 1] (bodyOf Try.f56)), .blk 0, .code (codeAt [1, 1] (bodyOf Try.f56))] .normal ⟨[(1, .c (.box 1 0)), (4, .c (.lit (.int .i64 (a0.Kind))))], [(1, .box [.lit (.int .i64 (a0.Kind)), .lit (.bool (a0.AckRequest)), .lit (.bool (a0.Pending)), .lit (.bool (a0.Secure)), .lit (.int .u8 (a0.Seq)), .lit (.int .u16 (a0.Pan)), .lit (.int .i64 (a0.Dst.Mode)), .lit (.int .u16 (a0.Dst.Short)), .lit (.int .u64 (a0.Dst.EUI)), .lit (.int .i64 (a0.Src.Mode)), .lit (.int .u16 (a0.Src.Short)), .lit (.int .u64 (a0.Src.EUI)), .lit (.int .u32 (a0.Counter)), .lit (.int .u8 (a0.Key)), .slc 1 0 (List.length a0.Payload) (List.map (ecI .u8) a0.Payload), .slc 1 0 (List.length a0.MIC) (List.map (ecI .u8) a0.MIC)])]⟩) (by kernel_rfl) (by kernel_rfl) ?_
    refine TS_joinB ⟨[(1, [])], [(1, (1, []))]⟩ (fun (v3 : Bool) => [(9, .c (.lit (.bool (v3))))]) (fun (v3 : Bool) => []) (F_frame_Valid_j1 a0) r ?_ ?_
    · clear h
      intro v3 h
      unfold F_frame_Valid_j1 at h
      replace h := condO h
      rcases h with ⟨hb4, h⟩ | ⟨hb4, h⟩
      · subst hb4
        refine TS_T (by kernel_rfl) rfl ?_
        refine TS_go 3 ?_
        replace h := bindO h
        obtain ⟨v5, hv5, h⟩ := h
        refine TS_call [] (ok_frame_validData a0 v5 hv5) (by kernel_rfl) (by kernel_rfl) ?_
        refine TS_go 5 ?_
        have ret := Option.some.inj h
        subst ret
        exact TS_ret (by kernel_rfl) (by kernel_rfl) (by kernel_rfl)
      · subst hb4
        refine TS_F (by kernel_rfl) rfl ?_
        refine TS_go 7 ?_
        have ret := Option.some.inj h
        subst ret
        exact TS_ret (by kernel_rfl) (by kernel_rfl) (by kernel_rfl)
    · refine TS_go 5 ?_
      replace h := condO h
      rcases h with ⟨hb6, h⟩ | ⟨hb6, h⟩
      · refine TS_know 10 (b := true) hb6 (by kernel_rfl) (by kernel_rfl) ?_
        refine TS_know 9 (b := true) hb6 (by kernel_rfl) (by kernel_rfl) ?_
        refine TS_T (by kernel_rfl) rfl ?_
        refine TS_go 1 ?_
        exact TS_meet true ⟨[(1, []), (9, [])], [(1, (1, []))]⟩ h (by kernel_rfl) (by kernel_rfl)
      · refine TS_know 10 (b := false) hb6 (by kernel_rfl) (by kernel_rfl) ?_
        refine TS_know 9 (b := false) hb6 (by kernel_rfl) (by kernel_rfl) ?_
        refine TS_F (by kernel_rfl) rfl ?_
        refine TS_go 4 ?_
        exact TS_meet (a0.Kind == 3) ⟨[(1, []), (9, [])], [(1, (1, []))]⟩ h (by kernel_rfl) (by kernel_rfl)

/-- multihop/transmit.validFrame -/
noncomputable def F_transmit_validFrame (a0 : S_Frame) : Option (Bool) :=
  (F_frame_Valid a0).bind fun v1 =>
  bif v1 then
    some ((a0.Kind != 2))
  else
    some (false)
set_option maxRecDepth 100000 in
set_option maxHeartbeats 40000000 in
theorem ok_transmit_validFrame (a0 : S_Frame) (r : Bool) (h : F_transmit_validFrame a0 = some r) : Con Try.prog 36 [.agg (S_Frame.cs a0)] [] (.c (.lit (.bool (r)))) [] := by
  unfold F_transmit_validFrame at h
  refine con_of [] [] 10 Try.func36 rfl rfl (by kernel_rfl) (fun K => ?_)
  refine TS_go 8 ?_
  replace h := bindO h
  obtain ⟨v1, hv1, h⟩ := h
  refine TS_call [] (ok_frame_Valid a0 v1 hv1) (by kernel_rfl) (by kernel_rfl) ?_
  refine TS_go 1 ?_
  replace h := condO h
  rcases h with ⟨hb2, h⟩ | ⟨hb2, h⟩
  · subst hb2
    refine TS_go 7 ?_
    have ret := Option.some.inj h
    subst ret
    exact TS_ret (by kernel_rfl) (by kernel_rfl) (by kernel_rfl)
  · subst hb2
    refine TS_go 7 ?_
    have ret := Option.some.inj h
    subst ret
    exact TS_ret (by kernel_rfl) (by kernel_rfl) (by kernel_rfl)

/-- multihop/backoff.exponent -/
noncomputable def F_backoff_exponent (a0 : Int) : Option (Int) :=
  some (if 5 < IntKind.wrap .i64 (3 + a0) then 5 else IntKind.wrap .i64 (3 + a0))
set_option maxRecDepth 100000 in
set_option maxHeartbeats 40000000 in
theorem ok_backoff_exponent (a0 : Int) (r : Int) (h : F_backoff_exponent a0 = some r) : Con Try.prog 64 [.c (.lit (.int .i64 (a0)))] [] (.c (.lit (.int .i64 (r)))) [] := by
  unfold F_backoff_exponent at h
  refine con_of [] [] 6 Try.func64 rfl rfl (by kernel_rfl) (fun K => ?_)
  refine TS_go 12 ?_
  have ret := Option.some.inj h
  subst ret
  exact TS_ret (by kernel_rfl) (by kernel_rfl) (by kernel_rfl)

/-- multihop/backoff.Valid -/
noncomputable def F_backoff_Valid (a0 : S_Backoff) : Option (Bool) :=
  bif (decide (a0.Busy < 0)) then
    some (false)
  else
    bif (decide (a0.Busy > 5)) then
      some (false)
    else
      (F_backoff_exponent a0.Busy).bind fun v3 =>
      bif (a0.Exponent != v3) then
        some (false)
      else
        bif (a0.State == 4) then
          bif (a0.Busy == 5) then
            bif (a0.Clear == 2) then
              some ((a0.Wait == 0))
            else
              some (false)
          else
            some (false)
        else
          bif (decide (a0.Busy > 4)) then
            some (false)
          else
            bif (a0.State == 1) then
              bif (a0.Clear == 2) then
                bif (decide (a0.Wait ≥ 1)) then
                  bif decide (0 ≤ a0.Exponent) then
                    some ((decide (a0.Wait ≤ (IntKind.wrap .i64 ((ishl .i64 1 a0.Exponent) - 1)))))
                  else none
                else
                  some (false)
              else
                some (false)
            else
              bif (a0.State == 2) then
                bif (decide (a0.Clear ≥ 1)) then
                  bif (decide (a0.Clear ≤ 2)) then
                    some ((a0.Wait == 0))
                  else
                    some (false)
                else
                  some (false)
              else
                bif (a0.State == 3) then
                  bif (a0.Clear == 0) then
                    some ((a0.Wait == 0))
                  else
                    some (false)
                else
                  some (false)
set_option maxRecDepth 100000 in
set_option maxHeartbeats 40000000 in
theorem ok_backoff_Valid (a0 : S_Backoff) (r : Bool) (h : F_backoff_Valid a0 = some r) : Con Try.prog 49 [.agg (S_Backoff.cs a0)] [] (.c (.lit (.bool (r)))) [] := by
  unfold F_backoff_Valid at h
  refine con_of [] [] 84 Try.func49 rfl rfl (by kernel_rfl) (fun K => ?_)
  refine TS_go 7 ?_
  refine TS_draw (by kernel_rfl) ?_
  refine TD_go 3 ?_
  replace h := condO h
  rcases h with ⟨hb1, h⟩ | ⟨hb1, h⟩
  · refine TD_know 6 (b := true) hb1 trivial (by kernel_rfl) (by kernel_rfl) ?_
    refine TD_go 12 ?_
    refine TD_end (by kernel_rfl) ?_
    refine TS_T (by kernel_rfl) rfl ?_
    refine TS_go 6 ?_
    have ret := Option.some.inj h
    subst ret
    exact TS_ret (by kernel_rfl) (by kernel_rfl) (by kernel_rfl)
  · refine TD_know 6 (b := false) hb1 trivial (by kernel_rfl) (by kernel_rfl) ?_
    refine TD_go 4 ?_
    replace h := condO h
    rcases h with ⟨hb2, h⟩ | ⟨hb2, h⟩
    · refine TD_know 11 (b := true) hb2 trivial (by kernel_rfl) (by kernel_rfl) ?_
      refine TD_go 7 ?_
      refine TD_end (by kernel_rfl) ?_
      refine TS_T (by kernel_rfl) rfl ?_
      refine TS_go 6 ?_
      have ret := Option.some.inj h
      subst ret
      exact TS_ret (by kernel_rfl) (by kernel_rfl) (by kernel_rfl)
    · refine TD_know 11 (b := false) hb2 trivial (by kernel_rfl) (by kernel_rfl) ?_
      refine TD_go 4 ?_
      replace h := bindO h
      obtain ⟨v3, hv3, h⟩ := h
      refine TD_call [] (ok_backoff_exponent a0.Busy v3 hv3) (by kernel_rfl) (by kernel_rfl) ?_
      refine TD_go 2 ?_
      refine TD_end (by kernel_rfl) ?_
      replace h := condO h
      rcases h with ⟨hb4, h⟩ | ⟨hb4, h⟩
      · refine TS_know 5 (b := false) hb1 (by kernel_rfl) (by kernel_rfl) ?_
        refine TS_know 9 (b := false) hb2 (by kernel_rfl) (by kernel_rfl) ?_
        refine TS_know 10 (b := false) hb2 (by kernel_rfl) (by kernel_rfl) ?_
        refine TS_know 17 (b := true) hb4 (by kernel_rfl) (by kernel_rfl) ?_
        refine TS_know 18 (b := true) hb4 (by kernel_rfl) (by kernel_rfl) ?_
        refine TS_T (by kernel_rfl) rfl ?_
        refine TS_go 6 ?_
        have ret := Option.some.inj h
        subst ret
        exact TS_ret (by kernel_rfl) (by kernel_rfl) (by kernel_rfl)
      · refine TS_know 5 (b := false) hb1 (by kernel_rfl) (by kernel_rfl) ?_
        refine TS_know 9 (b := false) hb2 (by kernel_rfl) (by kernel_rfl) ?_
        refine TS_know 10 (b := false) hb2 (by kernel_rfl) (by kernel_rfl) ?_
        refine TS_know 17 (b := false) hb4 (by kernel_rfl) (by kernel_rfl) ?_
        refine TS_know 18 (b := false) hb4 (by kernel_rfl) (by kernel_rfl) ?_
        refine TS_F (by kernel_rfl) rfl ?_
        refine TS_go 8 ?_
        replace h := condO h
        rcases h with ⟨hb5, h⟩ | ⟨hb5, h⟩
        · refine TS_know 21 (b := true) hb5 (by kernel_rfl) (by kernel_rfl) ?_
          refine TS_T (by kernel_rfl) rfl ?_
          refine TS_go 6 ?_
          replace h := condO h
          rcases h with ⟨hb6, h⟩ | ⟨hb6, h⟩
          · refine TS_know 24 (b := true) hb6 (by kernel_rfl) (by kernel_rfl) ?_
            refine TS_know 25 (b := true) hb6 (by kernel_rfl) (by kernel_rfl) ?_
            refine TS_go 5 ?_
            replace h := condO h
            rcases h with ⟨hb7, h⟩ | ⟨hb7, h⟩
            · refine TS_know 28 (b := true) hb7 (by kernel_rfl) (by kernel_rfl) ?_
              refine TS_know 29 (b := true) hb7 (by kernel_rfl) (by kernel_rfl) ?_
              refine TS_know 30 (b := true) hb7 (by kernel_rfl) (by kernel_rfl) ?_
              refine TS_go 8 ?_
              have ret := Option.some.inj h
              subst ret
              exact TS_ret (by kernel_rfl) (by kernel_rfl) (by kernel_rfl)
            · refine TS_know 28 (b := false) hb7 (by kernel_rfl) (by kernel_rfl) ?_
              refine TS_know 29 (b := false) hb7 (by kernel_rfl) (by kernel_rfl) ?_
              refine TS_know 30 (b := false) hb7 (by kernel_rfl) (by kernel_rfl) ?_
              refine TS_go 8 ?_
              have ret := Option.some.inj h
              subst ret
              exact TS_ret (by kernel_rfl) (by kernel_rfl) (by kernel_rfl)
          · refine TS_know 24 (b := false) hb6 (by kernel_rfl) (by kernel_rfl) ?_
            refine TS_know 25 (b := false) hb6 (by kernel_rfl) (by kernel_rfl) ?_
            refine TS_go 13 ?_
            have ret := Option.some.inj h
            subst ret
            exact TS_ret (by kernel_rfl) (by kernel_rfl) (by kernel_rfl)
        · refine TS_know 21 (b := false) hb5 (by kernel_rfl) (by kernel_rfl) ?_
          refine TS_F (by kernel_rfl) rfl ?_
          refine TS_go 8 ?_
          replace h := condO h
          rcases h with ⟨hb8, h⟩ | ⟨hb8, h⟩
          · refine TS_know 37 (b := true) hb8 (by kernel_rfl) (by kernel_rfl) ?_
            refine TS_T (by kernel_rfl) rfl ?_
            refine TS_go 6 ?_
            have ret := Option.some.inj h
            subst ret
            exact TS_ret (by kernel_rfl) (by kernel_rfl) (by kernel_rfl)
          · refine TS_know 37 (b := false) hb8 (by kernel_rfl) (by kernel_rfl) ?_
            refine TS_F (by kernel_rfl) rfl ?_
            refine TS_go 13 ?_
            replace h := condO h
            rcases h with ⟨hb9, h⟩ | ⟨hb9, h⟩
            · refine TS_know 41 (b := true) hb9 (by kernel_rfl) (by kernel_rfl) ?_
              refine TS_know 40 (b := true) hb9 (by kernel_rfl) (by kernel_rfl) ?_
              refine TS_T (by kernel_rfl) rfl ?_
              refine TS_go 1 ?_
              refine TS_draw (by kernel_rfl) ?_
              refine TD_go 3 ?_
              replace h := condO h
              rcases h with ⟨hb10, h⟩ | ⟨hb10, h⟩
              · refine TD_know 45 (b := true) hb10 trivial (by kernel_rfl) (by kernel_rfl) ?_
                refine TD_go 4 ?_
                replace h := condO h
                rcases h with ⟨hb11, h⟩ | ⟨hb11, h⟩
                · refine TD_know 50 (b := true) hb11 trivial (by kernel_rfl) (by kernel_rfl) ?_
                  refine TD_go 4 ?_
                  replace h := chkO h
                  obtain ⟨hc12, h⟩ := h
                  refine TD_num (op := .shl) (k := .i64) (k' := .i64) (m := 1) (i := a0.Exponent) (of_decide_eq_true hc12) rfl (by simp) (by kernel_rfl) (by kernel_rfl) ?_
                  refine TD_go 4 ?_
                  refine TD_end (by kernel_rfl) ?_
                  refine TS_go 3 ?_
                  have ret := Option.some.inj h
                  subst ret
                  exact TS_ret (by kernel_rfl) (by kernel_rfl) (by kernel_rfl)
                · refine TD_know 50 (b := false) hb11 trivial (by kernel_rfl) (by kernel_rfl) ?_
                  refine TD_go 9 ?_
                  refine TD_end (by kernel_rfl) ?_
                  refine TS_go 3 ?_
                  have ret := Option.some.inj h
                  subst ret
                  exact TS_ret (by kernel_rfl) (by kernel_rfl) (by kernel_rfl)
              · refine TD_know 45 (b := false) hb10 trivial (by kernel_rfl) (by kernel_rfl) ?_
                refine TD_go 14 ?_
                refine TD_end (by kernel_rfl) ?_
                refine TS_go 3 ?_
                have ret := Option.some.inj h
                subst ret
                exact TS_ret (by kernel_rfl) (by kernel_rfl) (by kernel_rfl)
            · refine TS_know 41 (b := false) hb9 (by kernel_rfl) (by kernel_rfl) ?_
              refine TS_know 40 (b := false) hb9 (by kernel_rfl) (by kernel_rfl) ?_
              refine TS_F (by kernel_rfl) rfl ?_
              refine TS_go 5 ?_
              replace h := condO h
              rcases h with ⟨hb13, h⟩ | ⟨hb13, h⟩
              · refine TS_know 60 (b := true) hb13 (by kernel_rfl) (by kernel_rfl) ?_
                refine TS_know 59 (b := true) hb13 (by kernel_rfl) (by kernel_rfl) ?_
                refine TS_T (by kernel_rfl) rfl ?_
                refine TS_go 6 ?_
                replace h := condO h
                rcases h with ⟨hb14, h⟩ | ⟨hb14, h⟩
                · refine TS_know 63 (b := true) hb14 (by kernel_rfl) (by kernel_rfl) ?_
                  refine TS_know 64 (b := true) hb14 (by kernel_rfl) (by kernel_rfl) ?_
                  refine TS_go 5 ?_
                  replace h := condO h
                  rcases h with ⟨hb15, h⟩ | ⟨hb15, h⟩
                  · refine TS_know 67 (b := true) hb15 (by kernel_rfl) (by kernel_rfl) ?_
                    refine TS_know 68 (b := true) hb15 (by kernel_rfl) (by kernel_rfl) ?_
                    refine TS_know 69 (b := true) hb15 (by kernel_rfl) (by kernel_rfl) ?_
                    refine TS_go 9 ?_
                    have ret := Option.some.inj h
                    subst ret
                    exact TS_ret (by kernel_rfl) (by kernel_rfl) (by kernel_rfl)
                  · refine TS_know 67 (b := false) hb15 (by kernel_rfl) (by kernel_rfl) ?_
                    refine TS_know 68 (b := false) hb15 (by kernel_rfl) (by kernel_rfl) ?_
                    refine TS_know 69 (b := false) hb15 (by kernel_rfl) (by kernel_rfl) ?_
                    refine TS_go 9 ?_
                    have ret := Option.some.inj h
                    subst ret
                    exact TS_ret (by kernel_rfl) (by kernel_rfl) (by kernel_rfl)
                · refine TS_know 63 (b := false) hb14 (by kernel_rfl) (by kernel_rfl) ?_
                  refine TS_know 64 (b := false) hb14 (by kernel_rfl) (by kernel_rfl) ?_
                  refine TS_go 14 ?_
                  have ret := Option.some.inj h
                  subst ret
                  exact TS_ret (by kernel_rfl) (by kernel_rfl) (by kernel_rfl)
              · refine TS_know 60 (b := false) hb13 (by kernel_rfl) (by kernel_rfl) ?_
                refine TS_know 59 (b := false) hb13 (by kernel_rfl) (by kernel_rfl) ?_
                refine TS_F (by kernel_rfl) rfl ?_
                refine TS_go 5 ?_
                replace h := condO h
                rcases h with ⟨hb16, h⟩ | ⟨hb16, h⟩
                · refine TS_know 75 (b := true) hb16 (by kernel_rfl) (by kernel_rfl) ?_
                  refine TS_know 74 (b := true) hb16 (by kernel_rfl) (by kernel_rfl) ?_
                  refine TS_T (by kernel_rfl) rfl ?_
                  refine TS_go 6 ?_
                  replace h := condO h
                  rcases h with ⟨hb17, h⟩ | ⟨hb17, h⟩
                  · refine TS_know 78 (b := true) hb17 (by kernel_rfl) (by kernel_rfl) ?_
                    refine TS_know 79 (b := true) hb17 (by kernel_rfl) (by kernel_rfl) ?_
                    refine TS_go 9 ?_
                    have ret := Option.some.inj h
                    subst ret
                    exact TS_ret (by kernel_rfl) (by kernel_rfl) (by kernel_rfl)
                  · refine TS_know 78 (b := false) hb17 (by kernel_rfl) (by kernel_rfl) ?_
                    refine TS_know 79 (b := false) hb17 (by kernel_rfl) (by kernel_rfl) ?_
                    refine TS_go 9 ?_
                    have ret := Option.some.inj h
                    subst ret
                    exact TS_ret (by kernel_rfl) (by kernel_rfl) (by kernel_rfl)
                · refine TS_know 75 (b := false) hb16 (by kernel_rfl) (by kernel_rfl) ?_
                  refine TS_know 74 (b := false) hb16 (by kernel_rfl) (by kernel_rfl) ?_
                  refine TS_F (by kernel_rfl) rfl ?_
                  refine TS_go 7 ?_
                  have ret := Option.some.inj h
                  subst ret
                  exact TS_ret (by kernel_rfl) (by kernel_rfl) (by kernel_rfl)

/-- multihop/backoff.Ended -/
noncomputable def F_backoff_Ended (a0 : S_Backoff) : Option (Bool) :=
  (F_backoff_Valid a0).bind fun v1 =>
  bif v1 then
    bif (a0.State == 3) then
      some (true)
    else
      some ((a0.State == 4))
  else
    some (false)
set_option maxRecDepth 100000 in
set_option maxHeartbeats 40000000 in
theorem ok_backoff_Ended (a0 : S_Backoff) (r : Bool) (h : F_backoff_Ended a0 = some r) : Con Try.prog 50 [.agg (S_Backoff.cs a0)] [] (.c (.lit (.bool (r)))) [] := by
  unfold F_backoff_Ended at h
  refine con_of [] [] 15 Try.func50 rfl rfl (by kernel_rfl) (fun K => ?_)
  refine TS_go 8 ?_
  replace h := bindO h
  obtain ⟨v1, hv1, h⟩ := h
  refine TS_call [] (ok_backoff_Valid a0 v1 hv1) (by kernel_rfl) (by kernel_rfl) ?_
  refine TS_go 1 ?_
  replace h := condO h
  rcases h with ⟨hb2, h⟩ | ⟨hb2, h⟩
  · subst hb2
    refine TS_go 4 ?_
    replace h := condO h
    rcases h with ⟨hb3, h⟩ | ⟨hb3, h⟩
    · refine TS_know 8 (b := true) hb3 (by kernel_rfl) (by kernel_rfl) ?_
      refine TS_know 9 (b := true) hb3 (by kernel_rfl) (by kernel_rfl) ?_
      refine TS_go 8 ?_
      have ret := Option.some.inj h
      subst ret
      exact TS_ret (by kernel_rfl) (by kernel_rfl) (by kernel_rfl)
    · refine TS_know 8 (b := false) hb3 (by kernel_rfl) (by kernel_rfl) ?_
      refine TS_know 9 (b := false) hb3 (by kernel_rfl) (by kernel_rfl) ?_
      refine TS_go 8 ?_
      have ret := Option.some.inj h
      subst ret
      exact TS_ret (by kernel_rfl) (by kernel_rfl) (by kernel_rfl)
  · subst hb2
    refine TS_go 12 ?_
    have ret := Option.some.inj h
    subst ret
    exact TS_ret (by kernel_rfl) (by kernel_rfl) (by kernel_rfl)
end
end Go.Proofs.Ytleadcbdbfjefaa
