/-
  Part 5 of what the proof of this law rests on.
-/
import Derived.Test.YtpngoffbogingaaKUOpens4
namespace Go.Proofs.Ytpngoffbogingaa
section
open Go.RowKit
attribute [local irreducible] TS go TD goD

/-- multihop/frame.addrBytes -/
noncomputable def F_frame_addrBytes (a0 : S_Addr) : Option (Int) :=
  bif (a0.Mode == 2) then
    some (2)
  else
    bif (a0.Mode == 3) then
      some (8)
    else
      some (0)
set_option maxRecDepth 100000 in
set_option maxHeartbeats 40000000 in
theorem ok_frame_addrBytes (a0 : S_Addr) (r : Int) (h : F_frame_addrBytes a0 = some r) : Con Try.prog 99 [.agg (S_Addr.cs a0)] [] (.c (.lit (.int .i64 (r)))) [] := by
  unfold F_frame_addrBytes at h
  refine con_of [] [] 9 Try.func99 rfl rfl (by kernel_rfl) (fun K => ?_)
  refine TS_go 17 ?_
  replace h := condO h
  rcases h with ⟨hb1, h⟩ | ⟨hb1, h⟩
  · refine TS_know 6 (b := true) hb1 (by kernel_rfl) (by kernel_rfl) ?_
    refine TS_know 5 (b := true) hb1 (by kernel_rfl) (by kernel_rfl) ?_
    refine TS_T (by kernel_rfl) rfl ?_
    refine TS_go 7 ?_
    have ret := Option.some.inj h
    subst ret
    exact TS_ret (by kernel_rfl) (by kernel_rfl) (by kernel_rfl)
  · refine TS_know 6 (b := false) hb1 (by kernel_rfl) (by kernel_rfl) ?_
    refine TS_know 5 (b := false) hb1 (by kernel_rfl) (by kernel_rfl) ?_
    refine TS_F (by kernel_rfl) rfl ?_
    refine TS_go 5 ?_
    replace h := condO h
    rcases h with ⟨hb2, h⟩ | ⟨hb2, h⟩
    · refine TS_know 8 (b := true) hb2 (by kernel_rfl) (by kernel_rfl) ?_
      refine TS_know 7 (b := true) hb2 (by kernel_rfl) (by kernel_rfl) ?_
      refine TS_T (by kernel_rfl) rfl ?_
      refine TS_go 7 ?_
      have ret := Option.some.inj h
      subst ret
      exact TS_ret (by kernel_rfl) (by kernel_rfl) (by kernel_rfl)
    · refine TS_know 8 (b := false) hb2 (by kernel_rfl) (by kernel_rfl) ?_
      refine TS_know 7 (b := false) hb2 (by kernel_rfl) (by kernel_rfl) ?_
      refine TS_F (by kernel_rfl) rfl ?_
      refine TS_go 7 ?_
      have ret := Option.some.inj h
      subst ret
      exact TS_ret (by kernel_rfl) (by kernel_rfl) (by kernel_rfl)

/-- multihop/frame.length -/
noncomputable def F_frame_length_j2  (v2 : Int) : Option (Int) :=
  some (v2)
noncomputable def F_frame_length_j1 (a0 : S_Frame) (v1 : Int) : Option (Int) :=
  bif a0.Secure then
    (F_frame_length_j2) (IntKind.wrap .i64 (v1 + (IntKind.wrap .i64 (5 + (List.length a0.MIC : Int)))))
  else
    (F_frame_length_j2) v1
noncomputable def F_frame_length (a0 : S_Frame) : Option (Int) :=
  bif (a0.Kind != 2) then
    (F_frame_addrBytes a0.Dst).bind fun v5 =>
    (F_frame_addrBytes a0.Src).bind fun v6 =>
    (F_frame_length_j1 a0) (IntKind.wrap .i64 ((IntKind.wrap .i64 ((IntKind.wrap .i64 (3 + (List.length a0.Payload : Int))) + 2)) + (IntKind.wrap .i64 ((IntKind.wrap .i64 (2 + v5)) + v6))))
  else
    (F_frame_length_j1 a0) (IntKind.wrap .i64 ((IntKind.wrap .i64 (3 + (List.length a0.Payload : Int))) + 2))
set_option maxRecDepth 100000 in
set_option maxHeartbeats 40000000 in
theorem ok_frame_length (a0 : S_Frame) (r : Int) (h : F_frame_length a0 = some r) : Con Try.prog 85 [.agg (S_Frame.cs a0)] [] (.c (.lit (.int .i64 (r)))) [] := by
  unfold F_frame_length at h
  refine con_of [] [] 31 Try.func85 rfl rfl (by kernel_rfl) (fun K => ?_)
  refine TS_go 14 ?_
  refine TS_cut ⟨[(1, []), (3, [])], [(1, (1, []))]⟩ (.mk [.code (codeAt [1, 1] (bodyOf Try.f85))] .normal ⟨[(1, .c (.box 1 0)), (3, .c (.lit (.int .i64 (IntKind.wrap .i64 ((IntKind.wrap .i64 (3 + (List.length a0.Payload : Int))) + 2)))))], [(1, .box [.lit (.int .i64 (a0.Kind)), .lit (.bool (a0.AckRequest)), .lit (.bool (a0.Pending)), .lit (.bool (a0.Secure)), .lit (.int .u8 (a0.Seq)), .lit (.int .u16 (a0.Pan)), .lit (.int .i64 (a0.Dst.Mode)), .lit (.int .u16 (a0.Dst.Short)), .lit (.int .u64 (a0.Dst.EUI)), .lit (.int .i64 (a0.Src.Mode)), .lit (.int .u16 (a0.Src.Short)), .lit (.int .u64 (a0.Src.EUI)), .lit (.int .u32 (a0.Counter)), .lit (.int .u8 (a0.Key)), .slc 1 0 (List.length a0.Payload) (List.map (ecI .u8) a0.Payload), .slc 1 0 (List.length a0.MIC) (List.map (ecI .u8) a0.MIC)])]⟩) (by kernel_rfl) (by kernel_rfl) ?_
  refine TS_joinB ⟨[(1, []), (3, [])], [(1, (1, []))]⟩ (fun (v1 : Int) => [(3, .c (.lit (.int .i64 (v1))))]) (fun (v1 : Int) => []) (F_frame_length_j1 a0) r ?_ ?_
  · clear h
    intro v1 h
    unfold F_frame_length_j1 at h
    refine TS_cut ⟨[(1, []), (3, [])], [(1, (1, []))]⟩ (.mk [.code (codeAt [1, 1, 1] (bodyOf Try.f85))] .normal ⟨[(1, .c (.box 1 0)), (3, .c (.lit (.int .i64 (v1))))], [(1, .box [.lit (.int .i64 (a0.Kind)), .lit (.bool (a0.AckRequest)), .lit (.bool (a0.Pending)), .lit (.bool (a0.Secure)), .lit (.int .u8 (a0.Seq)), .lit (.int .u16 (a0.Pan)), .lit (.int .i64 (a0.Dst.Mode)), .lit (.int .u16 (a0.Dst.Short)), .lit (.int .u64 (a0.Dst.EUI)), .lit (.int .i64 (a0.Src.Mode)), .lit (.int .u16 (a0.Src.Short)), .lit (.int .u64 (a0.Src.EUI)), .lit (.int .u32 (a0.Counter)), .lit (.int .u8 (a0.Key)), .slc 1 0 (List.length a0.Payload) (List.map (ecI .u8) a0.Payload), .slc 1 0 (List.length a0.MIC) (List.map (ecI .u8) a0.MIC)])]⟩) (by kernel_rfl) (by kernel_rfl) ?_
    refine TS_joinB ⟨[(3, [])], []⟩ (fun (v2 : Int) => [(3, .c (.lit (.int .i64 (v2))))]) (fun (v2 : Int) => []) (F_frame_length_j2) r ?_ ?_
    · clear h
      intro v2 h
      unfold F_frame_length_j2 at h
      refine TS_go 6 ?_
      have ret := Option.some.inj h
      subst ret
      exact TS_ret (by kernel_rfl) (by kernel_rfl) (by kernel_rfl)
    · refine TS_go 5 ?_
      replace h := condO h
      rcases h with ⟨hb3, h⟩ | ⟨hb3, h⟩
      · refine TS_know 23 (b := true) hb3 (by kernel_rfl) (by kernel_rfl) ?_
        refine TS_T (by kernel_rfl) rfl ?_
        refine TS_go 9 ?_
        exact TS_meet (IntKind.wrap .i64 (v1 + (IntKind.wrap .i64 (5 + (List.length a0.MIC : Int))))) ⟨[(3, [])], []⟩ h (by kernel_rfl) (by kernel_rfl)
      · refine TS_know 23 (b := false) hb3 (by kernel_rfl) (by kernel_rfl) ?_
        refine TS_F (by kernel_rfl) rfl ?_
        refine TS_go 1 ?_
        exact TS_meet v1 ⟨[(3, [])], []⟩ h (by kernel_rfl) (by kernel_rfl)
  · refine TS_go 6 ?_
    replace h := condO h
    rcases h with ⟨hb4, h⟩ | ⟨hb4, h⟩
    · refine TS_know 11 (b := true) hb4 (by kernel_rfl) (by kernel_rfl) ?_
      refine TS_T (by kernel_rfl) rfl ?_
      refine TS_draw (by kernel_rfl) ?_
      refine TD_go 3 ?_
      replace h := bindO h
      obtain ⟨v5, hv5, h⟩ := h
      refine TD_call [] (ok_frame_addrBytes a0.Dst v5 hv5) (by kernel_rfl) (by kernel_rfl) ?_
      refine TD_go 3 ?_
      replace h := bindO h
      obtain ⟨v6, hv6, h⟩ := h
      refine TD_call [] (ok_frame_addrBytes a0.Src v6 hv6) (by kernel_rfl) (by kernel_rfl) ?_
      refine TD_go 3 ?_
      refine TD_end (by kernel_rfl) ?_
      exact TS_meet (IntKind.wrap .i64 ((IntKind.wrap .i64 ((IntKind.wrap .i64 (3 + (List.length a0.Payload : Int))) + 2)) + (IntKind.wrap .i64 ((IntKind.wrap .i64 (2 + v5)) + v6)))) ⟨[(1, []), (3, [])], [(1, (1, []))]⟩ h (by kernel_rfl) (by kernel_rfl)
    · refine TS_know 11 (b := false) hb4 (by kernel_rfl) (by kernel_rfl) ?_
      refine TS_F (by kernel_rfl) rfl ?_
      refine TS_go 1 ?_
      exact TS_meet (IntKind.wrap .i64 ((IntKind.wrap .i64 (3 + (List.length a0.Payload : Int))) + 2)) ⟨[(1, []), (3, [])], [(1, (1, []))]⟩ h (by kernel_rfl) (by kernel_rfl)

/-- multihop/frame.validData -/
noncomputable def F_frame_validData (a0 : S_Frame) : Option (Bool) :=
  (F_address_Valid a0.Dst).bind fun v1 =>
  bif v1 then
    bif (a0.Dst.Mode == 0) then
      some (false)
    else
      (F_address_Valid a0.Src).bind fun v4 =>
      bif v4 then
        bif (a0.Src.Mode == 0) then
          some (false)
        else
          (F_address_IsBroadcast a0.Src).bind fun v7 =>
          bif v7 then
            some (false)
          else
            bif a0.AckRequest then
              (F_address_IsBroadcast a0.Dst).bind fun v10 =>
              bif v10 then
                some (false)
              else
                bif a0.Secure then
                  bif ((List.length a0.MIC : Int) != 4) then
                    some (false)
                  else
                    (F_frame_length a0).bind fun v14 =>
                    some ((decide (v14 ≤ 127)))
                else
                  bif (a0.Counter != 0) then
                    some (false)
                  else
                    bif (a0.Key != 0) then
                      some (false)
                    else
                      bif ((List.length a0.MIC : Int) != 0) then
                        some (false)
                      else
                        (F_frame_length a0).bind fun v18 =>
                        some ((decide (v18 ≤ 127)))
            else
              bif a0.Secure then
                bif ((List.length a0.MIC : Int) != 4) then
                  some (false)
                else
                  (F_frame_length a0).bind fun v21 =>
                  some ((decide (v21 ≤ 127)))
              else
                bif (a0.Counter != 0) then
                  some (false)
                else
                  bif (a0.Key != 0) then
                    some (false)
                  else
                    bif ((List.length a0.MIC : Int) != 0) then
                      some (false)
                    else
                      (F_frame_length a0).bind fun v25 =>
                      some ((decide (v25 ≤ 127)))
      else
        some (false)
  else
    some (false)
set_option maxRecDepth 100000 in
set_option maxHeartbeats 40000000 in
theorem ok_frame_validData (a0 : S_Frame) (r : Bool) (h : F_frame_validData a0 = some r) : Con Try.prog 67 [.agg (S_Frame.cs a0)] [] (.c (.lit (.bool (r)))) [] := by
  unfold F_frame_validData at h
  refine con_of [] [] 67 Try.func67 rfl rfl (by kernel_rfl) (fun K => ?_)
  refine TS_go 10 ?_
  replace h := bindO h
  obtain ⟨v1, hv1, h⟩ := h
  refine TS_call [] (ok_address_Valid a0.Dst v1 hv1) (by kernel_rfl) (by kernel_rfl) ?_
  refine TS_go 2 ?_
  replace h := condO h
  rcases h with ⟨hb2, h⟩ | ⟨hb2, h⟩
  · subst hb2
    refine TS_go 6 ?_
    replace h := condO h
    rcases h with ⟨hb3, h⟩ | ⟨hb3, h⟩
    · refine TS_know 11 (b := true) hb3 (by kernel_rfl) (by kernel_rfl) ?_
      refine TS_know 12 (b := true) hb3 (by kernel_rfl) (by kernel_rfl) ?_
      refine TS_know 13 (b := true) hb3 (by kernel_rfl) (by kernel_rfl) ?_
      refine TS_go 12 ?_
      refine TS_T (by kernel_rfl) rfl ?_
      refine TS_go 6 ?_
      have ret := Option.some.inj h
      subst ret
      exact TS_ret (by kernel_rfl) (by kernel_rfl) (by kernel_rfl)
    · refine TS_know 11 (b := false) hb3 (by kernel_rfl) (by kernel_rfl) ?_
      refine TS_know 12 (b := false) hb3 (by kernel_rfl) (by kernel_rfl) ?_
      refine TS_know 13 (b := false) hb3 (by kernel_rfl) (by kernel_rfl) ?_
      refine TS_go 2 ?_
      replace h := bindO h
      obtain ⟨v4, hv4, h⟩ := h
      refine TS_call [] (ok_address_Valid a0.Src v4 hv4) (by kernel_rfl) (by kernel_rfl) ?_
      refine TS_go 3 ?_
      replace h := condO h
      rcases h with ⟨hb5, h⟩ | ⟨hb5, h⟩
      · subst hb5
        refine TS_go 6 ?_
        replace h := condO h
        rcases h with ⟨hb6, h⟩ | ⟨hb6, h⟩
        · refine TS_know 23 (b := true) hb6 (by kernel_rfl) (by kernel_rfl) ?_
          refine TS_know 24 (b := true) hb6 (by kernel_rfl) (by kernel_rfl) ?_
          refine TS_T (by kernel_rfl) rfl ?_
          refine TS_go 6 ?_
          have ret := Option.some.inj h
          subst ret
          exact TS_ret (by kernel_rfl) (by kernel_rfl) (by kernel_rfl)
        · refine TS_know 23 (b := false) hb6 (by kernel_rfl) (by kernel_rfl) ?_
          refine TS_know 24 (b := false) hb6 (by kernel_rfl) (by kernel_rfl) ?_
          refine TS_F (by kernel_rfl) rfl ?_
          refine TS_go 6 ?_
          replace h := bindO h
          obtain ⟨v7, hv7, h⟩ := h
          refine TS_call [] (ok_address_IsBroadcast a0.Src v7 hv7) (by kernel_rfl) (by kernel_rfl) ?_
          refine TS_go 1 ?_
          replace h := condO h
          rcases h with ⟨hb8, h⟩ | ⟨hb8, h⟩
          · subst hb8
            refine TS_go 9 ?_
            refine TS_T (by kernel_rfl) rfl ?_
            refine TS_go 6 ?_
            have ret := Option.some.inj h
            subst ret
            exact TS_ret (by kernel_rfl) (by kernel_rfl) (by kernel_rfl)
          · subst hb8
            refine TS_go 3 ?_
            replace h := condO h
            rcases h with ⟨hb9, h⟩ | ⟨hb9, h⟩
            · refine TS_know 30 (b := true) hb9 (by kernel_rfl) (by kernel_rfl) ?_
              refine TS_know 31 (b := true) hb9 (by kernel_rfl) (by kernel_rfl) ?_
              refine TS_go 2 ?_
              replace h := bindO h
              obtain ⟨v10, hv10, h⟩ := h
              refine TS_call [] (ok_address_IsBroadcast a0.Dst v10 hv10) (by kernel_rfl) (by kernel_rfl) ?_
              refine TS_go 3 ?_
              replace h := condO h
              rcases h with ⟨hb11, h⟩ | ⟨hb11, h⟩
              · subst hb11
                refine TS_T (by kernel_rfl) rfl ?_
                refine TS_go 6 ?_
                have ret := Option.some.inj h
                subst ret
                exact TS_ret (by kernel_rfl) (by kernel_rfl) (by kernel_rfl)
              · subst hb11
                refine TS_F (by kernel_rfl) rfl ?_
                refine TS_go 7 ?_
                replace h := condO h
                rcases h with ⟨hb12, h⟩ | ⟨hb12, h⟩
                · refine TS_know 38 (b := true) hb12 (by kernel_rfl) (by kernel_rfl) ?_
                  refine TS_know 39 (b := true) hb12 (by kernel_rfl) (by kernel_rfl) ?_
                  refine TS_go 6 ?_
                  replace h := condO h
                  rcases h with ⟨hb13, h⟩ | ⟨hb13, h⟩
                  · refine TS_know 43 (b := true) hb13 (by kernel_rfl) (by kernel_rfl) ?_
                    refine TS_know 44 (b := true) hb13 (by kernel_rfl) (by kernel_rfl) ?_
                    refine TS_T (by kernel_rfl) rfl ?_
                    refine TS_go 6 ?_
                    have ret := Option.some.inj h
                    subst ret
                    exact TS_ret (by kernel_rfl) (by kernel_rfl) (by kernel_rfl)
                  · refine TS_know 43 (b := false) hb13 (by kernel_rfl) (by kernel_rfl) ?_
                    refine TS_know 44 (b := false) hb13 (by kernel_rfl) (by kernel_rfl) ?_
                    refine TS_F (by kernel_rfl) rfl ?_
                    refine TS_go 6 ?_
                    refine TS_know 46 (b := true) hb12 (by kernel_rfl) (by kernel_rfl) ?_
                    refine TS_go 18 ?_
                    refine TS_F (by kernel_rfl) rfl ?_
                    refine TS_go 4 ?_
                    replace h := bindO h
                    obtain ⟨v14, hv14, h⟩ := h
                    refine TS_call [] (ok_frame_length a0 v14 hv14) (by kernel_rfl) (by kernel_rfl) ?_
                    refine TS_go 4 ?_
                    have ret := Option.some.inj h
                    subst ret
                    exact TS_ret (by kernel_rfl) (by kernel_rfl) (by kernel_rfl)
                · refine TS_know 38 (b := false) hb12 (by kernel_rfl) (by kernel_rfl) ?_
                  refine TS_know 39 (b := false) hb12 (by kernel_rfl) (by kernel_rfl) ?_
                  refine TS_go 6 ?_
                  refine TS_F (by kernel_rfl) rfl ?_
                  refine TS_go 6 ?_
                  refine TS_know 46 (b := false) hb12 (by kernel_rfl) (by kernel_rfl) ?_
                  refine TS_go 6 ?_
                  replace h := condO h
                  rcases h with ⟨hb15, h⟩ | ⟨hb15, h⟩
                  · refine TS_know 51 (b := true) hb15 (by kernel_rfl) (by kernel_rfl) ?_
                    refine TS_know 52 (b := true) hb15 (by kernel_rfl) (by kernel_rfl) ?_
                    refine TS_go 12 ?_
                    refine TS_T (by kernel_rfl) rfl ?_
                    refine TS_go 6 ?_
                    have ret := Option.some.inj h
                    subst ret
                    exact TS_ret (by kernel_rfl) (by kernel_rfl) (by kernel_rfl)
                  · refine TS_know 51 (b := false) hb15 (by kernel_rfl) (by kernel_rfl) ?_
                    refine TS_know 52 (b := false) hb15 (by kernel_rfl) (by kernel_rfl) ?_
                    refine TS_go 5 ?_
                    replace h := condO h
                    rcases h with ⟨hb16, h⟩ | ⟨hb16, h⟩
                    · refine TS_know 55 (b := true) hb16 (by kernel_rfl) (by kernel_rfl) ?_
                      refine TS_know 56 (b := true) hb16 (by kernel_rfl) (by kernel_rfl) ?_
                      refine TS_know 57 (b := true) hb16 (by kernel_rfl) (by kernel_rfl) ?_
                      refine TS_go 7 ?_
                      refine TS_T (by kernel_rfl) rfl ?_
                      refine TS_go 6 ?_
                      have ret := Option.some.inj h
                      subst ret
                      exact TS_ret (by kernel_rfl) (by kernel_rfl) (by kernel_rfl)
                    · refine TS_know 55 (b := false) hb16 (by kernel_rfl) (by kernel_rfl) ?_
                      refine TS_know 56 (b := false) hb16 (by kernel_rfl) (by kernel_rfl) ?_
                      refine TS_know 57 (b := false) hb16 (by kernel_rfl) (by kernel_rfl) ?_
                      refine TS_go 7 ?_
                      replace h := condO h
                      rcases h with ⟨hb17, h⟩ | ⟨hb17, h⟩
                      · refine TS_know 61 (b := true) hb17 (by kernel_rfl) (by kernel_rfl) ?_
                        refine TS_know 62 (b := true) hb17 (by kernel_rfl) (by kernel_rfl) ?_
                        refine TS_know 63 (b := true) hb17 (by kernel_rfl) (by kernel_rfl) ?_
                        refine TS_T (by kernel_rfl) rfl ?_
                        refine TS_go 6 ?_
                        have ret := Option.some.inj h
                        subst ret
                        exact TS_ret (by kernel_rfl) (by kernel_rfl) (by kernel_rfl)
                      · refine TS_know 61 (b := false) hb17 (by kernel_rfl) (by kernel_rfl) ?_
                        refine TS_know 62 (b := false) hb17 (by kernel_rfl) (by kernel_rfl) ?_
                        refine TS_know 63 (b := false) hb17 (by kernel_rfl) (by kernel_rfl) ?_
                        refine TS_F (by kernel_rfl) rfl ?_
                        refine TS_go 4 ?_
                        replace h := bindO h
                        obtain ⟨v18, hv18, h⟩ := h
                        refine TS_call [] (ok_frame_length a0 v18 hv18) (by kernel_rfl) (by kernel_rfl) ?_
                        refine TS_go 4 ?_
                        have ret := Option.some.inj h
                        subst ret
                        exact TS_ret (by kernel_rfl) (by kernel_rfl) (by kernel_rfl)
            · refine TS_know 30 (b := false) hb9 (by kernel_rfl) (by kernel_rfl) ?_
              refine TS_know 31 (b := false) hb9 (by kernel_rfl) (by kernel_rfl) ?_
              refine TS_go 6 ?_
              refine TS_F (by kernel_rfl) rfl ?_
              refine TS_go 7 ?_
              replace h := condO h
              rcases h with ⟨hb19, h⟩ | ⟨hb19, h⟩
              · refine TS_know 38 (b := true) hb19 (by kernel_rfl) (by kernel_rfl) ?_
                refine TS_know 39 (b := true) hb19 (by kernel_rfl) (by kernel_rfl) ?_
                refine TS_go 6 ?_
                replace h := condO h
                rcases h with ⟨hb20, h⟩ | ⟨hb20, h⟩
                · refine TS_know 43 (b := true) hb20 (by kernel_rfl) (by kernel_rfl) ?_
                  refine TS_know 44 (b := true) hb20 (by kernel_rfl) (by kernel_rfl) ?_
                  refine TS_T (by kernel_rfl) rfl ?_
                  refine TS_go 6 ?_
                  have ret := Option.some.inj h
                  subst ret
                  exact TS_ret (by kernel_rfl) (by kernel_rfl) (by kernel_rfl)
                · refine TS_know 43 (b := false) hb20 (by kernel_rfl) (by kernel_rfl) ?_
                  refine TS_know 44 (b := false) hb20 (by kernel_rfl) (by kernel_rfl) ?_
                  refine TS_F (by kernel_rfl) rfl ?_
                  refine TS_go 6 ?_
                  refine TS_know 46 (b := true) hb19 (by kernel_rfl) (by kernel_rfl) ?_
                  refine TS_go 18 ?_
                  refine TS_F (by kernel_rfl) rfl ?_
                  refine TS_go 4 ?_
                  replace h := bindO h
                  obtain ⟨v21, hv21, h⟩ := h
                  refine TS_call [] (ok_frame_length a0 v21 hv21) (by kernel_rfl) (by kernel_rfl) ?_
                  refine TS_go 4 ?_
                  have ret := Option.some.inj h
                  subst ret
                  exact TS_ret (by kernel_rfl) (by kernel_rfl) (by kernel_rfl)
              · refine TS_know 38 (b := false) hb19 (by kernel_rfl) (by kernel_rfl) ?_
                refine TS_know 39 (b := false) hb19 (by kernel_rfl) (by kernel_rfl) ?_
                refine TS_go 6 ?_
                refine TS_F (by kernel_rfl) rfl ?_
                refine TS_go 6 ?_
                refine TS_know 46 (b := false) hb19 (by kernel_rfl) (by kernel_rfl) ?_
                refine TS_go 6 ?_
                replace h := condO h
                rcases h with ⟨hb22, h⟩ | ⟨hb22, h⟩
                · refine TS_know 51 (b := true) hb22 (by kernel_rfl) (by kernel_rfl) ?_
                  refine TS_know 52 (b := true) hb22 (by kernel_rfl) (by kernel_rfl) ?_
                  refine TS_go 12 ?_
                  refine TS_T (by kernel_rfl) rfl ?_
                  refine TS_go 6 ?_
                  have ret := Option.some.inj h
                  subst ret
                  exact TS_ret (by kernel_rfl) (by kernel_rfl) (by kernel_rfl)
                · refine TS_know 51 (b := false) hb22 (by kernel_rfl) (by kernel_rfl) ?_
                  refine TS_know 52 (b := false) hb22 (by kernel_rfl) (by kernel_rfl) ?_
                  refine TS_go 5 ?_
                  replace h := condO h
                  rcases h with ⟨hb23, h⟩ | ⟨hb23, h⟩
                  · refine TS_know 55 (b := true) hb23 (by kernel_rfl) (by kernel_rfl) ?_
                    refine TS_know 56 (b := true) hb23 (by kernel_rfl) (by kernel_rfl) ?_
                    refine TS_know 57 (b := true) hb23 (by kernel_rfl) (by kernel_rfl) ?_
                    refine TS_go 7 ?_
                    refine TS_T (by kernel_rfl) rfl ?_
                    refine TS_go 6 ?_
                    have ret := Option.some.inj h
                    subst ret
                    exact TS_ret (by kernel_rfl) (by kernel_rfl) (by kernel_rfl)
                  · refine TS_know 55 (b := false) hb23 (by kernel_rfl) (by kernel_rfl) ?_
                    refine TS_know 56 (b := false) hb23 (by kernel_rfl) (by kernel_rfl) ?_
                    refine TS_know 57 (b := false) hb23 (by kernel_rfl) (by kernel_rfl) ?_
                    refine TS_go 7 ?_
                    replace h := condO h
                    rcases h with ⟨hb24, h⟩ | ⟨hb24, h⟩
                    · refine TS_know 61 (b := true) hb24 (by kernel_rfl) (by kernel_rfl) ?_
                      refine TS_know 62 (b := true) hb24 (by kernel_rfl) (by kernel_rfl) ?_
                      refine TS_know 63 (b := true) hb24 (by kernel_rfl) (by kernel_rfl) ?_
                      refine TS_T (by kernel_rfl) rfl ?_
                      refine TS_go 6 ?_
                      have ret := Option.some.inj h
                      subst ret
                      exact TS_ret (by kernel_rfl) (by kernel_rfl) (by kernel_rfl)
                    · refine TS_know 61 (b := false) hb24 (by kernel_rfl) (by kernel_rfl) ?_
                      refine TS_know 62 (b := false) hb24 (by kernel_rfl) (by kernel_rfl) ?_
                      refine TS_know 63 (b := false) hb24 (by kernel_rfl) (by kernel_rfl) ?_
                      refine TS_F (by kernel_rfl) rfl ?_
                      refine TS_go 4 ?_
                      replace h := bindO h
                      obtain ⟨v25, hv25, h⟩ := h
                      refine TS_call [] (ok_frame_length a0 v25 hv25) (by kernel_rfl) (by kernel_rfl) ?_
                      refine TS_go 4 ?_
                      have ret := Option.some.inj h
                      subst ret
                      exact TS_ret (by kernel_rfl) (by kernel_rfl) (by kernel_rfl)
      · subst hb5
        refine TS_go 6 ?_
        refine TS_T (by kernel_rfl) rfl ?_
        refine TS_go 6 ?_
        have ret := Option.some.inj h
        subst ret
        exact TS_ret (by kernel_rfl) (by kernel_rfl) (by kernel_rfl)
  · subst hb2
    refine TS_go 18 ?_
    refine TS_T (by kernel_rfl) rfl ?_
    refine TS_go 6 ?_
    have ret := Option.some.inj h
    subst ret
    exact TS_ret (by kernel_rfl) (by kernel_rfl) (by kernel_rfl)

/-- multihop/frame.Valid -/
noncomputable def F_frame_Valid_j1 (a0 : S_Frame) (v3 : Bool) : Option (Bool) :=
  bif v3 then
    (F_frame_validData a0).bind fun v5 =>
    some (v5)
  else
    some (false)
noncomputable def F_frame_Valid (a0 : S_Frame) : Option (Bool) :=
  bif (a0.Kind == 2) then
    (F_frame_validAck a0).bind fun v2 =>
    some (v2)
  else
    bif (a0.Kind == 1) then
      (F_frame_Valid_j1 a0) true
    else
      (F_frame_Valid_j1 a0) (a0.Kind == 3)
set_option maxRecDepth 100000 in
set_option maxHeartbeats 40000000 in
theorem ok_frame_Valid (a0 : S_Frame) (r : Bool) (h : F_frame_Valid a0 = some r) : Con Try.prog 37 [.agg (S_Frame.cs a0)] [] (.c (.lit (.bool (r)))) [] := by
  unfold F_frame_Valid at h
  refine con_of [] [] 14 Try.func37 rfl rfl (by kernel_rfl) (fun K => ?_)
  refine TS_go 17 ?_
  replace h := condO h
  rcases h with ⟨hb1, h⟩ | ⟨hb1, h⟩
  · refine TS_know 6 (b := true) hb1 (by kernel_rfl) (by kernel_rfl) ?_
    refine TS_know 5 (b := true) hb1 (by kernel_rfl) (by kernel_rfl) ?_
    refine TS_T (by kernel_rfl) rfl ?_
    refine TS_go 3 ?_
    replace h := bindO h
    obtain ⟨v2, hv2, h⟩ := h
    refine TS_call [] (ok_frame_validAck a0 v2 hv2) (by kernel_rfl) (by kernel_rfl) ?_
    refine TS_go 5 ?_
    have ret := Option.some.inj h
    subst ret
    exact TS_ret (by kernel_rfl) (by kernel_rfl) (by kernel_rfl)
  · refine TS_know 6 (b := false) hb1 (by kernel_rfl) (by kernel_rfl) ?_
    refine TS_know 5 (b := false) hb1 (by kernel_rfl) (by kernel_rfl) ?_
    refine TS_F (by kernel_rfl) rfl ?_
    refine TS_cut ⟨[(1, []), (4, [])], [(1, (1, []))]⟩ (.mk [.code (codeAt [1, 0, 1, 0, 1, 1] (bodyOf Try.f37)), .blk 0, .code (codeAt [1, 1] (bodyOf Try.f37))] .normal ⟨[(1, .c (.box 1 0)), (4, .c (.lit (.int .i64 (a0.Kind))))], [(1, .box [.lit (.int .i64 (a0.Kind)), .lit (.bool (a0.AckRequest)), .lit (.bool (a0.Pending)), .lit (.bool (a0.Secure)), .lit (.int .u8 (a0.Seq)), .lit (.int .u16 (a0.Pan)), .lit (.int .i64 (a0.Dst.Mode)), .lit (.int .u16 (a0.Dst.Short)), .lit (.int .u64 (a0.Dst.EUI)), .lit (.int .i64 (a0.Src.Mode)), .lit (.int .u16 (a0.Src.Short)), .lit (.int .u64 (a0.Src.EUI)), .lit (.int .u32 (a0.Counter)), .lit (.int .u8 (a0.Key)), .slc 1 0 (List.length a0.Payload) (List.map (ecI .u8) a0.Payload), .slc 1 0 (List.length a0.MIC) (List.map (ecI .u8) a0.MIC)])]⟩) (by kernel_rfl) (by kernel_rfl) ?_
    refine TS_joinB ⟨[(1, [])], [(1, (1, []))]⟩ (fun (v3 : Bool) => [(9, .c (.lit (.bool (v3))))]) (fun (v3 : Bool) => []) (F_frame_Valid_j1 a0) r ?_ ?_
    · clear h
      intro v3 h
      unfold F_frame_Valid_j1 at h
      replace h := condO h
      rcases h with ⟨hb4, h⟩ | ⟨hb4, h⟩
      · subst hb4
        refine TS_T (by kernel_rfl) rfl ?_
        refine TS_go 3 ?_
        replace h := bindO h
        obtain ⟨v5, hv5, h⟩ := h
        refine TS_call [] (ok_frame_validData a0 v5 hv5) (by kernel_rfl) (by kernel_rfl) ?_
        refine TS_go 5 ?_
        have ret := Option.some.inj h
        subst ret
        exact TS_ret (by kernel_rfl) (by kernel_rfl) (by kernel_rfl)
      · subst hb4
        refine TS_F (by kernel_rfl) rfl ?_
        refine TS_go 7 ?_
        have ret := Option.some.inj h
        subst ret
        exact TS_ret (by kernel_rfl) (by kernel_rfl) (by kernel_rfl)
    · refine TS_go 5 ?_
      replace h := condO h
      rcases h with ⟨hb6, h⟩ | ⟨hb6, h⟩
      · refine TS_know 10 (b := true) hb6 (by kernel_rfl) (by kernel_rfl) ?_
        refine TS_know 9 (b := true) hb6 (by kernel_rfl) (by kernel_rfl) ?_
        refine TS_T (by kernel_rfl) rfl ?_
        refine TS_go 1 ?_
        exact TS_meet true ⟨[(1, []), (9, [])], [(1, (1, []))]⟩ h (by kernel_rfl) (by kernel_rfl)
      · refine TS_know 10 (b := false) hb6 (by kernel_rfl) (by kernel_rfl) ?_
        refine TS_know 9 (b := false) hb6 (by kernel_rfl) (by kernel_rfl) ?_
        refine TS_F (by kernel_rfl) rfl ?_
        refine TS_go 4 ?_
        exact TS_meet (a0.Kind == 3) ⟨[(1, []), (9, [])], [(1, (1, []))]⟩ h (by kernel_rfl) (by kernel_rfl)

/-- multihop/frame.flag -/
noncomputable def F_frame_flag (a0 : Bool) (a1 : Int) : Option (Int) :=
  bif a0 then
    some (a1)
  else
    some (0)
set_option maxRecDepth 100000 in
set_option maxHeartbeats 40000000 in
theorem ok_frame_flag (a0 : Bool) (a1 : Int) (r : Int) (h : F_frame_flag a0 a1 = some r) : Con Try.prog 68 [.c (.lit (.bool (a0))), .c (.lit (.int .u8 (a1)))] [] (.c (.lit (.int .u8 (r)))) [] := by
  unfold F_frame_flag at h
  refine con_of [] [] 7 Try.func68 rfl rfl (by kernel_rfl) (fun K => ?_)
  refine TS_go 9 ?_
  replace h := condO h
  rcases h with ⟨hb1, h⟩ | ⟨hb1, h⟩
  · subst hb1
    refine TS_T (by kernel_rfl) rfl ?_
    refine TS_go 7 ?_
    have ret := Option.some.inj h
    subst ret
    exact TS_ret (by kernel_rfl) (by kernel_rfl) (by kernel_rfl)
  · subst hb1
    refine TS_F (by kernel_rfl) rfl ?_
    refine TS_go 6 ?_
    have ret := Option.some.inj h
    subst ret
    exact TS_ret (by kernel_rfl) (by kernel_rfl) (by kernel_rfl)

/-- multihop/octets.Append -/
noncomputable def F_octets_Append_l2 (v1 : Int) (a0 : List Int) (a1 : Int) (s3 : Int × (List Int)) : Option ((Int × (List Int)) ⊕ ((List Int))) :=
  bif (decide (s3.1 < v1)) then
    bif decide (0 ≤ (IntKind.wrap .i64 (8 * (IntKind.wrap .i64 ((IntKind.wrap .i64 (v1 - 1)) - s3.1))))) then
      (idx (Cut.app .whole s3.2) (IntKind.wrap .i64 ((List.length a0 : Int) + s3.1))).bind fun _e8 =>
      (s3.2[(0 + Int.toNat (IntKind.wrap .i64 ((List.length a0 : Int) + s3.1)))]?).bind fun _e9 =>
      some (Sum.inl (IntKind.wrap .i64 (s3.1 + 1), (List.set s3.2 (0 + Int.toNat (IntKind.wrap .i64 ((List.length a0 : Int) + s3.1))) (IntKind.wrap .u8 (ishr .u64 a1 (IntKind.wrap .i64 (8 * (IntKind.wrap .i64 ((IntKind.wrap .i64 (v1 - 1)) - s3.1)))))))))
    else none
  else
    some (Sum.inr s3.2)
noncomputable def F_octets_Append_j1 (a0 : List Int) (a1 : Int) (v1 : Int) : Option ((List Int)) :=
  (mkO 1 (IntKind.wrap .i64 ((List.length a0 : Int) + v1)) (IntKind.wrap .i64 ((List.length a0 : Int) + v1))).bind fun n2 =>
  (loopO (F_octets_Append_l2 v1 a0 a1) (0, (cpL (List.replicate n2 (0 : Int)) 0 (List.length (Cut.app .whole (List.replicate n2 (0 : Int)))) (Cut.app .whole a0)))).bind fun b4 =>
  some (b4)
noncomputable def F_octets_Append (a0 : List Int) (a1 : Int) (a2 : Int) : Option ((List Int)) :=
  bif (decide (a2 < 0)) then
    (F_octets_Append_j1 a0 a1) 0
  else
    bif (decide (a2 > 8)) then
      (F_octets_Append_j1 a0 a1) 0
    else
      (F_octets_Append_j1 a0 a1) a2
set_option maxRecDepth 100000 in
set_option maxHeartbeats 40000000 in
theorem okT_octets_Append (a0 : List Int) (a1 : Int) (a2 : Int) (r : (List Int)) (h : F_octets_Append a0 a1 a2 = some r) : Con Try.prog 69 [.c (eS 1 (ecI .u8) (a0)), .c (.lit (.int .u64 (a1))), .c (.lit (.int .i64 (a2)))] [] (.c (.slc 1 900002 (List.length r) (List.map (ecI .u8) r))) [(900000, .spare 5 1 (List.length r))] := by
  unfold F_octets_Append at h
  refine con_of [] [(900000, [])] 43 Try.func69 rfl rfl (by kernel_rfl) (fun K => ?_)
  refine TS_go 4 ?_
  refine TS_cut ⟨[(0, []), (1, []), (2, [])], []⟩ (.mk [.code (codeAt [1] (bodyOf Try.f69))] .normal ⟨[(0, .c (.slc 1 0 (List.length a0) (List.map (ecI .u8) a0))), (1, .c (.lit (.int .u64 (a1)))), (2, .c (.lit (.int .i64 (a2))))], []⟩) (by kernel_rfl) (by kernel_rfl) ?_
  refine TS_joinB ⟨[(0, []), (1, []), (2, [])], []⟩ (fun (v1 : Int) => [(2, .c (.lit (.int .i64 (v1))))]) (fun (v1 : Int) => []) (F_octets_Append_j1 a0 a1) r ?_ ?_
  · clear h
    intro v1 h
    unfold F_octets_Append_j1 at h
    refine TS_go 6 ?_
    replace h := bindO h
    obtain ⟨n2, hn2, h⟩ := h
    refine TS_makeR 19 5 1 (ecI .u8) (0 : Int) [] (cs := [.lit (.int .u8 (0))]) (l := IntKind.wrap .i64 ((List.length a0 : Int) + v1)) (c := IntKind.wrap .i64 ((List.length a0 : Int) + v1)) hn2 (by kernel_rfl) (by kernel_rfl) (by kernel_rfl) ?_
    refine TS_go 6 ?_
    refine TS_cpR 19 5 1 (List.length (List.replicate n2 (0 : Int))) 0 (ecI .u8) (fun _ => by kernel_rfl) (l := (List.replicate n2 (0 : Int))) (l2 := a0) .whole .whole (by kernel_rfl) (by kernel_rfl) ?_
    refine TS_go 8 ?_
    refine TS_cut ⟨[(0, []), (1, []), (2, []), (7, []), (23, []), (24, [])], [(19, (19, []))]⟩ (.mk [.code (codeAt [1, 1, 1, 1, 0, 1, 0] (bodyOf Try.f69)), .blk 0, .code (codeAt [1, 1, 1, 1, 1] (bodyOf Try.f69))] .normal ⟨[(0, .c (.slc 1 0 (List.length a0) (List.map (ecI .u8) a0))), (1, .c (.lit (.int .u64 (a1)))), (2, .c (.lit (.int .i64 (v1)))), (7, .c (.own 19)), (23, .c (.lit (.int .i64 (v1)))), (24, .c (.lit (.int .i64 (0))))], [(19, .row 5 1 (List.length (cpL (List.replicate n2 (0 : Int)) 0 (List.length (Cut.app .whole (List.replicate n2 (0 : Int)))) (Cut.app .whole a0))) (List.map (ecI .u8) (cpL (List.replicate n2 (0 : Int)) 0 (List.length (Cut.app .whole (List.replicate n2 (0 : Int)))) (Cut.app .whole a0))))]⟩) (by kernel_rfl) (by kernel_rfl) ?_
    replace h := bindO h
    obtain ⟨y5, hl2, hK2⟩ := h
    refine TS_loopB (F_octets_Append_l2 v1 a0 a1) ⟨[(0, []), (1, []), (2, []), (7, []), (23, []), (24, [])], [(19, (19, []))]⟩ (fun (s3 : Int × (List Int)) => [(24, .c (.lit (.int .i64 (s3.1))))]) (fun (s3 : Int × (List Int)) => [(19, .row 5 1 (List.length s3.2) (List.map (ecI .u8) s3.2))]) (0, (cpL (List.replicate n2 (0 : Int)) 0 (List.length (Cut.app .whole (List.replicate n2 (0 : Int)))) (Cut.app .whole a0))) y5 (.exit 0) (fun (b : (List Int)) => b) ⟨[(7, [])], [(19, (19, []))]⟩ (fun (b4 : (List Int)) => []) (fun (b4 : (List Int)) => [(19, .row 5 1 (List.length b4) (List.map (ecI .u8) b4))]) hl2 (by kernel_rfl) (by kernel_rfl) ?_ ?_
    · intro s3 x h hy2
      unfold F_octets_Append_l2 at h
      refine TS_go 5 ?_
      replace h := condO h
      rcases h with ⟨hb6, h⟩ | ⟨hb6, h⟩
      · refine TS_know 25 (b := true) hb6 (by kernel_rfl) (by kernel_rfl) ?_
        refine TS_T (by kernel_rfl) rfl ?_
        refine TS_go 20 ?_
        replace h := chkO h
        obtain ⟨hc7, h⟩ := h
        refine TS_num (op := .shr) (k := .u64) (k' := .i64) (m := a1) (i := IntKind.wrap .i64 (8 * (IntKind.wrap .i64 ((IntKind.wrap .i64 (v1 - 1)) - s3.1)))) (of_decide_eq_true hc7) rfl (by simp) (by kernel_rfl) (by kernel_rfl) ?_
        refine TS_go 1 ?_
        replace h := bindO h
        obtain ⟨_e8, he8, h⟩ := h
        refine TS_idxR 19 1 0 (ecI .u8) .whole he8 (by kernel_rfl) (by kernel_rfl) ?_
        replace h := bindO h
        obtain ⟨_e9, he9, h⟩ := h
        refine TS_stE 19 5 1 (List.length s3.2) (0 + Int.toNat (IntKind.wrap .i64 ((List.length a0 : Int) + s3.1))) 0 (ecI .u8) (ds := [.lit (.int .u8 (IntKind.wrap .u8 (ishr .u64 a1 (IntKind.wrap .i64 (8 * (IntKind.wrap .i64 ((IntKind.wrap .i64 (v1 - 1)) - s3.1)))))))]) (IntKind.wrap .u8 (ishr .u64 a1 (IntKind.wrap .i64 (8 * (IntKind.wrap .i64 ((IntKind.wrap .i64 (v1 - 1)) - s3.1)))))) he9 (by kernel_rfl) (by kernel_rfl) (by kernel_rfl) (by kernel_rfl) ?_
        refine TS_go 6 ?_
        have ret := Option.some.inj h
        subst ret
        exact TS_againB _ ⟨[(0, []), (1, []), (2, []), (7, []), (23, []), (24, [])], [(19, (19, []))]⟩ rfl (by kernel_rfl) (by kernel_rfl)
      · refine TS_know 25 (b := false) hb6 (by kernel_rfl) (by kernel_rfl) ?_
        refine TS_F (by kernel_rfl) rfl ?_
        refine TS_go 2 ?_
        have ret := Option.some.inj h
        subst ret
        exact TS_brkB s3.2 ⟨[(7, [])], [(19, (19, []))]⟩ rfl (by kernel_rfl) (by kernel_rfl) (by kernel_rfl)
    · intro b4 hb
      subst y5
      have h := hK2
      refine TS_go 6 ?_
      refine TS_settle 19 (by kernel_rfl) ?_
      refine TS_fitU ⟨[(6, [])], [(19, (900000, []))]⟩ (by kernel_rfl) ?_
      refine TS_go 1 ?_
      have ret := Option.some.inj h
      subst ret
      exact TS_ret (by kernel_rfl) (by kernel_rfl) (by kernel_rfl)
  · refine TS_go 5 ?_
    replace h := condO h
    rcases h with ⟨hb11, h⟩ | ⟨hb11, h⟩
    · refine TS_know 10 (b := true) hb11 (by kernel_rfl) (by kernel_rfl) ?_
      refine TS_know 11 (b := true) hb11 (by kernel_rfl) (by kernel_rfl) ?_
      refine TS_go 4 ?_
      refine TS_T (by kernel_rfl) rfl ?_
      refine TS_go 3 ?_
      exact TS_meet 0 ⟨[(0, []), (1, []), (2, [])], []⟩ h (by kernel_rfl) (by kernel_rfl)
    · refine TS_know 10 (b := false) hb11 (by kernel_rfl) (by kernel_rfl) ?_
      refine TS_know 11 (b := false) hb11 (by kernel_rfl) (by kernel_rfl) ?_
      refine TS_go 4 ?_
      replace h := condO h
      rcases h with ⟨hb12, h⟩ | ⟨hb12, h⟩
      · refine TS_know 13 (b := true) hb12 (by kernel_rfl) (by kernel_rfl) ?_
        refine TS_know 14 (b := true) hb12 (by kernel_rfl) (by kernel_rfl) ?_
        refine TS_T (by kernel_rfl) rfl ?_
        refine TS_go 3 ?_
        exact TS_meet 0 ⟨[(0, []), (1, []), (2, [])], []⟩ h (by kernel_rfl) (by kernel_rfl)
      · refine TS_know 13 (b := false) hb12 (by kernel_rfl) (by kernel_rfl) ?_
        refine TS_know 14 (b := false) hb12 (by kernel_rfl) (by kernel_rfl) ?_
        refine TS_F (by kernel_rfl) rfl ?_
        refine TS_go 1 ?_
        exact TS_meet a2 ⟨[(0, []), (1, []), (2, [])], []⟩ h (by kernel_rfl) (by kernel_rfl)
/-- multihop/frame.appendAddr -/
noncomputable def F_frame_appendAddr (a0 : List Int) (a1 : S_Addr) : Option ((List Int)) :=
  bif (a1.Mode == 2) then
    (F_octets_Append a0 (IntKind.wrap .u64 a1.Short) 2).bind fun v2 =>
    some (v2)
  else
    (F_octets_Append a0 a1.EUI 8).bind fun v3 =>
    some (v3)
set_option maxRecDepth 100000 in
set_option maxHeartbeats 40000000 in
theorem okT_frame_appendAddr (a0 : List Int) (a1 : S_Addr) (r : (List Int)) (h : F_frame_appendAddr a0 a1 = some r) : Con Try.prog 70 [.c (eS 1 (ecI .u8) (a0)), .agg (S_Addr.cs a1)] [] (.c (.slc 1 900002 (List.length r) (List.map (ecI .u8) r))) [(900000, .spare 5 1 (List.length r))] := by
  unfold F_frame_appendAddr at h
  refine con_of [] [(900000, [])] 17 Try.func70 rfl rfl (by kernel_rfl) (fun K => ?_)
  refine TS_go 12 ?_
  replace h := condO h
  rcases h with ⟨hb1, h⟩ | ⟨hb1, h⟩
  · refine TS_know 7 (b := true) hb1 (by kernel_rfl) (by kernel_rfl) ?_
    refine TS_T (by kernel_rfl) rfl ?_
    refine TS_go 6 ?_
    replace h := bindO h
    obtain ⟨v2, hv2, h⟩ := h
    refine TS_con [] [(12, 900000)] none (okT_octets_Append a0 (IntKind.wrap .u64 a1.Short) 2 v2 hv2) (by kernel_rfl) (by kernel_rfl) (by kernel_rfl) ?_
    refine TS_go 2 ?_
    refine TS_fitU ⟨[(4, [])], [(12, (900000, []))]⟩ (by kernel_rfl) ?_
    refine TS_go 2 ?_
    have ret := Option.some.inj h
    subst ret
    exact TS_ret (by kernel_rfl) (by kernel_rfl) (by kernel_rfl)
  · refine TS_know 7 (b := false) hb1 (by kernel_rfl) (by kernel_rfl) ?_
    refine TS_F (by kernel_rfl) rfl ?_
    refine TS_go 6 ?_
    replace h := bindO h
    obtain ⟨v3, hv3, h⟩ := h
    refine TS_con [] [(16, 900000)] none (okT_octets_Append a0 a1.EUI 8 v3 hv3) (by kernel_rfl) (by kernel_rfl) (by kernel_rfl) ?_
    refine TS_go 2 ?_
    refine TS_fitU ⟨[(4, [])], [(16, (900000, []))]⟩ (by kernel_rfl) ?_
    refine TS_go 1 ?_
    have ret := Option.some.inj h
    subst ret
    exact TS_ret (by kernel_rfl) (by kernel_rfl) (by kernel_rfl)
/-- multihop/frame.Header -/
noncomputable def F_frame_Header_j3 (v1 : S_Frame) (v6 : (List Int)) : Option ((List Int)) :=
  (appO 1 v6 (Cut.app .whole v1.Payload)).bind fun l7 =>
  some (l7)
noncomputable def F_frame_Header_j2 (v1 : S_Frame) (v5 : (List Int)) : Option ((List Int)) :=
  bif v1.Secure then
    (F_octets_Append v5 (IntKind.wrap .u64 v1.Counter) 4).bind fun v9 =>
    (appO 1 v9 (Cut.app .whole ([v1.Key] : List Int))).bind fun l10 =>
    (F_frame_Header_j3 v1) l10
  else
    (F_frame_Header_j3 v1) v5
noncomputable def F_frame_Header_j1  (v1 : S_Frame) : Option ((List Int)) :=
  (F_frame_flag v1.AckRequest 32).bind fun v2 =>
  (F_frame_flag v1.Pending 16).bind fun v3 =>
  (F_frame_flag v1.Secure 8).bind fun v4 =>
  bif (v1.Kind != 2) then
    (F_octets_Append ([ior .u8 (ior .u8 (ior .u8 (ishl .u8 (IntKind.wrap .u8 v1.Kind) 6) v2) v3) v4, ior .u8 (ishl .u8 (IntKind.wrap .u8 v1.Dst.Mode) 6) (ishl .u8 (IntKind.wrap .u8 v1.Src.Mode) 4), v1.Seq] : List Int) (IntKind.wrap .u64 v1.Pan) 2).bind fun v12 =>
    (F_frame_appendAddr v12 v1.Dst).bind fun v13 =>
    (F_frame_appendAddr v13 v1.Src).bind fun v14 =>
    (F_frame_Header_j2 v1) v14
  else
    (F_frame_Header_j2 v1) ([ior .u8 (ior .u8 (ior .u8 (ishl .u8 (IntKind.wrap .u8 v1.Kind) 6) v2) v3) v4, ior .u8 (ishl .u8 (IntKind.wrap .u8 v1.Dst.Mode) 6) (ishl .u8 (IntKind.wrap .u8 v1.Src.Mode) 4), v1.Seq] : List Int)
noncomputable def F_frame_Header (a0 : S_Frame) : Option ((List Int)) :=
  (F_frame_Valid a0).bind fun v15 =>
  bif v15 then
    (F_frame_Header_j1) a0
  else
    (mkO 1 4 4).bind fun n17 =>
    (F_frame_Valid (S_Frame.mk a0.Kind a0.AckRequest a0.Pending a0.Secure a0.Seq a0.Pan a0.Dst a0.Src a0.Counter a0.Key a0.Payload (List.replicate n17 (0 : Int)))).bind fun v18 =>
    bif v18 then
      (F_frame_Header_j1) (S_Frame.mk a0.Kind a0.AckRequest a0.Pending a0.Secure a0.Seq a0.Pan a0.Dst a0.Src a0.Counter a0.Key a0.Payload (List.replicate n17 (0 : Int)))
    else
      some (([] : List Int))
set_option maxRecDepth 100000 in
set_option maxHeartbeats 40000000 in
theorem okT_frame_Header (a0 : S_Frame) (r : (List Int)) (h : F_frame_Header a0 = some r) : Con Try.prog 40 [.agg (S_Frame.cs a0)] [] (.c (.slc 1 900002 (List.length r) (List.map (ecI .u8) r))) [(900000, .spare 5 1 (List.length r))] := by
  unfold F_frame_Header at h
  refine con_of [] [(900000, [])] 76 Try.func40 rfl rfl (by kernel_rfl) (fun K => ?_)
  refine TS_go 5 ?_
  refine TS_cut ⟨[(1, [])], [(1, (1, []))]⟩ (.mk [.code (codeAt [1] (bodyOf Try.f40))] .normal ⟨[(1, .c (.box 1 0))], [(1, .box [.lit (.int .i64 (a0.Kind)), .lit (.bool (a0.AckRequest)), .lit (.bool (a0.Pending)), .lit (.bool (a0.Secure)), .lit (.int .u8 (a0.Seq)), .lit (.int .u16 (a0.Pan)), .lit (.int .i64 (a0.Dst.Mode)), .lit (.int .u16 (a0.Dst.Short)), .lit (.int .u64 (a0.Dst.EUI)), .lit (.int .i64 (a0.Src.Mode)), .lit (.int .u16 (a0.Src.Short)), .lit (.int .u64 (a0.Src.EUI)), .lit (.int .u32 (a0.Counter)), .lit (.int .u8 (a0.Key)), .slc 1 0 (List.length a0.Payload) (List.map (ecI .u8) a0.Payload), .slc 1 0 (List.length a0.MIC) (List.map (ecI .u8) a0.MIC)])]⟩) (by kernel_rfl) (by kernel_rfl) ?_
  refine TS_joinB ⟨[(1, [])], [(1, (1, []))]⟩ (fun (v1 : S_Frame) => []) (fun (v1 : S_Frame) => [(1, .box (S_Frame.cs v1))]) (F_frame_Header_j1) r ?_ ?_
  · clear h
    intro v1 h
    unfold F_frame_Header_j1 at h
    refine TS_go 1 ?_
    refine TS_draw (by kernel_rfl) ?_
    refine TD_go 6 ?_
    replace h := bindO h
    obtain ⟨v2, hv2, h⟩ := h
    refine TD_call [] (ok_frame_flag v1.AckRequest 32 v2 hv2) (by kernel_rfl) (by kernel_rfl) ?_
    refine TD_go 3 ?_
    replace h := bindO h
    obtain ⟨v3, hv3, h⟩ := h
    refine TD_call [] (ok_frame_flag v1.Pending 16 v3 hv3) (by kernel_rfl) (by kernel_rfl) ?_
    refine TD_go 3 ?_
    replace h := bindO h
    obtain ⟨v4, hv4, h⟩ := h
    refine TD_call [] (ok_frame_flag v1.Secure 8 v4 hv4) (by kernel_rfl) (by kernel_rfl) ?_
    refine TD_go 2 ?_
    refine TD_end (by kernel_rfl) ?_
    refine TS_go 16 ?_
    refine TS_litNT 43 5 1 (ecI .u8) [] ([ior .u8 (ior .u8 (ior .u8 (ishl .u8 (IntKind.wrap .u8 v1.Kind) 6) v2) v3) v4, ior .u8 (ishl .u8 (IntKind.wrap .u8 v1.Dst.Mode) 6) (ishl .u8 (IntKind.wrap .u8 v1.Src.Mode) 4), v1.Seq] : List Int) (by kernel_rfl) (by kernel_rfl) ?_
    refine TS_go 2 ?_
    refine TS_cut ⟨[(1, []), (4, [])], [(1, (1, [])), (43, (43, []))]⟩ (.mk [.code (codeAt [1, 1, 1, 1] (bodyOf Try.f40))] .normal ⟨[(1, .c (.box 1 0)), (4, .c (.slc 1 45 (List.length ([ior .u8 (ior .u8 (ior .u8 (ishl .u8 (IntKind.wrap .u8 v1.Kind) 6) v2) v3) v4, ior .u8 (ishl .u8 (IntKind.wrap .u8 v1.Dst.Mode) 6) (ishl .u8 (IntKind.wrap .u8 v1.Src.Mode) 4), v1.Seq] : List Int)) (List.map (ecI .u8) ([ior .u8 (ior .u8 (ior .u8 (ishl .u8 (IntKind.wrap .u8 v1.Kind) 6) v2) v3) v4, ior .u8 (ishl .u8 (IntKind.wrap .u8 v1.Dst.Mode) 6) (ishl .u8 (IntKind.wrap .u8 v1.Src.Mode) 4), v1.Seq] : List Int))))], [(1, .box [.lit (.int .i64 (v1.Kind)), .lit (.bool (v1.AckRequest)), .lit (.bool (v1.Pending)), .lit (.bool (v1.Secure)), .lit (.int .u8 (v1.Seq)), .lit (.int .u16 (v1.Pan)), .lit (.int .i64 (v1.Dst.Mode)), .lit (.int .u16 (v1.Dst.Short)), .lit (.int .u64 (v1.Dst.EUI)), .lit (.int .i64 (v1.Src.Mode)), .lit (.int .u16 (v1.Src.Short)), .lit (.int .u64 (v1.Src.EUI)), .lit (.int .u32 (v1.Counter)), .lit (.int .u8 (v1.Key)), .slc 1 0 (List.length v1.Payload) (List.map (ecI .u8) v1.Payload), .slc 1 0 (List.length v1.MIC) (List.map (ecI .u8) v1.MIC)]), (43, .spare 5 1 (List.length ([ior .u8 (ior .u8 (ior .u8 (ishl .u8 (IntKind.wrap .u8 v1.Kind) 6) v2) v3) v4, ior .u8 (ishl .u8 (IntKind.wrap .u8 v1.Dst.Mode) 6) (ishl .u8 (IntKind.wrap .u8 v1.Src.Mode) 4), v1.Seq] : List Int)))]⟩) (by kernel_rfl) (by kernel_rfl) ?_
    refine TS_joinB ⟨[(1, []), (4, [])], [(1, (1, [])), (43, (43, []))]⟩ (fun (v5 : (List Int)) => [(4, .c (.slc 1 45 (List.length v5) (List.map (ecI .u8) v5)))]) (fun (v5 : (List Int)) => [(43, .spare 5 1 (List.length v5))]) (F_frame_Header_j2 v1) r ?_ ?_
    · clear h
      intro v5 h
      unfold F_frame_Header_j2 at h
      refine TS_cut ⟨[(1, []), (4, [])], [(1, (1, [])), (43, (43, []))]⟩ (.mk [.code (codeAt [1, 1, 1, 1, 1] (bodyOf Try.f40))] .normal ⟨[(1, .c (.box 1 0)), (4, .c (.slc 1 45 (List.length v5) (List.map (ecI .u8) v5)))], [(1, .box [.lit (.int .i64 (v1.Kind)), .lit (.bool (v1.AckRequest)), .lit (.bool (v1.Pending)), .lit (.bool (v1.Secure)), .lit (.int .u8 (v1.Seq)), .lit (.int .u16 (v1.Pan)), .lit (.int .i64 (v1.Dst.Mode)), .lit (.int .u16 (v1.Dst.Short)), .lit (.int .u64 (v1.Dst.EUI)), .lit (.int .i64 (v1.Src.Mode)), .lit (.int .u16 (v1.Src.Short)), .lit (.int .u64 (v1.Src.EUI)), .lit (.int .u32 (v1.Counter)), .lit (.int .u8 (v1.Key)), .slc 1 0 (List.length v1.Payload) (List.map (ecI .u8) v1.Payload), .slc 1 0 (List.length v1.MIC) (List.map (ecI .u8) v1.MIC)]), (43, .spare 5 1 (List.length v5))]⟩) (by kernel_rfl) (by kernel_rfl) ?_
      refine TS_joinB ⟨[(1, []), (4, [])], [(1, (1, [])), (43, (43, []))]⟩ (fun (v6 : (List Int)) => [(4, .c (.slc 1 45 (List.length v6) (List.map (ecI .u8) v6)))]) (fun (v6 : (List Int)) => [(43, .spare 5 1 (List.length v6))]) (F_frame_Header_j3 v1) r ?_ ?_
      · clear h
        intro v6 h
        unfold F_frame_Header_j3 at h
        refine TS_go 5 ?_
        replace h := bindO h
        obtain ⟨_l7, hl7, h⟩ := h
        refine TS_appT (d := 43) (e := 5) (sz := 1) (N := List.length v6) (ecI .u8) (fun _ => by kernel_rfl) (l1 := v6) (l2 := v1.Payload) (c := .whole) hl7 (by kernel_rfl) (by kernel_rfl) ?_
        refine TS_go 2 ?_
        refine TS_fitU ⟨[(2, [])], [(43, (900000, []))]⟩ (by kernel_rfl) ?_
        refine TS_go 1 ?_
        have ret := Option.some.inj h
        subst ret
        exact TS_ret (by kernel_rfl) (by kernel_rfl) (by kernel_rfl)
      · refine TS_go 5 ?_
        replace h := condO h
        rcases h with ⟨hb8, h⟩ | ⟨hb8, h⟩
        · refine TS_know 61 (b := true) hb8 (by kernel_rfl) (by kernel_rfl) ?_
          refine TS_T (by kernel_rfl) rfl ?_
          refine TS_go 6 ?_
          replace h := bindO h
          obtain ⟨v9, hv9, h⟩ := h
          refine TS_con [[2]] [(66, 900000)] none (okT_octets_Append v5 (IntKind.wrap .u64 v1.Counter) 4 v9 hv9) (by kernel_rfl) (by kernel_rfl) (by kernel_rfl) ?_
          refine TS_go 6 ?_
          refine TS_litNT 70 5 1 (ecI .u8) [] ([v1.Key] : List Int) (by kernel_rfl) (by kernel_rfl) ?_
          replace h := bindO h
          obtain ⟨l10, hl10, h⟩ := h
          refine TS_appT (d := 66) (e := 5) (sz := 1) (N := List.length v9) (ecI .u8) (fun _ => by kernel_rfl) (l1 := v9) (l2 := ([v1.Key] : List Int)) (c := .whole) hl10 (by kernel_rfl) (by kernel_rfl) ?_
          refine TS_go 2 ?_
          exact TS_meet l10 ⟨[(1, []), (4, [])], [(1, (1, [])), (66, (43, []))]⟩ h (by kernel_rfl) (by kernel_rfl)
        · refine TS_know 61 (b := false) hb8 (by kernel_rfl) (by kernel_rfl) ?_
          refine TS_F (by kernel_rfl) rfl ?_
          refine TS_go 1 ?_
          exact TS_meet v5 ⟨[(1, []), (4, [])], [(1, (1, [])), (43, (43, []))]⟩ h (by kernel_rfl) (by kernel_rfl)
    · refine TS_go 6 ?_
      replace h := condO h
      rcases h with ⟨hb11, h⟩ | ⟨hb11, h⟩
      · refine TS_know 46 (b := true) hb11 (by kernel_rfl) (by kernel_rfl) ?_
        refine TS_T (by kernel_rfl) rfl ?_
        refine TS_go 6 ?_
        replace h := bindO h
        obtain ⟨v12, hv12, h⟩ := h
        refine TS_con [[2]] [(51, 900000)] none (okT_octets_Append ([ior .u8 (ior .u8 (ior .u8 (ishl .u8 (IntKind.wrap .u8 v1.Kind) 6) v2) v3) v4, ior .u8 (ishl .u8 (IntKind.wrap .u8 v1.Dst.Mode) 6) (ishl .u8 (IntKind.wrap .u8 v1.Src.Mode) 4), v1.Seq] : List Int) (IntKind.wrap .u64 v1.Pan) 2 v12 hv12) (by kernel_rfl) (by kernel_rfl) (by kernel_rfl) ?_
        refine TS_go 7 ?_
        replace h := bindO h
        obtain ⟨v13, hv13, h⟩ := h
        refine TS_con [[2]] [(55, 900000)] none (okT_frame_appendAddr v12 v1.Dst v13 hv13) (by kernel_rfl) (by kernel_rfl) (by kernel_rfl) ?_
        refine TS_go 6 ?_
        replace h := bindO h
        obtain ⟨v14, hv14, h⟩ := h
        refine TS_con [[2]] [(59, 900000)] none (okT_frame_appendAddr v13 v1.Src v14 hv14) (by kernel_rfl) (by kernel_rfl) (by kernel_rfl) ?_
        refine TS_go 2 ?_
        exact TS_meet v14 ⟨[(1, []), (4, [])], [(1, (1, [])), (59, (43, []))]⟩ h (by kernel_rfl) (by kernel_rfl)
      · refine TS_know 46 (b := false) hb11 (by kernel_rfl) (by kernel_rfl) ?_
        refine TS_F (by kernel_rfl) rfl ?_
        refine TS_go 1 ?_
        exact TS_meet ([ior .u8 (ior .u8 (ior .u8 (ishl .u8 (IntKind.wrap .u8 v1.Kind) 6) v2) v3) v4, ior .u8 (ishl .u8 (IntKind.wrap .u8 v1.Dst.Mode) 6) (ishl .u8 (IntKind.wrap .u8 v1.Src.Mode) 4), v1.Seq] : List Int) ⟨[(1, []), (4, [])], [(1, (1, [])), (43, (43, []))]⟩ h (by kernel_rfl) (by kernel_rfl)
  · refine TS_go 3 ?_
    replace h := bindO h
    obtain ⟨v15, hv15, h⟩ := h
    refine TS_call [] (ok_frame_Valid a0 v15 hv15) (by kernel_rfl) (by kernel_rfl) ?_
    refine TS_go 2 ?_
    replace h := condO h
    rcases h with ⟨hb16, h⟩ | ⟨hb16, h⟩
    · subst hb16
      refine TS_F (by kernel_rfl) rfl ?_
      refine TS_go 1 ?_
      exact TS_meet a0 ⟨[(1, [])], [(1, (1, []))]⟩ h (by kernel_rfl) (by kernel_rfl)
    · subst hb16
      refine TS_T (by kernel_rfl) rfl ?_
      refine TS_go 2 ?_
      replace h := bindO h
      obtain ⟨n17, hn17, h⟩ := h
      refine TS_makeT 8 5 1 (ecI .u8) (0 : Int) [] (cs := [.lit (.int .u8 (0))]) (l := 4) (c := 4) hn17 (by kernel_rfl) (by kernel_rfl) (by kernel_rfl) ?_
      refine TS_go 6 ?_
      replace h := bindO h
      obtain ⟨v18, hv18, h⟩ := h
      refine TS_call [[0, 0, 0, 0, 0, 0, 0, 0, 0, 0, 0, 0, 0, 0, 2, 2]] (ok_frame_Valid (S_Frame.mk a0.Kind a0.AckRequest a0.Pending a0.Secure a0.Seq a0.Pan a0.Dst a0.Src a0.Counter a0.Key a0.Payload (List.replicate n17 (0 : Int))) v18 hv18) (by kernel_rfl) (by kernel_rfl) ?_
      refine TS_go 2 ?_
      replace h := condO h
      rcases h with ⟨hb19, h⟩ | ⟨hb19, h⟩
      · subst hb19
        refine TS_F (by kernel_rfl) rfl ?_
        refine TS_go 1 ?_
        exact TS_meet (S_Frame.mk a0.Kind a0.AckRequest a0.Pending a0.Secure a0.Seq a0.Pan a0.Dst a0.Src a0.Counter a0.Key a0.Payload (List.replicate n17 (0 : Int))) ⟨[(1, [])], [(1, (1, [0, 0, 0, 0, 0, 0, 0, 0, 0, 0, 0, 0, 0, 0, 0, 2]))]⟩ h (by kernel_rfl) (by kernel_rfl)
      · subst hb19
        refine TS_T (by kernel_rfl) rfl ?_
        refine TS_go 4 ?_
        refine TS_nilT 2 600000 5 1 (by kernel_rfl) ?_
        refine TS_fitU ⟨[(2, [])], [(600000, (900000, []))]⟩ (by kernel_rfl) ?_
        refine TS_go 1 ?_
        refine TS_outJ (by kernel_rfl) ?_
        have ret := Option.some.inj h
        subst ret
        exact TS_ret (by kernel_rfl) (by kernel_rfl) (by kernel_rfl)
/-- multihop/siphash.little -/
noncomputable def F_siphash_little_l1 (a0 : List Int) (s1 : Int × Int) : Option ((Int × Int) ⊕ (Int)) :=
  bif (decide (s1.2 < (List.length a0 : Int))) then
    (idx a0 s1.2).bind fun e5 =>
    bif decide (0 ≤ (IntKind.wrap .i64 (8 * s1.2))) then
      some (Sum.inl (ior .u64 s1.1 (ishl .u64 (IntKind.wrap .u64 e5) (IntKind.wrap .i64 (8 * s1.2))), IntKind.wrap .i64 (s1.2 + 1)))
    else none
  else
    some (Sum.inr s1.1)
noncomputable def F_siphash_little (a0 : List Int) : Option (Int) :=
  (loopO (F_siphash_little_l1 a0) (0, 0)).bind fun b2 =>
  some (b2)
set_option maxRecDepth 100000 in
set_option maxHeartbeats 40000000 in
theorem ok_siphash_little (a0 : List Int) (r : Int) (h : F_siphash_little a0 = some r) : Con Try.prog 93 [.c (eS 1 (ecI .u8) (a0))] [] (.c (.lit (.int .u64 (r)))) [] := by
  unfold F_siphash_little at h
  refine con_of [] [] 22 Try.func93 rfl rfl (by kernel_rfl) (fun K => ?_)
  refine TS_go 16 ?_
  refine TS_cut ⟨[(3, []), (6, []), (7, []), (8, [])], []⟩ (.mk [.code (codeAt [1, 1, 0, 1, 0] (bodyOf Try.f93)), .blk 0, .code (codeAt [1, 1, 1] (bodyOf Try.f93))] .normal ⟨[(3, .c (.lit (.int .u64 (0)))), (6, .c (.slc 1 0 (List.length a0) (List.map (ecI .u8) a0))), (7, .c (.lit (.int .i64 ((List.length a0 : Int))))), (8, .c (.lit (.int .i64 (0))))], []⟩) (by kernel_rfl) (by kernel_rfl) ?_
  replace h := bindO h
  obtain ⟨y3, hl1, hK1⟩ := h
  refine TS_loopB (F_siphash_little_l1 a0) ⟨[(3, []), (6, []), (7, []), (8, [])], []⟩ (fun (s1 : Int × Int) => [(3, .c (.lit (.int .u64 (s1.1)))), (8, .c (.lit (.int .i64 (s1.2))))]) (fun (s1 : Int × Int) => []) (0, 0) y3 (.exit 0) (fun (b : Int) => b) ⟨[(3, [])], []⟩ (fun (b2 : Int) => [(3, .c (.lit (.int .u64 (b2))))]) (fun (b2 : Int) => []) hl1 (by kernel_rfl) (by kernel_rfl) ?_ ?_
  · intro s1 x h hy1
    unfold F_siphash_little_l1 at h
    refine TS_go 5 ?_
    replace h := condO h
    rcases h with ⟨hb4, h⟩ | ⟨hb4, h⟩
    · refine TS_know 9 (b := true) hb4 (by kernel_rfl) (by kernel_rfl) ?_
      refine TS_T (by kernel_rfl) rfl ?_
      refine TS_go 6 ?_
      replace h := bindO h
      obtain ⟨e5, he5, h⟩ := h
      refine TS_idx (ecI .u8) he5 (by kernel_rfl) (by kernel_rfl) ?_
      refine TS_go 10 ?_
      replace h := chkO h
      obtain ⟨hc6, h⟩ := h
      refine TS_num (op := .shl) (k := .u64) (k' := .i64) (m := IntKind.wrap .u64 e5) (i := IntKind.wrap .i64 (8 * s1.2)) (of_decide_eq_true hc6) rfl (by simp) (by kernel_rfl) (by kernel_rfl) ?_
      refine TS_go 8 ?_
      have ret := Option.some.inj h
      subst ret
      exact TS_againB _ ⟨[(3, []), (6, []), (7, []), (8, [])], []⟩ rfl (by kernel_rfl) (by kernel_rfl)
    · refine TS_know 9 (b := false) hb4 (by kernel_rfl) (by kernel_rfl) ?_
      refine TS_F (by kernel_rfl) rfl ?_
      refine TS_go 2 ?_
      have ret := Option.some.inj h
      subst ret
      exact TS_brkB s1.1 ⟨[(3, [])], []⟩ rfl (by kernel_rfl) (by kernel_rfl) (by kernel_rfl)
  · intro b2 hb
    subst y3
    have h := hK1
    refine TS_go 7 ?_
    have ret := Option.some.inj h
    subst ret
    exact TS_ret (by kernel_rfl) (by kernel_rfl) (by kernel_rfl)

/-- math/bits.RotateLeft64 -/
noncomputable def F_math_bits_RotateLeft64 (a0 : Int) (a1 : Int) : Option (Int) :=
  bif decide (0 ≤ (iand .u64 (IntKind.wrap .u64 a1) 63)) then
    bif decide (0 ≤ (IntKind.wrap .u64 (64 - (iand .u64 (IntKind.wrap .u64 a1) 63)))) then
      some (ior .u64 (ishl .u64 a0 (iand .u64 (IntKind.wrap .u64 a1) 63)) (ishr .u64 a0 (IntKind.wrap .u64 (64 - (iand .u64 (IntKind.wrap .u64 a1) 63)))))
    else none
  else none
set_option maxRecDepth 100000 in
set_option maxHeartbeats 40000000 in
theorem ok_math_bits_RotateLeft64 (a0 : Int) (a1 : Int) (r : Int) (h : F_math_bits_RotateLeft64 a0 a1 = some r) : Con Try.prog 103 [.c (.lit (.int .u64 (a0))), .c (.lit (.int .i64 (a1)))] [] (.c (.lit (.int .u64 (r)))) [] := by
  unfold F_math_bits_RotateLeft64 at h
  refine con_of [] [] 17 Try.func103 rfl rfl (by kernel_rfl) (fun K => ?_)
  refine TS_go 15 ?_
  replace h := chkO h
  obtain ⟨hc1, h⟩ := h
  refine TS_num (op := .shl) (k := .u64) (k' := .u64) (m := a0) (i := iand .u64 (IntKind.wrap .u64 a1) 63) (of_decide_eq_true hc1) rfl (by simp) (by kernel_rfl) (by kernel_rfl) ?_
  refine TS_go 3 ?_
  replace h := chkO h
  obtain ⟨hc2, h⟩ := h
  refine TS_num (op := .shr) (k := .u64) (k' := .u64) (m := a0) (i := IntKind.wrap .u64 (64 - (iand .u64 (IntKind.wrap .u64 a1) 63))) (of_decide_eq_true hc2) rfl (by simp) (by kernel_rfl) (by kernel_rfl) ?_
  refine TS_go 4 ?_
  have ret := Option.some.inj h
  subst ret
  exact TS_ret (by kernel_rfl) (by kernel_rfl) (by kernel_rfl)

/-- (multihop/siphash.state).rounds -/
noncomputable def F_siphash_state_rounds_l1 (a1 : Int) (s1 : Int × (List Int)) : Option ((Int × (List Int)) ⊕ ((List Int))) :=
  bif (decide (s1.1 < a1)) then
    (F_math_bits_RotateLeft64 (s1.2.getD 1 0) 13).bind fun v5 =>
    (F_math_bits_RotateLeft64 (IntKind.wrap .u64 ((s1.2.getD 0 0) + (s1.2.getD 1 0))) 32).bind fun v6 =>
    (F_math_bits_RotateLeft64 (s1.2.getD 3 0) 16).bind fun v7 =>
    (F_math_bits_RotateLeft64 (ixor .u64 v7 (IntKind.wrap .u64 ((s1.2.getD 2 0) + (s1.2.getD 3 0)))) 21).bind fun v8 =>
    (F_math_bits_RotateLeft64 (ixor .u64 v5 (IntKind.wrap .u64 ((s1.2.getD 0 0) + (s1.2.getD 1 0)))) 17).bind fun v9 =>
    (F_math_bits_RotateLeft64 (IntKind.wrap .u64 ((IntKind.wrap .u64 ((s1.2.getD 2 0) + (s1.2.getD 3 0))) + (ixor .u64 v5 (IntKind.wrap .u64 ((s1.2.getD 0 0) + (s1.2.getD 1 0)))))) 32).bind fun v10 =>
    some (Sum.inl (IntKind.wrap .i64 (s1.1 + 1), [IntKind.wrap .u64 (v6 + (ixor .u64 v7 (IntKind.wrap .u64 ((s1.2.getD 2 0) + (s1.2.getD 3 0))))), ixor .u64 v9 (IntKind.wrap .u64 ((IntKind.wrap .u64 ((s1.2.getD 2 0) + (s1.2.getD 3 0))) + (ixor .u64 v5 (IntKind.wrap .u64 ((s1.2.getD 0 0) + (s1.2.getD 1 0)))))), v10, ixor .u64 v8 (IntKind.wrap .u64 (v6 + (ixor .u64 v7 (IntKind.wrap .u64 ((s1.2.getD 2 0) + (s1.2.getD 3 0))))))]))
  else
    some (Sum.inr s1.2)
noncomputable def F_siphash_state_rounds (a0 : List Int) (a1 : Int) : Option ((List Int)) :=
  (loopO (F_siphash_state_rounds_l1 a1) (0, a0)).bind fun b2 =>
  some (b2)
set_option maxRecDepth 100000 in
set_option maxHeartbeats 40000000 in
theorem ok_siphash_state_rounds (a0 : List Int) (a1 : Int) (r : (List Int)) (h : F_siphash_state_rounds a0 a1 = some r) : Con Try.prog 95 [.agg (arrS .u64 4 a0), .c (.lit (.int .i64 (a1)))] [] (.agg (arrS .u64 4 r)) [] := by
  unfold F_siphash_state_rounds at h
  refine con_of [] [] 82 Try.func95 rfl rfl (by kernel_rfl) (fun K => ?_)
  refine TS_go 12 ?_
  refine TS_cut ⟨[(2, []), (4, []), (5, []), (6, [])], [(2, (2, [])), (4, (4, []))]⟩ (.mk [.code (codeAt [1, 0, 1, 0] (bodyOf Try.f95)), .blk 0, .code (codeAt [1, 1] (bodyOf Try.f95))] .normal ⟨[(2, .c (.box 2 0)), (4, .c (.box 4 0)), (5, .c (.lit (.int .i64 (a1)))), (6, .c (.lit (.int .i64 (0))))], [(2, .box [.lit (.int .u64 ((a0.getD 0 0))), .lit (.int .u64 ((a0.getD 1 0))), .lit (.int .u64 ((a0.getD 2 0))), .lit (.int .u64 ((a0.getD 3 0)))]), (4, .box [.lit (.int .u64 (0)), .lit (.int .u64 (0)), .lit (.int .u64 (0)), .lit (.int .u64 (0))])]⟩) (by kernel_rfl) (by kernel_rfl) ?_
  replace h := bindO h
  obtain ⟨y3, hl1, hK1⟩ := h
  refine TS_loopB (F_siphash_state_rounds_l1 a1) ⟨[(2, []), (4, []), (5, []), (6, [])], [(2, (2, [])), (4, (4, []))]⟩ (fun (s1 : Int × (List Int)) => [(6, .c (.lit (.int .i64 (s1.1))))]) (fun (s1 : Int × (List Int)) => [(2, .box (arrS .u64 4 s1.2))]) (0, a0) y3 (.exit 0) (fun (b : (List Int)) => b) ⟨[(2, []), (4, [])], [(2, (2, [])), (4, (4, []))]⟩ (fun (b2 : (List Int)) => []) (fun (b2 : (List Int)) => [(2, .box (arrS .u64 4 b2))]) hl1 (by kernel_rfl) (by kernel_rfl) ?_ ?_
  · intro s1 x h hy1
    unfold F_siphash_state_rounds_l1 at h
    refine TS_go 5 ?_
    replace h := condO h
    rcases h with ⟨hb4, h⟩ | ⟨hb4, h⟩
    · refine TS_know 7 (b := true) hb4 (by kernel_rfl) (by kernel_rfl) ?_
      refine TS_T (by kernel_rfl) rfl ?_
      refine TS_go 17 ?_
      replace h := bindO h
      obtain ⟨v5, hv5, h⟩ := h
      refine TS_call [] (ok_math_bits_RotateLeft64 (s1.2.getD 1 0) 13 v5 hv5) (by kernel_rfl) (by kernel_rfl) ?_
      refine TS_go 17 ?_
      replace h := bindO h
      obtain ⟨v6, hv6, h⟩ := h
      refine TS_call [] (ok_math_bits_RotateLeft64 (IntKind.wrap .u64 ((s1.2.getD 0 0) + (s1.2.getD 1 0))) 32 v6 hv6) (by kernel_rfl) (by kernel_rfl) ?_
      refine TS_go 17 ?_
      replace h := bindO h
      obtain ⟨v7, hv7, h⟩ := h
      refine TS_call [] (ok_math_bits_RotateLeft64 (s1.2.getD 3 0) 16 v7 hv7) (by kernel_rfl) (by kernel_rfl) ?_
      refine TS_go 27 ?_
      replace h := bindO h
      obtain ⟨v8, hv8, h⟩ := h
      refine TS_call [] (ok_math_bits_RotateLeft64 (ixor .u64 v7 (IntKind.wrap .u64 ((s1.2.getD 2 0) + (s1.2.getD 3 0)))) 21 v8 hv8) (by kernel_rfl) (by kernel_rfl) ?_
      refine TS_go 27 ?_
      replace h := bindO h
      obtain ⟨v9, hv9, h⟩ := h
      refine TS_call [] (ok_math_bits_RotateLeft64 (ixor .u64 v5 (IntKind.wrap .u64 ((s1.2.getD 0 0) + (s1.2.getD 1 0)))) 17 v9 hv9) (by kernel_rfl) (by kernel_rfl) ?_
      refine TS_go 16 ?_
      replace h := bindO h
      obtain ⟨v10, hv10, h⟩ := h
      refine TS_call [] (ok_math_bits_RotateLeft64 (IntKind.wrap .u64 ((IntKind.wrap .u64 ((s1.2.getD 2 0) + (s1.2.getD 3 0))) + (ixor .u64 v5 (IntKind.wrap .u64 ((s1.2.getD 0 0) + (s1.2.getD 1 0)))))) 32 v10 hv10) (by kernel_rfl) (by kernel_rfl) ?_
      refine TS_go 8 ?_
      have ret := Option.some.inj h
      subst ret
      exact TS_againB _ ⟨[(2, []), (4, []), (5, []), (6, [])], [(2, (2, [])), (4, (4, []))]⟩ rfl (by kernel_rfl) (by kernel_rfl)
    · refine TS_know 7 (b := false) hb4 (by kernel_rfl) (by kernel_rfl) ?_
      refine TS_F (by kernel_rfl) rfl ?_
      refine TS_go 2 ?_
      have ret := Option.some.inj h
      subst ret
      exact TS_brkB s1.2 ⟨[(2, []), (4, [])], [(2, (2, [])), (4, (4, []))]⟩ rfl (by kernel_rfl) (by kernel_rfl) (by kernel_rfl)
  · intro b2 hb
    subst y3
    have h := hK1
    refine TS_go 7 ?_
    have ret := Option.some.inj h
    subst ret
    exact TS_ret (by kernel_rfl) (by kernel_rfl) (by kernel_rfl)

/-- (multihop/siphash.state).mix -/
noncomputable def F_siphash_state_mix (a0 : List Int) (a1 : Int) : Option ((List Int)) :=
  (F_siphash_state_rounds [(a0.getD 0 0), (a0.getD 1 0), (a0.getD 2 0), ixor .u64 (a0.getD 3 0) a1] 2).bind fun v1 =>
  some ([ixor .u64 (v1.getD 0 0) a1, (v1.getD 1 0), (v1.getD 2 0), (v1.getD 3 0)])
set_option maxRecDepth 100000 in
set_option maxHeartbeats 40000000 in
theorem ok_siphash_state_mix (a0 : List Int) (a1 : Int) (r : (List Int)) (h : F_siphash_state_mix a0 a1 = some r) : Con Try.prog 94 [.agg (arrS .u64 4 a0), .c (.lit (.int .u64 (a1)))] [] (.agg (arrS .u64 4 r)) [] := by
  unfold F_siphash_state_mix at h
  refine con_of [] [] 18 Try.func94 rfl rfl (by kernel_rfl) (fun K => ?_)
  refine TS_go 17 ?_
  replace h := bindO h
  obtain ⟨v1, hv1, h⟩ := h
  refine TS_call [] (ok_siphash_state_rounds [(a0.getD 0 0), (a0.getD 1 0), (a0.getD 2 0), ixor .u64 (a0.getD 3 0) a1] 2 v1 hv1) (by kernel_rfl) (by kernel_rfl) ?_
  refine TS_go 17 ?_
  have ret := Option.some.inj h
  subst ret
  exact TS_ret (by kernel_rfl) (by kernel_rfl) (by kernel_rfl)

/-- multihop/siphash.Sum -/
noncomputable def F_siphash_Sum_l1 (a1 : List Int) (s3 : Int × (List Int)) : Option ((Int × (List Int)) ⊕ ((List Int))) :=
  bif (decide (s3.1 < (iquo .i64 (List.length a1 : Int) 8))) then
    (subO a1 (IntKind.wrap .i64 (8 * s3.1)) (IntKind.wrap .i64 ((IntKind.wrap .i64 (8 * s3.1)) + 8))).bind fun l7 =>
    (F_siphash_little l7).bind fun v8 =>
    (F_siphash_state_mix s3.2 v8).bind fun v9 =>
    some (Sum.inl (IntKind.wrap .i64 (s3.1 + 1), v9))
  else
    some (Sum.inr s3.2)
noncomputable def F_siphash_Sum (a0 : List Int) (a1 : List Int) : Option (Int) :=
  (F_siphash_little (arrL 8 a0)).bind fun v1 =>
  (F_siphash_little ([(a0.getD 8 0), (a0.getD 9 0), (a0.getD 10 0), (a0.getD 11 0), (a0.getD 12 0), (a0.getD 13 0), (a0.getD 14 0), (a0.getD 15 0)] : List Int)).bind fun v2 =>
  (loopO (F_siphash_Sum_l1 a1) (0, [ixor .u64 v1 8317987319222330741, ixor .u64 v2 7237128888997146477, ixor .u64 v1 7816392313619706465, ixor .u64 v2 8387220255154660723])).bind fun b4 =>
  (subO a1 (IntKind.wrap .i64 (8 * (iquo .i64 (List.length a1 : Int) 8))) (List.length a1 : Int)).bind fun l11 =>
  (F_siphash_little l11).bind fun v12 =>
  (F_siphash_state_mix b4 (ior .u64 v12 (ishl .u64 (IntKind.wrap .u64 (List.length a1 : Int)) 56))).bind fun v13 =>
  (F_siphash_state_rounds [(v13.getD 0 0), (v13.getD 1 0), ixor .u64 (v13.getD 2 0) 255, (v13.getD 3 0)] 4).bind fun v14 =>
  some (ixor .u64 (ixor .u64 (ixor .u64 (v14.getD 0 0) (v14.getD 1 0)) (v14.getD 2 0)) (v14.getD 3 0))
set_option maxRecDepth 100000 in
set_option maxHeartbeats 40000000 in
theorem ok_siphash_Sum (a0 : List Int) (a1 : List Int) (r : Int) (h : F_siphash_Sum a0 a1 = some r) : Con Try.prog 81 [.agg (arrS .u8 16 a0), .c (eS 1 (ecI .u8) (a1))] [] (.c (.lit (.int .u64 (r)))) [] := by
  unfold F_siphash_Sum at h
  refine con_of [] [] 70 Try.func81 rfl rfl (by kernel_rfl) (fun K => ?_)
  refine TS_go 6 ?_
  refine TS_draw (by kernel_rfl) ?_
  refine TD_win 2 0 16 (a := 0) (b := 8) (by decide) (by decide) (by kernel_rfl) (by kernel_rfl) ?_
  replace h := bindO h
  obtain ⟨v1, hv1, h⟩ := h
  refine TD_callF [] (ok_siphash_little (arrL 8 a0) v1 hv1) (by kernel_rfl) (by kernel_rfl) ?_
  refine TD_win 2 0 16 (a := 8) (b := 16) (by decide) (by decide) (by kernel_rfl) (by kernel_rfl) ?_
  replace h := bindO h
  obtain ⟨v2, hv2, h⟩ := h
  refine TD_callF [] (ok_siphash_little ([(a0.getD 8 0), (a0.getD 9 0), (a0.getD 10 0), (a0.getD 11 0), (a0.getD 12 0), (a0.getD 13 0), (a0.getD 14 0), (a0.getD 15 0)] : List Int) v2 hv2) (by kernel_rfl) (by kernel_rfl) ?_
  refine TD_go 2 ?_
  refine TD_end (by kernel_rfl) ?_
  refine TS_go 28 ?_
  refine TS_cut ⟨[(1, []), (7, []), (8, []), (26, []), (27, [])], [(7, (7, []))]⟩ (.mk [.code (codeAt [1, 1, 1, 1, 0, 1, 0] (bodyOf Try.f81)), .blk 0, .code (codeAt [1, 1, 1, 1, 1] (bodyOf Try.f81))] .normal ⟨[(1, .c (.slc 1 0 (List.length a1) (List.map (ecI .u8) a1))), (7, .c (.box 7 0)), (8, .c (.lit (.int .i64 (iquo .i64 (List.length a1 : Int) 8)))), (26, .c (.lit (.int .i64 (iquo .i64 (List.length a1 : Int) 8)))), (27, .c (.lit (.int .i64 (0))))], [(7, .box [.lit (.int .u64 (ixor .u64 v1 8317987319222330741)), .lit (.int .u64 (ixor .u64 v2 7237128888997146477)), .lit (.int .u64 (ixor .u64 v1 7816392313619706465)), .lit (.int .u64 (ixor .u64 v2 8387220255154660723))])]⟩) (by kernel_rfl) (by kernel_rfl) ?_
  replace h := bindO h
  obtain ⟨y5, hl1, hK1⟩ := h
  refine TS_loopB (F_siphash_Sum_l1 a1) ⟨[(1, []), (7, []), (8, []), (26, []), (27, [])], [(7, (7, []))]⟩ (fun (s3 : Int × (List Int)) => [(27, .c (.lit (.int .i64 (s3.1))))]) (fun (s3 : Int × (List Int)) => [(7, .box (arrS .u64 4 s3.2))]) (0, [ixor .u64 v1 8317987319222330741, ixor .u64 v2 7237128888997146477, ixor .u64 v1 7816392313619706465, ixor .u64 v2 8387220255154660723]) y5 (.exit 0) (fun (b : (List Int)) => b) ⟨[(1, []), (7, []), (8, [])], [(7, (7, []))]⟩ (fun (b4 : (List Int)) => []) (fun (b4 : (List Int)) => [(7, .box (arrS .u64 4 b4))]) hl1 (by kernel_rfl) (by kernel_rfl) ?_ ?_
  · intro s3 x h hy1
    unfold F_siphash_Sum_l1 at h
    refine TS_go 5 ?_
    replace h := condO h
    rcases h with ⟨hb6, h⟩ | ⟨hb6, h⟩
    · refine TS_know 28 (b := true) hb6 (by kernel_rfl) (by kernel_rfl) ?_
      refine TS_T (by kernel_rfl) rfl ?_
      refine TS_go 8 ?_
      refine TS_draw (by kernel_rfl) ?_
      refine TD_go 7 ?_
      replace h := bindO h
      obtain ⟨l7, hl7, h⟩ := h
      refine TD_sub (ecI .u8) 1 hl7 (by kernel_rfl) (by kernel_rfl) ?_
      replace h := bindO h
      obtain ⟨v8, hv8, h⟩ := h
      refine TD_call [] (ok_siphash_little l7 v8 hv8) (by kernel_rfl) (by kernel_rfl) ?_
      replace h := bindO h
      obtain ⟨v9, hv9, h⟩ := h
      refine TD_call [] (ok_siphash_state_mix s3.2 v8 v9 hv9) (by kernel_rfl) (by kernel_rfl) ?_
      refine TD_go 1 ?_
      refine TD_end (by kernel_rfl) ?_
      refine TS_go 5 ?_
      have ret := Option.some.inj h
      subst ret
      exact TS_againB _ ⟨[(1, []), (7, []), (8, []), (26, []), (27, [])], [(7, (7, []))]⟩ rfl (by kernel_rfl) (by kernel_rfl)
    · refine TS_know 28 (b := false) hb6 (by kernel_rfl) (by kernel_rfl) ?_
      refine TS_F (by kernel_rfl) rfl ?_
      refine TS_go 2 ?_
      have ret := Option.some.inj h
      subst ret
      exact TS_brkB s3.2 ⟨[(1, []), (7, []), (8, [])], [(7, (7, []))]⟩ rfl (by kernel_rfl) (by kernel_rfl) (by kernel_rfl)
  · intro b4 hb
    subst y5
    have h := hK1
    refine TS_go 2 ?_
    refine TS_draw (by kernel_rfl) ?_
    refine TD_go 4 ?_
    replace h := bindO h
    obtain ⟨l11, hl11, h⟩ := h
    refine TD_sub (ecI .u8) 1 hl11 (by kernel_rfl) (by kernel_rfl) ?_
    replace h := bindO h
    obtain ⟨v12, hv12, h⟩ := h
    refine TD_call [] (ok_siphash_little l11 v12 hv12) (by kernel_rfl) (by kernel_rfl) ?_
    refine TD_go 5 ?_
    replace h := bindO h
    obtain ⟨v13, hv13, h⟩ := h
    refine TD_call [] (ok_siphash_state_mix b4 (ior .u64 v12 (ishl .u64 (IntKind.wrap .u64 (List.length a1 : Int)) 56)) v13 hv13) (by kernel_rfl) (by kernel_rfl) ?_
    refine TD_go 1 ?_
    refine TD_end (by kernel_rfl) ?_
    refine TS_go 11 ?_
    replace h := bindO h
    obtain ⟨v14, hv14, h⟩ := h
    refine TS_call [] (ok_siphash_state_rounds [(v13.getD 0 0), (v13.getD 1 0), ixor .u64 (v13.getD 2 0) 255, (v13.getD 3 0)] 4 v14 hv14) (by kernel_rfl) (by kernel_rfl) ?_
    refine TS_go 18 ?_
    have ret := Option.some.inj h
    subst ret
    exact TS_ret (by kernel_rfl) (by kernel_rfl) (by kernel_rfl)

/-- multihop/siphash.Tag -/
noncomputable def F_siphash_Tag_l1 (a2 : Int) (v3 : Int) (s5 : Int × (List Int)) : Option ((Int × (List Int)) ⊕ ((List Int))) :=
  bif (decide (s5.1 < a2)) then
    bif decide (0 ≤ (IntKind.wrap .i64 (8 * s5.1))) then
      (idx (Cut.app .whole s5.2) s5.1).bind fun _e10 =>
      (s5.2[(0 + Int.toNat s5.1)]?).bind fun _e11 =>
      some (Sum.inl (IntKind.wrap .i64 (s5.1 + 1), (List.set s5.2 (0 + Int.toNat s5.1) (IntKind.wrap .u8 (ishr .u64 v3 (IntKind.wrap .i64 (8 * s5.1)))))))
    else none
  else
    some (Sum.inr s5.2)
noncomputable def F_siphash_Tag (a0 : List Int) (a1 : List Int) (a2 : Int) : Option ((List Int) × Bool) :=
  bif (decide (a2 < 1)) then
    some ((([] : List Int), false))
  else
    bif (decide (a2 > 8)) then
      some ((([] : List Int), false))
    else
      (F_siphash_Sum a0 a1).bind fun v3 =>
      (mkO 1 a2 a2).bind fun n4 =>
      (loopO (F_siphash_Tag_l1 a2 v3) (0, (List.replicate n4 (0 : Int)))).bind fun b6 =>
      some ((b6, true))
set_option maxRecDepth 100000 in
set_option maxHeartbeats 40000000 in
theorem okT_siphash_Tag (a0 : List Int) (a1 : List Int) (a2 : Int) (r : (List Int) × Bool) (h : F_siphash_Tag a0 a1 a2 = some r) : Con Try.prog 57 [.agg (arrS .u8 16 a0), .c (eS 1 (ecI .u8) (a1)), .c (.lit (.int .i64 (a2)))] [] (.tup [(false, [.slc 1 900002 (List.length r.1) (List.map (ecI .u8) r.1)]), (false, [.lit (.bool (r.2))])]) [(900000, .spare 5 1 (List.length r.1))] := by
  unfold F_siphash_Tag at h
  refine con_of [] [(900000, [])] 36 Try.func57 rfl rfl (by kernel_rfl) (fun K => ?_)
  refine TS_go 12 ?_
  replace h := condO h
  rcases h with ⟨hb1, h⟩ | ⟨hb1, h⟩
  · refine TS_know 12 (b := true) hb1 (by kernel_rfl) (by kernel_rfl) ?_
    refine TS_know 13 (b := true) hb1 (by kernel_rfl) (by kernel_rfl) ?_
    refine TS_go 4 ?_
    refine TS_T (by kernel_rfl) rfl ?_
    refine TS_go 5 ?_
    refine TS_nilT 6 600000 5 1 (by kernel_rfl) ?_
    refine TS_fitU ⟨[(6, []), (7, [])], [(600000, (900000, []))]⟩ (by kernel_rfl) ?_
    refine TS_go 2 ?_
    have ret := Option.some.inj h
    subst ret
    exact TS_ret (by kernel_rfl) (by kernel_rfl) (by kernel_rfl)
  · refine TS_know 12 (b := false) hb1 (by kernel_rfl) (by kernel_rfl) ?_
    refine TS_know 13 (b := false) hb1 (by kernel_rfl) (by kernel_rfl) ?_
    refine TS_go 4 ?_
    replace h := condO h
    rcases h with ⟨hb2, h⟩ | ⟨hb2, h⟩
    · refine TS_know 15 (b := true) hb2 (by kernel_rfl) (by kernel_rfl) ?_
      refine TS_know 16 (b := true) hb2 (by kernel_rfl) (by kernel_rfl) ?_
      refine TS_T (by kernel_rfl) rfl ?_
      refine TS_go 5 ?_
      refine TS_nilT 6 600000 5 1 (by kernel_rfl) ?_
      refine TS_fitU ⟨[(6, []), (7, [])], [(600000, (900000, []))]⟩ (by kernel_rfl) ?_
      refine TS_go 2 ?_
      have ret := Option.some.inj h
      subst ret
      exact TS_ret (by kernel_rfl) (by kernel_rfl) (by kernel_rfl)
    · refine TS_know 15 (b := false) hb2 (by kernel_rfl) (by kernel_rfl) ?_
      refine TS_know 16 (b := false) hb2 (by kernel_rfl) (by kernel_rfl) ?_
      refine TS_F (by kernel_rfl) rfl ?_
      refine TS_go 5 ?_
      replace h := bindO h
      obtain ⟨v3, hv3, h⟩ := h
      refine TS_call [] (ok_siphash_Sum a0 a1 v3 hv3) (by kernel_rfl) (by kernel_rfl) ?_
      refine TS_go 5 ?_
      replace h := bindO h
      obtain ⟨n4, hn4, h⟩ := h
      refine TS_makeR 21 5 1 (ecI .u8) (0 : Int) [] (cs := [.lit (.int .u8 (0))]) (l := a2) (c := a2) hn4 (by kernel_rfl) (by kernel_rfl) (by kernel_rfl) ?_
      refine TS_go 9 ?_
      refine TS_cut ⟨[(8, []), (9, []), (22, []), (23, [])], [(21, (21, []))]⟩ (.mk [.code (codeAt [1, 1, 1, 1, 0, 1, 0] (bodyOf Try.f57)), .blk 0, .code (codeAt [1, 1, 1, 1, 1] (bodyOf Try.f57))] .normal ⟨[(8, .c (.lit (.int .u64 (v3)))), (9, .c (.own 21)), (22, .c (.lit (.int .i64 (a2)))), (23, .c (.lit (.int .i64 (0))))], [(21, .row 5 1 (List.length (List.replicate n4 (0 : Int))) (List.map (ecI .u8) (List.replicate n4 (0 : Int))))]⟩) (by kernel_rfl) (by kernel_rfl) ?_
      replace h := bindO h
      obtain ⟨y7, hl1, hK1⟩ := h
      refine TS_loopB (F_siphash_Tag_l1 a2 v3) ⟨[(8, []), (9, []), (22, []), (23, [])], [(21, (21, []))]⟩ (fun (s5 : Int × (List Int)) => [(23, .c (.lit (.int .i64 (s5.1))))]) (fun (s5 : Int × (List Int)) => [(21, .row 5 1 (List.length s5.2) (List.map (ecI .u8) s5.2))]) (0, (List.replicate n4 (0 : Int))) y7 (.exit 0) (fun (b : (List Int)) => b) ⟨[(9, [])], [(21, (21, []))]⟩ (fun (b6 : (List Int)) => []) (fun (b6 : (List Int)) => [(21, .row 5 1 (List.length b6) (List.map (ecI .u8) b6))]) hl1 (by kernel_rfl) (by kernel_rfl) ?_ ?_
      · intro s5 x h hy1
        unfold F_siphash_Tag_l1 at h
        refine TS_go 5 ?_
        replace h := condO h
        rcases h with ⟨hb8, h⟩ | ⟨hb8, h⟩
        · refine TS_know 24 (b := true) hb8 (by kernel_rfl) (by kernel_rfl) ?_
          refine TS_T (by kernel_rfl) rfl ?_
          refine TS_go 14 ?_
          replace h := chkO h
          obtain ⟨hc9, h⟩ := h
          refine TS_num (op := .shr) (k := .u64) (k' := .i64) (m := v3) (i := IntKind.wrap .i64 (8 * s5.1)) (of_decide_eq_true hc9) rfl (by simp) (by kernel_rfl) (by kernel_rfl) ?_
          refine TS_go 1 ?_
          replace h := bindO h
          obtain ⟨_e10, he10, h⟩ := h
          refine TS_idxR 21 1 0 (ecI .u8) .whole he10 (by kernel_rfl) (by kernel_rfl) ?_
          replace h := bindO h
          obtain ⟨_e11, he11, h⟩ := h
          refine TS_stE 21 5 1 (List.length s5.2) (0 + Int.toNat s5.1) 0 (ecI .u8) (ds := [.lit (.int .u8 (IntKind.wrap .u8 (ishr .u64 v3 (IntKind.wrap .i64 (8 * s5.1)))))]) (IntKind.wrap .u8 (ishr .u64 v3 (IntKind.wrap .i64 (8 * s5.1)))) he11 (by kernel_rfl) (by kernel_rfl) (by kernel_rfl) (by kernel_rfl) ?_
          refine TS_go 6 ?_
          have ret := Option.some.inj h
          subst ret
          exact TS_againB _ ⟨[(8, []), (9, []), (22, []), (23, [])], [(21, (21, []))]⟩ rfl (by kernel_rfl) (by kernel_rfl)
        · refine TS_know 24 (b := false) hb8 (by kernel_rfl) (by kernel_rfl) ?_
          refine TS_F (by kernel_rfl) rfl ?_
          refine TS_go 2 ?_
          have ret := Option.some.inj h
          subst ret
          exact TS_brkB s5.2 ⟨[(9, [])], [(21, (21, []))]⟩ rfl (by kernel_rfl) (by kernel_rfl) (by kernel_rfl)
      · intro b6 hb
        subst y7
        have h := hK1
        refine TS_go 7 ?_
        refine TS_settle 21 (by kernel_rfl) ?_
        refine TS_fitU ⟨[(6, []), (7, [])], [(21, (900000, []))]⟩ (by kernel_rfl) ?_
        refine TS_go 1 ?_
        have ret := Option.some.inj h
        subst ret
        exact TS_ret (by kernel_rfl) (by kernel_rfl) (by kernel_rfl)
/-- bytes.Equal -/
noncomputable def F_bytes_Equal (a0 : List Int) (a1 : List Int) : Option (Bool) :=
  some (((u8L (Cut.app .whole a0)) == (u8L (Cut.app .whole a1))))
set_option maxRecDepth 100000 in
set_option maxHeartbeats 40000000 in
theorem ok_bytes_Equal (a0 : List Int) (a1 : List Int) (r : Bool) (h : F_bytes_Equal a0 a1 = some r) : Con Try.prog 44 [.c (eS 1 (ecI .u8) (a0)), .c (eS 1 (ecI .u8) (a1))] [] (.c (.lit (.bool (r)))) [] := by
  unfold F_bytes_Equal at h
  refine con_of [] [] 10 Try.func44 rfl rfl (by kernel_rfl) (fun K => ?_)
  refine TS_go 7 ?_
  refine TS_b2s a0 .whole (by kernel_rfl) (by kernel_rfl) ?_
  refine TS_go 1 ?_
  refine TS_b2s a1 .whole (by kernel_rfl) (by kernel_rfl) ?_
  refine TS_str .eql (u8L (Cut.app .whole a0)) (u8L (Cut.app .whole a1)) rfl (by kernel_rfl) (by kernel_rfl) ?_
  refine TS_go 3 ?_
  have ret := Option.some.inj h
  subst ret
  exact TS_ret (by kernel_rfl) (by kernel_rfl) (by kernel_rfl)

/-- multihop/siphash.Verify -/
noncomputable def F_siphash_Verify (a0 : List Int) (a1 : List Int) (a2 : List Int) : Option (Bool) :=
  (F_siphash_Tag a0 a1 (List.length a2 : Int)).bind fun v1 =>
  bif v1.2 then
    (F_bytes_Equal v1.1 a2).bind fun v3 =>
    some (v3)
  else
    some (false)
set_option maxRecDepth 100000 in
set_option maxHeartbeats 40000000 in
theorem ok_siphash_Verify (a0 : List Int) (a1 : List Int) (a2 : List Int) (r : Bool) (h : F_siphash_Verify a0 a1 a2 = some r) : Con Try.prog 39 [.agg (arrS .u8 16 a0), .c (eS 1 (ecI .u8) (a1)), .c (eS 1 (ecI .u8) (a2))] [] (.c (.lit (.bool (r)))) [] := by
  unfold F_siphash_Verify at h
  refine con_of [] [] 23 Try.func39 rfl rfl (by kernel_rfl) (fun K => ?_)
  refine TS_go 11 ?_
  replace h := bindO h
  obtain ⟨v1, hv1, h⟩ := h
  refine TS_con [] [(14, 900000)] none (okT_siphash_Tag a0 a1 (List.length a2 : Int) v1 hv1) (by kernel_rfl) (by kernel_rfl) (by kernel_rfl) ?_
  refine TS_go 10 ?_
  replace h := condO h
  rcases h with ⟨hb2, h⟩ | ⟨hb2, h⟩
  · refine TS_know 16 (b := true) hb2 (by kernel_rfl) (by kernel_rfl) ?_
    refine TS_know 8 (b := true) hb2 (by kernel_rfl) (by kernel_rfl) ?_
    refine TS_know 17 (b := true) hb2 (by kernel_rfl) (by kernel_rfl) ?_
    refine TS_know 18 (b := true) hb2 (by kernel_rfl) (by kernel_rfl) ?_
    refine TS_go 2 ?_
    replace h := bindO h
    obtain ⟨v3, hv3, h⟩ := h
    refine TS_call [[2]] (ok_bytes_Equal v1.1 a2 v3 hv3) (by kernel_rfl) (by kernel_rfl) ?_
    refine TS_go 4 ?_
    have ret := Option.some.inj h
    subst ret
    exact TS_ret (by kernel_rfl) (by kernel_rfl) (by kernel_rfl)
  · refine TS_know 16 (b := false) hb2 (by kernel_rfl) (by kernel_rfl) ?_
    refine TS_know 8 (b := false) hb2 (by kernel_rfl) (by kernel_rfl) ?_
    refine TS_know 17 (b := false) hb2 (by kernel_rfl) (by kernel_rfl) ?_
    refine TS_know 18 (b := false) hb2 (by kernel_rfl) (by kernel_rfl) ?_
    refine TS_go 7 ?_
    have ret := Option.some.inj h
    subst ret
    exact TS_ret (by kernel_rfl) (by kernel_rfl) (by kernel_rfl)

/-- multihop/guard.clone[multihop/api.LinkKey] -/
noncomputable def F_guard_clone_api_LinkKey (a0 : List S_LinkKey) : Option ((List S_LinkKey)) :=
  (appO 17 ([] : List S_LinkKey) (Cut.app .whole a0)).bind fun l1 =>
  some (l1)
set_option maxRecDepth 100000 in
set_option maxHeartbeats 40000000 in
theorem okT_guard_clone_api_LinkKey (a0 : List S_LinkKey) (r : (List S_LinkKey)) (h : F_guard_clone_api_LinkKey a0 = some r) : Con Try.prog 61 [.c (eS 17 S_LinkKey.cs (a0))] [] (.c (.slc 17 900002 (List.length r) (List.map S_LinkKey.cs r))) [(900000, .spare 69 17 (List.length r))] := by
  unfold F_guard_clone_api_LinkKey at h
  refine con_of [] [(900000, [])] 5 Try.func61 rfl rfl (by kernel_rfl) (fun K => ?_)
  refine TS_go 7 ?_
  replace h := bindO h
  obtain ⟨_l1, hl1, h⟩ := h
  refine TS_appNT 4 69 17 S_LinkKey.cs (fun _ => by kernel_rfl) (l2 := a0) .whole hl1 (by kernel_rfl) (by kernel_rfl) ?_
  refine TS_go 2 ?_
  refine TS_fitU ⟨[(2, [])], [(4, (900000, []))]⟩ (by kernel_rfl) ?_
  refine TS_go 1 ?_
  have ret := Option.some.inj h
  subst ret
  exact TS_ret (by kernel_rfl) (by kernel_rfl) (by kernel_rfl)
/-- multihop/guard.clone[multihop/api.Peer] -/
noncomputable def F_guard_clone_api_Peer (a0 : List S_Peer) : Option ((List S_Peer)) :=
  (appO 40 ([] : List S_Peer) (Cut.app .whole a0)).bind fun l1 =>
  some (l1)
set_option maxRecDepth 100000 in
set_option maxHeartbeats 40000000 in
theorem okT_guard_clone_api_Peer (a0 : List S_Peer) (r : (List S_Peer)) (h : F_guard_clone_api_Peer a0 = some r) : Con Try.prog 74 [.c (eS 6 S_Peer.cs (a0))] [] (.c (.slc 6 900002 (List.length r) (List.map S_Peer.cs r))) [(900000, .spare 79 6 (List.length r))] := by
  unfold F_guard_clone_api_Peer at h
  refine con_of [] [(900000, [])] 5 Try.func74 rfl rfl (by kernel_rfl) (fun K => ?_)
  refine TS_go 7 ?_
  replace h := bindO h
  obtain ⟨_l1, hl1, h⟩ := h
  refine TS_appNT 4 79 6 S_Peer.cs (fun _ => by kernel_rfl) (l2 := a0) .whole hl1 (by kernel_rfl) (by kernel_rfl) ?_
  refine TS_go 2 ?_
  refine TS_fitU ⟨[(2, [])], [(4, (900000, []))]⟩ (by kernel_rfl) ?_
  refine TS_go 1 ?_
  have ret := Option.some.inj h
  subst ret
  exact TS_ret (by kernel_rfl) (by kernel_rfl) (by kernel_rfl)
/-- multihop/guard.own -/
noncomputable def F_guard_own (a0 : S_Guard) : Option (S_Guard) :=
  (F_guard_clone_api_LinkKey a0.Keys).bind fun v1 =>
  (F_guard_clone_api_Peer a0.Peers).bind fun v2 =>
  some ((S_Guard.mk v1 a0.Counter a0.Reserved a0.Nonce v2))
set_option maxRecDepth 100000 in
set_option maxHeartbeats 40000000 in
theorem okT_guard_own (a0 : S_Guard) (r : S_Guard) (h : F_guard_own a0 = some r) : Con Try.prog 42 [.agg (S_Guard.cs a0)] [] (.agg [.slc 17 900002 (List.length r.Keys) (List.map S_LinkKey.cs r.Keys), .lit (.int .u32 (r.Counter)), .lit (.int .u32 (r.Reserved)), .lit (.int .u32 (r.Nonce)), .slc 6 900006 (List.length r.Peers) (List.map S_Peer.cs r.Peers)]) [(900000, .spare 69 17 (List.length r.Keys)), (900004, .spare 79 6 (List.length r.Peers))] := by
  unfold F_guard_own at h
  refine con_of [] [(900000, []), (900004, [])] 12 Try.func42 rfl rfl (by kernel_rfl) (fun K => ?_)
  refine TS_go 9 ?_
  replace h := bindO h
  obtain ⟨v1, hv1, h⟩ := h
  refine TS_con [] [(5, 900000)] none (okT_guard_clone_api_LinkKey a0.Keys v1 hv1) (by kernel_rfl) (by kernel_rfl) (by kernel_rfl) ?_
  refine TS_go 7 ?_
  replace h := bindO h
  obtain ⟨v2, hv2, h⟩ := h
  refine TS_con [] [(9, 900000)] none (okT_guard_clone_api_Peer a0.Peers v2 hv2) (by kernel_rfl) (by kernel_rfl) (by kernel_rfl) ?_
  refine TS_go 8 ?_
  refine TS_fitU ⟨[(2, [])], [(5, (900000, [])), (9, (900004, [])), (2, (2, []))]⟩ (by kernel_rfl) ?_
  refine TS_go 1 ?_
  have ret := Option.some.inj h
  subst ret
  exact TS_ret (by kernel_rfl) (by kernel_rfl) (by kernel_rfl)
/-- multihop/guard.accept -/
noncomputable def F_guard_accept (a0 : S_Peer) (a1 : Int) : Option (S_Peer × Int) :=
  bif (decide (a1 > a0.Last)) then
    bif decide (0 ≤ (IntKind.wrap .u32 (a1 - a0.Last))) then
      some (((S_Peer.mk a0.Src a0.Key a1 (ior .u32 (ishl .u32 a0.Window (IntKind.wrap .u32 (a1 - a0.Last))) 1)), 0))
    else none
  else
    bif (decide ((IntKind.wrap .u32 (a0.Last - a1)) ≥ 32)) then
      some (((S_Peer.mk (S_Addr.mk 0 0 0) 0 0 0), 13))
    else
      bif decide (0 ≤ (IntKind.wrap .u32 (a0.Last - a1))) then
        bif ((iand .u32 (ishr .u32 a0.Window (IntKind.wrap .u32 (a0.Last - a1))) 1) == 1) then
          some (((S_Peer.mk (S_Addr.mk 0 0 0) 0 0 0), 13))
        else
          bif decide (0 ≤ (IntKind.wrap .u32 (a0.Last - a1))) then
            some (((S_Peer.mk a0.Src a0.Key a0.Last (ior .u32 a0.Window (ishl .u32 1 (IntKind.wrap .u32 (a0.Last - a1))))), 0))
          else none
      else none
set_option maxRecDepth 100000 in
set_option maxHeartbeats 40000000 in
theorem ok_guard_accept (a0 : S_Peer) (a1 : Int) (r : S_Peer × Int) (h : F_guard_accept a0 a1 = some r) : Con Try.prog 43 [.agg (S_Peer.cs a0), .c (.lit (.int .u32 (a1)))] [] (.tup [(true, S_Peer.cs r.1), (false, [.lit (.int .i64 (r.2))])]) [] := by
  unfold F_guard_accept at h
  refine con_of [] [] 45 Try.func43 rfl rfl (by kernel_rfl) (fun K => ?_)
  refine TS_go 14 ?_
  replace h := condO h
  rcases h with ⟨hb1, h⟩ | ⟨hb1, h⟩
  · refine TS_know 10 (b := true) hb1 (by kernel_rfl) (by kernel_rfl) ?_
    refine TS_T (by kernel_rfl) rfl ?_
    refine TS_go 8 ?_
    replace h := chkO h
    obtain ⟨hc2, h⟩ := h
    refine TS_num (op := .shl) (k := .u32) (k' := .u32) (m := a0.Window) (i := IntKind.wrap .u32 (a1 - a0.Last)) (of_decide_eq_true hc2) rfl (by simp) (by kernel_rfl) (by kernel_rfl) ?_
    refine TS_go 18 ?_
    have ret := Option.some.inj h
    subst ret
    exact TS_ret (by kernel_rfl) (by kernel_rfl) (by kernel_rfl)
  · refine TS_know 10 (b := false) hb1 (by kernel_rfl) (by kernel_rfl) ?_
    refine TS_F (by kernel_rfl) rfl ?_
    refine TS_go 15 ?_
    replace h := condO h
    rcases h with ⟨hb3, h⟩ | ⟨hb3, h⟩
    · refine TS_know 28 (b := true) hb3 (by kernel_rfl) (by kernel_rfl) ?_
      refine TS_know 29 (b := true) hb3 (by kernel_rfl) (by kernel_rfl) ?_
      refine TS_go 8 ?_
      refine TS_T (by kernel_rfl) rfl ?_
      refine TS_go 8 ?_
      have ret := Option.some.inj h
      subst ret
      exact TS_ret (by kernel_rfl) (by kernel_rfl) (by kernel_rfl)
    · refine TS_know 28 (b := false) hb3 (by kernel_rfl) (by kernel_rfl) ?_
      refine TS_know 29 (b := false) hb3 (by kernel_rfl) (by kernel_rfl) ?_
      refine TS_go 3 ?_
      replace h := chkO h
      obtain ⟨hc4, h⟩ := h
      refine TS_num (op := .shr) (k := .u32) (k' := .u32) (m := a0.Window) (i := IntKind.wrap .u32 (a0.Last - a1)) (of_decide_eq_true hc4) rfl (by simp) (by kernel_rfl) (by kernel_rfl) ?_
      refine TS_go 4 ?_
      replace h := condO h
      rcases h with ⟨hb5, h⟩ | ⟨hb5, h⟩
      · refine TS_know 35 (b := true) hb5 (by kernel_rfl) (by kernel_rfl) ?_
        refine TS_know 36 (b := true) hb5 (by kernel_rfl) (by kernel_rfl) ?_
        refine TS_T (by kernel_rfl) rfl ?_
        refine TS_go 8 ?_
        have ret := Option.some.inj h
        subst ret
        exact TS_ret (by kernel_rfl) (by kernel_rfl) (by kernel_rfl)
      · refine TS_know 35 (b := false) hb5 (by kernel_rfl) (by kernel_rfl) ?_
        refine TS_know 36 (b := false) hb5 (by kernel_rfl) (by kernel_rfl) ?_
        refine TS_F (by kernel_rfl) rfl ?_
        refine TS_go 6 ?_
        replace h := chkO h
        obtain ⟨hc6, h⟩ := h
        refine TS_num (op := .shl) (k := .u32) (k' := .u32) (m := 1) (i := IntKind.wrap .u32 (a0.Last - a1)) (of_decide_eq_true hc6) rfl (by simp) (by kernel_rfl) (by kernel_rfl) ?_
        refine TS_go 11 ?_
        have ret := Option.some.inj h
        subst ret
        exact TS_ret (by kernel_rfl) (by kernel_rfl) (by kernel_rfl)

/-- multihop/guard.clone[multihop/api.LinkKey] -/
noncomputable def F_guard_clone_api_LinkKey_R (a0 : List S_LinkKey) : Option ((List S_LinkKey)) :=
  (appO 17 ([] : List S_LinkKey) (Cut.app .whole a0)).bind fun l1 =>
  some (l1)
set_option maxRecDepth 100000 in
set_option maxHeartbeats 40000000 in
theorem okT_guard_clone_api_LinkKey_R (a0 : List S_LinkKey) (r : (List S_LinkKey)) (h : F_guard_clone_api_LinkKey_R a0 = some r) : Con Try.prog 61 [.c (eS 17 S_LinkKey.cs (a0))] [] (.c (.own 900000)) [(900000, .row 69 17 (List.length r) (List.map S_LinkKey.cs r))] := by
  unfold F_guard_clone_api_LinkKey_R at h
  refine con_of [] [(900000, [])] 5 Try.func61 rfl rfl (by kernel_rfl) (fun K => ?_)
  refine TS_go 7 ?_
  replace h := bindO h
  obtain ⟨_l1, hl1, h⟩ := h
  refine TS_appNR 4 69 17 S_LinkKey.cs (fun _ => by kernel_rfl) (l2 := a0) .whole hl1 (by kernel_rfl) (by kernel_rfl) ?_
  refine TS_go 2 ?_
  refine TS_fitU ⟨[(2, [])], [(4, (900000, []))]⟩ (by kernel_rfl) ?_
  refine TS_go 1 ?_
  have ret := Option.some.inj h
  subst ret
  exact TS_ret (by kernel_rfl) (by kernel_rfl) (by kernel_rfl)

/-- multihop/guard.clone[multihop/api.Peer] -/
noncomputable def F_guard_clone_api_Peer_R (a0 : List S_Peer) : Option ((List S_Peer)) :=
  (appO 40 ([] : List S_Peer) (Cut.app .whole a0)).bind fun l1 =>
  some (l1)
set_option maxRecDepth 100000 in
set_option maxHeartbeats 40000000 in
theorem okT_guard_clone_api_Peer_R (a0 : List S_Peer) (r : (List S_Peer)) (h : F_guard_clone_api_Peer_R a0 = some r) : Con Try.prog 74 [.c (eS 6 S_Peer.cs (a0))] [] (.c (.own 900000)) [(900000, .row 79 6 (List.length r) (List.map S_Peer.cs r))] := by
  unfold F_guard_clone_api_Peer_R at h
  refine con_of [] [(900000, [])] 5 Try.func74 rfl rfl (by kernel_rfl) (fun K => ?_)
  refine TS_go 7 ?_
  replace h := bindO h
  obtain ⟨_l1, hl1, h⟩ := h
  refine TS_appNR 4 79 6 S_Peer.cs (fun _ => by kernel_rfl) (l2 := a0) .whole hl1 (by kernel_rfl) (by kernel_rfl) ?_
  refine TS_go 2 ?_
  refine TS_fitU ⟨[(2, [])], [(4, (900000, []))]⟩ (by kernel_rfl) ?_
  refine TS_go 1 ?_
  have ret := Option.some.inj h
  subst ret
  exact TS_ret (by kernel_rfl) (by kernel_rfl) (by kernel_rfl)

/-- multihop/guard.own -/
noncomputable def F_guard_own_R (a0 : S_Guard) : Option (S_Guard) :=
  (F_guard_clone_api_LinkKey_R a0.Keys).bind fun v1 =>
  (F_guard_clone_api_Peer_R a0.Peers).bind fun v2 =>
  some ((S_Guard.mk v1 a0.Counter a0.Reserved a0.Nonce v2))
set_option maxRecDepth 100000 in
set_option maxHeartbeats 40000000 in
theorem okT_guard_own_R (a0 : S_Guard) (r : S_Guard) (h : F_guard_own_R a0 = some r) : Con Try.prog 42 [.agg (S_Guard.cs a0)] [] (.agg [.own 900000, .lit (.int .u32 (r.Counter)), .lit (.int .u32 (r.Reserved)), .lit (.int .u32 (r.Nonce)), .own 900004]) [(900000, .row 69 17 (List.length r.Keys) (List.map S_LinkKey.cs r.Keys)), (900004, .row 79 6 (List.length r.Peers) (List.map S_Peer.cs r.Peers))] := by
  unfold F_guard_own_R at h
  refine con_of [] [(900000, []), (900004, [])] 12 Try.func42 rfl rfl (by kernel_rfl) (fun K => ?_)
  refine TS_go 9 ?_
  replace h := bindO h
  obtain ⟨v1, hv1, h⟩ := h
  refine TS_con [] [(5, 900000)] none (okT_guard_clone_api_LinkKey_R a0.Keys v1 hv1) (by kernel_rfl) (by kernel_rfl) (by kernel_rfl) ?_
  refine TS_go 7 ?_
  replace h := bindO h
  obtain ⟨v2, hv2, h⟩ := h
  refine TS_con [] [(9, 900000)] none (okT_guard_clone_api_Peer_R a0.Peers v2 hv2) (by kernel_rfl) (by kernel_rfl) (by kernel_rfl) ?_
  refine TS_go 8 ?_
  refine TS_fitU ⟨[(2, [])], [(5, (900000, [])), (9, (900004, [])), (2, (2, []))]⟩ (by kernel_rfl) ?_
  refine TS_go 1 ?_
  have ret := Option.some.inj h
  subst ret
  exact TS_ret (by kernel_rfl) (by kernel_rfl) (by kernel_rfl)

/-- multihop/guard.message -/
noncomputable def F_guard_message (a0 : Int) (a1 : Int) : Option ((List Int)) :=
  (F_octets_Append ([a0] : List Int) (IntKind.wrap .u64 a1) 4).bind fun v1 =>
  some (v1)
set_option maxRecDepth 100000 in
set_option maxHeartbeats 40000000 in
theorem okT_guard_message (a0 : Int) (a1 : Int) (r : (List Int)) (h : F_guard_message a0 a1 = some r) : Con Try.prog 45 [.c (.lit (.int .u8 (a0))), .c (.lit (.int .u32 (a1)))] [] (.c (.slc 1 900002 (List.length r) (List.map (ecI .u8) r))) [(900000, .spare 5 1 (List.length r))] := by
  unfold F_guard_message at h
  refine con_of [] [(900000, [])] 10 Try.func45 rfl rfl (by kernel_rfl) (fun K => ?_)
  refine TS_go 7 ?_
  refine TS_litNT 6 5 1 (ecI .u8) [] ([a0] : List Int) (by kernel_rfl) (by kernel_rfl) ?_
  refine TS_go 2 ?_
  replace h := bindO h
  obtain ⟨v1, hv1, h⟩ := h
  refine TS_con [[2]] [(9, 900000)] none (okT_octets_Append ([a0] : List Int) (IntKind.wrap .u64 a1) 4 v1 hv1) (by kernel_rfl) (by kernel_rfl) (by kernel_rfl) ?_
  refine TS_go 2 ?_
  refine TS_fitU ⟨[(4, [])], [(9, (900000, []))]⟩ (by kernel_rfl) ?_
  refine TS_go 1 ?_
  have ret := Option.some.inj h
  subst ret
  exact TS_ret (by kernel_rfl) (by kernel_rfl) (by kernel_rfl)
/-- multihop/guard.Open -/
noncomputable def F_guard_Open_l1 (a0 : S_Guard) (a1 : S_Frame) (s11 : Int) : Option ((Int) ⊕ (Int)) :=
  bif (decide (s11 < (List.length a0.Peers : Int))) then
    (idx a0.Peers s11).bind fun e15 =>
    (F_guard_comparePeers e15 (S_Peer.mk a1.Src a1.Key a1.Counter 4294967295)).bind fun v16 =>
    bif (decide (v16 < 0)) then
      some (Sum.inl (IntKind.wrap .i64 (s11 + 1)))
    else
      some (Sum.inr s11)
  else
    some (Sum.inr s11)
noncomputable def F_guard_Open (a0 : S_Guard) (a1 : S_Frame) : Option (S_Guard × Int) :=
  (F_guard_Valid a0).bind fun v1 =>
  bif v1 then
    (F_frame_Valid a1).bind fun v3 =>
    bif v3 then
      bif a1.Secure then
        (F_guard_keyOf a0 a1.Key).bind fun v6 =>
        bif v6.2 then
          (F_frame_Header a1).bind fun v8 =>
          (F_siphash_Verify v6.1 v8 a1.MIC).bind fun v9 =>
          bif v9 then
            (loopO (F_guard_Open_l1 a0 a1) 0).bind fun b12 =>
            (F_guard_own_R a0).bind fun v19 =>
            bif (decide (b12 < (List.length a0.Peers : Int))) then
              (idx a0.Peers b12).bind fun e21 =>
              bif (S_Addr.eqb e21.Src a1.Src) then
                (idx a0.Peers b12).bind fun e23 =>
                bif (e23.Key == a1.Key) then
                  (idx a0.Peers b12).bind fun e25 =>
                  (F_guard_accept e25 a1.Counter).bind fun v26 =>
                  bif (v26.2 != 0) then
                    some (((S_Guard.mk ([] : List S_LinkKey) 0 0 0 ([] : List S_Peer)), v26.2))
                  else
                    (idx (Cut.app .whole v19.Peers) b12).bind fun _e28 =>
                    (v19.Peers[(0 + Int.toNat b12)]?).bind fun _e29 =>
                    some (((S_Guard.mk v19.Keys v19.Counter v19.Reserved v19.Nonce (List.set v19.Peers (0 + Int.toNat b12) v26.1)), 0))
                else
                  bif (a1.Kind != 3) then
                    some (((S_Guard.mk ([] : List S_LinkKey) 0 0 0 ([] : List S_Peer)), 11))
                  else
                    (F_guard_message 2 a0.Nonce).bind fun v31 =>
                    (F_bytes_Equal a1.Payload v31).bind fun v32 =>
                    bif v32 then
                      bif ((List.length a0.Peers : Int) == 16) then
                        some (((S_Guard.mk ([] : List S_LinkKey) 0 0 0 ([] : List S_Peer)), 10))
                      else
                        bif decide ((0 : Int) ≤ 0 ∧ 0 ≤ b12 ∧ b12 ≤ (List.length v19.Peers : Int)) then
                          (appO 40 (List.take (Int.toNat b12) v19.Peers) (Cut.app .whole ([(S_Peer.mk a1.Src a1.Key a1.Counter 4294967295)] : List S_Peer))).bind fun l36 =>
                          (subO a0.Peers b12 (List.length a0.Peers : Int)).bind fun l37 =>
                          (appO 40 (List.take (List.length l36) l36) (Cut.app .whole l37)).bind fun l38 =>
                          some (((S_Guard.mk v19.Keys v19.Counter v19.Reserved v19.Nonce l38), 0))
                        else none
                    else
                      some (((S_Guard.mk ([] : List S_LinkKey) 0 0 0 ([] : List S_Peer)), 11))
              else
                bif (a1.Kind != 3) then
                  some (((S_Guard.mk ([] : List S_LinkKey) 0 0 0 ([] : List S_Peer)), 11))
                else
                  (F_guard_message 2 a0.Nonce).bind fun v40 =>
                  (F_bytes_Equal a1.Payload v40).bind fun v41 =>
                  bif v41 then
                    bif ((List.length a0.Peers : Int) == 16) then
                      some (((S_Guard.mk ([] : List S_LinkKey) 0 0 0 ([] : List S_Peer)), 10))
                    else
                      bif decide ((0 : Int) ≤ 0 ∧ 0 ≤ b12 ∧ b12 ≤ (List.length v19.Peers : Int)) then
                        (appO 40 (List.take (Int.toNat b12) v19.Peers) (Cut.app .whole ([(S_Peer.mk a1.Src a1.Key a1.Counter 4294967295)] : List S_Peer))).bind fun l45 =>
                        (subO a0.Peers b12 (List.length a0.Peers : Int)).bind fun l46 =>
                        (appO 40 (List.take (List.length l45) l45) (Cut.app .whole l46)).bind fun l47 =>
                        some (((S_Guard.mk v19.Keys v19.Counter v19.Reserved v19.Nonce l47), 0))
                      else none
                  else
                    some (((S_Guard.mk ([] : List S_LinkKey) 0 0 0 ([] : List S_Peer)), 11))
            else
              bif (a1.Kind != 3) then
                some (((S_Guard.mk ([] : List S_LinkKey) 0 0 0 ([] : List S_Peer)), 11))
              else
                (F_guard_message 2 a0.Nonce).bind fun v49 =>
                (F_bytes_Equal a1.Payload v49).bind fun v50 =>
                bif v50 then
                  bif ((List.length a0.Peers : Int) == 16) then
                    some (((S_Guard.mk ([] : List S_LinkKey) 0 0 0 ([] : List S_Peer)), 10))
                  else
                    bif decide ((0 : Int) ≤ 0 ∧ 0 ≤ b12 ∧ b12 ≤ (List.length v19.Peers : Int)) then
                      (appO 40 (List.take (Int.toNat b12) v19.Peers) (Cut.app .whole ([(S_Peer.mk a1.Src a1.Key a1.Counter 4294967295)] : List S_Peer))).bind fun l54 =>
                      (subO a0.Peers b12 (List.length a0.Peers : Int)).bind fun l55 =>
                      (appO 40 (List.take (List.length l54) l54) (Cut.app .whole l55)).bind fun l56 =>
                      some (((S_Guard.mk v19.Keys v19.Counter v19.Reserved v19.Nonce l56), 0))
                    else none
                else
                  some (((S_Guard.mk ([] : List S_LinkKey) 0 0 0 ([] : List S_Peer)), 11))
          else
            some (((S_Guard.mk ([] : List S_LinkKey) 0 0 0 ([] : List S_Peer)), 12))
        else
          some (((S_Guard.mk ([] : List S_LinkKey) 0 0 0 ([] : List S_Peer)), 9))
      else
        some (((S_Guard.mk ([] : List S_LinkKey) 0 0 0 ([] : List S_Peer)), 1))
    else
      some (((S_Guard.mk ([] : List S_LinkKey) 0 0 0 ([] : List S_Peer)), 1))
  else
    some (((S_Guard.mk ([] : List S_LinkKey) 0 0 0 ([] : List S_Peer)), 1))
set_option maxRecDepth 100000 in
set_option maxHeartbeats 40000000 in
theorem okT_guard_Open (a0 : S_Guard) (a1 : S_Frame) (r : S_Guard × Int) (h : F_guard_Open a0 a1 = some r) : Con Try.prog 14 [.agg (S_Guard.cs a0), .agg (S_Frame.cs a1)] [] (.tup [(true, [.slc 17 900002 (List.length r.1.Keys) (List.map S_LinkKey.cs r.1.Keys), .lit (.int .u32 (r.1.Counter)), .lit (.int .u32 (r.1.Reserved)), .lit (.int .u32 (r.1.Nonce)), .slc 6 900006 (List.length r.1.Peers) (List.map S_Peer.cs r.1.Peers)]), (false, [.lit (.int .i64 (r.2))])]) [(900000, .spare 69 17 (List.length r.1.Keys)), (900004, .spare 79 6 (List.length r.1.Peers))] := by
  unfold F_guard_Open at h
  refine con_of [] [(900000, []), (900004, [])] 154 Try.func14 rfl rfl (by kernel_rfl) (fun K => ?_)
  refine TS_go 11 ?_
  replace h := bindO h
  obtain ⟨v1, hv1, h⟩ := h
  refine TS_call [] (ok_guard_Valid a0 v1 hv1) (by kernel_rfl) (by kernel_rfl) ?_
  refine TS_go 2 ?_
  replace h := condO h
  rcases h with ⟨hb2, h⟩ | ⟨hb2, h⟩
  · subst hb2
    refine TS_go 1 ?_
    replace h := bindO h
    obtain ⟨v3, hv3, h⟩ := h
    refine TS_call [] (ok_frame_Valid a1 v3 hv3) (by kernel_rfl) (by kernel_rfl) ?_
    refine TS_go 3 ?_
    replace h := condO h
    rcases h with ⟨hb4, h⟩ | ⟨hb4, h⟩
    · subst hb4
      refine TS_go 5 ?_
      replace h := condO h
      rcases h with ⟨hb5, h⟩ | ⟨hb5, h⟩
      · refine TS_know 23 (b := true) hb5 (by kernel_rfl) (by kernel_rfl) ?_
        refine TS_know 24 (b := false) (notF hb5) (by kernel_rfl) (by kernel_rfl) ?_
        refine TS_know 25 (b := false) (notF hb5) (by kernel_rfl) (by kernel_rfl) ?_
        refine TS_F (by kernel_rfl) rfl ?_
        refine TS_go 6 ?_
        replace h := bindO h
        obtain ⟨v6, hv6, h⟩ := h
        refine TS_call [] (ok_guard_keyOf a0 a1.Key v6 hv6) (by kernel_rfl) (by kernel_rfl) ?_
        refine TS_go 13 ?_
        replace h := condO h
        rcases h with ⟨hb7, h⟩ | ⟨hb7, h⟩
        · refine TS_know 33 (b := true) hb7 (by kernel_rfl) (by kernel_rfl) ?_
          refine TS_know 7 (b := true) hb7 (by kernel_rfl) (by kernel_rfl) ?_
          refine TS_know 34 (b := true) hb7 (by kernel_rfl) (by kernel_rfl) ?_
          refine TS_know 35 (b := false) (notF hb7) (by kernel_rfl) (by kernel_rfl) ?_
          refine TS_F (by kernel_rfl) rfl ?_
          refine TS_go 3 ?_
          refine TS_draw (by kernel_rfl) ?_
          refine TD_go 2 ?_
          replace h := bindO h
          obtain ⟨v8, hv8, h⟩ := h
          refine TD_conX (d := 39) (e := 900000) [] (okT_frame_Header a1 v8 hv8) (by kernel_rfl) (by kernel_rfl) ?_
          refine TD_go 2 ?_
          replace h := bindO h
          obtain ⟨v9, hv9, h⟩ := h
          refine TD_call [[], [2]] (ok_siphash_Verify v6.1 v8 a1.MIC v9 hv9) (by kernel_rfl) (by kernel_rfl) ?_
          refine TD_go 1 ?_
          refine TD_end (by kernel_rfl) ?_
          replace h := condO h
          rcases h with ⟨hb10, h⟩ | ⟨hb10, h⟩
          · subst hb10
            refine TS_F (by kernel_rfl) rfl ?_
            refine TS_go 19 ?_
            refine TS_cut ⟨[(2, []), (3, []), (4, []), (8, []), (9, [])], [(2, (2, [])), (3, (3, [])), (4, (4, [])), (8, (8, []))]⟩ (.mk [.code (codeAt [1, 1, 1, 1, 1, 1, 1, 0, 0] (bodyOf Try.f14)), .blk 0, .code (codeAt [1, 1, 1, 1, 1, 1, 1, 1] (bodyOf Try.f14))] .normal ⟨[(2, .c (.box 2 0)), (3, .c (.box 3 0)), (4, .c (.box 4 0)), (8, .c (.box 8 0)), (9, .c (.lit (.int .i64 (0))))], [(2, .box [.slc 17 0 (List.length a0.Keys) (List.map S_LinkKey.cs a0.Keys), .lit (.int .u32 (a0.Counter)), .lit (.int .u32 (a0.Reserved)), .lit (.int .u32 (a0.Nonce)), .slc 6 0 (List.length a0.Peers) (List.map S_Peer.cs a0.Peers)]), (3, .box [.lit (.int .i64 (a1.Kind)), .lit (.bool (a1.AckRequest)), .lit (.bool (a1.Pending)), .lit (.bool (a1.Secure)), .lit (.int .u8 (a1.Seq)), .lit (.int .u16 (a1.Pan)), .lit (.int .i64 (a1.Dst.Mode)), .lit (.int .u16 (a1.Dst.Short)), .lit (.int .u64 (a1.Dst.EUI)), .lit (.int .i64 (a1.Src.Mode)), .lit (.int .u16 (a1.Src.Short)), .lit (.int .u64 (a1.Src.EUI)), .lit (.int .u32 (a1.Counter)), .lit (.int .u8 (a1.Key)), .slc 1 0 (List.length a1.Payload) (List.map (ecI .u8) a1.Payload), .slc 1 0 (List.length a1.MIC) (List.map (ecI .u8) a1.MIC)]), (4, .box [.lit (.slice none 0 0), .lit (.int .u32 (0)), .lit (.int .u32 (0)), .lit (.int .u32 (0)), .lit (.slice none 0 0)]), (8, .box [.lit (.int .i64 (a1.Src.Mode)), .lit (.int .u16 (a1.Src.Short)), .lit (.int .u64 (a1.Src.EUI)), .lit (.int .u8 (a1.Key)), .lit (.int .u32 (a1.Counter)), .lit (.int .u32 (4294967295))])]⟩) (by kernel_rfl) (by kernel_rfl) ?_
            replace h := bindO h
            obtain ⟨y13, hl1, hK1⟩ := h
            refine TS_loopB (F_guard_Open_l1 a0 a1) ⟨[(2, []), (3, []), (4, []), (8, []), (9, [])], [(2, (2, [])), (3, (3, [])), (4, (4, [])), (8, (8, []))]⟩ (fun (s11 : Int) => [(9, .c (.lit (.int .i64 (s11))))]) (fun (s11 : Int) => []) 0 y13 (.exit 0) (fun (b : Int) => b) ⟨[(2, []), (3, []), (4, []), (8, []), (9, [])], [(2, (2, [])), (3, (3, [])), (4, (4, [])), (8, (8, []))]⟩ (fun (b12 : Int) => [(9, .c (.lit (.int .i64 (b12))))]) (fun (b12 : Int) => []) hl1 (by kernel_rfl) (by kernel_rfl) ?_ ?_
            · intro s11 x h hy1
              unfold F_guard_Open_l1 at h
              refine TS_go 2 ?_
              refine TS_draw (by kernel_rfl) ?_
              refine TD_go 5 ?_
              replace h := condO h
              rcases h with ⟨hb14, h⟩ | ⟨hb14, h⟩
              · refine TD_know 57 (b := true) hb14 trivial (by kernel_rfl) (by kernel_rfl) ?_
                refine TD_go 3 ?_
                replace h := bindO h
                obtain ⟨e15, he15, h⟩ := h
                refine TD_idx S_Peer.cs he15 (by kernel_rfl) (by kernel_rfl) ?_
                refine TD_go 2 ?_
                replace h := bindO h
                obtain ⟨v16, hv16, h⟩ := h
                refine TD_call [] (ok_guard_comparePeers e15 (S_Peer.mk a1.Src a1.Key a1.Counter 4294967295) v16 hv16) (by kernel_rfl) (by kernel_rfl) ?_
                refine TD_go 2 ?_
                refine TD_end (by kernel_rfl) ?_
                replace h := condO h
                rcases h with ⟨hb17, h⟩ | ⟨hb17, h⟩
                · refine TS_know 56 (b := true) hb14 (by kernel_rfl) (by kernel_rfl) ?_
                  refine TS_know 65 (b := true) hb17 (by kernel_rfl) (by kernel_rfl) ?_
                  refine TS_know 66 (b := true) hb17 (by kernel_rfl) (by kernel_rfl) ?_
                  refine TS_T (by kernel_rfl) rfl ?_
                  refine TS_go 8 ?_
                  have ret := Option.some.inj h
                  subst ret
                  exact TS_againB _ ⟨[(2, []), (3, []), (4, []), (8, []), (9, [])], [(2, (2, [])), (3, (3, [])), (4, (4, [])), (8, (8, []))]⟩ rfl (by kernel_rfl) (by kernel_rfl)
                · refine TS_know 56 (b := true) hb14 (by kernel_rfl) (by kernel_rfl) ?_
                  refine TS_know 65 (b := false) hb17 (by kernel_rfl) (by kernel_rfl) ?_
                  refine TS_know 66 (b := false) hb17 (by kernel_rfl) (by kernel_rfl) ?_
                  refine TS_F (by kernel_rfl) rfl ?_
                  refine TS_go 2 ?_
                  have ret := Option.some.inj h
                  subst ret
                  exact TS_brkB s11 ⟨[(2, []), (3, []), (4, []), (8, []), (9, [])], [(2, (2, [])), (3, (3, [])), (4, (4, [])), (8, (8, []))]⟩ rfl (by kernel_rfl) (by kernel_rfl) (by kernel_rfl)
              · refine TD_know 57 (b := false) hb14 trivial (by kernel_rfl) (by kernel_rfl) ?_
                refine TD_go 9 ?_
                refine TD_end (by kernel_rfl) ?_
                refine TS_F (by kernel_rfl) rfl ?_
                refine TS_go 2 ?_
                have ret := Option.some.inj h
                subst ret
                exact TS_brkB s11 ⟨[(2, []), (3, []), (4, []), (8, []), (9, [])], [(2, (2, [])), (3, (3, [])), (4, (4, [])), (8, (8, []))]⟩ rfl (by kernel_rfl) (by kernel_rfl) (by kernel_rfl)
            · intro b12 hb
              subst y13
              have h := hK1
              refine TS_go 4 ?_
              replace h := bindO h
              obtain ⟨v19, hv19, h⟩ := h
              refine TS_con [] [(70, 900000), (600000, 900004)] none (okT_guard_own_R a0 v19 hv19) (by kernel_rfl) (by kernel_rfl) (by kernel_rfl) ?_
              refine TS_go 5 ?_
              refine TS_draw (by kernel_rfl) ?_
              refine TD_go 5 ?_
              replace h := condO h
              rcases h with ⟨hb20, h⟩ | ⟨hb20, h⟩
              · refine TD_know 76 (b := true) hb20 trivial (by kernel_rfl) (by kernel_rfl) ?_
                refine TD_go 3 ?_
                replace h := bindO h
                obtain ⟨_e21, he21, h⟩ := h
                refine TD_idx S_Peer.cs he21 (by kernel_rfl) (by kernel_rfl) ?_
                refine TD_go 6 ?_
                replace h := condO h
                rcases h with ⟨hb22, h⟩ | ⟨hb22, h⟩
                · refine TD_know 87 (b := true) hb22 trivial (by kernel_rfl) (by kernel_rfl) ?_
                  refine TD_go 3 ?_
                  replace h := bindO h
                  obtain ⟨_e23, he23, h⟩ := h
                  refine TD_idx S_Peer.cs he23 (by kernel_rfl) (by kernel_rfl) ?_
                  refine TD_go 6 ?_
                  refine TD_end (by kernel_rfl) ?_
                  replace h := condO h
                  rcases h with ⟨hb24, h⟩ | ⟨hb24, h⟩
                  · refine TS_know 75 (b := true) hb20 (by kernel_rfl) (by kernel_rfl) ?_
                    refine TS_know 85 (b := true) hb22 (by kernel_rfl) (by kernel_rfl) ?_
                    refine TS_know 86 (b := true) hb22 (by kernel_rfl) (by kernel_rfl) ?_
                    refine TS_know 96 (b := true) hb24 (by kernel_rfl) (by kernel_rfl) ?_
                    refine TS_know 97 (b := true) hb24 (by kernel_rfl) (by kernel_rfl) ?_
                    refine TS_T (by kernel_rfl) rfl ?_
                    refine TS_go 1 ?_
                    refine TS_draw (by kernel_rfl) ?_
                    refine TD_go 3 ?_
                    replace h := bindO h
                    obtain ⟨e25, he25, h⟩ := h
                    refine TD_idx S_Peer.cs he25 (by kernel_rfl) (by kernel_rfl) ?_
                    refine TD_go 3 ?_
                    replace h := bindO h
                    obtain ⟨v26, hv26, h⟩ := h
                    refine TD_call [] (ok_guard_accept e25 a1.Counter v26 hv26) (by kernel_rfl) (by kernel_rfl) ?_
                    refine TD_go 6 ?_
                    refine TD_end (by kernel_rfl) ?_
                    refine TS_go 6 ?_
                    replace h := condO h
                    rcases h with ⟨hb27, h⟩ | ⟨hb27, h⟩
                    · refine TS_know 110 (b := true) hb27 (by kernel_rfl) (by kernel_rfl) ?_
                      refine TS_T (by kernel_rfl) rfl ?_
                      refine TS_go 7 ?_
                      refine TS_nilB 4 0 600001 69 17 (by kernel_rfl) ?_
                      refine TS_nilB 4 4 600002 79 6 (by kernel_rfl) ?_
                      refine TS_fitU ⟨[(4, []), (5, [])], [(600001, (900000, [])), (600002, (900004, [])), (4, (4, []))]⟩ (by kernel_rfl) ?_
                      refine TS_go 3 ?_
                      have ret := Option.some.inj h
                      subst ret
                      exact TS_ret (by kernel_rfl) (by kernel_rfl) (by kernel_rfl)
                    · refine TS_know 110 (b := false) hb27 (by kernel_rfl) (by kernel_rfl) ?_
                      refine TS_F (by kernel_rfl) rfl ?_
                      refine TS_go 7 ?_
                      replace h := bindO h
                      obtain ⟨_e28, he28, h⟩ := h
                      refine TS_idxR 600000 6 0 S_Peer.cs .whole he28 (by kernel_rfl) (by kernel_rfl) ?_
                      replace h := bindO h
                      obtain ⟨_e29, he29, h⟩ := h
                      refine TS_stE 600000 79 6 (List.length v19.Peers) (0 + Int.toNat b12) 0 S_Peer.cs (ds := [.lit (.int .i64 (v26.1.Src.Mode)), .lit (.int .u16 (v26.1.Src.Short)), .lit (.int .u64 (v26.1.Src.EUI)), .lit (.int .u8 (v26.1.Key)), .lit (.int .u32 (v26.1.Last)), .lit (.int .u32 (v26.1.Window))]) v26.1 he29 (by kernel_rfl) (by kernel_rfl) (by kernel_rfl) (by kernel_rfl) ?_
                      refine TS_go 7 ?_
                      refine TS_settle 70 (by kernel_rfl) ?_
                      refine TS_settle 600000 (by kernel_rfl) ?_
                      refine TS_fitU ⟨[(4, []), (5, [])], [(70, (900000, [])), (600000, (900004, [])), (4, (4, []))]⟩ (by kernel_rfl) ?_
                      refine TS_go 2 ?_
                      have ret := Option.some.inj h
                      subst ret
                      exact TS_ret (by kernel_rfl) (by kernel_rfl) (by kernel_rfl)
                  · refine TS_know 75 (b := true) hb20 (by kernel_rfl) (by kernel_rfl) ?_
                    refine TS_know 85 (b := true) hb22 (by kernel_rfl) (by kernel_rfl) ?_
                    refine TS_know 86 (b := true) hb22 (by kernel_rfl) (by kernel_rfl) ?_
                    refine TS_know 96 (b := false) hb24 (by kernel_rfl) (by kernel_rfl) ?_
                    refine TS_know 97 (b := false) hb24 (by kernel_rfl) (by kernel_rfl) ?_
                    refine TS_F (by kernel_rfl) rfl ?_
                    refine TS_go 3 ?_
                    refine TS_draw (by kernel_rfl) ?_
                    refine TD_go 3 ?_
                    replace h := condO h
                    rcases h with ⟨hb30, h⟩ | ⟨hb30, h⟩
                    · refine TD_know 122 (b := true) hb30 trivial (by kernel_rfl) (by kernel_rfl) ?_
                      refine TD_go 8 ?_
                      refine TD_end (by kernel_rfl) ?_
                      refine TS_T (by kernel_rfl) rfl ?_
                      refine TS_go 6 ?_
                      refine TS_nilB 4 0 600001 69 17 (by kernel_rfl) ?_
                      refine TS_nilB 4 4 600002 79 6 (by kernel_rfl) ?_
                      refine TS_fitU ⟨[(4, []), (5, [])], [(600001, (900000, [])), (600002, (900004, [])), (4, (4, []))]⟩ (by kernel_rfl) ?_
                      refine TS_go 2 ?_
                      have ret := Option.some.inj h
                      subst ret
                      exact TS_ret (by kernel_rfl) (by kernel_rfl) (by kernel_rfl)
                    · refine TD_know 122 (b := false) hb30 trivial (by kernel_rfl) (by kernel_rfl) ?_
                      refine TD_go 4 ?_
                      replace h := bindO h
                      obtain ⟨v31, hv31, h⟩ := h
                      refine TD_conX (d := 127) (e := 900000) [] (okT_guard_message 2 a0.Nonce v31 hv31) (by kernel_rfl) (by kernel_rfl) ?_
                      replace h := bindO h
                      obtain ⟨v32, hv32, h⟩ := h
                      refine TD_call [[], [2]] (ok_bytes_Equal a1.Payload v31 v32 hv32) (by kernel_rfl) (by kernel_rfl) ?_
                      refine TD_go 2 ?_
                      refine TD_end (by kernel_rfl) ?_
                      replace h := condO h
                      rcases h with ⟨hb33, h⟩ | ⟨hb33, h⟩
                      · subst hb33
                        refine TS_F (by kernel_rfl) rfl ?_
                        refine TS_go 9 ?_
                        replace h := condO h
                        rcases h with ⟨hb34, h⟩ | ⟨hb34, h⟩
                        · refine TS_know 121 (b := false) hb30 (by kernel_rfl) (by kernel_rfl) ?_
                          refine TS_know 135 (b := true) hb34 (by kernel_rfl) (by kernel_rfl) ?_
                          refine TS_T (by kernel_rfl) rfl ?_
                          refine TS_go 6 ?_
                          refine TS_nilB 4 0 600001 69 17 (by kernel_rfl) ?_
                          refine TS_nilB 4 4 600002 79 6 (by kernel_rfl) ?_
                          refine TS_fitU ⟨[(4, []), (5, [])], [(600001, (900000, [])), (600002, (900004, [])), (4, (4, []))]⟩ (by kernel_rfl) ?_
                          refine TS_go 2 ?_
                          have ret := Option.some.inj h
                          subst ret
                          exact TS_ret (by kernel_rfl) (by kernel_rfl) (by kernel_rfl)
                        · refine TS_know 121 (b := false) hb30 (by kernel_rfl) (by kernel_rfl) ?_
                          refine TS_know 135 (b := false) hb34 (by kernel_rfl) (by kernel_rfl) ?_
                          refine TS_F (by kernel_rfl) rfl ?_
                          refine TS_go 2 ?_
                          refine TS_draw (by kernel_rfl) ?_
                          refine TD_go 3 ?_
                          replace h := chkO h
                          obtain ⟨hc35, h⟩ := h
                          refine TD_slRow 600000 6 (List.length v19.Peers) (a := 0) (b := b12) hc35 rfl (by kernel_rfl) (by kernel_rfl) ?_
                          refine TD_go 1 ?_
                          refine TD_litNT 142 79 6 S_Peer.cs [] ([(S_Peer.mk a1.Src a1.Key a1.Counter 4294967295)] : List S_Peer) (by kernel_rfl) (by kernel_rfl) ?_
                          replace h := bindO h
                          obtain ⟨l36, hl36, h⟩ := h
                          refine TD_appR (d := 600000) (e := 79) (sz := 6) (N := List.length v19.Peers) (m := (Int.toNat b12)) S_Peer.cs (fun _ => by kernel_rfl) (l1 := v19.Peers) (l2 := ([(S_Peer.mk a1.Src a1.Key a1.Counter 4294967295)] : List S_Peer)) (c := .whole) hl36 (by kernel_rfl) (by kernel_rfl) ?_
                          refine TD_go 2 ?_
                          refine TD_end (by kernel_rfl) ?_
                          refine TS_go 1 ?_
                          refine TS_draw (by kernel_rfl) ?_
                          refine TD_go 5 ?_
                          replace h := bindO h
                          obtain ⟨l37, hl37, h⟩ := h
                          refine TD_sub S_Peer.cs 6 hl37 (by kernel_rfl) (by kernel_rfl) ?_
                          replace h := bindO h
                          obtain ⟨_l38, hl38, h⟩ := h
                          refine TD_appR (d := 600000) (e := 79) (sz := 6) (N := List.length l36) (m := (List.length l36)) S_Peer.cs (fun _ => by kernel_rfl) (l1 := l36) (l2 := l37) (c := .whole) hl38 (by kernel_rfl) (by kernel_rfl) ?_
                          refine TD_go 2 ?_
                          refine TD_end (by kernel_rfl) ?_
                          refine TS_go 6 ?_
                          refine TS_settle 70 (by kernel_rfl) ?_
                          refine TS_settle 600000 (by kernel_rfl) ?_
                          refine TS_fitU ⟨[(4, []), (5, [])], [(70, (900000, [])), (600000, (900004, [])), (4, (4, []))]⟩ (by kernel_rfl) ?_
                          refine TS_go 1 ?_
                          have ret := Option.some.inj h
                          subst ret
                          exact TS_ret (by kernel_rfl) (by kernel_rfl) (by kernel_rfl)
                      · subst hb33
                        refine TS_T (by kernel_rfl) rfl ?_
                        refine TS_go 6 ?_
                        refine TS_nilB 4 0 600001 69 17 (by kernel_rfl) ?_
                        refine TS_nilB 4 4 600002 79 6 (by kernel_rfl) ?_
                        refine TS_fitU ⟨[(4, []), (5, [])], [(600001, (900000, [])), (600002, (900004, [])), (4, (4, []))]⟩ (by kernel_rfl) ?_
                        refine TS_go 2 ?_
                        have ret := Option.some.inj h
                        subst ret
                        exact TS_ret (by kernel_rfl) (by kernel_rfl) (by kernel_rfl)
                · refine TD_know 87 (b := false) hb22 trivial (by kernel_rfl) (by kernel_rfl) ?_
                  refine TD_go 10 ?_
                  refine TD_end (by kernel_rfl) ?_
                  refine TS_F (by kernel_rfl) rfl ?_
                  refine TS_go 3 ?_
                  refine TS_draw (by kernel_rfl) ?_
                  refine TD_go 3 ?_
                  replace h := condO h
                  rcases h with ⟨hb39, h⟩ | ⟨hb39, h⟩
                  · refine TD_know 122 (b := true) hb39 trivial (by kernel_rfl) (by kernel_rfl) ?_
                    refine TD_go 8 ?_
                    refine TD_end (by kernel_rfl) ?_
                    refine TS_T (by kernel_rfl) rfl ?_
                    refine TS_go 6 ?_
                    refine TS_nilB 4 0 600001 69 17 (by kernel_rfl) ?_
                    refine TS_nilB 4 4 600002 79 6 (by kernel_rfl) ?_
                    refine TS_fitU ⟨[(4, []), (5, [])], [(600001, (900000, [])), (600002, (900004, [])), (4, (4, []))]⟩ (by kernel_rfl) ?_
                    refine TS_go 2 ?_
                    have ret := Option.some.inj h
                    subst ret
                    exact TS_ret (by kernel_rfl) (by kernel_rfl) (by kernel_rfl)
                  · refine TD_know 122 (b := false) hb39 trivial (by kernel_rfl) (by kernel_rfl) ?_
                    refine TD_go 4 ?_
                    replace h := bindO h
                    obtain ⟨v40, hv40, h⟩ := h
                    refine TD_conX (d := 127) (e := 900000) [] (okT_guard_message 2 a0.Nonce v40 hv40) (by kernel_rfl) (by kernel_rfl) ?_
                    replace h := bindO h
                    obtain ⟨v41, hv41, h⟩ := h
                    refine TD_call [[], [2]] (ok_bytes_Equal a1.Payload v40 v41 hv41) (by kernel_rfl) (by kernel_rfl) ?_
                    refine TD_go 2 ?_
                    refine TD_end (by kernel_rfl) ?_
                    replace h := condO h
                    rcases h with ⟨hb42, h⟩ | ⟨hb42, h⟩
                    · subst hb42
                      refine TS_F (by kernel_rfl) rfl ?_
                      refine TS_go 9 ?_
                      replace h := condO h
                      rcases h with ⟨hb43, h⟩ | ⟨hb43, h⟩
                      · refine TS_know 75 (b := true) hb20 (by kernel_rfl) (by kernel_rfl) ?_
                        refine TS_know 85 (b := false) hb22 (by kernel_rfl) (by kernel_rfl) ?_
                        refine TS_know 86 (b := false) hb22 (by kernel_rfl) (by kernel_rfl) ?_
                        refine TS_know 121 (b := false) hb39 (by kernel_rfl) (by kernel_rfl) ?_
                        refine TS_know 135 (b := true) hb43 (by kernel_rfl) (by kernel_rfl) ?_
                        refine TS_T (by kernel_rfl) rfl ?_
                        refine TS_go 6 ?_
                        refine TS_nilB 4 0 600001 69 17 (by kernel_rfl) ?_
                        refine TS_nilB 4 4 600002 79 6 (by kernel_rfl) ?_
                        refine TS_fitU ⟨[(4, []), (5, [])], [(600001, (900000, [])), (600002, (900004, [])), (4, (4, []))]⟩ (by kernel_rfl) ?_
                        refine TS_go 2 ?_
                        have ret := Option.some.inj h
                        subst ret
                        exact TS_ret (by kernel_rfl) (by kernel_rfl) (by kernel_rfl)
                      · refine TS_know 75 (b := true) hb20 (by kernel_rfl) (by kernel_rfl) ?_
                        refine TS_know 85 (b := false) hb22 (by kernel_rfl) (by kernel_rfl) ?_
                        refine TS_know 86 (b := false) hb22 (by kernel_rfl) (by kernel_rfl) ?_
                        refine TS_know 121 (b := false) hb39 (by kernel_rfl) (by kernel_rfl) ?_
                        refine TS_know 135 (b := false) hb43 (by kernel_rfl) (by kernel_rfl) ?_
                        refine TS_F (by kernel_rfl) rfl ?_
                        refine TS_go 2 ?_
                        refine TS_draw (by kernel_rfl) ?_
                        refine TD_go 3 ?_
                        replace h := chkO h
                        obtain ⟨hc44, h⟩ := h
                        refine TD_slRow 600000 6 (List.length v19.Peers) (a := 0) (b := b12) hc44 rfl (by kernel_rfl) (by kernel_rfl) ?_
                        refine TD_go 1 ?_
                        refine TD_litNT 142 79 6 S_Peer.cs [] ([(S_Peer.mk a1.Src a1.Key a1.Counter 4294967295)] : List S_Peer) (by kernel_rfl) (by kernel_rfl) ?_
                        replace h := bindO h
                        obtain ⟨l45, hl45, h⟩ := h
                        refine TD_appR (d := 600000) (e := 79) (sz := 6) (N := List.length v19.Peers) (m := (Int.toNat b12)) S_Peer.cs (fun _ => by kernel_rfl) (l1 := v19.Peers) (l2 := ([(S_Peer.mk a1.Src a1.Key a1.Counter 4294967295)] : List S_Peer)) (c := .whole) hl45 (by kernel_rfl) (by kernel_rfl) ?_
                        refine TD_go 2 ?_
                        refine TD_end (by kernel_rfl) ?_
                        refine TS_go 1 ?_
                        refine TS_draw (by kernel_rfl) ?_
                        refine TD_go 5 ?_
                        replace h := bindO h
                        obtain ⟨l46, hl46, h⟩ := h
                        refine TD_sub S_Peer.cs 6 hl46 (by kernel_rfl) (by kernel_rfl) ?_
                        replace h := bindO h
                        obtain ⟨_l47, hl47, h⟩ := h
                        refine TD_appR (d := 600000) (e := 79) (sz := 6) (N := List.length l45) (m := (List.length l45)) S_Peer.cs (fun _ => by kernel_rfl) (l1 := l45) (l2 := l46) (c := .whole) hl47 (by kernel_rfl) (by kernel_rfl) ?_
                        refine TD_go 2 ?_
                        refine TD_end (by kernel_rfl) ?_
                        refine TS_go 6 ?_
                        refine TS_settle 70 (by kernel_rfl) ?_
                        refine TS_settle 600000 (by kernel_rfl) ?_
                        refine TS_fitU ⟨[(4, []), (5, [])], [(70, (900000, [])), (600000, (900004, [])), (4, (4, []))]⟩ (by kernel_rfl) ?_
                        refine TS_go 1 ?_
                        have ret := Option.some.inj h
                        subst ret
                        exact TS_ret (by kernel_rfl) (by kernel_rfl) (by kernel_rfl)
                    · subst hb42
                      refine TS_T (by kernel_rfl) rfl ?_
                      refine TS_go 6 ?_
                      refine TS_nilB 4 0 600001 69 17 (by kernel_rfl) ?_
                      refine TS_nilB 4 4 600002 79 6 (by kernel_rfl) ?_
                      refine TS_fitU ⟨[(4, []), (5, [])], [(600001, (900000, [])), (600002, (900004, [])), (4, (4, []))]⟩ (by kernel_rfl) ?_
                      refine TS_go 2 ?_
                      have ret := Option.some.inj h
                      subst ret
                      exact TS_ret (by kernel_rfl) (by kernel_rfl) (by kernel_rfl)
              · refine TD_know 76 (b := false) hb20 trivial (by kernel_rfl) (by kernel_rfl) ?_
                refine TD_go 21 ?_
                refine TD_end (by kernel_rfl) ?_
                refine TS_F (by kernel_rfl) rfl ?_
                refine TS_go 3 ?_
                refine TS_draw (by kernel_rfl) ?_
                refine TD_go 3 ?_
                replace h := condO h
                rcases h with ⟨hb48, h⟩ | ⟨hb48, h⟩
                · refine TD_know 122 (b := true) hb48 trivial (by kernel_rfl) (by kernel_rfl) ?_
                  refine TD_go 8 ?_
                  refine TD_end (by kernel_rfl) ?_
                  refine TS_T (by kernel_rfl) rfl ?_
                  refine TS_go 6 ?_
                  refine TS_nilB 4 0 600001 69 17 (by kernel_rfl) ?_
                  refine TS_nilB 4 4 600002 79 6 (by kernel_rfl) ?_
                  refine TS_fitU ⟨[(4, []), (5, [])], [(600001, (900000, [])), (600002, (900004, [])), (4, (4, []))]⟩ (by kernel_rfl) ?_
                  refine TS_go 2 ?_
                  have ret := Option.some.inj h
                  subst ret
                  exact TS_ret (by kernel_rfl) (by kernel_rfl) (by kernel_rfl)
                · refine TD_know 122 (b := false) hb48 trivial (by kernel_rfl) (by kernel_rfl) ?_
                  refine TD_go 4 ?_
                  replace h := bindO h
                  obtain ⟨v49, hv49, h⟩ := h
                  refine TD_conX (d := 127) (e := 900000) [] (okT_guard_message 2 a0.Nonce v49 hv49) (by kernel_rfl) (by kernel_rfl) ?_
                  replace h := bindO h
                  obtain ⟨v50, hv50, h⟩ := h
                  refine TD_call [[], [2]] (ok_bytes_Equal a1.Payload v49 v50 hv50) (by kernel_rfl) (by kernel_rfl) ?_
                  refine TD_go 2 ?_
                  refine TD_end (by kernel_rfl) ?_
                  replace h := condO h
                  rcases h with ⟨hb51, h⟩ | ⟨hb51, h⟩
                  · subst hb51
                    refine TS_F (by kernel_rfl) rfl ?_
                    refine TS_go 9 ?_
                    replace h := condO h
                    rcases h with ⟨hb52, h⟩ | ⟨hb52, h⟩
                    · refine TS_know 75 (b := false) hb20 (by kernel_rfl) (by kernel_rfl) ?_
                      refine TS_know 121 (b := false) hb48 (by kernel_rfl) (by kernel_rfl) ?_
                      refine TS_know 135 (b := true) hb52 (by kernel_rfl) (by kernel_rfl) ?_
                      refine TS_T (by kernel_rfl) rfl ?_
                      refine TS_go 6 ?_
                      refine TS_nilB 4 0 600001 69 17 (by kernel_rfl) ?_
                      refine TS_nilB 4 4 600002 79 6 (by kernel_rfl) ?_
                      refine TS_fitU ⟨[(4, []), (5, [])], [(600001, (900000, [])), (600002, (900004, [])), (4, (4, []))]⟩ (by kernel_rfl) ?_
                      refine TS_go 2 ?_
                      have ret := Option.some.inj h
                      subst ret
                      exact TS_ret (by kernel_rfl) (by kernel_rfl) (by kernel_rfl)
                    · refine TS_know 75 (b := false) hb20 (by kernel_rfl) (by kernel_rfl) ?_
                      refine TS_know 121 (b := false) hb48 (by kernel_rfl) (by kernel_rfl) ?_
                      refine TS_know 135 (b := false) hb52 (by kernel_rfl) (by kernel_rfl) ?_
                      refine TS_F (by kernel_rfl) rfl ?_
                      refine TS_go 2 ?_
                      refine TS_draw (by kernel_rfl) ?_
                      refine TD_go 3 ?_
                      replace h := chkO h
                      obtain ⟨hc53, h⟩ := h
                      refine TD_slRow 600000 6 (List.length v19.Peers) (a := 0) (b := b12) hc53 rfl (by kernel_rfl) (by kernel_rfl) ?_
                      refine TD_go 1 ?_
                      refine TD_litNT 142 79 6 S_Peer.cs [] ([(S_Peer.mk a1.Src a1.Key a1.Counter 4294967295)] : List S_Peer) (by kernel_rfl) (by kernel_rfl) ?_
                      replace h := bindO h
                      obtain ⟨l54, hl54, h⟩ := h
                      refine TD_appR (d := 600000) (e := 79) (sz := 6) (N := List.length v19.Peers) (m := (Int.toNat b12)) S_Peer.cs (fun _ => by kernel_rfl) (l1 := v19.Peers) (l2 := ([(S_Peer.mk a1.Src a1.Key a1.Counter 4294967295)] : List S_Peer)) (c := .whole) hl54 (by kernel_rfl) (by kernel_rfl) ?_
                      refine TD_go 2 ?_
                      refine TD_end (by kernel_rfl) ?_
                      refine TS_go 1 ?_
                      refine TS_draw (by kernel_rfl) ?_
                      refine TD_go 5 ?_
                      replace h := bindO h
                      obtain ⟨l55, hl55, h⟩ := h
                      refine TD_sub S_Peer.cs 6 hl55 (by kernel_rfl) (by kernel_rfl) ?_
                      replace h := bindO h
                      obtain ⟨_l56, hl56, h⟩ := h
                      refine TD_appR (d := 600000) (e := 79) (sz := 6) (N := List.length l54) (m := (List.length l54)) S_Peer.cs (fun _ => by kernel_rfl) (l1 := l54) (l2 := l55) (c := .whole) hl56 (by kernel_rfl) (by kernel_rfl) ?_
                      refine TD_go 2 ?_
                      refine TD_end (by kernel_rfl) ?_
                      refine TS_go 6 ?_
                      refine TS_settle 70 (by kernel_rfl) ?_
                      refine TS_settle 600000 (by kernel_rfl) ?_
                      refine TS_fitU ⟨[(4, []), (5, [])], [(70, (900000, [])), (600000, (900004, [])), (4, (4, []))]⟩ (by kernel_rfl) ?_
                      refine TS_go 1 ?_
                      have ret := Option.some.inj h
                      subst ret
                      exact TS_ret (by kernel_rfl) (by kernel_rfl) (by kernel_rfl)
                  · subst hb51
                    refine TS_T (by kernel_rfl) rfl ?_
                    refine TS_go 6 ?_
                    refine TS_nilB 4 0 600001 69 17 (by kernel_rfl) ?_
                    refine TS_nilB 4 4 600002 79 6 (by kernel_rfl) ?_
                    refine TS_fitU ⟨[(4, []), (5, [])], [(600001, (900000, [])), (600002, (900004, [])), (4, (4, []))]⟩ (by kernel_rfl) ?_
                    refine TS_go 2 ?_
                    have ret := Option.some.inj h
                    subst ret
                    exact TS_ret (by kernel_rfl) (by kernel_rfl) (by kernel_rfl)
          · subst hb10
            refine TS_T (by kernel_rfl) rfl ?_
            refine TS_go 6 ?_
            refine TS_nilB 4 0 600000 69 17 (by kernel_rfl) ?_
            refine TS_nilB 4 4 600001 79 6 (by kernel_rfl) ?_
            refine TS_fitU ⟨[(4, []), (5, [])], [(600000, (900000, [])), (600001, (900004, [])), (4, (4, []))]⟩ (by kernel_rfl) ?_
            refine TS_go 2 ?_
            have ret := Option.some.inj h
            subst ret
            exact TS_ret (by kernel_rfl) (by kernel_rfl) (by kernel_rfl)
        · refine TS_know 33 (b := false) hb7 (by kernel_rfl) (by kernel_rfl) ?_
          refine TS_know 7 (b := false) hb7 (by kernel_rfl) (by kernel_rfl) ?_
          refine TS_know 34 (b := false) hb7 (by kernel_rfl) (by kernel_rfl) ?_
          refine TS_know 35 (b := true) (notT hb7) (by kernel_rfl) (by kernel_rfl) ?_
          refine TS_T (by kernel_rfl) rfl ?_
          refine TS_go 6 ?_
          refine TS_nilB 4 0 600000 69 17 (by kernel_rfl) ?_
          refine TS_nilB 4 4 600001 79 6 (by kernel_rfl) ?_
          refine TS_fitU ⟨[(4, []), (5, [])], [(600000, (900000, [])), (600001, (900004, [])), (4, (4, []))]⟩ (by kernel_rfl) ?_
          refine TS_go 2 ?_
          have ret := Option.some.inj h
          subst ret
          exact TS_ret (by kernel_rfl) (by kernel_rfl) (by kernel_rfl)
      · refine TS_know 23 (b := false) hb5 (by kernel_rfl) (by kernel_rfl) ?_
        refine TS_know 24 (b := true) (notT hb5) (by kernel_rfl) (by kernel_rfl) ?_
        refine TS_know 25 (b := true) (notT hb5) (by kernel_rfl) (by kernel_rfl) ?_
        refine TS_T (by kernel_rfl) rfl ?_
        refine TS_go 6 ?_
        refine TS_nilB 4 0 600000 69 17 (by kernel_rfl) ?_
        refine TS_nilB 4 4 600001 79 6 (by kernel_rfl) ?_
        refine TS_fitU ⟨[(4, []), (5, [])], [(600000, (900000, [])), (600001, (900004, [])), (4, (4, []))]⟩ (by kernel_rfl) ?_
        refine TS_go 2 ?_
        have ret := Option.some.inj h
        subst ret
        exact TS_ret (by kernel_rfl) (by kernel_rfl) (by kernel_rfl)
    · subst hb4
      refine TS_go 5 ?_
      refine TS_T (by kernel_rfl) rfl ?_
      refine TS_go 6 ?_
      refine TS_nilB 4 0 600000 69 17 (by kernel_rfl) ?_
      refine TS_nilB 4 4 600001 79 6 (by kernel_rfl) ?_
      refine TS_fitU ⟨[(4, []), (5, [])], [(600000, (900000, [])), (600001, (900004, [])), (4, (4, []))]⟩ (by kernel_rfl) ?_
      refine TS_go 2 ?_
      have ret := Option.some.inj h
      subst ret
      exact TS_ret (by kernel_rfl) (by kernel_rfl) (by kernel_rfl)
  · subst hb2
    refine TS_go 10 ?_
    refine TS_T (by kernel_rfl) rfl ?_
    refine TS_go 6 ?_
    refine TS_nilB 4 0 600000 69 17 (by kernel_rfl) ?_
    refine TS_nilB 4 4 600001 79 6 (by kernel_rfl) ?_
    refine TS_fitU ⟨[(4, []), (5, [])], [(600000, (900000, [])), (600001, (900004, [])), (4, (4, []))]⟩ (by kernel_rfl) ?_
    refine TS_go 2 ?_
    have ret := Option.some.inj h
    subst ret
    exact TS_ret (by kernel_rfl) (by kernel_rfl) (by kernel_rfl)
/-- multihop/multihopref01.Same -/
noncomputable def F_ref01_Same_l1 (a0 : List Int) (a1 : List Int) (s2 : Int) : Option ((Int) ⊕ ((Unit) ⊕ (Bool))) :=
  bif (decide (s2 < (List.length a0 : Int))) then
    (idx a0 s2).bind fun e6 =>
    (idx a1 s2).bind fun e7 =>
    bif (e6 != e7) then
      some (Sum.inr (Sum.inr false))
    else
      some (Sum.inl (IntKind.wrap .i64 (s2 + 1)))
  else
    some (Sum.inr (Sum.inl ()))
noncomputable def F_ref01_Same (a0 : List Int) (a1 : List Int) : Option (Bool) :=
  bif ((List.length a0 : Int) != (List.length a1 : Int)) then
    some (false)
  else
    (loopO (F_ref01_Same_l1 a0 a1) 0).bind (Sum.elim (fun b3 =>
      some (true)
    ) (fun w9 => some w9))
set_option maxRecDepth 100000 in
set_option maxHeartbeats 40000000 in
theorem ok_ref01_Same (a0 : List Int) (a1 : List Int) (r : Bool) (h : F_ref01_Same a0 a1 = some r) : Con Try.prog 26 [.c (eS 1 (ecI .u8) (a0)), .c (eS 1 (ecI .u8) (a1))] [] (.c (.lit (.bool (r)))) [] := by
  unfold F_ref01_Same at h
  refine con_of [] [] 26 Try.func26 rfl rfl (by kernel_rfl) (fun K => ?_)
  refine TS_go 13 ?_
  replace h := condO h
  rcases h with ⟨hb1, h⟩ | ⟨hb1, h⟩
  · refine TS_know 10 (b := true) hb1 (by kernel_rfl) (by kernel_rfl) ?_
    refine TS_T (by kernel_rfl) rfl ?_
    refine TS_go 6 ?_
    have ret := Option.some.inj h
    subst ret
    exact TS_ret (by kernel_rfl) (by kernel_rfl) (by kernel_rfl)
  · refine TS_know 10 (b := false) hb1 (by kernel_rfl) (by kernel_rfl) ?_
    refine TS_F (by kernel_rfl) rfl ?_
    refine TS_go 7 ?_
    refine TS_cut ⟨[(0, []), (1, []), (5, [])], []⟩ (.mk [.code (codeAt [1, 1, 0, 1, 0] (bodyOf Try.f26)), .blk 0, .code (codeAt [1, 1, 1] (bodyOf Try.f26))] .normal ⟨[(0, .c (.slc 1 0 (List.length a0) (List.map (ecI .u8) a0))), (1, .c (.slc 1 0 (List.length a1) (List.map (ecI .u8) a1))), (5, .c (.lit (.int .i64 (0))))], []⟩) (by kernel_rfl) (by kernel_rfl) ?_
    replace h := bindO h
    obtain ⟨y4, hl1, hK1⟩ := h
    refine TS_loopB (F_ref01_Same_l1 a0 a1) ⟨[(0, []), (1, []), (5, [])], []⟩ (fun (s2 : Int) => [(5, .c (.lit (.int .i64 (s2))))]) (fun (s2 : Int) => []) 0 y4 (.exit 0) (fun (b : Unit) => (Sum.inl b : (Unit) ⊕ (Bool))) ⟨[], []⟩ (fun (b3 : Unit) => []) (fun (b3 : Unit) => []) hl1 (by kernel_rfl) (by kernel_rfl) ?_ ?_
    · intro s2 x h hy1
      unfold F_ref01_Same_l1 at h
      refine TS_go 8 ?_
      replace h := condO h
      rcases h with ⟨hb5, h⟩ | ⟨hb5, h⟩
      · refine TS_know 14 (b := true) hb5 (by kernel_rfl) (by kernel_rfl) ?_
        refine TS_T (by kernel_rfl) rfl ?_
        refine TS_go 4 ?_
        refine TS_draw (by kernel_rfl) ?_
        refine TD_go 2 ?_
        replace h := bindO h
        obtain ⟨_e6, he6, h⟩ := h
        refine TD_idx (ecI .u8) he6 (by kernel_rfl) (by kernel_rfl) ?_
        refine TD_go 3 ?_
        replace h := bindO h
        obtain ⟨_e7, he7, h⟩ := h
        refine TD_idx (ecI .u8) he7 (by kernel_rfl) (by kernel_rfl) ?_
        refine TD_go 2 ?_
        refine TD_end (by kernel_rfl) ?_
        replace h := condO h
        rcases h with ⟨hb8, h⟩ | ⟨hb8, h⟩
        · refine TS_know 25 (b := true) hb8 (by kernel_rfl) (by kernel_rfl) ?_
          refine TS_T (by kernel_rfl) rfl ?_
          refine TS_go 7 ?_
          have ret := Option.some.inj h
          subst ret
          have hy1q := hy1 _ rfl
          subst hy1q
          replace h := (elimR hK1)
          refine TS_retB rfl (by kernel_rfl) ?_
          refine TS_go 2 ?_
          have ret := Option.some.inj h
          subst ret
          exact TS_ret (by kernel_rfl) (by kernel_rfl) (by kernel_rfl)
        · refine TS_know 25 (b := false) hb8 (by kernel_rfl) (by kernel_rfl) ?_
          refine TS_F (by kernel_rfl) rfl ?_
          refine TS_go 7 ?_
          have ret := Option.some.inj h
          subst ret
          exact TS_againB _ ⟨[(0, []), (1, []), (5, [])], []⟩ rfl (by kernel_rfl) (by kernel_rfl)
      · refine TS_know 14 (b := false) hb5 (by kernel_rfl) (by kernel_rfl) ?_
        refine TS_F (by kernel_rfl) rfl ?_
        refine TS_go 2 ?_
        have ret := Option.some.inj h
        subst ret
        exact TS_brkB () ⟨[], []⟩ rfl (by kernel_rfl) (by kernel_rfl) (by kernel_rfl)
    · intro b3 hb
      subst y4
      have h := elimL hK1
      refine TS_go 6 ?_
      have ret := Option.some.inj h
      subst ret
      exact TS_ret (by kernel_rfl) (by kernel_rfl) (by kernel_rfl)

/-- multihop/multihopref03.Verify -/
noncomputable def F_ref03_Verify (a0 : List Int) (a1 : List Int) (a2 : List Int) : Option (Bool) :=
  (F_ref03_Tag a0 a1 (List.length a2 : Int)).bind fun v1 =>
  bif v1.2 then
    (F_ref01_Same v1.1 a2).bind fun v3 =>
    some (v3)
  else
    some (false)
set_option maxRecDepth 100000 in
set_option maxHeartbeats 40000000 in
theorem ok_ref03_Verify (a0 : List Int) (a1 : List Int) (a2 : List Int) (r : Bool) (h : F_ref03_Verify a0 a1 a2 = some r) : Con Try.prog 49 [.agg (arrS .u8 16 a0), .c (eS 1 (ecI .u8) (a1)), .c (eS 1 (ecI .u8) (a2))] [] (.c (.lit (.bool (r)))) [] := by
  unfold F_ref03_Verify at h
  refine con_of [] [] 23 Try.func49 rfl rfl (by kernel_rfl) (fun K => ?_)
  refine TS_go 11 ?_
  replace h := bindO h
  obtain ⟨v1, hv1, h⟩ := h
  refine TS_con [] [(14, 900000)] none (okT_ref03_Tag a0 a1 (List.length a2 : Int) v1 hv1) (by kernel_rfl) (by kernel_rfl) (by kernel_rfl) ?_
  refine TS_go 10 ?_
  replace h := condO h
  rcases h with ⟨hb2, h⟩ | ⟨hb2, h⟩
  · refine TS_know 16 (b := true) hb2 (by kernel_rfl) (by kernel_rfl) ?_
    refine TS_know 8 (b := true) hb2 (by kernel_rfl) (by kernel_rfl) ?_
    refine TS_know 17 (b := true) hb2 (by kernel_rfl) (by kernel_rfl) ?_
    refine TS_know 18 (b := true) hb2 (by kernel_rfl) (by kernel_rfl) ?_
    refine TS_go 2 ?_
    replace h := bindO h
    obtain ⟨v3, hv3, h⟩ := h
    refine TS_call [[2]] (ok_ref01_Same v1.1 a2 v3 hv3) (by kernel_rfl) (by kernel_rfl) ?_
    refine TS_go 4 ?_
    have ret := Option.some.inj h
    subst ret
    exact TS_ret (by kernel_rfl) (by kernel_rfl) (by kernel_rfl)
  · refine TS_know 16 (b := false) hb2 (by kernel_rfl) (by kernel_rfl) ?_
    refine TS_know 8 (b := false) hb2 (by kernel_rfl) (by kernel_rfl) ?_
    refine TS_know 17 (b := false) hb2 (by kernel_rfl) (by kernel_rfl) ?_
    refine TS_know 18 (b := false) hb2 (by kernel_rfl) (by kernel_rfl) ?_
    refine TS_go 7 ?_
    have ret := Option.some.inj h
    subst ret
    exact TS_ret (by kernel_rfl) (by kernel_rfl) (by kernel_rfl)

/-- multihop/multihopref06.accept -/
noncomputable def F_ref06_accept_j1 (a1 : Int) (v2 : S_Peer) : Option (S_Peer × Bool) :=
  some (((S_Peer.mk v2.Src v2.Key a1 (ior .u32 v2.Window 1)), true))
noncomputable def F_ref06_accept (a0 : S_Peer) (a1 : Int) : Option (S_Peer × Bool) :=
  bif (decide (a1 > a0.Last)) then
    bif (decide ((IntKind.wrap .u32 (a1 - a0.Last)) ≥ 32)) then
      (F_ref06_accept_j1 a1) (S_Peer.mk a0.Src a0.Key a0.Last 0)
    else
      bif decide (0 ≤ (IntKind.wrap .u32 (a1 - a0.Last))) then
        (F_ref06_accept_j1 a1) (S_Peer.mk a0.Src a0.Key a0.Last (ishl .u32 a0.Window (IntKind.wrap .u32 (a1 - a0.Last))))
      else none
  else
    bif (decide ((IntKind.wrap .u32 (a0.Last - a1)) ≥ 32)) then
      some ((a0, false))
    else
      bif decide (0 ≤ (IntKind.wrap .u32 (a0.Last - a1))) then
        bif ((iand .u32 (ishr .u32 a0.Window (IntKind.wrap .u32 (a0.Last - a1))) 1) == 1) then
          some ((a0, false))
        else
          bif decide (0 ≤ (IntKind.wrap .u32 (a0.Last - a1))) then
            some (((S_Peer.mk a0.Src a0.Key a0.Last (ior .u32 a0.Window (ishl .u32 1 (IntKind.wrap .u32 (a0.Last - a1))))), true))
          else none
      else none
set_option maxRecDepth 100000 in
set_option maxHeartbeats 40000000 in
theorem ok_ref06_accept (a0 : S_Peer) (a1 : Int) (r : S_Peer × Bool) (h : F_ref06_accept a0 a1 = some r) : Con Try.prog 53 [.agg (S_Peer.cs a0), .c (.lit (.int .u32 (a1)))] [] (.tup [(true, S_Peer.cs r.1), (false, [.lit (.bool (r.2))])]) [] := by
  unfold F_ref06_accept at h
  refine con_of [] [] 53 Try.func53 rfl rfl (by kernel_rfl) (fun K => ?_)
  refine TS_go 14 ?_
  replace h := condO h
  rcases h with ⟨hb1, h⟩ | ⟨hb1, h⟩
  · refine TS_know 11 (b := true) hb1 (by kernel_rfl) (by kernel_rfl) ?_
    refine TS_T (by kernel_rfl) rfl ?_
    refine TS_go 8 ?_
    refine TS_cut ⟨[(1, []), (2, []), (4, []), (6, [])], [(2, (2, [])), (4, (4, []))]⟩ (.mk [.code (codeAt [1, 0, 1, 0, 1] (bodyOf Try.f53)), .code (codeAt [1, 1] (bodyOf Try.f53))] .normal ⟨[(1, .c (.lit (.int .u32 (a1)))), (2, .c (.box 2 0)), (4, .c (.box 4 0)), (6, .c (.lit (.int .u32 (IntKind.wrap .u32 (a1 - a0.Last)))))], [(2, .box [.lit (.int .i64 (a0.Src.Mode)), .lit (.int .u16 (a0.Src.Short)), .lit (.int .u64 (a0.Src.EUI)), .lit (.int .u8 (a0.Key)), .lit (.int .u32 (a0.Last)), .lit (.int .u32 (a0.Window))]), (4, .box [.lit (.int .i64 (0)), .lit (.int .u16 (0)), .lit (.int .u64 (0)), .lit (.int .u8 (0)), .lit (.int .u32 (0)), .lit (.int .u32 (0))])]⟩) (by kernel_rfl) (by kernel_rfl) ?_
    refine TS_joinB ⟨[(1, []), (2, []), (4, [])], [(2, (2, [])), (4, (4, []))]⟩ (fun (v2 : S_Peer) => []) (fun (v2 : S_Peer) => [(2, .box (S_Peer.cs v2))]) (F_ref06_accept_j1 a1) r ?_ ?_
    · clear h
      intro v2 h
      unfold F_ref06_accept_j1 at h
      refine TS_go 22 ?_
      have ret := Option.some.inj h
      subst ret
      exact TS_ret (by kernel_rfl) (by kernel_rfl) (by kernel_rfl)
    · refine TS_go 5 ?_
      replace h := condO h
      rcases h with ⟨hb3, h⟩ | ⟨hb3, h⟩
      · refine TS_know 17 (b := true) hb3 (by kernel_rfl) (by kernel_rfl) ?_
        refine TS_T (by kernel_rfl) rfl ?_
        refine TS_go 4 ?_
        exact TS_meet (S_Peer.mk a0.Src a0.Key a0.Last 0) ⟨[(1, []), (2, []), (4, [])], [(2, (2, [])), (4, (4, []))]⟩ h (by kernel_rfl) (by kernel_rfl)
      · refine TS_know 17 (b := false) hb3 (by kernel_rfl) (by kernel_rfl) ?_
        refine TS_F (by kernel_rfl) rfl ?_
        refine TS_go 4 ?_
        replace h := chkO h
        obtain ⟨hc4, h⟩ := h
        refine TS_num (op := .shl) (k := .u32) (k' := .u32) (m := a0.Window) (i := IntKind.wrap .u32 (a1 - a0.Last)) (of_decide_eq_true hc4) rfl (by simp) (by kernel_rfl) (by kernel_rfl) ?_
        refine TS_go 3 ?_
        exact TS_meet (S_Peer.mk a0.Src a0.Key a0.Last (ishl .u32 a0.Window (IntKind.wrap .u32 (a1 - a0.Last)))) ⟨[(1, []), (2, []), (4, [])], [(2, (2, [])), (4, (4, []))]⟩ h (by kernel_rfl) (by kernel_rfl)
  · refine TS_know 11 (b := false) hb1 (by kernel_rfl) (by kernel_rfl) ?_
    refine TS_F (by kernel_rfl) rfl ?_
    refine TS_go 15 ?_
    replace h := condO h
    rcases h with ⟨hb5, h⟩ | ⟨hb5, h⟩
    · refine TS_know 36 (b := true) hb5 (by kernel_rfl) (by kernel_rfl) ?_
      refine TS_know 37 (b := true) hb5 (by kernel_rfl) (by kernel_rfl) ?_
      refine TS_go 8 ?_
      refine TS_T (by kernel_rfl) rfl ?_
      refine TS_go 8 ?_
      have ret := Option.some.inj h
      subst ret
      exact TS_ret (by kernel_rfl) (by kernel_rfl) (by kernel_rfl)
    · refine TS_know 36 (b := false) hb5 (by kernel_rfl) (by kernel_rfl) ?_
      refine TS_know 37 (b := false) hb5 (by kernel_rfl) (by kernel_rfl) ?_
      refine TS_go 3 ?_
      replace h := chkO h
      obtain ⟨hc6, h⟩ := h
      refine TS_num (op := .shr) (k := .u32) (k' := .u32) (m := a0.Window) (i := IntKind.wrap .u32 (a0.Last - a1)) (of_decide_eq_true hc6) rfl (by simp) (by kernel_rfl) (by kernel_rfl) ?_
      refine TS_go 4 ?_
      replace h := condO h
      rcases h with ⟨hb7, h⟩ | ⟨hb7, h⟩
      · refine TS_know 43 (b := true) hb7 (by kernel_rfl) (by kernel_rfl) ?_
        refine TS_know 44 (b := true) hb7 (by kernel_rfl) (by kernel_rfl) ?_
        refine TS_T (by kernel_rfl) rfl ?_
        refine TS_go 8 ?_
        have ret := Option.some.inj h
        subst ret
        exact TS_ret (by kernel_rfl) (by kernel_rfl) (by kernel_rfl)
      · refine TS_know 43 (b := false) hb7 (by kernel_rfl) (by kernel_rfl) ?_
        refine TS_know 44 (b := false) hb7 (by kernel_rfl) (by kernel_rfl) ?_
        refine TS_F (by kernel_rfl) rfl ?_
        refine TS_go 6 ?_
        replace h := chkO h
        obtain ⟨hc8, h⟩ := h
        refine TS_num (op := .shl) (k := .u32) (k' := .u32) (m := 1) (i := IntKind.wrap .u32 (a0.Last - a1)) (of_decide_eq_true hc8) rfl (by simp) (by kernel_rfl) (by kernel_rfl) ?_
        refine TS_go 11 ?_
        have ret := Option.some.inj h
        subst ret
        exact TS_ret (by kernel_rfl) (by kernel_rfl) (by kernel_rfl)
end
section
open Go.RowKit
attribute [local irreducible] TS go TD goD

/-- multihop/multihopref06.copied -/
noncomputable def F_ref06_copied_R (a0 : S_Guard) : Option (S_Guard) :=
  (appO 17 (List.take (List.length ([] : List S_LinkKey)) ([] : List S_LinkKey)) (Cut.app .whole a0.Keys)).bind fun l1 =>
  (appO 40 (List.take (List.length ([] : List S_Peer)) ([] : List S_Peer)) (Cut.app .whole a0.Peers)).bind fun l2 =>
  some ((S_Guard.mk l1 a0.Counter a0.Reserved a0.Nonce l2))
set_option maxRecDepth 100000 in
set_option maxHeartbeats 40000000 in
theorem okT_ref06_copied_R (a0 : S_Guard) (r : S_Guard) (h : F_ref06_copied_R a0 = some r) : Con Try.prog 51 [.agg (S_Guard.cs a0)] [] (.agg [.own 900000, .lit (.int .u32 (r.Counter)), .lit (.int .u32 (r.Reserved)), .lit (.int .u32 (r.Nonce)), .own 900004]) [(900000, .row 69 17 (List.length r.Keys) (List.map S_LinkKey.cs r.Keys)), (900004, .row 79 6 (List.length r.Peers) (List.map S_Peer.cs r.Peers))] := by
  unfold F_ref06_copied_R at h
  refine con_of [] [(900000, []), (900004, [])] 14 Try.func51 rfl rfl (by kernel_rfl) (fun K => ?_)
  refine TS_go 7 ?_
  refine TS_litNR 3 69 17 S_LinkKey.cs [] ([] : List S_LinkKey) (by kernel_rfl) (by kernel_rfl) ?_
  refine TS_go 2 ?_
  replace h := bindO h
  obtain ⟨l1, hl1, h⟩ := h
  refine TS_appR (d := 3) (e := 69) (sz := 17) (N := List.length ([] : List S_LinkKey)) (m := (List.length ([] : List S_LinkKey))) S_LinkKey.cs (fun _ => by kernel_rfl) (l1 := ([] : List S_LinkKey)) (l2 := a0.Keys) (c := .whole) hl1 (by kernel_rfl) (by kernel_rfl) ?_
  refine TS_go 5 ?_
  refine TS_litNR 8 79 6 S_Peer.cs [] ([] : List S_Peer) (by kernel_rfl) (by kernel_rfl) ?_
  refine TS_go 2 ?_
  replace h := bindO h
  obtain ⟨l2, hl2, h⟩ := h
  refine TS_appR (d := 8) (e := 79) (sz := 6) (N := List.length ([] : List S_Peer)) (m := (List.length ([] : List S_Peer))) S_Peer.cs (fun _ => by kernel_rfl) (l1 := ([] : List S_Peer)) (l2 := a0.Peers) (c := .whole) hl2 (by kernel_rfl) (by kernel_rfl) ?_
  refine TS_go 8 ?_
  refine TS_fitU ⟨[(2, [])], [(3, (900000, [])), (8, (900004, [])), (2, (2, []))]⟩ (by kernel_rfl) ?_
  refine TS_go 1 ?_
  have ret := Option.some.inj h
  subst ret
  exact TS_ret (by kernel_rfl) (by kernel_rfl) (by kernel_rfl)

/-- multihop/multihopref06.Open -/
noncomputable def F_ref06_Open_l1 (v11 : S_Guard) (a1 : S_Frame) (s12 : Int) : Option ((Int) ⊕ (Int)) :=
  bif (decide (s12 < (List.length v11.Peers : Int))) then
    (idx (Cut.app .whole v11.Peers) s12).bind fun _e16 =>
    (v11.Peers[(0 + Int.toNat s12)]?).bind fun e17 =>
    (F_ref06_before e17 a1.Src a1.Key).bind fun v18 =>
    bif v18 then
      some (Sum.inl (IntKind.wrap .i64 (s12 + 1)))
    else
      some (Sum.inr s12)
  else
    some (Sum.inr s12)
noncomputable def F_ref06_Open (a0 : S_Guard) (a1 : S_Frame) : Option (S_Guard × Int) :=
  (F_ref06_Valid a0).bind fun v1 =>
  bif v1 then
    (F_ref05_Valid a1).bind fun v3 =>
    bif v3 then
      bif a1.Secure then
        (F_ref06_key a0 a1.Key).bind fun v6 =>
        bif v6.2 then
          (F_ref05_Header a1).bind fun v8 =>
          (F_ref03_Verify v6.1 v8 a1.MIC).bind fun v9 =>
          bif v9 then
            (F_ref06_copied_R a0).bind fun v11 =>
            (loopO (F_ref06_Open_l1 v11 a1) 0).bind fun b13 =>
            bif (decide (b13 < (List.length v11.Peers : Int))) then
              (idx (Cut.app .whole v11.Peers) b13).bind fun _e22 =>
              (v11.Peers[(0 + Int.toNat b13)]?).bind fun e23 =>
              bif (S_Addr.eqb e23.Src a1.Src) then
                (idx (Cut.app .whole v11.Peers) b13).bind fun _e25 =>
                (v11.Peers[(0 + Int.toNat b13)]?).bind fun e26 =>
                bif (e26.Key == a1.Key) then
                  (idx (Cut.app .whole v11.Peers) b13).bind fun _e28 =>
                  (v11.Peers[(0 + Int.toNat b13)]?).bind fun e29 =>
                  (F_ref06_accept e29 a1.Counter).bind fun v30 =>
                  bif v30.2 then
                    (idx (Cut.app .whole v11.Peers) b13).bind fun _e32 =>
                    (v11.Peers[(0 + Int.toNat b13)]?).bind fun _e33 =>
                    some (((S_Guard.mk v11.Keys v11.Counter v11.Reserved v11.Nonce (List.set v11.Peers (0 + Int.toNat b13) v30.1)), 0))
                  else
                    some (((S_Guard.mk ([] : List S_LinkKey) 0 0 0 ([] : List S_Peer)), 13))
                else
                  bif (a1.Kind != 3) then
                    some (((S_Guard.mk ([] : List S_LinkKey) 0 0 0 ([] : List S_Peer)), 11))
                  else
                    (F_ref06_response 2 v11.Nonce).bind fun v35 =>
                    (F_ref01_Same a1.Payload v35).bind fun v36 =>
                    bif v36 then
                      bif ((List.length v11.Peers : Int) == 16) then
                        some (((S_Guard.mk ([] : List S_LinkKey) 0 0 0 ([] : List S_Peer)), 10))
                      else
                        bif decide ((0 : Int) ≤ b13 ∧ b13 ≤ (List.length v11.Peers : Int) ∧ (List.length v11.Peers : Int) ≤ (List.length v11.Peers : Int)) then
                          (appO 40 ([(S_Peer.mk a1.Src a1.Key a1.Counter 4294967295)] : List S_Peer) (Cut.app (.part (Int.toNat b13) (Int.toNat (List.length v11.Peers : Int) - Int.toNat b13)) v11.Peers)).bind fun l40 =>
                          (subO v11.Peers 0 b13).bind fun l41 =>
                          (appO 40 l41 l40).bind fun l42 =>
                          some (((S_Guard.mk v11.Keys v11.Counter v11.Reserved v11.Nonce l42), 0))
                        else none
                    else
                      some (((S_Guard.mk ([] : List S_LinkKey) 0 0 0 ([] : List S_Peer)), 11))
              else
                bif (a1.Kind != 3) then
                  some (((S_Guard.mk ([] : List S_LinkKey) 0 0 0 ([] : List S_Peer)), 11))
                else
                  (F_ref06_response 2 v11.Nonce).bind fun v44 =>
                  (F_ref01_Same a1.Payload v44).bind fun v45 =>
                  bif v45 then
                    bif ((List.length v11.Peers : Int) == 16) then
                      some (((S_Guard.mk ([] : List S_LinkKey) 0 0 0 ([] : List S_Peer)), 10))
                    else
                      bif decide ((0 : Int) ≤ b13 ∧ b13 ≤ (List.length v11.Peers : Int) ∧ (List.length v11.Peers : Int) ≤ (List.length v11.Peers : Int)) then
                        (appO 40 ([(S_Peer.mk a1.Src a1.Key a1.Counter 4294967295)] : List S_Peer) (Cut.app (.part (Int.toNat b13) (Int.toNat (List.length v11.Peers : Int) - Int.toNat b13)) v11.Peers)).bind fun l49 =>
                        (subO v11.Peers 0 b13).bind fun l50 =>
                        (appO 40 l50 l49).bind fun l51 =>
                        some (((S_Guard.mk v11.Keys v11.Counter v11.Reserved v11.Nonce l51), 0))
                      else none
                  else
                    some (((S_Guard.mk ([] : List S_LinkKey) 0 0 0 ([] : List S_Peer)), 11))
            else
              bif (a1.Kind != 3) then
                some (((S_Guard.mk ([] : List S_LinkKey) 0 0 0 ([] : List S_Peer)), 11))
              else
                (F_ref06_response 2 v11.Nonce).bind fun v53 =>
                (F_ref01_Same a1.Payload v53).bind fun v54 =>
                bif v54 then
                  bif ((List.length v11.Peers : Int) == 16) then
                    some (((S_Guard.mk ([] : List S_LinkKey) 0 0 0 ([] : List S_Peer)), 10))
                  else
                    bif decide ((0 : Int) ≤ b13 ∧ b13 ≤ (List.length v11.Peers : Int) ∧ (List.length v11.Peers : Int) ≤ (List.length v11.Peers : Int)) then
                      (appO 40 ([(S_Peer.mk a1.Src a1.Key a1.Counter 4294967295)] : List S_Peer) (Cut.app (.part (Int.toNat b13) (Int.toNat (List.length v11.Peers : Int) - Int.toNat b13)) v11.Peers)).bind fun l58 =>
                      (subO v11.Peers 0 b13).bind fun l59 =>
                      (appO 40 l59 l58).bind fun l60 =>
                      some (((S_Guard.mk v11.Keys v11.Counter v11.Reserved v11.Nonce l60), 0))
                    else none
                else
                  some (((S_Guard.mk ([] : List S_LinkKey) 0 0 0 ([] : List S_Peer)), 11))
          else
            some (((S_Guard.mk ([] : List S_LinkKey) 0 0 0 ([] : List S_Peer)), 12))
        else
          some (((S_Guard.mk ([] : List S_LinkKey) 0 0 0 ([] : List S_Peer)), 9))
      else
        some (((S_Guard.mk ([] : List S_LinkKey) 0 0 0 ([] : List S_Peer)), 1))
    else
      some (((S_Guard.mk ([] : List S_LinkKey) 0 0 0 ([] : List S_Peer)), 1))
  else
    some (((S_Guard.mk ([] : List S_LinkKey) 0 0 0 ([] : List S_Peer)), 1))
set_option maxRecDepth 100000 in
set_option maxHeartbeats 40000000 in
theorem okT_ref06_Open (a0 : S_Guard) (a1 : S_Frame) (r : S_Guard × Int) (h : F_ref06_Open a0 a1 = some r) : Con Try.prog 15 [.agg (S_Guard.cs a0), .agg (S_Frame.cs a1)] [] (.tup [(true, [.slc 17 900002 (List.length r.1.Keys) (List.map S_LinkKey.cs r.1.Keys), .lit (.int .u32 (r.1.Counter)), .lit (.int .u32 (r.1.Reserved)), .lit (.int .u32 (r.1.Nonce)), .slc 6 0 (List.length r.1.Peers) (List.map S_Peer.cs r.1.Peers)]), (false, [.lit (.int .i64 (r.2))])]) [(900000, .spare 69 17 (List.length r.1.Keys))] := by
  unfold F_ref06_Open at h
  refine con_of [[0, 0, 0, 0, 7]] [(900000, [])] 152 Try.func15 rfl rfl (by kernel_rfl) (fun K => ?_)
  refine TS_go 11 ?_
  replace h := bindO h
  obtain ⟨v1, hv1, h⟩ := h
  refine TS_call [] (ok_ref06_Valid a0 v1 hv1) (by kernel_rfl) (by kernel_rfl) ?_
  refine TS_go 2 ?_
  replace h := condO h
  rcases h with ⟨hb2, h⟩ | ⟨hb2, h⟩
  · subst hb2
    refine TS_go 1 ?_
    replace h := bindO h
    obtain ⟨v3, hv3, h⟩ := h
    refine TS_call [] (ok_ref05_Valid a1 v3 hv3) (by kernel_rfl) (by kernel_rfl) ?_
    refine TS_go 3 ?_
    replace h := condO h
    rcases h with ⟨hb4, h⟩ | ⟨hb4, h⟩
    · subst hb4
      refine TS_go 5 ?_
      replace h := condO h
      rcases h with ⟨hb5, h⟩ | ⟨hb5, h⟩
      · refine TS_know 22 (b := true) hb5 (by kernel_rfl) (by kernel_rfl) ?_
        refine TS_know 23 (b := false) (notF hb5) (by kernel_rfl) (by kernel_rfl) ?_
        refine TS_know 24 (b := false) (notF hb5) (by kernel_rfl) (by kernel_rfl) ?_
        refine TS_F (by kernel_rfl) rfl ?_
        refine TS_go 6 ?_
        replace h := bindO h
        obtain ⟨v6, hv6, h⟩ := h
        refine TS_call [] (ok_ref06_key a0 a1.Key v6 hv6) (by kernel_rfl) (by kernel_rfl) ?_
        refine TS_go 13 ?_
        replace h := condO h
        rcases h with ⟨hb7, h⟩ | ⟨hb7, h⟩
        · refine TS_know 32 (b := true) hb7 (by kernel_rfl) (by kernel_rfl) ?_
          refine TS_know 7 (b := true) hb7 (by kernel_rfl) (by kernel_rfl) ?_
          refine TS_know 33 (b := true) hb7 (by kernel_rfl) (by kernel_rfl) ?_
          refine TS_know 34 (b := false) (notF hb7) (by kernel_rfl) (by kernel_rfl) ?_
          refine TS_F (by kernel_rfl) rfl ?_
          refine TS_go 3 ?_
          refine TS_draw (by kernel_rfl) ?_
          refine TD_go 2 ?_
          replace h := bindO h
          obtain ⟨v8, hv8, h⟩ := h
          refine TD_conX (d := 38) (e := 900000) [] (okT_ref05_Header a1 v8 hv8) (by kernel_rfl) (by kernel_rfl) ?_
          refine TD_go 2 ?_
          replace h := bindO h
          obtain ⟨v9, hv9, h⟩ := h
          refine TD_call [[], [2]] (ok_ref03_Verify v6.1 v8 a1.MIC v9 hv9) (by kernel_rfl) (by kernel_rfl) ?_
          refine TD_go 1 ?_
          refine TD_end (by kernel_rfl) ?_
          replace h := condO h
          rcases h with ⟨hb10, h⟩ | ⟨hb10, h⟩
          · subst hb10
            refine TS_F (by kernel_rfl) rfl ?_
            refine TS_go 4 ?_
            replace h := bindO h
            obtain ⟨v11, hv11, h⟩ := h
            refine TS_con [] [(45, 900000), (600000, 900004)] none (okT_ref06_copied_R a0 v11 hv11) (by kernel_rfl) (by kernel_rfl) (by kernel_rfl) ?_
            refine TS_go 8 ?_
            refine TS_cut ⟨[(2, []), (3, []), (4, []), (8, [])], [(2, (2, [])), (3, (3, [])), (4, (4, [])), (45, (45, [])), (600000, (600000, []))]⟩ (.mk [.code (codeAt [1, 1, 1, 1, 1, 1, 1, 0, 0] (bodyOf Try.f15)), .blk 0, .code (codeAt [1, 1, 1, 1, 1, 1, 1, 1] (bodyOf Try.f15))] .normal ⟨[(2, .c (.box 2 0)), (3, .c (.box 3 0)), (4, .c (.box 4 0)), (8, .c (.lit (.int .i64 (0))))], [(2, .box [.own 45, .lit (.int .u32 (v11.Counter)), .lit (.int .u32 (v11.Reserved)), .lit (.int .u32 (v11.Nonce)), .own 600000]), (3, .box [.lit (.int .i64 (a1.Kind)), .lit (.bool (a1.AckRequest)), .lit (.bool (a1.Pending)), .lit (.bool (a1.Secure)), .lit (.int .u8 (a1.Seq)), .lit (.int .u16 (a1.Pan)), .lit (.int .i64 (a1.Dst.Mode)), .lit (.int .u16 (a1.Dst.Short)), .lit (.int .u64 (a1.Dst.EUI)), .lit (.int .i64 (a1.Src.Mode)), .lit (.int .u16 (a1.Src.Short)), .lit (.int .u64 (a1.Src.EUI)), .lit (.int .u32 (a1.Counter)), .lit (.int .u8 (a1.Key)), .slc 1 0 (List.length a1.Payload) (List.map (ecI .u8) a1.Payload), .slc 1 0 (List.length a1.MIC) (List.map (ecI .u8) a1.MIC)]), (4, .box [.lit (.slice none 0 0), .lit (.int .u32 (0)), .lit (.int .u32 (0)), .lit (.int .u32 (0)), .lit (.slice none 0 0)]), (45, .row 69 17 (List.length v11.Keys) (List.map S_LinkKey.cs v11.Keys)), (600000, .row 79 6 (List.length v11.Peers) (List.map S_Peer.cs v11.Peers))]⟩) (by kernel_rfl) (by kernel_rfl) ?_
            replace h := bindO h
            obtain ⟨y14, hl1, hK1⟩ := h
            refine TS_loopB (F_ref06_Open_l1 v11 a1) ⟨[(2, []), (3, []), (4, []), (8, [])], [(2, (2, [])), (3, (3, [])), (4, (4, [])), (45, (45, [])), (600000, (600000, []))]⟩ (fun (s12 : Int) => [(8, .c (.lit (.int .i64 (s12))))]) (fun (s12 : Int) => []) 0 y14 (.exit 0) (fun (b : Int) => b) ⟨[(2, []), (3, []), (4, []), (8, [])], [(2, (2, [])), (3, (3, [])), (4, (4, [])), (45, (45, [])), (600000, (600000, []))]⟩ (fun (b13 : Int) => [(8, .c (.lit (.int .i64 (b13))))]) (fun (b13 : Int) => []) hl1 (by kernel_rfl) (by kernel_rfl) ?_ ?_
            · intro s12 x h hy1
              unfold F_ref06_Open_l1 at h
              refine TS_go 2 ?_
              refine TS_draw (by kernel_rfl) ?_
              refine TD_go 5 ?_
              replace h := condO h
              rcases h with ⟨hb15, h⟩ | ⟨hb15, h⟩
              · refine TD_know 51 (b := true) hb15 trivial (by kernel_rfl) (by kernel_rfl) ?_
                refine TD_go 3 ?_
                replace h := bindO h
                obtain ⟨_e16, he16, h⟩ := h
                refine TD_idxR 600000 6 0 S_Peer.cs .whole he16 (by kernel_rfl) (by kernel_rfl) ?_
                replace h := bindO h
                obtain ⟨e17, he17, h⟩ := h
                refine TD_ldE 79 (0 + Int.toNat s12) 0 S_Peer.cs (v := .agg [.lit (.int .i64 (e17.Src.Mode)), .lit (.int .u16 (e17.Src.Short)), .lit (.int .u64 (e17.Src.EUI)), .lit (.int .u8 (e17.Key)), .lit (.int .u32 (e17.Last)), .lit (.int .u32 (e17.Window))]) he17 (by kernel_rfl) (by kernel_rfl) (by kernel_rfl) ?_
                refine TD_go 4 ?_
                replace h := bindO h
                obtain ⟨v18, hv18, h⟩ := h
                refine TD_call [] (ok_ref06_before e17 a1.Src a1.Key v18 hv18) (by kernel_rfl) (by kernel_rfl) ?_
                refine TD_go 1 ?_
                refine TD_end (by kernel_rfl) ?_
                replace h := condO h
                rcases h with ⟨hb19, h⟩ | ⟨hb19, h⟩
                · subst hb19
                  refine TS_T (by kernel_rfl) rfl ?_
                  refine TS_go 8 ?_
                  have ret := Option.some.inj h
                  subst ret
                  exact TS_againB _ ⟨[(2, []), (3, []), (4, []), (8, [])], [(2, (2, [])), (3, (3, [])), (4, (4, [])), (45, (45, [])), (600000, (600000, []))]⟩ rfl (by kernel_rfl) (by kernel_rfl)
                · subst hb19
                  refine TS_F (by kernel_rfl) rfl ?_
                  refine TS_go 2 ?_
                  have ret := Option.some.inj h
                  subst ret
                  exact TS_brkB s12 ⟨[(2, []), (3, []), (4, []), (8, [])], [(2, (2, [])), (3, (3, [])), (4, (4, [])), (45, (45, [])), (600000, (600000, []))]⟩ rfl (by kernel_rfl) (by kernel_rfl) (by kernel_rfl)
              · refine TD_know 51 (b := false) hb15 trivial (by kernel_rfl) (by kernel_rfl) ?_
                refine TD_go 11 ?_
                refine TD_end (by kernel_rfl) ?_
                refine TS_F (by kernel_rfl) rfl ?_
                refine TS_go 2 ?_
                have ret := Option.some.inj h
                subst ret
                exact TS_brkB s12 ⟨[(2, []), (3, []), (4, []), (8, [])], [(2, (2, [])), (3, (3, [])), (4, (4, [])), (45, (45, [])), (600000, (600000, []))]⟩ rfl (by kernel_rfl) (by kernel_rfl) (by kernel_rfl)
            · intro b13 hb
              subst y14
              have h := hK1
              refine TS_go 3 ?_
              refine TS_draw (by kernel_rfl) ?_
              refine TD_go 5 ?_
              replace h := condO h
              rcases h with ⟨hb21, h⟩ | ⟨hb21, h⟩
              · refine TD_know 70 (b := true) hb21 trivial (by kernel_rfl) (by kernel_rfl) ?_
                refine TD_go 3 ?_
                replace h := bindO h
                obtain ⟨_e22, he22, h⟩ := h
                refine TD_idxR 600000 6 0 S_Peer.cs .whole he22 (by kernel_rfl) (by kernel_rfl) ?_
                refine TD_go 1 ?_
                replace h := bindO h
                obtain ⟨e23, he23, h⟩ := h
                refine TD_ldE 36 (0 + Int.toNat b13) 0 S_Peer.cs (v := .agg [.lit (.int .i64 (e23.Src.Mode)), .lit (.int .u16 (e23.Src.Short)), .lit (.int .u64 (e23.Src.EUI))]) he23 (by kernel_rfl) (by kernel_rfl) (by kernel_rfl) ?_
                refine TD_go 4 ?_
                replace h := condO h
                rcases h with ⟨hb24, h⟩ | ⟨hb24, h⟩
                · refine TD_know 81 (b := true) hb24 trivial (by kernel_rfl) (by kernel_rfl) ?_
                  refine TD_go 3 ?_
                  replace h := bindO h
                  obtain ⟨_e25, he25, h⟩ := h
                  refine TD_idxR 600000 6 0 S_Peer.cs .whole he25 (by kernel_rfl) (by kernel_rfl) ?_
                  refine TD_go 1 ?_
                  replace h := bindO h
                  obtain ⟨e26, he26, h⟩ := h
                  refine TD_ldE 5 (0 + Int.toNat b13) 3 S_Peer.cs (v := .c (.lit (.int .u8 (e26.Key)))) he26 (by kernel_rfl) (by kernel_rfl) (by kernel_rfl) ?_
                  refine TD_go 4 ?_
                  refine TD_end (by kernel_rfl) ?_
                  replace h := condO h
                  rcases h with ⟨hb27, h⟩ | ⟨hb27, h⟩
                  · refine TS_know 69 (b := true) hb21 (by kernel_rfl) (by kernel_rfl) ?_
                    refine TS_know 79 (b := true) hb24 (by kernel_rfl) (by kernel_rfl) ?_
                    refine TS_know 80 (b := true) hb24 (by kernel_rfl) (by kernel_rfl) ?_
                    refine TS_know 90 (b := true) hb27 (by kernel_rfl) (by kernel_rfl) ?_
                    refine TS_know 91 (b := true) hb27 (by kernel_rfl) (by kernel_rfl) ?_
                    refine TS_T (by kernel_rfl) rfl ?_
                    refine TS_go 1 ?_
                    refine TS_draw (by kernel_rfl) ?_
                    refine TD_go 3 ?_
                    replace h := bindO h
                    obtain ⟨_e28, he28, h⟩ := h
                    refine TD_idxR 600000 6 0 S_Peer.cs .whole he28 (by kernel_rfl) (by kernel_rfl) ?_
                    replace h := bindO h
                    obtain ⟨e29, he29, h⟩ := h
                    refine TD_ldE 79 (0 + Int.toNat b13) 0 S_Peer.cs (v := .agg [.lit (.int .i64 (e29.Src.Mode)), .lit (.int .u16 (e29.Src.Short)), .lit (.int .u64 (e29.Src.EUI)), .lit (.int .u8 (e29.Key)), .lit (.int .u32 (e29.Last)), .lit (.int .u32 (e29.Window))]) he29 (by kernel_rfl) (by kernel_rfl) (by kernel_rfl) ?_
                    refine TD_go 2 ?_
                    replace h := bindO h
                    obtain ⟨v30, hv30, h⟩ := h
                    refine TD_call [] (ok_ref06_accept e29 a1.Counter v30 hv30) (by kernel_rfl) (by kernel_rfl) ?_
                    refine TD_go 6 ?_
                    refine TD_end (by kernel_rfl) ?_
                    refine TS_go 6 ?_
                    replace h := condO h
                    rcases h with ⟨hb31, h⟩ | ⟨hb31, h⟩
                    · refine TS_know 102 (b := true) hb31 (by kernel_rfl) (by kernel_rfl) ?_
                      refine TS_know 10 (b := true) hb31 (by kernel_rfl) (by kernel_rfl) ?_
                      refine TS_know 103 (b := true) hb31 (by kernel_rfl) (by kernel_rfl) ?_
                      refine TS_know 104 (b := false) (notF hb31) (by kernel_rfl) (by kernel_rfl) ?_
                      refine TS_F (by kernel_rfl) rfl ?_
                      refine TS_go 7 ?_
                      replace h := bindO h
                      obtain ⟨_e32, he32, h⟩ := h
                      refine TS_idxR 600000 6 0 S_Peer.cs .whole he32 (by kernel_rfl) (by kernel_rfl) ?_
                      replace h := bindO h
                      obtain ⟨_e33, he33, h⟩ := h
                      refine TS_stE 600000 79 6 (List.length v11.Peers) (0 + Int.toNat b13) 0 S_Peer.cs (ds := [.lit (.int .i64 (v30.1.Src.Mode)), .lit (.int .u16 (v30.1.Src.Short)), .lit (.int .u64 (v30.1.Src.EUI)), .lit (.int .u8 (v30.1.Key)), .lit (.int .u32 (v30.1.Last)), .lit (.int .u32 (v30.1.Window))]) v30.1 he33 (by kernel_rfl) (by kernel_rfl) (by kernel_rfl) (by kernel_rfl) ?_
                      refine TS_go 7 ?_
                      refine TS_settle 45 (by kernel_rfl) ?_
                      refine TS_settle 600000 (by kernel_rfl) ?_
                      refine TS_fitU ⟨[(4, []), (5, [])], [(45, (900000, [])), (4, (4, [])), (600000, (600000, []))]⟩ (by kernel_rfl) ?_
                      refine TS_go 2 ?_
                      have ret := Option.some.inj h
                      subst ret
                      exact TS_ret (by kernel_rfl) (by kernel_rfl) (by kernel_rfl)
                    · refine TS_know 102 (b := false) hb31 (by kernel_rfl) (by kernel_rfl) ?_
                      refine TS_know 10 (b := false) hb31 (by kernel_rfl) (by kernel_rfl) ?_
                      refine TS_know 103 (b := false) hb31 (by kernel_rfl) (by kernel_rfl) ?_
                      refine TS_know 104 (b := true) (notT hb31) (by kernel_rfl) (by kernel_rfl) ?_
                      refine TS_T (by kernel_rfl) rfl ?_
                      refine TS_go 6 ?_
                      refine TS_nilB 4 0 600001 69 17 (by kernel_rfl) ?_
                      refine TS_fitU ⟨[(4, []), (5, [])], [(600001, (900000, [])), (4, (4, []))]⟩ (by kernel_rfl) ?_
                      refine TS_go 3 ?_
                      have ret := Option.some.inj h
                      subst ret
                      exact TS_ret (by kernel_rfl) (by kernel_rfl) (by kernel_rfl)
                  · refine TS_know 69 (b := true) hb21 (by kernel_rfl) (by kernel_rfl) ?_
                    refine TS_know 79 (b := true) hb24 (by kernel_rfl) (by kernel_rfl) ?_
                    refine TS_know 80 (b := true) hb24 (by kernel_rfl) (by kernel_rfl) ?_
                    refine TS_know 90 (b := false) hb27 (by kernel_rfl) (by kernel_rfl) ?_
                    refine TS_know 91 (b := false) hb27 (by kernel_rfl) (by kernel_rfl) ?_
                    refine TS_F (by kernel_rfl) rfl ?_
                    refine TS_go 3 ?_
                    refine TS_draw (by kernel_rfl) ?_
                    refine TD_go 3 ?_
                    replace h := condO h
                    rcases h with ⟨hb34, h⟩ | ⟨hb34, h⟩
                    · refine TD_know 115 (b := true) hb34 trivial (by kernel_rfl) (by kernel_rfl) ?_
                      refine TD_go 8 ?_
                      refine TD_end (by kernel_rfl) ?_
                      refine TS_T (by kernel_rfl) rfl ?_
                      refine TS_go 6 ?_
                      refine TS_nilB 4 0 600001 69 17 (by kernel_rfl) ?_
                      refine TS_fitU ⟨[(4, []), (5, [])], [(600001, (900000, [])), (4, (4, []))]⟩ (by kernel_rfl) ?_
                      refine TS_go 2 ?_
                      have ret := Option.some.inj h
                      subst ret
                      exact TS_ret (by kernel_rfl) (by kernel_rfl) (by kernel_rfl)
                    · refine TD_know 115 (b := false) hb34 trivial (by kernel_rfl) (by kernel_rfl) ?_
                      refine TD_go 4 ?_
                      replace h := bindO h
                      obtain ⟨v35, hv35, h⟩ := h
                      refine TD_conX (d := 120) (e := 900000) [] (okT_ref06_response 2 v11.Nonce v35 hv35) (by kernel_rfl) (by kernel_rfl) ?_
                      replace h := bindO h
                      obtain ⟨v36, hv36, h⟩ := h
                      refine TD_call [[], [2]] (ok_ref01_Same a1.Payload v35 v36 hv36) (by kernel_rfl) (by kernel_rfl) ?_
                      refine TD_go 2 ?_
                      refine TD_end (by kernel_rfl) ?_
                      replace h := condO h
                      rcases h with ⟨hb37, h⟩ | ⟨hb37, h⟩
                      · subst hb37
                        refine TS_F (by kernel_rfl) rfl ?_
                        refine TS_go 9 ?_
                        replace h := condO h
                        rcases h with ⟨hb38, h⟩ | ⟨hb38, h⟩
                        · refine TS_know 114 (b := false) hb34 (by kernel_rfl) (by kernel_rfl) ?_
                          refine TS_know 128 (b := true) hb38 (by kernel_rfl) (by kernel_rfl) ?_
                          refine TS_T (by kernel_rfl) rfl ?_
                          refine TS_go 6 ?_
                          refine TS_nilB 4 0 600001 69 17 (by kernel_rfl) ?_
                          refine TS_fitU ⟨[(4, []), (5, [])], [(600001, (900000, [])), (4, (4, []))]⟩ (by kernel_rfl) ?_
                          refine TS_go 2 ?_
                          have ret := Option.some.inj h
                          subst ret
                          exact TS_ret (by kernel_rfl) (by kernel_rfl) (by kernel_rfl)
                        · refine TS_know 114 (b := false) hb34 (by kernel_rfl) (by kernel_rfl) ?_
                          refine TS_know 128 (b := false) hb38 (by kernel_rfl) (by kernel_rfl) ?_
                          refine TS_F (by kernel_rfl) rfl ?_
                          refine TS_go 2 ?_
                          refine TS_draw (by kernel_rfl) ?_
                          refine TD_go 7 ?_
                          refine TD_litNT 137 79 6 S_Peer.cs [] ([(S_Peer.mk a1.Src a1.Key a1.Counter 4294967295)] : List S_Peer) (by kernel_rfl) (by kernel_rfl) ?_
                          refine TD_go 3 ?_
                          replace h := chkO h
                          obtain ⟨hc39, h⟩ := h
                          refine TD_slSub 600000 6 (List.length v11.Peers) (a := b13) (b := (List.length v11.Peers : Int)) hc39 (by kernel_rfl) (by kernel_rfl) ?_
                          replace h := bindO h
                          obtain ⟨_l40, hl40, h⟩ := h
                          refine TD_appT (d := 137) (e := 79) (sz := 6) (N := List.length ([(S_Peer.mk a1.Src a1.Key a1.Counter 4294967295)] : List S_Peer)) S_Peer.cs (fun _ => by kernel_rfl) (l1 := ([(S_Peer.mk a1.Src a1.Key a1.Counter 4294967295)] : List S_Peer)) (l2 := v11.Peers) (c := (.part (Int.toNat b13) (Int.toNat (List.length v11.Peers : Int) - Int.toNat b13))) hl40 (by kernel_rfl) (by kernel_rfl) ?_
                          refine TD_go 1 ?_
                          refine TD_end (by kernel_rfl) ?_
                          refine TS_go 6 ?_
                          refine TS_settle 600000 (by kernel_rfl) ?_
                          replace h := bindO h
                          obtain ⟨_l41, hl41, h⟩ := h
                          refine TS_sub3 S_Peer.cs 6 hl41 (by kernel_rfl) (by kernel_rfl) ?_
                          refine TS_go 1 ?_
                          replace h := bindO h
                          obtain ⟨_l42, hl42, h⟩ := h
                          refine TS_app S_Peer.cs 6 hl42 (by kernel_rfl) (by kernel_rfl) ?_
                          refine TS_go 9 ?_
                          refine TS_settle 45 (by kernel_rfl) ?_
                          refine TS_fitU ⟨[(4, []), (5, [])], [(45, (900000, [])), (4, (4, []))]⟩ (by kernel_rfl) ?_
                          refine TS_go 1 ?_
                          have ret := Option.some.inj h
                          subst ret
                          exact TS_ret (by kernel_rfl) (by kernel_rfl) (by kernel_rfl)
                      · subst hb37
                        refine TS_T (by kernel_rfl) rfl ?_
                        refine TS_go 6 ?_
                        refine TS_nilB 4 0 600001 69 17 (by kernel_rfl) ?_
                        refine TS_fitU ⟨[(4, []), (5, [])], [(600001, (900000, [])), (4, (4, []))]⟩ (by kernel_rfl) ?_
                        refine TS_go 2 ?_
                        have ret := Option.some.inj h
                        subst ret
                        exact TS_ret (by kernel_rfl) (by kernel_rfl) (by kernel_rfl)
                · refine TD_know 81 (b := false) hb24 trivial (by kernel_rfl) (by kernel_rfl) ?_
                  refine TD_go 10 ?_
                  refine TD_end (by kernel_rfl) ?_
                  refine TS_F (by kernel_rfl) rfl ?_
                  refine TS_go 3 ?_
                  refine TS_draw (by kernel_rfl) ?_
                  refine TD_go 3 ?_
                  replace h := condO h
                  rcases h with ⟨hb43, h⟩ | ⟨hb43, h⟩
                  · refine TD_know 115 (b := true) hb43 trivial (by kernel_rfl) (by kernel_rfl) ?_
                    refine TD_go 8 ?_
                    refine TD_end (by kernel_rfl) ?_
                    refine TS_T (by kernel_rfl) rfl ?_
                    refine TS_go 6 ?_
                    refine TS_nilB 4 0 600001 69 17 (by kernel_rfl) ?_
                    refine TS_fitU ⟨[(4, []), (5, [])], [(600001, (900000, [])), (4, (4, []))]⟩ (by kernel_rfl) ?_
                    refine TS_go 2 ?_
                    have ret := Option.some.inj h
                    subst ret
                    exact TS_ret (by kernel_rfl) (by kernel_rfl) (by kernel_rfl)
                  · refine TD_know 115 (b := false) hb43 trivial (by kernel_rfl) (by kernel_rfl) ?_
                    refine TD_go 4 ?_
                    replace h := bindO h
                    obtain ⟨v44, hv44, h⟩ := h
                    refine TD_conX (d := 120) (e := 900000) [] (okT_ref06_response 2 v11.Nonce v44 hv44) (by kernel_rfl) (by kernel_rfl) ?_
                    replace h := bindO h
                    obtain ⟨v45, hv45, h⟩ := h
                    refine TD_call [[], [2]] (ok_ref01_Same a1.Payload v44 v45 hv45) (by kernel_rfl) (by kernel_rfl) ?_
                    refine TD_go 2 ?_
                    refine TD_end (by kernel_rfl) ?_
                    replace h := condO h
                    rcases h with ⟨hb46, h⟩ | ⟨hb46, h⟩
                    · subst hb46
                      refine TS_F (by kernel_rfl) rfl ?_
                      refine TS_go 9 ?_
                      replace h := condO h
                      rcases h with ⟨hb47, h⟩ | ⟨hb47, h⟩
                      · refine TS_know 69 (b := true) hb21 (by kernel_rfl) (by kernel_rfl) ?_
                        refine TS_know 79 (b := false) hb24 (by kernel_rfl) (by kernel_rfl) ?_
                        refine TS_know 80 (b := false) hb24 (by kernel_rfl) (by kernel_rfl) ?_
                        refine TS_know 114 (b := false) hb43 (by kernel_rfl) (by kernel_rfl) ?_
                        refine TS_know 128 (b := true) hb47 (by kernel_rfl) (by kernel_rfl) ?_
                        refine TS_T (by kernel_rfl) rfl ?_
                        refine TS_go 6 ?_
                        refine TS_nilB 4 0 600001 69 17 (by kernel_rfl) ?_
                        refine TS_fitU ⟨[(4, []), (5, [])], [(600001, (900000, [])), (4, (4, []))]⟩ (by kernel_rfl) ?_
                        refine TS_go 2 ?_
                        have ret := Option.some.inj h
                        subst ret
                        exact TS_ret (by kernel_rfl) (by kernel_rfl) (by kernel_rfl)
                      · refine TS_know 69 (b := true) hb21 (by kernel_rfl) (by kernel_rfl) ?_
                        refine TS_know 79 (b := false) hb24 (by kernel_rfl) (by kernel_rfl) ?_
                        refine TS_know 80 (b := false) hb24 (by kernel_rfl) (by kernel_rfl) ?_
                        refine TS_know 114 (b := false) hb43 (by kernel_rfl) (by kernel_rfl) ?_
                        refine TS_know 128 (b := false) hb47 (by kernel_rfl) (by kernel_rfl) ?_
                        refine TS_F (by kernel_rfl) rfl ?_
                        refine TS_go 2 ?_
                        refine TS_draw (by kernel_rfl) ?_
                        refine TD_go 7 ?_
                        refine TD_litNT 137 79 6 S_Peer.cs [] ([(S_Peer.mk a1.Src a1.Key a1.Counter 4294967295)] : List S_Peer) (by kernel_rfl) (by kernel_rfl) ?_
                        refine TD_go 3 ?_
                        replace h := chkO h
                        obtain ⟨hc48, h⟩ := h
                        refine TD_slSub 600000 6 (List.length v11.Peers) (a := b13) (b := (List.length v11.Peers : Int)) hc48 (by kernel_rfl) (by kernel_rfl) ?_
                        replace h := bindO h
                        obtain ⟨_l49, hl49, h⟩ := h
                        refine TD_appT (d := 137) (e := 79) (sz := 6) (N := List.length ([(S_Peer.mk a1.Src a1.Key a1.Counter 4294967295)] : List S_Peer)) S_Peer.cs (fun _ => by kernel_rfl) (l1 := ([(S_Peer.mk a1.Src a1.Key a1.Counter 4294967295)] : List S_Peer)) (l2 := v11.Peers) (c := (.part (Int.toNat b13) (Int.toNat (List.length v11.Peers : Int) - Int.toNat b13))) hl49 (by kernel_rfl) (by kernel_rfl) ?_
                        refine TD_go 1 ?_
                        refine TD_end (by kernel_rfl) ?_
                        refine TS_go 6 ?_
                        refine TS_settle 600000 (by kernel_rfl) ?_
                        replace h := bindO h
                        obtain ⟨_l50, hl50, h⟩ := h
                        refine TS_sub3 S_Peer.cs 6 hl50 (by kernel_rfl) (by kernel_rfl) ?_
                        refine TS_go 1 ?_
                        replace h := bindO h
                        obtain ⟨_l51, hl51, h⟩ := h
                        refine TS_app S_Peer.cs 6 hl51 (by kernel_rfl) (by kernel_rfl) ?_
                        refine TS_go 9 ?_
                        refine TS_settle 45 (by kernel_rfl) ?_
                        refine TS_fitU ⟨[(4, []), (5, [])], [(45, (900000, [])), (4, (4, []))]⟩ (by kernel_rfl) ?_
                        refine TS_go 1 ?_
                        have ret := Option.some.inj h
                        subst ret
                        exact TS_ret (by kernel_rfl) (by kernel_rfl) (by kernel_rfl)
                    · subst hb46
                      refine TS_T (by kernel_rfl) rfl ?_
                      refine TS_go 6 ?_
                      refine TS_nilB 4 0 600001 69 17 (by kernel_rfl) ?_
                      refine TS_fitU ⟨[(4, []), (5, [])], [(600001, (900000, [])), (4, (4, []))]⟩ (by kernel_rfl) ?_
                      refine TS_go 2 ?_
                      have ret := Option.some.inj h
                      subst ret
                      exact TS_ret (by kernel_rfl) (by kernel_rfl) (by kernel_rfl)
              · refine TD_know 70 (b := false) hb21 trivial (by kernel_rfl) (by kernel_rfl) ?_
                refine TD_go 21 ?_
                refine TD_end (by kernel_rfl) ?_
                refine TS_F (by kernel_rfl) rfl ?_
                refine TS_go 3 ?_
                refine TS_draw (by kernel_rfl) ?_
                refine TD_go 3 ?_
                replace h := condO h
                rcases h with ⟨hb52, h⟩ | ⟨hb52, h⟩
                · refine TD_know 115 (b := true) hb52 trivial (by kernel_rfl) (by kernel_rfl) ?_
                  refine TD_go 8 ?_
                  refine TD_end (by kernel_rfl) ?_
                  refine TS_T (by kernel_rfl) rfl ?_
                  refine TS_go 6 ?_
                  refine TS_nilB 4 0 600001 69 17 (by kernel_rfl) ?_
                  refine TS_fitU ⟨[(4, []), (5, [])], [(600001, (900000, [])), (4, (4, []))]⟩ (by kernel_rfl) ?_
                  refine TS_go 2 ?_
                  have ret := Option.some.inj h
                  subst ret
                  exact TS_ret (by kernel_rfl) (by kernel_rfl) (by kernel_rfl)
                · refine TD_know 115 (b := false) hb52 trivial (by kernel_rfl) (by kernel_rfl) ?_
                  refine TD_go 4 ?_
                  replace h := bindO h
                  obtain ⟨v53, hv53, h⟩ := h
                  refine TD_conX (d := 120) (e := 900000) [] (okT_ref06_response 2 v11.Nonce v53 hv53) (by kernel_rfl) (by kernel_rfl) ?_
                  replace h := bindO h
                  obtain ⟨v54, hv54, h⟩ := h
                  refine TD_call [[], [2]] (ok_ref01_Same a1.Payload v53 v54 hv54) (by kernel_rfl) (by kernel_rfl) ?_
                  refine TD_go 2 ?_
                  refine TD_end (by kernel_rfl) ?_
                  replace h := condO h
                  rcases h with ⟨hb55, h⟩ | ⟨hb55, h⟩
                  · subst hb55
                    refine TS_F (by kernel_rfl) rfl ?_
                    refine TS_go 9 ?_
                    replace h := condO h
                    rcases h with ⟨hb56, h⟩ | ⟨hb56, h⟩
                    · refine TS_know 69 (b := false) hb21 (by kernel_rfl) (by kernel_rfl) ?_
                      refine TS_know 114 (b := false) hb52 (by kernel_rfl) (by kernel_rfl) ?_
                      refine TS_know 128 (b := true) hb56 (by kernel_rfl) (by kernel_rfl) ?_
                      refine TS_T (by kernel_rfl) rfl ?_
                      refine TS_go 6 ?_
                      refine TS_nilB 4 0 600001 69 17 (by kernel_rfl) ?_
                      refine TS_fitU ⟨[(4, []), (5, [])], [(600001, (900000, [])), (4, (4, []))]⟩ (by kernel_rfl) ?_
                      refine TS_go 2 ?_
                      have ret := Option.some.inj h
                      subst ret
                      exact TS_ret (by kernel_rfl) (by kernel_rfl) (by kernel_rfl)
                    · refine TS_know 69 (b := false) hb21 (by kernel_rfl) (by kernel_rfl) ?_
                      refine TS_know 114 (b := false) hb52 (by kernel_rfl) (by kernel_rfl) ?_
                      refine TS_know 128 (b := false) hb56 (by kernel_rfl) (by kernel_rfl) ?_
                      refine TS_F (by kernel_rfl) rfl ?_
                      refine TS_go 2 ?_
                      refine TS_draw (by kernel_rfl) ?_
                      refine TD_go 7 ?_
                      refine TD_litNT 137 79 6 S_Peer.cs [] ([(S_Peer.mk a1.Src a1.Key a1.Counter 4294967295)] : List S_Peer) (by kernel_rfl) (by kernel_rfl) ?_
                      refine TD_go 3 ?_
                      replace h := chkO h
                      obtain ⟨hc57, h⟩ := h
                      refine TD_slSub 600000 6 (List.length v11.Peers) (a := b13) (b := (List.length v11.Peers : Int)) hc57 (by kernel_rfl) (by kernel_rfl) ?_
                      replace h := bindO h
                      obtain ⟨_l58, hl58, h⟩ := h
                      refine TD_appT (d := 137) (e := 79) (sz := 6) (N := List.length ([(S_Peer.mk a1.Src a1.Key a1.Counter 4294967295)] : List S_Peer)) S_Peer.cs (fun _ => by kernel_rfl) (l1 := ([(S_Peer.mk a1.Src a1.Key a1.Counter 4294967295)] : List S_Peer)) (l2 := v11.Peers) (c := (.part (Int.toNat b13) (Int.toNat (List.length v11.Peers : Int) - Int.toNat b13))) hl58 (by kernel_rfl) (by kernel_rfl) ?_
                      refine TD_go 1 ?_
                      refine TD_end (by kernel_rfl) ?_
                      refine TS_go 6 ?_
                      refine TS_settle 600000 (by kernel_rfl) ?_
                      replace h := bindO h
                      obtain ⟨_l59, hl59, h⟩ := h
                      refine TS_sub3 S_Peer.cs 6 hl59 (by kernel_rfl) (by kernel_rfl) ?_
                      refine TS_go 1 ?_
                      replace h := bindO h
                      obtain ⟨_l60, hl60, h⟩ := h
                      refine TS_app S_Peer.cs 6 hl60 (by kernel_rfl) (by kernel_rfl) ?_
                      refine TS_go 9 ?_
                      refine TS_settle 45 (by kernel_rfl) ?_
                      refine TS_fitU ⟨[(4, []), (5, [])], [(45, (900000, [])), (4, (4, []))]⟩ (by kernel_rfl) ?_
                      refine TS_go 1 ?_
                      have ret := Option.some.inj h
                      subst ret
                      exact TS_ret (by kernel_rfl) (by kernel_rfl) (by kernel_rfl)
                  · subst hb55
                    refine TS_T (by kernel_rfl) rfl ?_
                    refine TS_go 6 ?_
                    refine TS_nilB 4 0 600001 69 17 (by kernel_rfl) ?_
                    refine TS_fitU ⟨[(4, []), (5, [])], [(600001, (900000, [])), (4, (4, []))]⟩ (by kernel_rfl) ?_
                    refine TS_go 2 ?_
                    have ret := Option.some.inj h
                    subst ret
                    exact TS_ret (by kernel_rfl) (by kernel_rfl) (by kernel_rfl)
          · subst hb10
            refine TS_T (by kernel_rfl) rfl ?_
            refine TS_go 6 ?_
            refine TS_nilB 4 0 600000 69 17 (by kernel_rfl) ?_
            refine TS_fitU ⟨[(4, []), (5, [])], [(600000, (900000, [])), (4, (4, []))]⟩ (by kernel_rfl) ?_
            refine TS_go 2 ?_
            have ret := Option.some.inj h
            subst ret
            exact TS_ret (by kernel_rfl) (by kernel_rfl) (by kernel_rfl)
        · refine TS_know 32 (b := false) hb7 (by kernel_rfl) (by kernel_rfl) ?_
          refine TS_know 7 (b := false) hb7 (by kernel_rfl) (by kernel_rfl) ?_
          refine TS_know 33 (b := false) hb7 (by kernel_rfl) (by kernel_rfl) ?_
          refine TS_know 34 (b := true) (notT hb7) (by kernel_rfl) (by kernel_rfl) ?_
          refine TS_T (by kernel_rfl) rfl ?_
          refine TS_go 6 ?_
          refine TS_nilB 4 0 600000 69 17 (by kernel_rfl) ?_
          refine TS_fitU ⟨[(4, []), (5, [])], [(600000, (900000, [])), (4, (4, []))]⟩ (by kernel_rfl) ?_
          refine TS_go 2 ?_
          have ret := Option.some.inj h
          subst ret
          exact TS_ret (by kernel_rfl) (by kernel_rfl) (by kernel_rfl)
      · refine TS_know 22 (b := false) hb5 (by kernel_rfl) (by kernel_rfl) ?_
        refine TS_know 23 (b := true) (notT hb5) (by kernel_rfl) (by kernel_rfl) ?_
        refine TS_know 24 (b := true) (notT hb5) (by kernel_rfl) (by kernel_rfl) ?_
        refine TS_T (by kernel_rfl) rfl ?_
        refine TS_go 6 ?_
        refine TS_nilB 4 0 600000 69 17 (by kernel_rfl) ?_
        refine TS_fitU ⟨[(4, []), (5, [])], [(600000, (900000, [])), (4, (4, []))]⟩ (by kernel_rfl) ?_
        refine TS_go 2 ?_
        have ret := Option.some.inj h
        subst ret
        exact TS_ret (by kernel_rfl) (by kernel_rfl) (by kernel_rfl)
    · subst hb4
      refine TS_go 5 ?_
      refine TS_T (by kernel_rfl) rfl ?_
      refine TS_go 6 ?_
      refine TS_nilB 4 0 600000 69 17 (by kernel_rfl) ?_
      refine TS_fitU ⟨[(4, []), (5, [])], [(600000, (900000, [])), (4, (4, []))]⟩ (by kernel_rfl) ?_
      refine TS_go 2 ?_
      have ret := Option.some.inj h
      subst ret
      exact TS_ret (by kernel_rfl) (by kernel_rfl) (by kernel_rfl)
  · subst hb2
    refine TS_go 10 ?_
    refine TS_T (by kernel_rfl) rfl ?_
    refine TS_go 6 ?_
    refine TS_nilB 4 0 600000 69 17 (by kernel_rfl) ?_
    refine TS_fitU ⟨[(4, []), (5, [])], [(600000, (900000, [])), (4, (4, []))]⟩ (by kernel_rfl) ?_
    refine TS_go 2 ?_
    have ret := Option.some.inj h
    subst ret
    exact TS_ret (by kernel_rfl) (by kernel_rfl) (by kernel_rfl)
/-- multihop/multihopref06.Same -/
noncomputable def F_ref06_Same_l1 (a0 : S_Guard) (a1 : S_Guard) (s6 : Int) : Option ((Int) ⊕ ((Unit) ⊕ (Bool))) :=
  bif (decide (s6 < (List.length a0.Keys : Int))) then
    (idx a0.Keys s6).bind fun e10 =>
    (idx a1.Keys s6).bind fun e11 =>
    bif (S_LinkKey.eqb e10 e11) then
      some (Sum.inl (IntKind.wrap .i64 (s6 + 1)))
    else
      some (Sum.inr (Sum.inr false))
  else
    some (Sum.inr (Sum.inl ()))
noncomputable def F_ref06_Same_l2 (a0 : S_Guard) (a1 : S_Guard) (s14 : Int) : Option ((Int) ⊕ ((Unit) ⊕ (Bool))) :=
  bif (decide (s14 < (List.length a0.Peers : Int))) then
    (idx a0.Peers s14).bind fun e18 =>
    (idx a1.Peers s14).bind fun e19 =>
    bif (S_Peer.eqb e18 e19) then
      some (Sum.inl (IntKind.wrap .i64 (s14 + 1)))
    else
      some (Sum.inr (Sum.inr false))
  else
    some (Sum.inr (Sum.inl ()))
noncomputable def F_ref06_Same (a0 : S_Guard) (a1 : S_Guard) : Option (Bool) :=
  bif (a0.Counter != a1.Counter) then
    some (false)
  else
    bif (a0.Reserved != a1.Reserved) then
      some (false)
    else
      bif (a0.Nonce != a1.Nonce) then
        some (false)
      else
        bif ((List.length a0.Keys : Int) != (List.length a1.Keys : Int)) then
          some (false)
        else
          bif ((List.length a0.Peers : Int) != (List.length a1.Peers : Int)) then
            some (false)
          else
            (loopO (F_ref06_Same_l1 a0 a1) 0).bind (Sum.elim (fun b7 =>
              (loopO (F_ref06_Same_l2 a0 a1) 0).bind (Sum.elim (fun b15 =>
                some (true)
              ) (fun w21 => some w21))
            ) (fun w13 => some w13))
set_option maxRecDepth 100000 in
set_option maxHeartbeats 40000000 in
theorem ok_ref06_Same (a0 : S_Guard) (a1 : S_Guard) (r : Bool) (h : F_ref06_Same a0 a1 = some r) : Con Try.prog 16 [.agg (S_Guard.cs a0), .agg (S_Guard.cs a1)] [] (.c (.lit (.bool (r)))) [] := by
  unfold F_ref06_Same at h
  refine con_of [] [] 80 Try.func16 rfl rfl (by kernel_rfl) (fun K => ?_)
  refine TS_go 15 ?_
  replace h := condO h
  rcases h with ⟨hb1, h⟩ | ⟨hb1, h⟩
  · refine TS_know 11 (b := true) hb1 (by kernel_rfl) (by kernel_rfl) ?_
    refine TS_know 12 (b := true) hb1 (by kernel_rfl) (by kernel_rfl) ?_
    refine TS_go 32 ?_
    refine TS_T (by kernel_rfl) rfl ?_
    refine TS_go 6 ?_
    have ret := Option.some.inj h
    subst ret
    exact TS_ret (by kernel_rfl) (by kernel_rfl) (by kernel_rfl)
  · refine TS_know 11 (b := false) hb1 (by kernel_rfl) (by kernel_rfl) ?_
    refine TS_know 12 (b := false) hb1 (by kernel_rfl) (by kernel_rfl) ?_
    refine TS_go 7 ?_
    replace h := condO h
    rcases h with ⟨hb2, h⟩ | ⟨hb2, h⟩
    · refine TS_know 17 (b := true) hb2 (by kernel_rfl) (by kernel_rfl) ?_
      refine TS_know 18 (b := true) hb2 (by kernel_rfl) (by kernel_rfl) ?_
      refine TS_know 19 (b := true) hb2 (by kernel_rfl) (by kernel_rfl) ?_
      refine TS_go 25 ?_
      refine TS_T (by kernel_rfl) rfl ?_
      refine TS_go 6 ?_
      have ret := Option.some.inj h
      subst ret
      exact TS_ret (by kernel_rfl) (by kernel_rfl) (by kernel_rfl)
    · refine TS_know 17 (b := false) hb2 (by kernel_rfl) (by kernel_rfl) ?_
      refine TS_know 18 (b := false) hb2 (by kernel_rfl) (by kernel_rfl) ?_
      refine TS_know 19 (b := false) hb2 (by kernel_rfl) (by kernel_rfl) ?_
      refine TS_go 7 ?_
      replace h := condO h
      rcases h with ⟨hb3, h⟩ | ⟨hb3, h⟩
      · refine TS_know 24 (b := true) hb3 (by kernel_rfl) (by kernel_rfl) ?_
        refine TS_know 25 (b := true) hb3 (by kernel_rfl) (by kernel_rfl) ?_
        refine TS_know 26 (b := true) hb3 (by kernel_rfl) (by kernel_rfl) ?_
        refine TS_go 18 ?_
        refine TS_T (by kernel_rfl) rfl ?_
        refine TS_go 6 ?_
        have ret := Option.some.inj h
        subst ret
        exact TS_ret (by kernel_rfl) (by kernel_rfl) (by kernel_rfl)
      · refine TS_know 24 (b := false) hb3 (by kernel_rfl) (by kernel_rfl) ?_
        refine TS_know 25 (b := false) hb3 (by kernel_rfl) (by kernel_rfl) ?_
        refine TS_know 26 (b := false) hb3 (by kernel_rfl) (by kernel_rfl) ?_
        refine TS_go 9 ?_
        replace h := condO h
        rcases h with ⟨hb4, h⟩ | ⟨hb4, h⟩
        · refine TS_know 33 (b := true) hb4 (by kernel_rfl) (by kernel_rfl) ?_
          refine TS_know 34 (b := true) hb4 (by kernel_rfl) (by kernel_rfl) ?_
          refine TS_know 35 (b := true) hb4 (by kernel_rfl) (by kernel_rfl) ?_
          refine TS_go 9 ?_
          refine TS_T (by kernel_rfl) rfl ?_
          refine TS_go 6 ?_
          have ret := Option.some.inj h
          subst ret
          exact TS_ret (by kernel_rfl) (by kernel_rfl) (by kernel_rfl)
        · refine TS_know 33 (b := false) hb4 (by kernel_rfl) (by kernel_rfl) ?_
          refine TS_know 34 (b := false) hb4 (by kernel_rfl) (by kernel_rfl) ?_
          refine TS_know 35 (b := false) hb4 (by kernel_rfl) (by kernel_rfl) ?_
          refine TS_go 9 ?_
          replace h := condO h
          rcases h with ⟨hb5, h⟩ | ⟨hb5, h⟩
          · refine TS_know 42 (b := true) hb5 (by kernel_rfl) (by kernel_rfl) ?_
            refine TS_know 43 (b := true) hb5 (by kernel_rfl) (by kernel_rfl) ?_
            refine TS_T (by kernel_rfl) rfl ?_
            refine TS_go 6 ?_
            have ret := Option.some.inj h
            subst ret
            exact TS_ret (by kernel_rfl) (by kernel_rfl) (by kernel_rfl)
          · refine TS_know 42 (b := false) hb5 (by kernel_rfl) (by kernel_rfl) ?_
            refine TS_know 43 (b := false) hb5 (by kernel_rfl) (by kernel_rfl) ?_
            refine TS_F (by kernel_rfl) rfl ?_
            refine TS_go 7 ?_
            refine TS_cut ⟨[(2, []), (3, []), (5, [])], [(2, (2, [])), (3, (3, []))]⟩ (.mk [.code (codeAt [1, 1, 0, 1, 0] (bodyOf Try.f16)), .blk 0, .code (codeAt [1, 1, 1] (bodyOf Try.f16))] .normal ⟨[(2, .c (.box 2 0)), (3, .c (.box 3 0)), (5, .c (.lit (.int .i64 (0))))], [(2, .box [.slc 17 0 (List.length a0.Keys) (List.map S_LinkKey.cs a0.Keys), .lit (.int .u32 (a0.Counter)), .lit (.int .u32 (a0.Reserved)), .lit (.int .u32 (a0.Nonce)), .slc 6 0 (List.length a0.Peers) (List.map S_Peer.cs a0.Peers)]), (3, .box [.slc 17 0 (List.length a1.Keys) (List.map S_LinkKey.cs a1.Keys), .lit (.int .u32 (a1.Counter)), .lit (.int .u32 (a1.Reserved)), .lit (.int .u32 (a1.Nonce)), .slc 6 0 (List.length a1.Peers) (List.map S_Peer.cs a1.Peers)])]⟩) (by kernel_rfl) (by kernel_rfl) ?_
            replace h := bindO h
            obtain ⟨y8, hl1, hK1⟩ := h
            refine TS_loopB (F_ref06_Same_l1 a0 a1) ⟨[(2, []), (3, []), (5, [])], [(2, (2, [])), (3, (3, []))]⟩ (fun (s6 : Int) => [(5, .c (.lit (.int .i64 (s6))))]) (fun (s6 : Int) => []) 0 y8 (.exit 0) (fun (b : Unit) => (Sum.inl b : (Unit) ⊕ (Bool))) ⟨[(2, []), (3, [])], [(2, (2, [])), (3, (3, []))]⟩ (fun (b7 : Unit) => []) (fun (b7 : Unit) => []) hl1 (by kernel_rfl) (by kernel_rfl) ?_ ?_
            · intro s6 x h hy1
              unfold F_ref06_Same_l1 at h
              refine TS_go 9 ?_
              replace h := condO h
              rcases h with ⟨hb9, h⟩ | ⟨hb9, h⟩
              · refine TS_know 48 (b := true) hb9 (by kernel_rfl) (by kernel_rfl) ?_
                refine TS_T (by kernel_rfl) rfl ?_
                refine TS_go 4 ?_
                refine TS_draw (by kernel_rfl) ?_
                refine TD_go 3 ?_
                replace h := bindO h
                obtain ⟨_e10, he10, h⟩ := h
                refine TD_idx S_LinkKey.cs he10 (by kernel_rfl) (by kernel_rfl) ?_
                refine TD_go 4 ?_
                replace h := bindO h
                obtain ⟨_e11, he11, h⟩ := h
                refine TD_idx S_LinkKey.cs he11 (by kernel_rfl) (by kernel_rfl) ?_
                refine TD_go 2 ?_
                refine TD_end (by kernel_rfl) ?_
                replace h := condO h
                rcases h with ⟨hb12, h⟩ | ⟨hb12, h⟩
                · refine TS_know 61 (b := false) (notF hb12) (by kernel_rfl) (by kernel_rfl) ?_
                  refine TS_F (by kernel_rfl) rfl ?_
                  refine TS_go 7 ?_
                  have ret := Option.some.inj h
                  subst ret
                  exact TS_againB _ ⟨[(2, []), (3, []), (5, [])], [(2, (2, [])), (3, (3, []))]⟩ rfl (by kernel_rfl) (by kernel_rfl)
                · refine TS_know 61 (b := true) (notT hb12) (by kernel_rfl) (by kernel_rfl) ?_
                  refine TS_T (by kernel_rfl) rfl ?_
                  refine TS_go 7 ?_
                  have ret := Option.some.inj h
                  subst ret
                  have hy1q := hy1 _ rfl
                  subst hy1q
                  replace h := (elimR hK1)
                  refine TS_retB rfl (by kernel_rfl) ?_
                  refine TS_go 2 ?_
                  have ret := Option.some.inj h
                  subst ret
                  exact TS_ret (by kernel_rfl) (by kernel_rfl) (by kernel_rfl)
              · refine TS_know 48 (b := false) hb9 (by kernel_rfl) (by kernel_rfl) ?_
                refine TS_F (by kernel_rfl) rfl ?_
                refine TS_go 2 ?_
                have ret := Option.some.inj h
                subst ret
                exact TS_brkB () ⟨[(2, []), (3, [])], [(2, (2, [])), (3, (3, []))]⟩ rfl (by kernel_rfl) (by kernel_rfl) (by kernel_rfl)
            · intro b7 hb
              subst y8
              have h := elimL hK1
              refine TS_go 7 ?_
              refine TS_cut ⟨[(2, []), (3, []), (6, [])], [(2, (2, [])), (3, (3, []))]⟩ (.mk [.code (codeAt [1, 1, 1, 0, 1, 0] (bodyOf Try.f16)), .blk 2, .code (codeAt [1, 1, 1, 1] (bodyOf Try.f16))] .normal ⟨[(2, .c (.box 2 0)), (3, .c (.box 3 0)), (6, .c (.lit (.int .i64 (0))))], [(2, .box [.slc 17 0 (List.length a0.Keys) (List.map S_LinkKey.cs a0.Keys), .lit (.int .u32 (a0.Counter)), .lit (.int .u32 (a0.Reserved)), .lit (.int .u32 (a0.Nonce)), .slc 6 0 (List.length a0.Peers) (List.map S_Peer.cs a0.Peers)]), (3, .box [.slc 17 0 (List.length a1.Keys) (List.map S_LinkKey.cs a1.Keys), .lit (.int .u32 (a1.Counter)), .lit (.int .u32 (a1.Reserved)), .lit (.int .u32 (a1.Nonce)), .slc 6 0 (List.length a1.Peers) (List.map S_Peer.cs a1.Peers)])]⟩) (by kernel_rfl) (by kernel_rfl) ?_
              replace h := bindO h
              obtain ⟨y16, hl2, hK2⟩ := h
              refine TS_loopB (F_ref06_Same_l2 a0 a1) ⟨[(2, []), (3, []), (6, [])], [(2, (2, [])), (3, (3, []))]⟩ (fun (s14 : Int) => [(6, .c (.lit (.int .i64 (s14))))]) (fun (s14 : Int) => []) 0 y16 (.exit 2) (fun (b : Unit) => (Sum.inl b : (Unit) ⊕ (Bool))) ⟨[], []⟩ (fun (b15 : Unit) => []) (fun (b15 : Unit) => []) hl2 (by kernel_rfl) (by kernel_rfl) ?_ ?_
              · intro s14 x h hy2
                unfold F_ref06_Same_l2 at h
                refine TS_go 9 ?_
                replace h := condO h
                rcases h with ⟨hb17, h⟩ | ⟨hb17, h⟩
                · refine TS_know 66 (b := true) hb17 (by kernel_rfl) (by kernel_rfl) ?_
                  refine TS_T (by kernel_rfl) rfl ?_
                  refine TS_go 4 ?_
                  refine TS_draw (by kernel_rfl) ?_
                  refine TD_go 3 ?_
                  replace h := bindO h
                  obtain ⟨_e18, he18, h⟩ := h
                  refine TD_idx S_Peer.cs he18 (by kernel_rfl) (by kernel_rfl) ?_
                  refine TD_go 4 ?_
                  replace h := bindO h
                  obtain ⟨_e19, he19, h⟩ := h
                  refine TD_idx S_Peer.cs he19 (by kernel_rfl) (by kernel_rfl) ?_
                  refine TD_go 2 ?_
                  refine TD_end (by kernel_rfl) ?_
                  replace h := condO h
                  rcases h with ⟨hb20, h⟩ | ⟨hb20, h⟩
                  · refine TS_know 79 (b := false) (notF hb20) (by kernel_rfl) (by kernel_rfl) ?_
                    refine TS_F (by kernel_rfl) rfl ?_
                    refine TS_go 7 ?_
                    have ret := Option.some.inj h
                    subst ret
                    exact TS_againB _ ⟨[(2, []), (3, []), (6, [])], [(2, (2, [])), (3, (3, []))]⟩ rfl (by kernel_rfl) (by kernel_rfl)
                  · refine TS_know 79 (b := true) (notT hb20) (by kernel_rfl) (by kernel_rfl) ?_
                    refine TS_T (by kernel_rfl) rfl ?_
                    refine TS_go 7 ?_
                    have ret := Option.some.inj h
                    subst ret
                    have hy2q := hy2 _ rfl
                    subst hy2q
                    replace h := (elimR hK2)
                    refine TS_retB rfl (by kernel_rfl) ?_
                    refine TS_go 2 ?_
                    have ret := Option.some.inj h
                    subst ret
                    exact TS_ret (by kernel_rfl) (by kernel_rfl) (by kernel_rfl)
                · refine TS_know 66 (b := false) hb17 (by kernel_rfl) (by kernel_rfl) ?_
                  refine TS_F (by kernel_rfl) rfl ?_
                  refine TS_go 2 ?_
                  have ret := Option.some.inj h
                  subst ret
                  exact TS_brkB () ⟨[], []⟩ rfl (by kernel_rfl) (by kernel_rfl) (by kernel_rfl)
              · intro b15 hb
                subst y16
                have h := elimL hK2
                refine TS_go 6 ?_
                have ret := Option.some.inj h
                subst ret
                exact TS_ret (by kernel_rfl) (by kernel_rfl) (by kernel_rfl)

/-- multihop/multihoplaw06.keyed -/
noncomputable def F_law06_keyed (a0 : Int) (a1 : Int) : Option (S_Guard) :=
  (F_made_Key 1).bind fun v1 =>
  some ((S_Guard.mk ([(S_LinkKey.mk 1 v1)] : List S_LinkKey) 0 a0 a1 ([] : List S_Peer)))
set_option maxRecDepth 100000 in
set_option maxHeartbeats 40000000 in
theorem okT_law06_keyed (a0 : Int) (a1 : Int) (r : S_Guard) (h : F_law06_keyed a0 a1 = some r) : Con Try.prog 29 [.c (.lit (.int .u32 (a0))), .c (.lit (.int .u32 (a1)))] [] (.agg [.slc 17 900002 (List.length r.Keys) (List.map S_LinkKey.cs r.Keys), .lit (.int .u32 (r.Counter)), .lit (.int .u32 (r.Reserved)), .lit (.int .u32 (r.Nonce)), .slc 6 0 (List.length r.Peers) (List.map S_Peer.cs r.Peers)]) [(900000, .spare 69 17 (List.length r.Keys))] := by
  unfold F_law06_keyed at h
  refine con_of [[0, 0, 0, 0, 7]] [(900000, [])] 11 Try.func29 rfl rfl (by kernel_rfl) (fun K => ?_)
  refine TS_go 6 ?_
  replace h := bindO h
  obtain ⟨v1, hv1, h⟩ := h
  refine TS_call [] (ok_made_Key 1 v1 hv1) (by kernel_rfl) (by kernel_rfl) ?_
  refine TS_go 1 ?_
  refine TS_litNT 7 69 17 S_LinkKey.cs [] ([(S_LinkKey.mk 1 v1)] : List S_LinkKey) (by kernel_rfl) (by kernel_rfl) ?_
  refine TS_go 5 ?_
  refine TS_fitU ⟨[(4, [])], [(7, (900000, [])), (4, (4, []))]⟩ (by kernel_rfl) ?_
  refine TS_go 1 ?_
  have ret := Option.some.inj h
  subst ret
  exact TS_ret (by kernel_rfl) (by kernel_rfl) (by kernel_rfl)
/-- multihop/guard.Challenge -/
noncomputable def F_guard_Challenge (a0 : S_Guard) : Option ((List Int)) :=
  (F_guard_Valid a0).bind fun v1 =>
  bif v1 then
    (F_guard_message 1 a0.Nonce).bind fun v3 =>
    some (v3)
  else
    some (([] : List Int))
set_option maxRecDepth 100000 in
set_option maxHeartbeats 40000000 in
theorem okT_guard_Challenge (a0 : S_Guard) (r : (List Int)) (h : F_guard_Challenge a0 = some r) : Con Try.prog 23 [.agg (S_Guard.cs a0)] [] (.c (.slc 1 900002 (List.length r) (List.map (ecI .u8) r))) [(900000, .spare 5 1 (List.length r))] := by
  unfold F_guard_Challenge at h
  refine con_of [] [(900000, [])] 9 Try.func23 rfl rfl (by kernel_rfl) (fun K => ?_)
  refine TS_go 9 ?_
  replace h := bindO h
  obtain ⟨v1, hv1, h⟩ := h
  refine TS_call [] (ok_guard_Valid a0 v1 hv1) (by kernel_rfl) (by kernel_rfl) ?_
  refine TS_go 2 ?_
  replace h := condO h
  rcases h with ⟨hb2, h⟩ | ⟨hb2, h⟩
  · subst hb2
    refine TS_F (by kernel_rfl) rfl ?_
    refine TS_go 5 ?_
    replace h := bindO h
    obtain ⟨v3, hv3, h⟩ := h
    refine TS_con [] [(8, 900000)] none (okT_guard_message 1 a0.Nonce v3 hv3) (by kernel_rfl) (by kernel_rfl) (by kernel_rfl) ?_
    refine TS_go 2 ?_
    refine TS_fitU ⟨[(2, [])], [(8, (900000, []))]⟩ (by kernel_rfl) ?_
    refine TS_go 1 ?_
    have ret := Option.some.inj h
    subst ret
    exact TS_ret (by kernel_rfl) (by kernel_rfl) (by kernel_rfl)
  · subst hb2
    refine TS_T (by kernel_rfl) rfl ?_
    refine TS_go 4 ?_
    refine TS_nilT 2 600000 5 1 (by kernel_rfl) ?_
    refine TS_fitU ⟨[(2, [])], [(600000, (900000, []))]⟩ (by kernel_rfl) ?_
    refine TS_go 2 ?_
    have ret := Option.some.inj h
    subst ret
    exact TS_ret (by kernel_rfl) (by kernel_rfl) (by kernel_rfl)
/-- multihop/guard.Respond -/
noncomputable def F_guard_Respond (a0 : List Int) : Option ((List Int) × Bool) :=
  bif ((List.length a0 : Int) != 5) then
    some ((([] : List Int), false))
  else
    (idx a0 0).bind fun e2 =>
    bif (e2 != 1) then
      some ((([] : List Int), false))
    else
      (subO a0 1 (List.length a0 : Int)).bind fun l4 =>
      (appO 1 ([2] : List Int) (Cut.app .whole l4)).bind fun l5 =>
      some ((l5, true))
set_option maxRecDepth 100000 in
set_option maxHeartbeats 40000000 in
theorem okT_guard_Respond (a0 : List Int) (r : (List Int) × Bool) (h : F_guard_Respond a0 = some r) : Con Try.prog 24 [.c (eS 1 (ecI .u8) (a0))] [] (.tup [(false, [.slc 1 900002 (List.length r.1) (List.map (ecI .u8) r.1)]), (false, [.lit (.bool (r.2))])]) [(900000, .spare 5 1 (List.length r.1))] := by
  unfold F_guard_Respond at h
  refine con_of [] [(900000, [])] 17 Try.func24 rfl rfl (by kernel_rfl) (fun K => ?_)
  refine TS_go 12 ?_
  replace h := condO h
  rcases h with ⟨hb1, h⟩ | ⟨hb1, h⟩
  · refine TS_know 6 (b := true) hb1 (by kernel_rfl) (by kernel_rfl) ?_
    refine TS_know 7 (b := true) hb1 (by kernel_rfl) (by kernel_rfl) ?_
    refine TS_go 6 ?_
    refine TS_T (by kernel_rfl) rfl ?_
    refine TS_go 5 ?_
    refine TS_nilT 2 600000 5 1 (by kernel_rfl) ?_
    refine TS_fitU ⟨[(2, []), (3, [])], [(600000, (900000, []))]⟩ (by kernel_rfl) ?_
    refine TS_go 2 ?_
    have ret := Option.some.inj h
    subst ret
    exact TS_ret (by kernel_rfl) (by kernel_rfl) (by kernel_rfl)
  · refine TS_know 6 (b := false) hb1 (by kernel_rfl) (by kernel_rfl) ?_
    refine TS_know 7 (b := false) hb1 (by kernel_rfl) (by kernel_rfl) ?_
    refine TS_go 1 ?_
    replace h := bindO h
    obtain ⟨_e2, he2, h⟩ := h
    refine TS_idx (ecI .u8) he2 (by kernel_rfl) (by kernel_rfl) ?_
    refine TS_go 4 ?_
    replace h := condO h
    rcases h with ⟨hb3, h⟩ | ⟨hb3, h⟩
    · refine TS_know 11 (b := true) hb3 (by kernel_rfl) (by kernel_rfl) ?_
      refine TS_know 12 (b := true) hb3 (by kernel_rfl) (by kernel_rfl) ?_
      refine TS_T (by kernel_rfl) rfl ?_
      refine TS_go 5 ?_
      refine TS_nilT 2 600000 5 1 (by kernel_rfl) ?_
      refine TS_fitU ⟨[(2, []), (3, [])], [(600000, (900000, []))]⟩ (by kernel_rfl) ?_
      refine TS_go 2 ?_
      have ret := Option.some.inj h
      subst ret
      exact TS_ret (by kernel_rfl) (by kernel_rfl) (by kernel_rfl)
    · refine TS_know 11 (b := false) hb3 (by kernel_rfl) (by kernel_rfl) ?_
      refine TS_know 12 (b := false) hb3 (by kernel_rfl) (by kernel_rfl) ?_
      refine TS_F (by kernel_rfl) rfl ?_
      refine TS_go 3 ?_
      refine TS_litNT 13 5 1 (ecI .u8) [] ([2] : List Int) (by kernel_rfl) (by kernel_rfl) ?_
      refine TS_go 1 ?_
      replace h := bindO h
      obtain ⟨l4, hl4, h⟩ := h
      refine TS_sub (ecI .u8) 1 hl4 (by kernel_rfl) (by kernel_rfl) ?_
      replace h := bindO h
      obtain ⟨_l5, hl5, h⟩ := h
      refine TS_appT (d := 13) (e := 5) (sz := 1) (N := List.length ([2] : List Int)) (ecI .u8) (fun _ => by kernel_rfl) (l1 := ([2] : List Int)) (l2 := l4) (c := .whole) hl5 (by kernel_rfl) (by kernel_rfl) ?_
      refine TS_go 3 ?_
      refine TS_fitU ⟨[(2, []), (3, [])], [(13, (900000, []))]⟩ (by kernel_rfl) ?_
      refine TS_go 1 ?_
      have ret := Option.some.inj h
      subst ret
      exact TS_ret (by kernel_rfl) (by kernel_rfl) (by kernel_rfl)
/-- multihop/multihoplaw06.short -/
noncomputable def F_law06_short (a0 : Int) : Option (S_Addr) :=
  some ((S_Addr.mk 2 (IntKind.wrap .u16 a0) 0))
set_option maxRecDepth 100000 in
set_option maxHeartbeats 40000000 in
theorem ok_law06_short (a0 : Int) (r : S_Addr) (h : F_law06_short a0 = some r) : Con Try.prog 30 [.c (.lit (.int .i64 (a0)))] [] (.agg (S_Addr.cs r)) [] := by
  unfold F_law06_short at h
  refine con_of [] [] 6 Try.func30 rfl rfl (by kernel_rfl) (fun K => ?_)
  refine TS_go 12 ?_
  have ret := Option.some.inj h
  subst ret
  exact TS_ret (by kernel_rfl) (by kernel_rfl) (by kernel_rfl)

/-- multihop/guard.clone[byte] -/
noncomputable def F_guard_clone_byte (a0 : List Int) : Option ((List Int)) :=
  (appO 1 ([] : List Int) (Cut.app .whole a0)).bind fun l1 =>
  some (l1)
set_option maxRecDepth 100000 in
set_option maxHeartbeats 40000000 in
theorem okT_guard_clone_byte (a0 : List Int) (r : (List Int)) (h : F_guard_clone_byte a0 = some r) : Con Try.prog 58 [.c (eS 1 (ecI .u8) (a0))] [] (.c (.slc 1 900002 (List.length r) (List.map (ecI .u8) r))) [(900000, .spare 5 1 (List.length r))] := by
  unfold F_guard_clone_byte at h
  refine con_of [] [(900000, [])] 5 Try.func58 rfl rfl (by kernel_rfl) (fun K => ?_)
  refine TS_go 7 ?_
  replace h := bindO h
  obtain ⟨_l1, hl1, h⟩ := h
  refine TS_appNT 4 5 1 (ecI .u8) (fun _ => by kernel_rfl) (l2 := a0) .whole hl1 (by kernel_rfl) (by kernel_rfl) ?_
  refine TS_go 2 ?_
  refine TS_fitU ⟨[(2, [])], [(4, (900000, []))]⟩ (by kernel_rfl) ?_
  refine TS_go 1 ?_
  have ret := Option.some.inj h
  subst ret
  exact TS_ret (by kernel_rfl) (by kernel_rfl) (by kernel_rfl)
/-- multihop/guard.Seal -/
noncomputable def F_guard_Seal (a0 : S_Guard) (a1 : S_Frame) (a2 : Int) : Option (S_Guard × S_Frame × Int) :=
  (F_guard_Valid a0).bind fun v1 =>
  bif v1 then
    (F_frame_Valid a1).bind fun v3 =>
    bif v3 then
      bif (a1.Kind == 2) then
        some (((S_Guard.mk ([] : List S_LinkKey) 0 0 0 ([] : List S_Peer)), (S_Frame.mk 0 false false false 0 0 (S_Addr.mk 0 0 0) (S_Addr.mk 0 0 0) 0 0 ([] : List Int) ([] : List Int)), 1))
      else
        bif a1.Secure then
          some (((S_Guard.mk ([] : List S_LinkKey) 0 0 0 ([] : List S_Peer)), (S_Frame.mk 0 false false false 0 0 (S_Addr.mk 0 0 0) (S_Addr.mk 0 0 0) 0 0 ([] : List Int) ([] : List Int)), 1))
        else
          (F_guard_keyOf a0 a2).bind fun v7 =>
          bif v7.2 then
            bif (a0.Counter == a0.Reserved) then
              some (((S_Guard.mk ([] : List S_LinkKey) 0 0 0 ([] : List S_Peer)), (S_Frame.mk 0 false false false 0 0 (S_Addr.mk 0 0 0) (S_Addr.mk 0 0 0) 0 0 ([] : List Int) ([] : List Int)), 11))
            else
              (F_frame_Header (S_Frame.mk a1.Kind a1.AckRequest a1.Pending true a1.Seq a1.Pan a1.Dst a1.Src a0.Counter a2 a1.Payload a1.MIC)).bind fun v10 =>
              (F_siphash_Tag v7.1 v10 4).bind fun v11 =>
              (F_frame_Valid (S_Frame.mk a1.Kind a1.AckRequest a1.Pending true a1.Seq a1.Pan a1.Dst a1.Src a0.Counter a2 a1.Payload v11.1)).bind fun v12 =>
              bif v12 then
                (F_guard_clone_byte a1.Payload).bind fun v14 =>
                (F_guard_own a0).bind fun v15 =>
                some (((S_Guard.mk v15.Keys (IntKind.wrap .u32 (v15.Counter + 1)) v15.Reserved v15.Nonce v15.Peers), (S_Frame.mk a1.Kind a1.AckRequest a1.Pending true a1.Seq a1.Pan a1.Dst a1.Src a0.Counter a2 v14 v11.1), 0))
              else
                some (((S_Guard.mk ([] : List S_LinkKey) 0 0 0 ([] : List S_Peer)), (S_Frame.mk 0 false false false 0 0 (S_Addr.mk 0 0 0) (S_Addr.mk 0 0 0) 0 0 ([] : List Int) ([] : List Int)), 3))
          else
            some (((S_Guard.mk ([] : List S_LinkKey) 0 0 0 ([] : List S_Peer)), (S_Frame.mk 0 false false false 0 0 (S_Addr.mk 0 0 0) (S_Addr.mk 0 0 0) 0 0 ([] : List Int) ([] : List Int)), 9))
    else
      some (((S_Guard.mk ([] : List S_LinkKey) 0 0 0 ([] : List S_Peer)), (S_Frame.mk 0 false false false 0 0 (S_Addr.mk 0 0 0) (S_Addr.mk 0 0 0) 0 0 ([] : List Int) ([] : List Int)), 1))
  else
    some (((S_Guard.mk ([] : List S_LinkKey) 0 0 0 ([] : List S_Peer)), (S_Frame.mk 0 false false false 0 0 (S_Addr.mk 0 0 0) (S_Addr.mk 0 0 0) 0 0 ([] : List Int) ([] : List Int)), 1))
set_option maxRecDepth 100000 in
set_option maxHeartbeats 40000000 in
theorem okT_guard_Seal (a0 : S_Guard) (a1 : S_Frame) (a2 : Int) (r : S_Guard × S_Frame × Int) (h : F_guard_Seal a0 a1 a2 = some r) : Con Try.prog 20 [.agg (S_Guard.cs a0), .agg (S_Frame.cs a1), .c (.lit (.int .u8 (a2)))] [] (.tup [(true, [.slc 17 900002 (List.length r.1.Keys) (List.map S_LinkKey.cs r.1.Keys), .lit (.int .u32 (r.1.Counter)), .lit (.int .u32 (r.1.Reserved)), .lit (.int .u32 (r.1.Nonce)), .slc 6 900006 (List.length r.1.Peers) (List.map S_Peer.cs r.1.Peers)]), (true, [.lit (.int .i64 (r.2.1.Kind)), .lit (.bool (r.2.1.AckRequest)), .lit (.bool (r.2.1.Pending)), .lit (.bool (r.2.1.Secure)), .lit (.int .u8 (r.2.1.Seq)), .lit (.int .u16 (r.2.1.Pan)), .lit (.int .i64 (r.2.1.Dst.Mode)), .lit (.int .u16 (r.2.1.Dst.Short)), .lit (.int .u64 (r.2.1.Dst.EUI)), .lit (.int .i64 (r.2.1.Src.Mode)), .lit (.int .u16 (r.2.1.Src.Short)), .lit (.int .u64 (r.2.1.Src.EUI)), .lit (.int .u32 (r.2.1.Counter)), .lit (.int .u8 (r.2.1.Key)), .slc 1 900080 (List.length r.2.1.Payload) (List.map (ecI .u8) r.2.1.Payload), .slc 1 900081 (List.length r.2.1.MIC) (List.map (ecI .u8) r.2.1.MIC)]), (false, [.lit (.int .i64 (r.2.2))])]) [(900000, .spare 69 17 (List.length r.1.Keys)), (900004, .spare 79 6 (List.length r.1.Peers)), (900078, .spare 5 1 (List.length r.2.1.Payload)), (900079, .spare 5 1 (List.length r.2.1.MIC))] := by
  unfold F_guard_Seal at h
  refine con_of [] [(900000, []), (900004, []), (900078, []), (900079, [])] 79 Try.func20 rfl rfl (by kernel_rfl) (fun K => ?_)
  refine TS_go 12 ?_
  replace h := bindO h
  obtain ⟨v1, hv1, h⟩ := h
  refine TS_call [] (ok_guard_Valid a0 v1 hv1) (by kernel_rfl) (by kernel_rfl) ?_
  refine TS_go 2 ?_
  replace h := condO h
  rcases h with ⟨hb2, h⟩ | ⟨hb2, h⟩
  · subst hb2
    refine TS_go 1 ?_
    replace h := bindO h
    obtain ⟨v3, hv3, h⟩ := h
    refine TS_call [] (ok_frame_Valid a1 v3 hv3) (by kernel_rfl) (by kernel_rfl) ?_
    refine TS_go 3 ?_
    replace h := condO h
    rcases h with ⟨hb4, h⟩ | ⟨hb4, h⟩
    · subst hb4
      refine TS_go 5 ?_
      replace h := condO h
      rcases h with ⟨hb5, h⟩ | ⟨hb5, h⟩
      · refine TS_know 23 (b := true) hb5 (by kernel_rfl) (by kernel_rfl) ?_
        refine TS_know 24 (b := true) hb5 (by kernel_rfl) (by kernel_rfl) ?_
        refine TS_know 25 (b := true) hb5 (by kernel_rfl) (by kernel_rfl) ?_
        refine TS_go 4 ?_
        refine TS_T (by kernel_rfl) rfl ?_
        refine TS_go 8 ?_
        refine TS_nilB 6 0 600000 69 17 (by kernel_rfl) ?_
        refine TS_nilB 6 4 600001 79 6 (by kernel_rfl) ?_
        refine TS_nilB 7 14 600002 5 1 (by kernel_rfl) ?_
        refine TS_nilB 7 15 600003 5 1 (by kernel_rfl) ?_
        refine TS_fitU ⟨[(6, []), (7, []), (8, [])], [(600000, (900000, [])), (600001, (900004, [])), (600002, (900078, [])), (600003, (900079, [])), (6, (6, [])), (7, (7, []))]⟩ (by kernel_rfl) ?_
        refine TS_go 2 ?_
        have ret := Option.some.inj h
        subst ret
        exact TS_ret (by kernel_rfl) (by kernel_rfl) (by kernel_rfl)
      · refine TS_know 23 (b := false) hb5 (by kernel_rfl) (by kernel_rfl) ?_
        refine TS_know 24 (b := false) hb5 (by kernel_rfl) (by kernel_rfl) ?_
        refine TS_know 25 (b := false) hb5 (by kernel_rfl) (by kernel_rfl) ?_
        refine TS_go 4 ?_
        replace h := condO h
        rcases h with ⟨hb6, h⟩ | ⟨hb6, h⟩
        · refine TS_know 27 (b := true) hb6 (by kernel_rfl) (by kernel_rfl) ?_
          refine TS_know 28 (b := true) hb6 (by kernel_rfl) (by kernel_rfl) ?_
          refine TS_T (by kernel_rfl) rfl ?_
          refine TS_go 8 ?_
          refine TS_nilB 6 0 600000 69 17 (by kernel_rfl) ?_
          refine TS_nilB 6 4 600001 79 6 (by kernel_rfl) ?_
          refine TS_nilB 7 14 600002 5 1 (by kernel_rfl) ?_
          refine TS_nilB 7 15 600003 5 1 (by kernel_rfl) ?_
          refine TS_fitU ⟨[(6, []), (7, []), (8, [])], [(600000, (900000, [])), (600001, (900004, [])), (600002, (900078, [])), (600003, (900079, [])), (6, (6, [])), (7, (7, []))]⟩ (by kernel_rfl) ?_
          refine TS_go 2 ?_
          have ret := Option.some.inj h
          subst ret
          exact TS_ret (by kernel_rfl) (by kernel_rfl) (by kernel_rfl)
        · refine TS_know 27 (b := false) hb6 (by kernel_rfl) (by kernel_rfl) ?_
          refine TS_know 28 (b := false) hb6 (by kernel_rfl) (by kernel_rfl) ?_
          refine TS_F (by kernel_rfl) rfl ?_
          refine TS_go 5 ?_
          replace h := bindO h
          obtain ⟨v7, hv7, h⟩ := h
          refine TS_call [] (ok_guard_keyOf a0 a2 v7 hv7) (by kernel_rfl) (by kernel_rfl) ?_
          refine TS_go 13 ?_
          replace h := condO h
          rcases h with ⟨hb8, h⟩ | ⟨hb8, h⟩
          · refine TS_know 36 (b := true) hb8 (by kernel_rfl) (by kernel_rfl) ?_
            refine TS_know 10 (b := true) hb8 (by kernel_rfl) (by kernel_rfl) ?_
            refine TS_know 37 (b := true) hb8 (by kernel_rfl) (by kernel_rfl) ?_
            refine TS_know 38 (b := false) (notF hb8) (by kernel_rfl) (by kernel_rfl) ?_
            refine TS_F (by kernel_rfl) rfl ?_
            refine TS_go 10 ?_
            replace h := condO h
            rcases h with ⟨hb9, h⟩ | ⟨hb9, h⟩
            · refine TS_know 45 (b := true) hb9 (by kernel_rfl) (by kernel_rfl) ?_
              refine TS_T (by kernel_rfl) rfl ?_
              refine TS_go 8 ?_
              refine TS_nilB 6 0 600000 69 17 (by kernel_rfl) ?_
              refine TS_nilB 6 4 600001 79 6 (by kernel_rfl) ?_
              refine TS_nilB 7 14 600002 5 1 (by kernel_rfl) ?_
              refine TS_nilB 7 15 600003 5 1 (by kernel_rfl) ?_
              refine TS_fitU ⟨[(6, []), (7, []), (8, [])], [(600000, (900000, [])), (600001, (900004, [])), (600002, (900078, [])), (600003, (900079, [])), (6, (6, [])), (7, (7, []))]⟩ (by kernel_rfl) ?_
              refine TS_go 2 ?_
              have ret := Option.some.inj h
              subst ret
              exact TS_ret (by kernel_rfl) (by kernel_rfl) (by kernel_rfl)
            · refine TS_know 45 (b := false) hb9 (by kernel_rfl) (by kernel_rfl) ?_
              refine TS_F (by kernel_rfl) rfl ?_
              refine TS_go 20 ?_
              refine TS_draw (by kernel_rfl) ?_
              refine TD_go 2 ?_
              replace h := bindO h
              obtain ⟨v10, hv10, h⟩ := h
              refine TD_conX (d := 57) (e := 900000) [] (okT_frame_Header (S_Frame.mk a1.Kind a1.AckRequest a1.Pending true a1.Seq a1.Pan a1.Dst a1.Src a0.Counter a2 a1.Payload a1.MIC) v10 hv10) (by kernel_rfl) (by kernel_rfl) ?_
              replace h := bindO h
              obtain ⟨v11, hv11, h⟩ := h
              refine TD_conX (d := 58) (e := 900000) [[], [2]] (okT_siphash_Tag v7.1 v10 4 v11 hv11) (by kernel_rfl) (by kernel_rfl) ?_
              refine TD_go 5 ?_
              refine TD_end (by kernel_rfl) ?_
              refine TS_go 4 ?_
              replace h := bindO h
              obtain ⟨v12, hv12, h⟩ := h
              refine TS_call [[0, 0, 0, 0, 0, 0, 0, 0, 0, 0, 0, 0, 0, 0, 2, 2]] (ok_frame_Valid (S_Frame.mk a1.Kind a1.AckRequest a1.Pending true a1.Seq a1.Pan a1.Dst a1.Src a0.Counter a2 a1.Payload v11.1) v12 hv12) (by kernel_rfl) (by kernel_rfl) ?_
              refine TS_go 2 ?_
              replace h := condO h
              rcases h with ⟨hb13, h⟩ | ⟨hb13, h⟩
              · subst hb13
                refine TS_F (by kernel_rfl) rfl ?_
                refine TS_go 5 ?_
                replace h := bindO h
                obtain ⟨v14, hv14, h⟩ := h
                refine TS_con [] [(69, 900000)] none (okT_guard_clone_byte a1.Payload v14 hv14) (by kernel_rfl) (by kernel_rfl) (by kernel_rfl) ?_
                refine TS_go 6 ?_
                replace h := bindO h
                obtain ⟨v15, hv15, h⟩ := h
                refine TS_con [] [(72, 900000), (600000, 900004)] none (okT_guard_own a0 v15 hv15) (by kernel_rfl) (by kernel_rfl) (by kernel_rfl) ?_
                refine TS_go 12 ?_
                refine TS_draw (by kernel_rfl) ?_
                refine TD_go 5 ?_
                refine TD_end (by kernel_rfl) ?_
                refine TS_fitU ⟨[(6, []), (7, []), (8, [])], [(72, (900000, [])), (600000, (900004, [])), (69, (900078, [])), (58, (900079, [])), (6, (6, [])), (7, (7, []))]⟩ (by kernel_rfl) ?_
                refine TS_go 1 ?_
                have ret := Option.some.inj h
                subst ret
                exact TS_ret (by kernel_rfl) (by kernel_rfl) (by kernel_rfl)
              · subst hb13
                refine TS_T (by kernel_rfl) rfl ?_
                refine TS_go 8 ?_
                refine TS_nilB 6 0 600000 69 17 (by kernel_rfl) ?_
                refine TS_nilB 6 4 600001 79 6 (by kernel_rfl) ?_
                refine TS_nilB 7 14 600002 5 1 (by kernel_rfl) ?_
                refine TS_nilB 7 15 600003 5 1 (by kernel_rfl) ?_
                refine TS_fitU ⟨[(6, []), (7, []), (8, [])], [(600000, (900000, [])), (600001, (900004, [])), (600002, (900078, [])), (600003, (900079, [])), (6, (6, [])), (7, (7, []))]⟩ (by kernel_rfl) ?_
                refine TS_go 2 ?_
                have ret := Option.some.inj h
                subst ret
                exact TS_ret (by kernel_rfl) (by kernel_rfl) (by kernel_rfl)
          · refine TS_know 36 (b := false) hb8 (by kernel_rfl) (by kernel_rfl) ?_
            refine TS_know 10 (b := false) hb8 (by kernel_rfl) (by kernel_rfl) ?_
            refine TS_know 37 (b := false) hb8 (by kernel_rfl) (by kernel_rfl) ?_
            refine TS_know 38 (b := true) (notT hb8) (by kernel_rfl) (by kernel_rfl) ?_
            refine TS_T (by kernel_rfl) rfl ?_
            refine TS_go 8 ?_
            refine TS_nilB 6 0 600000 69 17 (by kernel_rfl) ?_
            refine TS_nilB 6 4 600001 79 6 (by kernel_rfl) ?_
            refine TS_nilB 7 14 600002 5 1 (by kernel_rfl) ?_
            refine TS_nilB 7 15 600003 5 1 (by kernel_rfl) ?_
            refine TS_fitU ⟨[(6, []), (7, []), (8, [])], [(600000, (900000, [])), (600001, (900004, [])), (600002, (900078, [])), (600003, (900079, [])), (6, (6, [])), (7, (7, []))]⟩ (by kernel_rfl) ?_
            refine TS_go 2 ?_
            have ret := Option.some.inj h
            subst ret
            exact TS_ret (by kernel_rfl) (by kernel_rfl) (by kernel_rfl)
    · subst hb4
      refine TS_go 9 ?_
      refine TS_T (by kernel_rfl) rfl ?_
      refine TS_go 8 ?_
      refine TS_nilB 6 0 600000 69 17 (by kernel_rfl) ?_
      refine TS_nilB 6 4 600001 79 6 (by kernel_rfl) ?_
      refine TS_nilB 7 14 600002 5 1 (by kernel_rfl) ?_
      refine TS_nilB 7 15 600003 5 1 (by kernel_rfl) ?_
      refine TS_fitU ⟨[(6, []), (7, []), (8, [])], [(600000, (900000, [])), (600001, (900004, [])), (600002, (900078, [])), (600003, (900079, [])), (6, (6, [])), (7, (7, []))]⟩ (by kernel_rfl) ?_
      refine TS_go 2 ?_
      have ret := Option.some.inj h
      subst ret
      exact TS_ret (by kernel_rfl) (by kernel_rfl) (by kernel_rfl)
  · subst hb2
    refine TS_go 14 ?_
    refine TS_T (by kernel_rfl) rfl ?_
    refine TS_go 8 ?_
    refine TS_nilB 6 0 600000 69 17 (by kernel_rfl) ?_
    refine TS_nilB 6 4 600001 79 6 (by kernel_rfl) ?_
    refine TS_nilB 7 14 600002 5 1 (by kernel_rfl) ?_
    refine TS_nilB 7 15 600003 5 1 (by kernel_rfl) ?_
    refine TS_fitU ⟨[(6, []), (7, []), (8, [])], [(600000, (900000, [])), (600001, (900004, [])), (600002, (900078, [])), (600003, (900079, [])), (6, (6, [])), (7, (7, []))]⟩ (by kernel_rfl) ?_
    refine TS_go 2 ?_
    have ret := Option.some.inj h
    subst ret
    exact TS_ret (by kernel_rfl) (by kernel_rfl) (by kernel_rfl)
theorem ok_guard_Seal (a0 : S_Guard) (a1 : S_Frame) (a2 : Int) (r : S_Guard × S_Frame × Int) (h : F_guard_Seal a0 a1 a2 = some r) : Con Try.prog 20 [.agg (S_Guard.cs a0), .agg (S_Frame.cs a1), .c (.lit (.int .u8 (a2)))] [] (.tup [(true, S_Guard.cs r.1), (true, S_Frame.cs r.2.1), (false, [.lit (.int .i64 (r.2.2))])]) [] :=
  con_drop [[18, 0, 0, 0, 7], [0, 0, 0, 0, 0, 0, 0, 0, 0, 0, 0, 0, 0, 0, 2, 2]] [] (okT_guard_Seal a0 a1 a2 r h) (by kernel_rfl) (by kernel_rfl) (by kernel_rfl)

/-- multihop/multihoplaw06.known -/
noncomputable def F_law06_known  : Option (Bool) :=
  (F_law06_keyed 9 0).bind fun v1 =>
  (F_law06_keyed 0 5).bind fun v2 =>
  (F_guard_Challenge v2).bind fun v3 =>
  (F_guard_Respond v3).bind fun v4 =>
  (F_law06_short 2).bind fun v5 =>
  (F_law06_short 1).bind fun v6 =>
  (F_guard_Seal v1 (S_Frame.mk 3 false false false 0 0 v5 v6 0 0 v4.1 ([] : List Int)) 1).bind fun v7 =>
  (F_guard_Open v2 v7.2.1).bind fun v8 =>
  (F_guard_Open v8.1 v7.2.1).bind fun v9 =>
  bif v4.2 then
    bif (v7.2.2 == 0) then
      bif (v8.2 == 0) then
        some ((v9.2 == 13))
      else
        some (false)
    else
      some (false)
  else
    some (false)
set_option maxRecDepth 100000 in
set_option maxHeartbeats 40000000 in
theorem ok_law06_known  (r : Bool) (h : F_law06_known  = some r) : Con Try.prog 17 [] [] (.c (.lit (.bool (r)))) [] := by
  unfold F_law06_known at h
  refine con_of [] [] 55 Try.func17 rfl rfl (by kernel_rfl) (fun K => ?_)
  refine TS_go 6 ?_
  replace h := bindO h
  obtain ⟨v1, hv1, h⟩ := h
  refine TS_con [] [(12, 900000)] none (okT_law06_keyed 9 0 v1 hv1) (by kernel_rfl) (by kernel_rfl) (by kernel_rfl) ?_
  replace h := bindO h
  obtain ⟨v2, hv2, h⟩ := h
  refine TS_con [] [(13, 900000)] none (okT_law06_keyed 0 5 v2 hv2) (by kernel_rfl) (by kernel_rfl) (by kernel_rfl) ?_
  refine TS_go 8 ?_
  replace h := bindO h
  obtain ⟨v3, hv3, h⟩ := h
  refine TS_con [[18, 0, 0, 0, 7]] [(16, 900000)] none (okT_guard_Challenge v2 v3 hv3) (by kernel_rfl) (by kernel_rfl) (by kernel_rfl) ?_
  replace h := bindO h
  obtain ⟨v4, hv4, h⟩ := h
  refine TS_con [[2]] [(17, 900000)] none (okT_guard_Respond v3 v4 hv4) (by kernel_rfl) (by kernel_rfl) (by kernel_rfl) ?_
  refine TS_go 7 ?_
  refine TS_draw (by kernel_rfl) ?_
  refine TD_go 1 ?_
  replace h := bindO h
  obtain ⟨v5, hv5, h⟩ := h
  refine TD_call [] (ok_law06_short 2 v5 hv5) (by kernel_rfl) (by kernel_rfl) ?_
  replace h := bindO h
  obtain ⟨v6, hv6, h⟩ := h
  refine TD_call [] (ok_law06_short 1 v6 hv6) (by kernel_rfl) (by kernel_rfl) ?_
  refine TD_go 2 ?_
  replace h := bindO h
  obtain ⟨v7, hv7, h⟩ := h
  refine TD_call [[18, 0, 0, 0, 7], [0, 0, 0, 0, 0, 0, 0, 0, 0, 0, 0, 0, 0, 0, 2, 2]] (ok_guard_Seal v1 (S_Frame.mk 3 false false false 0 0 v5 v6 0 0 v4.1 ([] : List Int)) 1 v7 hv7) (by kernel_rfl) (by kernel_rfl) ?_
  refine TD_go 9 ?_
  refine TD_end (by kernel_rfl) ?_
  refine TS_go 4 ?_
  replace h := bindO h
  obtain ⟨v8, hv8, h⟩ := h
  refine TS_con [[18, 0, 0, 0, 7]] [(33, 900000), (600000, 900004)] none (okT_guard_Open v2 v7.2.1 v8 hv8) (by kernel_rfl) (by kernel_rfl) (by kernel_rfl) ?_
  refine TS_go 11 ?_
  replace h := bindO h
  obtain ⟨v9, hv9, h⟩ := h
  refine TS_con [[18, 0, 0, 0, 7]] [(39, 900000), (600001, 900004)] none (okT_guard_Open v8.1 v7.2.1 v9 hv9) (by kernel_rfl) (by kernel_rfl) (by kernel_rfl) ?_
  refine TS_go 11 ?_
  replace h := condO h
  rcases h with ⟨hb10, h⟩ | ⟨hb10, h⟩
  · refine TS_know 19 (b := true) hb10 (by kernel_rfl) (by kernel_rfl) ?_
    refine TS_know 4 (b := true) hb10 (by kernel_rfl) (by kernel_rfl) ?_
    refine TS_know 42 (b := true) hb10 (by kernel_rfl) (by kernel_rfl) ?_
    refine TS_know 43 (b := true) hb10 (by kernel_rfl) (by kernel_rfl) ?_
    refine TS_go 4 ?_
    replace h := condO h
    rcases h with ⟨hb11, h⟩ | ⟨hb11, h⟩
    · refine TS_know 45 (b := true) hb11 (by kernel_rfl) (by kernel_rfl) ?_
      refine TS_know 46 (b := true) hb11 (by kernel_rfl) (by kernel_rfl) ?_
      refine TS_know 47 (b := true) hb11 (by kernel_rfl) (by kernel_rfl) ?_
      refine TS_go 4 ?_
      replace h := condO h
      rcases h with ⟨hb12, h⟩ | ⟨hb12, h⟩
      · refine TS_know 49 (b := true) hb12 (by kernel_rfl) (by kernel_rfl) ?_
        refine TS_know 50 (b := true) hb12 (by kernel_rfl) (by kernel_rfl) ?_
        refine TS_know 51 (b := true) hb12 (by kernel_rfl) (by kernel_rfl) ?_
        refine TS_go 6 ?_
        have ret := Option.some.inj h
        subst ret
        exact TS_ret (by kernel_rfl) (by kernel_rfl) (by kernel_rfl)
      · refine TS_know 49 (b := false) hb12 (by kernel_rfl) (by kernel_rfl) ?_
        refine TS_know 50 (b := false) hb12 (by kernel_rfl) (by kernel_rfl) ?_
        refine TS_know 51 (b := false) hb12 (by kernel_rfl) (by kernel_rfl) ?_
        refine TS_go 6 ?_
        have ret := Option.some.inj h
        subst ret
        exact TS_ret (by kernel_rfl) (by kernel_rfl) (by kernel_rfl)
    · refine TS_know 45 (b := false) hb11 (by kernel_rfl) (by kernel_rfl) ?_
      refine TS_know 46 (b := false) hb11 (by kernel_rfl) (by kernel_rfl) ?_
      refine TS_know 47 (b := false) hb11 (by kernel_rfl) (by kernel_rfl) ?_
      refine TS_go 10 ?_
      have ret := Option.some.inj h
      subst ret
      exact TS_ret (by kernel_rfl) (by kernel_rfl) (by kernel_rfl)
  · refine TS_know 19 (b := false) hb10 (by kernel_rfl) (by kernel_rfl) ?_
    refine TS_know 4 (b := false) hb10 (by kernel_rfl) (by kernel_rfl) ?_
    refine TS_know 42 (b := false) hb10 (by kernel_rfl) (by kernel_rfl) ?_
    refine TS_know 43 (b := false) hb10 (by kernel_rfl) (by kernel_rfl) ?_
    refine TS_go 14 ?_
    have ret := Option.some.inj h
    subst ret
    exact TS_ret (by kernel_rfl) (by kernel_rfl) (by kernel_rfl)

/-- multihop/multihoplaw06.GuardOpens -/
noncomputable def F_law06_GuardOpens_j2 (s3 : Int × S_multihopmade_Tape × S_Guard) (v7 : S_multihopmade_Tape × S_Guard) : Option ((Int × S_multihopmade_Tape × S_Guard) ⊕ ((Unit) ⊕ (Bool))) :=
  some (Sum.inl (IntKind.wrap .i64 (s3.1 + 1), v7.1, v7.2))
noncomputable def F_law06_GuardOpens_j3 (s3 : Int × S_multihopmade_Tape × S_Guard) (v8 : S_Frame × S_multihopmade_Tape) (v9 : S_Frame) : Option ((Int × S_multihopmade_Tape × S_Guard) ⊕ ((Unit) ⊕ (Bool))) :=
  (F_guard_Open s3.2.2 v9).bind fun v10 =>
  (F_ref06_Open s3.2.2 v9).bind fun v11 =>
  bif (v10.2 != v11.2) then
    some (Sum.inr (Sum.inr false))
  else
    (F_ref06_Same v10.1 v11.1).bind fun v13 =>
    bif v13 then
      bif (v10.2 == 0) then
        (F_law06_GuardOpens_j2 s3) (v8.2, v11.1)
      else
        (F_law06_GuardOpens_j2 s3) (v8.2, s3.2.2)
    else
      some (Sum.inr (Sum.inr false))
noncomputable def F_law06_GuardOpens_l1 (a1 : Int) (a2 : Int) (s3 : Int × S_multihopmade_Tape × S_Guard) : Option ((Int × S_multihopmade_Tape × S_Guard) ⊕ ((Unit) ⊕ (Bool))) :=
  bif (decide (s3.1 < 6)) then
    (F_made_Tape_Sealed s3.2.1 s3.2.2).bind fun v8 =>
    bif (s3.1 == 5) then
      bif ((List.length v8.1.MIC : Int) == 4) then
        (appO 1 (List.take (List.length ([] : List Int)) ([] : List Int)) (Cut.app .whole v8.1.MIC)).bind fun l18 =>
        (F_made_Mod a1 4).bind fun v19 =>
        (idx (Cut.app .whole l18) v19).bind fun _e20 =>
        (l18[(0 + Int.toNat v19)]?).bind fun e21 =>
        (idx (Cut.app .whole l18) v19).bind fun _e22 =>
        (l18[(0 + Int.toNat v19)]?).bind fun _e23 =>
        (F_law06_GuardOpens_j3 s3 v8) (S_Frame.mk v8.1.Kind v8.1.AckRequest v8.1.Pending v8.1.Secure v8.1.Seq v8.1.Pan v8.1.Dst v8.1.Src v8.1.Counter v8.1.Key v8.1.Payload (List.set l18 (0 + Int.toNat v19) (ixor .u8 e21 a2)))
      else
        (F_law06_GuardOpens_j3 s3 v8) v8.1
    else
      (F_law06_GuardOpens_j3 s3 v8) v8.1
  else
    some (Sum.inr (Sum.inl ()))
noncomputable def F_law06_GuardOpens (a0 : List Int) (a1 : Int) (a2 : Int) : Option (Bool) :=
  (F_made_New a0).bind fun v1 =>
  (F_made_Tape_Guard v1).bind fun v2 =>
  (loopO (F_law06_GuardOpens_l1 a1 a2) (0, v2.2, v2.1)).bind (Sum.elim (fun b4 =>
    (F_law06_known ).bind fun v25 =>
    some (v25)
  ) (fun w24 => some w24))
set_option maxRecDepth 100000 in
set_option maxHeartbeats 40000000 in
theorem ok_law06_GuardOpens (a0 : List Int) (a1 : Int) (a2 : Int) (r : Bool) (h : F_law06_GuardOpens a0 a1 a2 = some r) : Con Try.prog 3 [.c (eS 1 (ecI .i64) (a0)), .c (.lit (.int .i64 (a1))), .c (.lit (.int .u8 (a2)))] [] (.c (.lit (.bool (r)))) [] := by
  unfold F_law06_GuardOpens at h
  refine con_of [] [] 73 Try.func3 rfl rfl (by kernel_rfl) (fun K => ?_)
  refine TS_go 7 ?_
  replace h := bindO h
  obtain ⟨v1, hv1, h⟩ := h
  refine TS_con [] [(16, 10)] none (ok_made_New a0 v1 hv1) (by kernel_rfl) (by kernel_rfl) (by kernel_rfl) ?_
  refine TS_go 5 ?_
  replace h := bindO h
  obtain ⟨v2, hv2, h⟩ := h
  refine TS_con [] [(18, 900000), (600000, 900004)] (some (16, 0)) (okT_made_Tape_Guard v1 v2 hv2) (by kernel_rfl) (by kernel_rfl) (by kernel_rfl) ?_
  refine TS_go 9 ?_
  refine TS_cut ⟨[(1, []), (2, []), (7, []), (8, []), (9, [])], [(16, (16, [])), (18, (18, [])), (600000, (600000, [])), (8, (8, []))]⟩ (.mk [.code (codeAt [1, 1, 1, 0, 1, 0] (bodyOf Try.f3)), .blk 0, .code (codeAt [1, 1, 1, 1] (bodyOf Try.f3))] .normal ⟨[(1, .c (.lit (.int .i64 (a1)))), (2, .c (.lit (.int .u8 (a2)))), (7, .c (.box 16 0)), (8, .c (.box 8 0)), (9, .c (.lit (.int .i64 (0))))], [(16, .box [.slc 1 0 (List.length v2.2.l) (List.map (ecI .i64) v2.2.l), .lit (.int .i64 (v2.2.at_))]), (18, .spare 69 17 (List.length v2.1.Keys)), (600000, .spare 79 6 (List.length v2.1.Peers)), (8, .box [.slc 17 20 (List.length v2.1.Keys) (List.map S_LinkKey.cs v2.1.Keys), .lit (.int .u32 (v2.1.Counter)), .lit (.int .u32 (v2.1.Reserved)), .lit (.int .u32 (v2.1.Nonce)), .slc 6 600002 (List.length v2.1.Peers) (List.map S_Peer.cs v2.1.Peers)])]⟩) (by kernel_rfl) (by kernel_rfl) ?_
  replace h := bindO h
  obtain ⟨y5, hl1, hK1⟩ := h
  refine TS_loopB (F_law06_GuardOpens_l1 a1 a2) ⟨[(1, []), (2, []), (7, []), (8, []), (9, [])], [(16, (16, [])), (8, (8, [18, 0, 0, 0, 7]))]⟩ (fun (s3 : Int × S_multihopmade_Tape × S_Guard) => [(9, .c (.lit (.int .i64 (s3.1))))]) (fun (s3 : Int × S_multihopmade_Tape × S_Guard) => [(16, .box (S_multihopmade_Tape.cs s3.2.1)), (8, .box (S_Guard.cs s3.2.2))]) (0, v2.2, v2.1) y5 (.exit 0) (fun (b : Unit) => (Sum.inl b : (Unit) ⊕ (Bool))) ⟨[], []⟩ (fun (b4 : Unit) => []) (fun (b4 : Unit) => []) hl1 (by kernel_rfl) (by kernel_rfl) ?_ ?_
  · intro s3 x h hy1
    unfold F_law06_GuardOpens_l1 at h
    refine TS_go 6 ?_
    replace h := condO h
    rcases h with ⟨hb6, h⟩ | ⟨hb6, h⟩
    · refine TS_know 20 (b := true) hb6 (by kernel_rfl) (by kernel_rfl) ?_
      refine TS_T (by kernel_rfl) rfl ?_
      refine TS_go 1 ?_
      refine TS_cut ⟨[(1, []), (2, []), (7, []), (8, []), (9, [])], [(16, (16, [])), (8, (8, []))]⟩ (.mk [.code (codeAt [1, 1, 1, 0, 1, 0, 0, 1] (bodyOf Try.f3))] .normal ⟨[(1, .c (.lit (.int .i64 (a1)))), (2, .c (.lit (.int .u8 (a2)))), (7, .c (.box 16 0)), (8, .c (.box 8 0)), (9, .c (.lit (.int .i64 (s3.1))))], [(16, .box [.slc 1 0 (List.length s3.2.1.l) (List.map (ecI .i64) s3.2.1.l), .lit (.int .i64 (s3.2.1.at_))]), (8, .box [.slc 17 0 (List.length s3.2.2.Keys) (List.map S_LinkKey.cs s3.2.2.Keys), .lit (.int .u32 (s3.2.2.Counter)), .lit (.int .u32 (s3.2.2.Reserved)), .lit (.int .u32 (s3.2.2.Nonce)), .slc 6 0 (List.length s3.2.2.Peers) (List.map S_Peer.cs s3.2.2.Peers)])]⟩) (by kernel_rfl) (by kernel_rfl) ?_
      refine TS_joinB ⟨[(1, []), (2, []), (7, []), (8, []), (9, [])], [(16, (16, [])), (8, (8, []))]⟩ (fun (v7 : S_multihopmade_Tape × S_Guard) => []) (fun (v7 : S_multihopmade_Tape × S_Guard) => [(16, .box (S_multihopmade_Tape.cs v7.1)), (8, .box (S_Guard.cs v7.2))]) (F_law06_GuardOpens_j2 s3) x ?_ ?_
      · clear h
        intro v7 h
        unfold F_law06_GuardOpens_j2 at h
        refine TS_go 5 ?_
        have ret := Option.some.inj h
        subst ret
        exact TS_againB _ ⟨[(1, []), (2, []), (7, []), (8, []), (9, [])], [(16, (16, [])), (8, (8, []))]⟩ rfl (by kernel_rfl) (by kernel_rfl)
      · refine TS_go 5 ?_
        replace h := bindO h
        obtain ⟨v8, hv8, h⟩ := h
        refine TS_con [] [] (some (16, 0)) (ok_made_Tape_Sealed s3.2.1 s3.2.2 v8 hv8) (by kernel_rfl) (by kernel_rfl) (by kernel_rfl) ?_
        refine TS_go 3 ?_
        refine TS_cut ⟨[(1, []), (2, []), (7, []), (8, []), (9, []), (10, [])], [(16, (16, [])), (8, (8, [])), (10, (10, []))]⟩ (.mk [.code (codeAt [1, 1, 1, 0, 1, 0, 0, 1, 0, 0, 1] (bodyOf Try.f3)), .blk 1] .normal ⟨[(1, .c (.lit (.int .i64 (a1)))), (2, .c (.lit (.int .u8 (a2)))), (7, .c (.box 16 0)), (8, .c (.box 8 0)), (9, .c (.lit (.int .i64 (s3.1)))), (10, .c (.box 10 0))], [(16, .box [.slc 1 0 (List.length v8.2.l) (List.map (ecI .i64) v8.2.l), .lit (.int .i64 (v8.2.at_))]), (8, .box [.slc 17 0 (List.length s3.2.2.Keys) (List.map S_LinkKey.cs s3.2.2.Keys), .lit (.int .u32 (s3.2.2.Counter)), .lit (.int .u32 (s3.2.2.Reserved)), .lit (.int .u32 (s3.2.2.Nonce)), .slc 6 0 (List.length s3.2.2.Peers) (List.map S_Peer.cs s3.2.2.Peers)]), (10, .box [.lit (.int .i64 (v8.1.Kind)), .lit (.bool (v8.1.AckRequest)), .lit (.bool (v8.1.Pending)), .lit (.bool (v8.1.Secure)), .lit (.int .u8 (v8.1.Seq)), .lit (.int .u16 (v8.1.Pan)), .lit (.int .i64 (v8.1.Dst.Mode)), .lit (.int .u16 (v8.1.Dst.Short)), .lit (.int .u64 (v8.1.Dst.EUI)), .lit (.int .i64 (v8.1.Src.Mode)), .lit (.int .u16 (v8.1.Src.Short)), .lit (.int .u64 (v8.1.Src.EUI)), .lit (.int .u32 (v8.1.Counter)), .lit (.int .u8 (v8.1.Key)), .slc 1 0 (List.length v8.1.Payload) (List.map (ecI .u8) v8.1.Payload), .slc 1 0 (List.length v8.1.MIC) (List.map (ecI .u8) v8.1.MIC)])]⟩) (by kernel_rfl) (by kernel_rfl) ?_
        refine TS_joinB ⟨[(1, []), (2, []), (7, []), (8, []), (9, []), (10, [])], [(16, (16, [])), (8, (8, [])), (10, (10, []))]⟩ (fun (v9 : S_Frame) => []) (fun (v9 : S_Frame) => [(10, .box (S_Frame.cs v9))]) (F_law06_GuardOpens_j3 s3 v8) x ?_ ?_
        · clear h
          intro v9 h
          unfold F_law06_GuardOpens_j3 at h
          refine TS_go 4 ?_
          replace h := bindO h
          obtain ⟨v10, hv10, h⟩ := h
          refine TS_con [] [(51, 900000), (600000, 900004)] none (okT_guard_Open s3.2.2 v9 v10 hv10) (by kernel_rfl) (by kernel_rfl) (by kernel_rfl) ?_
          refine TS_go 11 ?_
          replace h := bindO h
          obtain ⟨v11, hv11, h⟩ := h
          refine TS_con [] [(57, 900000)] none (okT_ref06_Open s3.2.2 v9 v11 hv11) (by kernel_rfl) (by kernel_rfl) (by kernel_rfl) ?_
          refine TS_go 14 ?_
          replace h := condO h
          rcases h with ⟨hb12, h⟩ | ⟨hb12, h⟩
          · refine TS_know 62 (b := true) hb12 (by kernel_rfl) (by kernel_rfl) ?_
            refine TS_know 63 (b := true) hb12 (by kernel_rfl) (by kernel_rfl) ?_
            refine TS_go 6 ?_
            refine TS_T (by kernel_rfl) rfl ?_
            refine TS_go 7 ?_
            refine TS_outJ (by kernel_rfl) ?_
            have ret := Option.some.inj h
            subst ret
            have hy1q := hy1 _ rfl
            subst hy1q
            replace h := (elimR hK1)
            refine TS_retB rfl (by kernel_rfl) ?_
            refine TS_go 2 ?_
            have ret := Option.some.inj h
            subst ret
            exact TS_ret (by kernel_rfl) (by kernel_rfl) (by kernel_rfl)
          · refine TS_know 62 (b := false) hb12 (by kernel_rfl) (by kernel_rfl) ?_
            refine TS_know 63 (b := false) hb12 (by kernel_rfl) (by kernel_rfl) ?_
            refine TS_go 2 ?_
            replace h := bindO h
            obtain ⟨v13, hv13, h⟩ := h
            refine TS_call [[18, 0, 0, 0, 7], [18, 0, 0, 0, 7]] (ok_ref06_Same v10.1 v11.1 v13 hv13) (by kernel_rfl) (by kernel_rfl) ?_
            refine TS_go 3 ?_
            replace h := condO h
            rcases h with ⟨hb14, h⟩ | ⟨hb14, h⟩
            · subst hb14
              refine TS_F (by kernel_rfl) rfl ?_
              refine TS_go 6 ?_
              replace h := condO h
              rcases h with ⟨hb15, h⟩ | ⟨hb15, h⟩
              · refine TS_know 70 (b := true) hb15 (by kernel_rfl) (by kernel_rfl) ?_
                refine TS_T (by kernel_rfl) rfl ?_
                refine TS_go 5 ?_
                exact TS_meet (v8.2, v11.1) ⟨[(1, []), (2, []), (7, []), (8, []), (9, [])], [(16, (16, [])), (8, (8, [18]))]⟩ h (by kernel_rfl) (by kernel_rfl)
              · refine TS_know 70 (b := false) hb15 (by kernel_rfl) (by kernel_rfl) ?_
                refine TS_F (by kernel_rfl) rfl ?_
                refine TS_go 2 ?_
                exact TS_meet (v8.2, s3.2.2) ⟨[(1, []), (2, []), (7, []), (8, []), (9, [])], [(16, (16, [])), (8, (8, []))]⟩ h (by kernel_rfl) (by kernel_rfl)
            · subst hb14
              refine TS_T (by kernel_rfl) rfl ?_
              refine TS_go 7 ?_
              refine TS_outJ (by kernel_rfl) ?_
              have ret := Option.some.inj h
              subst ret
              have hy1q := hy1 _ rfl
              subst hy1q
              replace h := (elimR hK1)
              refine TS_retB rfl (by kernel_rfl) ?_
              refine TS_go 2 ?_
              have ret := Option.some.inj h
              subst ret
              exact TS_ret (by kernel_rfl) (by kernel_rfl) (by kernel_rfl)
        · refine TS_go 5 ?_
          replace h := condO h
          rcases h with ⟨hb16, h⟩ | ⟨hb16, h⟩
          · refine TS_know 27 (b := true) hb16 (by kernel_rfl) (by kernel_rfl) ?_
            refine TS_know 28 (b := true) hb16 (by kernel_rfl) (by kernel_rfl) ?_
            refine TS_go 6 ?_
            replace h := condO h
            rcases h with ⟨hb17, h⟩ | ⟨hb17, h⟩
            · refine TS_know 32 (b := true) hb17 (by kernel_rfl) (by kernel_rfl) ?_
              refine TS_know 33 (b := true) hb17 (by kernel_rfl) (by kernel_rfl) ?_
              refine TS_T (by kernel_rfl) rfl ?_
              refine TS_go 2 ?_
              refine TS_litNR 34 5 1 (ecI .u8) [] ([] : List Int) (by kernel_rfl) (by kernel_rfl) ?_
              refine TS_go 2 ?_
              replace h := bindO h
              obtain ⟨l18, hl18, h⟩ := h
              refine TS_appR (d := 34) (e := 5) (sz := 1) (N := List.length ([] : List Int)) (m := (List.length ([] : List Int))) (ecI .u8) (fun _ => by kernel_rfl) (l1 := ([] : List Int)) (l2 := v8.1.MIC) (c := .whole) hl18 (by kernel_rfl) (by kernel_rfl) ?_
              refine TS_go 3 ?_
              refine TS_pad ?_
              refine TS_draw (by kernel_rfl) ?_
              refine TD_go 3 ?_
              replace h := bindO h
              obtain ⟨v19, hv19, h⟩ := h
              refine TD_call [] (ok_made_Mod a1 4 v19 hv19) (by kernel_rfl) (by kernel_rfl) ?_
              replace h := bindO h
              obtain ⟨_e20, he20, h⟩ := h
              refine TD_idxR 34 1 0 (ecI .u8) .whole he20 (by kernel_rfl) (by kernel_rfl) ?_
              replace h := bindO h
              obtain ⟨e21, he21, h⟩ := h
              refine TD_ldE 5 (0 + Int.toNat v19) 0 (ecI .u8) (v := .c (.lit (.int .u8 (e21)))) he21 (by kernel_rfl) (by kernel_rfl) (by kernel_rfl) ?_
              refine TD_go 2 ?_
              replace h := bindO h
              obtain ⟨_e22, he22, h⟩ := h
              refine TD_idxR 34 1 0 (ecI .u8) .whole he22 (by kernel_rfl) (by kernel_rfl) ?_
              replace h := bindO h
              obtain ⟨_e23, he23, h⟩ := h
              refine TD_stE 34 5 1 (List.length l18) (0 + Int.toNat v19) 0 (ecI .u8) (ds := [.lit (.int .u8 (ixor .u8 e21 a2))]) (ixor .u8 e21 a2) he23 (by kernel_rfl) (by kernel_rfl) (by kernel_rfl) (by kernel_rfl) ?_
              refine TD_end (by kernel_rfl) ?_
              refine TS_settle 34 (by kernel_rfl) ?_
              refine TS_go 1 ?_
              exact TS_meet (S_Frame.mk v8.1.Kind v8.1.AckRequest v8.1.Pending v8.1.Secure v8.1.Seq v8.1.Pan v8.1.Dst v8.1.Src v8.1.Counter v8.1.Key v8.1.Payload (List.set l18 (0 + Int.toNat v19) (ixor .u8 e21 a2))) ⟨[(1, []), (2, []), (7, []), (8, []), (9, []), (10, [])], [(16, (16, [])), (8, (8, [])), (10, (10, [0, 0, 0, 0, 0, 0, 0, 0, 0, 0, 0, 0, 0, 0, 0, 2]))]⟩ h (by kernel_rfl) (by kernel_rfl)
            · refine TS_know 32 (b := false) hb17 (by kernel_rfl) (by kernel_rfl) ?_
              refine TS_know 33 (b := false) hb17 (by kernel_rfl) (by kernel_rfl) ?_
              refine TS_F (by kernel_rfl) rfl ?_
              refine TS_go 1 ?_
              exact TS_meet v8.1 ⟨[(1, []), (2, []), (7, []), (8, []), (9, []), (10, [])], [(16, (16, [])), (8, (8, [])), (10, (10, []))]⟩ h (by kernel_rfl) (by kernel_rfl)
          · refine TS_know 27 (b := false) hb16 (by kernel_rfl) (by kernel_rfl) ?_
            refine TS_know 28 (b := false) hb16 (by kernel_rfl) (by kernel_rfl) ?_
            refine TS_go 6 ?_
            refine TS_F (by kernel_rfl) rfl ?_
            refine TS_go 1 ?_
            exact TS_meet v8.1 ⟨[(1, []), (2, []), (7, []), (8, []), (9, []), (10, [])], [(16, (16, [])), (8, (8, [])), (10, (10, []))]⟩ h (by kernel_rfl) (by kernel_rfl)
    · refine TS_know 20 (b := false) hb6 (by kernel_rfl) (by kernel_rfl) ?_
      refine TS_F (by kernel_rfl) rfl ?_
      refine TS_go 2 ?_
      have ret := Option.some.inj h
      subst ret
      exact TS_brkB () ⟨[], []⟩ rfl (by kernel_rfl) (by kernel_rfl) (by kernel_rfl)
  · intro b4 hb
    subst y5
    have h := elimL hK1
    refine TS_go 3 ?_
    replace h := bindO h
    obtain ⟨v25, hv25, h⟩ := h
    refine TS_call [] (ok_law06_known  v25 hv25) (by kernel_rfl) (by kernel_rfl) ?_
    refine TS_go 3 ?_
    have ret := Option.some.inj h
    subst ret
    exact TS_ret (by kernel_rfl) (by kernel_rfl) (by kernel_rfl)
end
section
open Go.ChangeShapes Go.WideShapes Go.ChangeAt Go.RowKit

theorem own : ownKnob Try.prog.godebug = none := by kernel_rfl
theorem laidOut : laidOutB Try.prog = true := by kernel_rfl

/-- the arguments read as before -/
theorem trodAll_below {H : Type} {enc : TypeId × Value → H} {P : Program} (hl : laidOutB P = true) {W W' : World} (hb : Below W.heap.size W W') :
    ∀ {ts : List TypeId} {vs : List Value} {ds : List (DataW H)} {ps : List MemPlace}, ts.all (fun t => P.readableRec t && decide (t < P.types.size)) = true →
      DataW.TrodAll enc P W 0 (fun _ => true) true ts vs ds ps → DataW.TrodAll enc P W' 0 (fun b => decide (b < W.heap.size)) true ts vs ds ps
  | [], _, _, _, _, h => by
    obtain ⟨rfl, rfl, rfl⟩ := trodAll_nil h
    exact trodAll_mk0
  | t :: ts, vs, ds, ps, hr, h => by
    obtain ⟨v, vs', d, ds', p, q, rfl, rfl, rfl, h1, h2⟩ := trodAll_cons h
    simp only [List.all_cons, Bool.and_eq_true, decide_eq_true_eq] at hr
    have lt : ∀ x ∈ p, x.block < W.heap.size := by obtain ⟨m, hm⟩ := h1; exact DataW.trod_lt m _ _ _ hm
    exact trodAll_cons_mk (Below.trod hl hr.1.1 hr.1.2 h1 hb lt) (trodAll_below hl hb hr.2 h2)

/-- the reader that sees all -/
def rdAll (w : World) : Rd := fun b o => w.cell? ⟨b, o, none⟩
def env0 : Env := ⟨fun _ => (0, 0), fun _ => (.slice none 0 0, .slice none 0 0)⟩
theorem vrel_lit (rd : Rd) (g : Env) (v : Value) : VRel rd g v (.c (.lit v)) := IRel.lit v
def ArgsOk (rd : Rd) (g : Env) : List Value → List SV → Prop
  | [], [] => True
  | u :: us, x :: xs => VRel rd g u x ∧ ArgsOk rd g us xs
  | _, _ => False
theorem ArgsOk.get {rd : Rd} {g : Env} : ∀ {us : List Value} {xs : List SV}, ArgsOk rd g us xs → us.length = xs.length ∧ ∀ (i : Nat) (x : SV), xs[i]? = some x → ∃ u, us[i]? = some u ∧ VRel rd g u x
  | [], [], _ => ⟨rfl, fun i x h => by simp at h⟩
  | u :: us, y :: xs, h => by
    obtain ⟨h1, h2⟩ := h
    obtain ⟨k1, k2⟩ := h2.get
    refine ⟨by simp [k1], fun i x hx => ?_⟩
    rcases i with _ | i
    · cases hx; exact ⟨u, rfl, h1⟩
    · exact k2 i x (by simpa using hx)
/-- a law that is true -/
theorem con_true {P : Program} {f : FuncId} {args : List SV} (h : Con P f args [] (.c (.lit (.bool true))) []) {W : World} {us : List Value} (ha : ArgsOk (rdAll W) env0 us args) :
    Calls P f us.toArray W fun e w' => e = .returned (.bool true) ∧ Ext W w' := by
  obtain ⟨h1, h2⟩ := ha.get
  have nol : ∀ d (x : Res), look ([] : Hp) d = some x → False := fun d x hx => by simp [look] at hx
  have noin : ∀ g b o, ¬ InFoot g ([] : Hp) b o := by rintro g b o ⟨d, r, hd, _⟩; exact nol _ _ hd
  refine (h (rdAll W) env0 W us.toArray (fun b o v hv => hv) (by simpa using h1) (fun i x hx => by simpa using h2 i x hx) (fun d x hx => (nol d x hx).elim) (fun d d' r r' b o _ hd => (nol _ _ hd).elim) (fun b o hx => (noin _ _ _ hx).elim)).mono ?_
  rintro e w' ⟨u, g', rfl, hk, _, _, _, _, hu⟩
  have hE : Ext W w' := (hk.weak (fun b o x => noin _ _ _ x)).ext
  refine ⟨?_, hE⟩
  have := (hu (rdAll w') (by
    intro b o v hv
    obtain ⟨g, rfl⟩ := hE
    have hb := World.block_lt_of_cell? _ _ hv
    unfold rdAll
    rw [cell_plus _ _ _ _ _ hb]
    exact hv) (fun b o u _ _ hc => hc)).1
  cases this
  rfl
def wfI (k : IntKind) (n : Int) : Prop := (Lit.int k n).wf = true
def Seg (rd : Rd) (cs : List Value) (off n : Nat) (l : List SC) : Prop := l.length = n ∧ ∀ (j : Nat) (y : SC), l[j]? = some y → ∃ u, cs[off + j]? = some u ∧ IRel rd u y
theorem Seg.append {rd : Rd} {cs : List Value} {off n m : Nat} {l l' : List SC} (h : Seg rd cs off n l) (k : Seg rd cs (off + n) m l') : Seg rd cs off (n + m) (l ++ l') := by
  refine ⟨by rw [List.length_append, h.1, k.1], fun j y hy => ?_⟩
  by_cases hj : j < l.length
  · rw [List.getElem?_append_left hj] at hy
    exact h.2 j y hy
  · rw [List.getElem?_append_right (by omega)] at hy
    obtain ⟨u, h1, h2⟩ := k.2 _ y hy
    have h3 := h.1
    refine ⟨u, ?_, h2⟩
    rw [← h1]
    congr 1
    omega

/-- a value of the type t is the shadow of an α -/
def Opens (P : Program) (t : TypeId) {α : Type} (f : α → List SC) (wf : α → Prop) : Prop :=
  ∀ (H : Type) (enc : TypeId × Value → H) (W : World) (fuel : Nat) (cs : List Value) (x : DataW H × List MemPlace), DataW.trod enc P W 0 (fun _ => true) true fuel t cs = some x → ∃ a : α, Seg (rdAll W) cs 0 cs.length (f a) ∧ wf a

theorem opens_int {P : Program} {t : TypeId} {k : IntKind} (ht : P.underlying t = some (.int k)) : Opens P t (ecI k) (wfI k) := by
  intro H enc W fuel cs x h
  obtain ⟨n, rfl, _, hw⟩ := DataW.trod_int ht h
  refine ⟨n, ⟨rfl, fun j y hy => ?_⟩, hw⟩
  rcases j with _ | j
  · simp only [ecI, List.getElem?_cons_zero, Option.some.injEq] at hy
    subst hy
    exact ⟨_, rfl, .lit _⟩
  · simp [ecI] at hy
end
section
open Go.ChangeShapes Go.WideShapes Go.ChangeAt Go.RowKit

def Wt (P : Program) (t : TypeId) {H : Type} (d : DataW H) : Prop := ∀ n ∈ d.weights P t, n ≤ reachBytes
def OpensR (P : Program) (t : TypeId) {α : Type} (f : α → List SC) (wf : α → Prop) : Prop :=
  ∀ (H : Type) (enc : TypeId × Value → H) (W : World) (fuel : Nat) (cs : List Value) (x : DataW H × List MemPlace), DataW.trod enc P W 0 (fun _ => true) true fuel t cs = some x → Wt P t x.1 → ∃ a : α, Seg (rdAll W) cs 0 cs.length (f a) ∧ wf a
theorem Opens.r {P : Program} {t : TypeId} {α : Type} {f : α → List SC} {wf : α → Prop} (h : Opens P t f wf) : OpensR P t f wf := fun H enc W fuel cs x h1 _ => h H enc W fuel cs x h1
def wfR {α : Type} (p : α → Prop) (l : List α) : Prop := l.length ≤ 140737488351232 ∧ ∀ z ∈ l, p z
theorem mem_weightsAll {H : Type} {P : Program} {e : TypeId} : ∀ {l : List (DataW H)} {d : DataW H}, d ∈ l → ∀ n ∈ d.weights P e, n ∈ DataW.weightsAll P e l
  | x :: l, d, h, n, hn => by
    simp only [DataW.weightsAll, List.mem_append]
    rcases List.mem_cons.1 h with rfl | h
    · exact Or.inl hn
    · exact Or.inr (mem_weightsAll h n hn)
theorem wt_of {H : Type} {P : Program} {ts : List TypeId} {ds : List (DataW H)} (h : (DataW.weightsEach P ts ds).all (· ≤ reachBytes) = true) {j : Nat} {t : TypeId} {d : DataW H} (ht : ts[j]? = some t) (hd : ds[j]? = some d) : Wt P t d := fun n hn => by
  have := List.all_eq_true.1 h _ (DataW.weights_mem_each ht hd n hn)
  simpa using this
theorem opens_sliceR {P : Program} {t e : TypeId} {sz : Nat} (ht : P.underlying t = some (.slice e)) (hsz : P.cellsOf e = sz) {α : Type} {f : α → List SC} {wf : α → Prop} (hop : OpensR P e f wf) (hlen : ∀ a, (f a).length = sz) (hpos : decide (0 < sz) = true) (hby : decide (0 < P.bytesOf e) = true) : OpensR P t (ecS sz f) (wfR wf) := by
  intro H enc W fuel cs x h hw
  have hb := of_decide_eq_true hby
  have hp := of_decide_eq_true hpos
  rcases DataW.trod_slice ht h with ⟨rfl, _⟩ | ⟨a, len, cap, elems, rest, m, _, rfl, rfl, _, hlc, hcm, hel, hg, _⟩
  · refine ⟨[], ⟨rfl, fun j y hy => ?_⟩, by simp, fun z hz => absurd hz (by simp)⟩
    rcases j with _ | j
    · simp only [ecS, List.map_nil, List.getElem?_cons_zero, Option.some.injEq] at hy
      subst hy
      exact ⟨_, rfl, .nil _ _ _ (by decide)⟩
    · simp [ecS] at hy
  · have e0 : DataW.weights P t (.slice (elems.map (·.1)) (rest.map (·.1)) : DataW H) = (((elems.map (·.1)).length + (rest.map (·.1)).length) * P.bytesOf e :: (DataW.weightsAll P e (elems.map (·.1)) ++ DataW.weightsAll P e (rest.map (·.1)))) := by simp [DataW.weights, ht]
    have hlen' : len ≤ 140737488351232 := by
      have h2 := hw (((elems.map (·.1)).length + (rest.map (·.1)).length) * P.bytesOf e) (by rw [e0]; exact List.mem_cons_self)
      have h3 : len * 1 ≤ ((elems.map (·.1)).length + (rest.map (·.1)).length) * P.bytesOf e := Nat.mul_le_mul (by rw [List.length_map, hel]; omega) hb
      have h4 : reachBytes = 140737488351232 := rfl
      omega
    have key : ∀ i, i < len → ∃ (us : List Value) (b : α), W.cells? 0 (a.add (i * sz)) sz = some us ∧ Seg (rdAll W) us 0 us.length (f b) ∧ wf b := by
      intro i hi
      have h1 := hg i hi
      rw [hsz] at h1
      obtain ⟨y, hy⟩ : ∃ y, elems[i]? = some y := ⟨_, List.getElem?_eq_getElem (by omega)⟩
      rw [hy] at h1
      obtain ⟨us, k1, k2⟩ := Option.bind_eq_some_iff.1 h1
      obtain ⟨b, k3, k4⟩ := hop H enc W m us y k2 (fun n hn => hw n (by
        rw [e0]
        exact List.mem_cons_of_mem _ (List.mem_append_left _ (mem_weightsAll (d := y.1) (List.mem_map.2 ⟨y, List.mem_of_getElem? hy, rfl⟩) n hn))))
      exact ⟨us, b, k1, k3, k4⟩
    have key2 : ∃ l : List α, l.length = len ∧ ∀ i b, l[i]? = some b → wf b ∧ ∃ us, W.cells? 0 (a.add (i * sz)) sz = some us ∧ Seg (rdAll W) us 0 us.length (f b) := by
      have : ∀ q, q ≤ len → ∃ l : List α, l.length = q ∧ ∀ i b, l[i]? = some b → wf b ∧ ∃ us, W.cells? 0 (a.add (i * sz)) sz = some us ∧ Seg (rdAll W) us 0 us.length (f b) := by
        intro q
        induction q with
        | zero => exact fun _ => ⟨[], rfl, fun i b hb => by simp at hb⟩
        | succ q ih =>
          intro hq
          obtain ⟨l, hl, hall⟩ := ih (by omega)
          obtain ⟨us, b, k1, k2, k3⟩ := key q (by omega)
          refine ⟨l ++ [b], by simp [hl], fun i c hc => ?_⟩
          by_cases hi : i < l.length
          · rw [List.getElem?_append_left hi] at hc
            exact hall i c hc
          · rw [List.getElem?_append_right (by omega)] at hc
            have hi0 : i - l.length = 0 := by
              have := (List.getElem?_eq_some_iff.1 hc).1
              simp at this
              omega
            rw [hi0] at hc
            cases hc
            have : i = q := by omega
            subst this
            exact ⟨k3, us, k1, k2⟩
      exact this len (Nat.le_refl _)
    obtain ⟨l, hl, hall⟩ := key2
    refine ⟨l, ⟨rfl, fun j y hy => ?_⟩, by omega, fun z hz => ?_⟩
    · rcases j with _ | j
      · simp only [ecS, List.getElem?_cons_zero, Option.some.injEq] at hy
        subst hy
        refine ⟨_, rfl, ?_⟩
        rw [hl]
        by_cases hz : len = 0
        · subst hz
          have : l = [] := List.eq_nil_of_length_eq_zero hl
          subst this
          exact .nil _ _ _ hcm
        · obtain ⟨b0, hb0⟩ : ∃ b, l[0]? = some b := ⟨_, List.getElem?_eq_getElem (by omega)⟩
          obtain ⟨_, us0, k0, _⟩ := hall 0 b0 hb0
          obtain ⟨hlen0, _, hc0⟩ := World.cells?_some k0
          have hcell0 := hc0 0 (by omega)
          obtain ⟨bl, off, spot⟩ := a
          have hspot : spot = none := by
            obtain ⟨z, hz0⟩ : ∃ z, us0[0]? = some z := ⟨_, List.getElem?_eq_getElem (by omega)⟩
            rw [hz0] at hcell0
            simpa [Addr.add] using World.cell?_spot hcell0
          subst hspot
          have cellAt : ∀ i b, l[i]? = some b → ∀ j y, (f b)[j]? = some y → ∃ u, W.cell? ⟨bl, off + i * sz + j, none⟩ = some u ∧ IRel (rdAll W) u y := by
            intro i b hb j y hy
            obtain ⟨_, us, k1, k2⟩ := hall i b hb
            obtain ⟨hlen1, _, hc1⟩ := World.cells?_some k1
            obtain ⟨u, q1, q2⟩ := k2.2 j y hy
            rw [Nat.zero_add] at q1
            have hj : j < sz := by have := (List.getElem?_eq_some_iff.1 hy).1; rw [hlen b] at this; exact this
            have := hc1 j (by omega)
            rw [q1] at this
            refine ⟨u, ?_, q2⟩
            rw [Addr.add_mid, Addr.add_mid] at this
            exact this
          refine .slc bl off len cap sz (l.map f) (fun i j => (W.cell? ⟨bl, off + i * sz + j, none⟩).getD (.bool false)) (by simp [hl]) hlc hcm ?_ ?_ ?_
          · intro x hx
            obtain ⟨b, _, rfl⟩ := List.mem_map.1 hx
            exact hlen b
          · intro i x j y hx hy
            rw [List.getElem?_map] at hx
            obtain ⟨b, hb, rfl⟩ := Option.map_eq_some_iff.1 hx
            obtain ⟨u, q1, _⟩ := cellAt i b hb j y hy
            simp only [rdAll, q1, Option.getD_some]
          · intro i x j y hx hy
            rw [List.getElem?_map] at hx
            obtain ⟨b, hb, rfl⟩ := Option.map_eq_some_iff.1 hx
            obtain ⟨u, q1, q2⟩ := cellAt i b hb j y hy
            simp only [q1, Option.getD_some]
            exact q2
      · simp [ecS] at hy
    · obtain ⟨i, hi⟩ := List.getElem?_of_mem hz
      exact (hall i z hi).1

/-- a single cell as an argument -/
theorem open_cellR {P : Program} {t : TypeId} {H : Type} {enc : TypeId × Value → H} {W : World} {v : Value} {d : DataW H} {p : List MemPlace} {α : Type} {f : α → List SC} {wf : α → Prop} {c : α → SC} (hop : OpensR P t f wf) (hc : ∀ a, f a = [c a]) (hv : v.cells = #[v]) (h : DataW.Trod enc P W 0 (fun _ => true) true t v d p) (hw : Wt P t d) : ∃ a, VRel (rdAll W) env0 v (.c (c a)) ∧ wf a := by
  obtain ⟨fuel, hf⟩ := h
  obtain ⟨a, hs, hw2⟩ := hop H enc W fuel _ _ hf hw
  rw [hv] at hs
  refine ⟨a, ?_, hw2⟩
  obtain ⟨u, k1, k2⟩ := hs.2 0 (c a) (by rw [hc]; rfl)
  simp at k1
  subst k1
  exact k2.c
/-- a slice as an argument -/
theorem open_slcR {P : Program} {t e : TypeId} {H : Type} {enc : TypeId × Value → H} {W : World} {v : Value} {d : DataW H} {p : List MemPlace} {r : Reach} {b0 : Nat} {α : Type} {sz : Nat} {f : α → List SC} {wf : List α → Prop} (hop : OpensR P t (ecS sz f) wf) (ht : P.underlying t = some (.slice e))
    (hv : Value.okWide P W r b0 t v) (h : DataW.Trod enc P W 0 (fun _ => true) true t v d p) (hw : Wt P t d) : ∃ a, VRel (rdAll W) env0 v (.c (eS sz f a)) ∧ wf a := by
  obtain ⟨a0, len, cap, rfl⟩ := okWide_slice ht hv
  exact open_cellR hop (fun a => rfl) rfl h hw
end
section
open Go.ChangeShapes Go.WideShapes Go.ChangeAt Go.RowKit

set_option maxRecDepth 100000 in
theorem guardOpens_lifted (hF : ∀ (a0 : List Int) (a1 : Int) (a2 : Int), wfR (wfI .i64) a0 → wfI .i64 a1 → wfI .u8 a2 → F_law06_GuardOpens a0 a1 a2 = some true) (os : Os) (started : os.Started) (H : Type) (enc : TypeId × Value → H) :
    ReturnsInHanded {} Try.checked os 3 .any (Rows.guardOpensSpec.pre6 enc Try.prog Try.f3 Rows.guardOpensRow.domain false) (Rows.guardOpensSpec.post enc Try.prog Try.f3 false true false false) := by
  refine returnsInHanded_of_change_sized (C := Try.checked) own started (by kernel_rfl) Try.func3
    (ChangeSpec.witness6 (enc := enc) (C := Try.checked) false ⟨#[], #[.slice none 0 0, .int .i64 0, .int .u8 0], []⟩ 8 (by kernel_rfl) (by kernel_rfl) (by kernel_rfl) (by kernel_rfl)) ?_
  intro W base args ds gs before hval0 hW hcnd hsz0 _
  have hval : ∀ (j : Nat) t v, Try.f3.params[j]? = some t → args[j]? = some v → Value.okWide Try.prog W .any base t v := hval0
  have hW' := hW
  obtain ⟨p, q, hA0, hV, rfl, hfz, hnd⟩ := hW
  have hA : DataW.TrodAll enc Try.prog W 0 (fun _ => true) true Try.f3.params.toList args.toList ds p := hA0
  have hAll := hA
  rw [Try.params3] at hA hval hAll
  obtain ⟨v0, vs0, d0, ds0, p0, q0, hargs, rfl, rfl, h0, r0⟩ := trodAll_cons hA
  obtain ⟨v1, vs1, d1, ds1, p1, q1, rfl, rfl, rfl, h1, r1⟩ := trodAll_cons r0
  obtain ⟨v2, vs2, d2, ds2, p2, q2, rfl, rfl, rfl, h2, r2⟩ := trodAll_cons r1
  obtain ⟨rfl, rfl, rfl⟩ := trodAll_nil r2
  obtain rfl : args = #[v0, v1, v2] := by cases args; simp_all
  obtain ⟨rfl, rfl⟩ := trodVars_none hV
  obtain ⟨x0, hR0, w0⟩ := open_slcR (opens_sliceR (sz := 1) Try.underlying22 (by kernel_rfl) (opens_int (k := .i64) Try.underlying3).r (fun _ => by kernel_rfl) (by kernel_rfl) (by kernel_rfl)) Try.underlying22 (hval 0 22 v0 rfl rfl) h0 (wt_of hsz0 (j := 0) (by kernel_rfl) rfl)
  obtain ⟨x1, rfl, rfl, rfl, w1⟩ := open_int Try.underlying3 (hval 1 3 v1 rfl rfl) h1
  obtain ⟨x2, rfl, rfl, rfl, w2⟩ := open_int Try.underlying5 (hval 2 5 v2 rfl rfl) h2
  clear hA0 hval0 hsz0
  refine (con_true (us := [v0, .int .i64 x1, .int .u8 x2]) (ok_law06_GuardOpens x0 x1 x2 true (hF x0 x1 x2 w0 w1 w2)) ⟨hR0, vrel_lit _ _ _, vrel_lit _ _ _, trivial⟩).mono fun e W' ⟨he, hx⟩ => ?_
  subst he
  have bel := hx.below
  exact ⟨_, rfl, _, _, _, [], _, [], hW', trodAll_mk1 (shut_bool Try.underlying4 _), trodAll_below laidOut bel (by kernel_rfl) hAll, rfl, bel.frame _, fun h => by cases h⟩

theorem guardOpens_of (hF : ∀ (a0 : List Int) (a1 : Int) (a2 : Int), wfR (wfI .i64) a0 → wfI .i64 a1 → wfI .u8 a2 → F_law06_GuardOpens a0 a1 a2 = some true) : Rows.GuardOpensSaid :=
  OpenClaim.holds_of_wide 3 Try.f3 rfl rfl rfl rfl rfl rfl rfl ⟨rfl, rfl, rfl, rfl, rfl⟩ rfl rfl rfl rfl rfl (by kernel_rfl) Try.func3 (by kernel_rfl)
    (of_decide_eq_true (by kernel_rfl)) (by unfold Func.isWrapper; first | (rw [if_pos (by decide +kernel)]; kernel_rfl) | (rw [if_neg (by decide +kernel)]; exact ⟨rfl, rfl⟩))
    (fun os started H enc _ => guardOpens_lifted hF os started H enc)
end
end Go.Proofs.Ytpngoffbogingaa
