/-
  Part 5 of what the proof of this law rests on.
-/
import Derived.Test.YtpngoffbogingaaKUForged4
namespace Go.Proofs.Ytpngoffbogingaa
section
open Go.RowKit
attribute [local irreducible] TS go TD goD

/-- multihop/frame.addrBytes -/
noncomputable def F_frame_addrBytes (a0 : S_Addr) : Option (Int) :=
  bif (a0.Mode == 2) then
    some (2)
  else
    bif (a0.Mode == 3) then
      some (8)
    else
      some (0)
set_option maxRecDepth 100000 in
set_option maxHeartbeats 40000000 in
theorem ok_frame_addrBytes (a0 : S_Addr) (r : Int) (h : F_frame_addrBytes a0 = some r) : Con Try.prog 99 [.agg (S_Addr.cs a0)] [] (.c (.lit (.int .i64 (r)))) [] := by
  unfold F_frame_addrBytes at h
  refine con_of [] [] 9 Try.func99 rfl rfl (by kernel_rfl) (fun K => ?_)
  refine TS_go 17 ?_
  replace h := condO h
  rcases h with ⟨hb1, h⟩ | ⟨hb1, h⟩
  · refine TS_know 6 (b := true) hb1 (by kernel_rfl) (by kernel_rfl) ?_
    refine TS_know 5 (b := true) hb1 (by kernel_rfl) (by kernel_rfl) ?_
    refine TS_T (by kernel_rfl) rfl ?_
    refine TS_go 7 ?_
    have ret := Option.some.inj h
    subst ret
    exact TS_ret (by kernel_rfl) (by kernel_rfl) (by kernel_rfl)
  · refine TS_know 6 (b := false) hb1 (by kernel_rfl) (by kernel_rfl) ?_
    refine TS_know 5 (b := false) hb1 (by kernel_rfl) (by kernel_rfl) ?_
    refine TS_F (by kernel_rfl) rfl ?_
    refine TS_go 5 ?_
    replace h := condO h
    rcases h with ⟨hb2, h⟩ | ⟨hb2, h⟩
    · refine TS_know 8 (b := true) hb2 (by kernel_rfl) (by kernel_rfl) ?_
      refine TS_know 7 (b := true) hb2 (by kernel_rfl) (by kernel_rfl) ?_
      refine TS_T (by kernel_rfl) rfl ?_
      refine TS_go 7 ?_
      have ret := Option.some.inj h
      subst ret
      exact TS_ret (by kernel_rfl) (by kernel_rfl) (by kernel_rfl)
    · refine TS_know 8 (b := false) hb2 (by kernel_rfl) (by kernel_rfl) ?_
      refine TS_know 7 (b := false) hb2 (by kernel_rfl) (by kernel_rfl) ?_
      refine TS_F (by kernel_rfl) rfl ?_
      refine TS_go 7 ?_
      have ret := Option.some.inj h
      subst ret
      exact TS_ret (by kernel_rfl) (by kernel_rfl) (by kernel_rfl)

/-- multihop/frame.length -/
noncomputable def F_frame_length_j2  (v2 : Int) : Option (Int) :=
  some (v2)
noncomputable def F_frame_length_j1 (a0 : S_Frame) (v1 : Int) : Option (Int) :=
  bif a0.Secure then
    (F_frame_length_j2) (IntKind.wrap .i64 (v1 + (IntKind.wrap .i64 (5 + (List.length a0.MIC : Int)))))
  else
    (F_frame_length_j2) v1
noncomputable def F_frame_length (a0 : S_Frame) : Option (Int) :=
  bif (a0.Kind != 2) then
    (F_frame_addrBytes a0.Dst).bind fun v5 =>
    (F_frame_addrBytes a0.Src).bind fun v6 =>
    (F_frame_length_j1 a0) (IntKind.wrap .i64 ((IntKind.wrap .i64 ((IntKind.wrap .i64 (3 + (List.length a0.Payload : Int))) + 2)) + (IntKind.wrap .i64 ((IntKind.wrap .i64 (2 + v5)) + v6))))
  else
    (F_frame_length_j1 a0) (IntKind.wrap .i64 ((IntKind.wrap .i64 (3 + (List.length a0.Payload : Int))) + 2))
set_option maxRecDepth 100000 in
set_option maxHeartbeats 40000000 in
theorem ok_frame_length (a0 : S_Frame) (r : Int) (h : F_frame_length a0 = some r) : Con Try.prog 85 [.agg (S_Frame.cs a0)] [] (.c (.lit (.int .i64 (r)))) [] := by
  unfold F_frame_length at h
  refine con_of [] [] 31 Try.func85 rfl rfl (by kernel_rfl) (fun K => ?_)
  refine TS_go 14 ?_
  refine TS_cut ⟨[(1, []), (3, [])], [(1, (1, []))]⟩ (.mk [.code (codeAt [1, 1] (bodyOf Try.f85))] .normal ⟨[(1, .c (.box 1 0)), (3, .c (.lit (.int .i64 (IntKind.wrap .i64 ((IntKind.wrap .i64 (3 + (List.length a0.Payload : Int))) + 2)))))], [(1, .box [.lit (.int .i64 (a0.Kind)), .lit (.bool (a0.AckRequest)), .lit (.bool (a0.Pending)), .lit (.bool (a0.Secure)), .lit (.int .u8 (a0.Seq)), .lit (.int .u16 (a0.Pan)), .lit (.int .i64 (a0.Dst.Mode)), .lit (.int .u16 (a0.Dst.Short)), .lit (.int .u64 (a0.Dst.EUI)), .lit (.int .i64 (a0.Src.Mode)), .lit (.int .u16 (a0.Src.Short)), .lit (.int .u64 (a0.Src.EUI)), .lit (.int .u32 (a0.Counter)), .lit (.int .u8 (a0.Key)), .slc 1 0 (List.length a0.Payload) (List.map (ecI .u8) a0.Payload), .slc 1 0 (List.length a0.MIC) (List.map (ecI .u8) a0.MIC)])]⟩) (by kernel_rfl) (by kernel_rfl) ?_
  refine TS_joinB ⟨[(1, []), (3, [])], [(1, (1, []))]⟩ (fun (v1 : Int) => [(3, .c (.lit (.int .i64 (v1))))]) (fun (v1 : Int) => []) (F_frame_length_j1 a0) r ?_ ?_
  · clear h
    intro v1 h
    unfold F_frame_length_j1 at h
    refine TS_cut ⟨[(1, []), (3, [])], [(1, (1, []))]⟩ (.mk [.code (codeAt [1, 1, 1] (bodyOf Try.f85))] .normal ⟨[(1, .c (.box 1 0)), (3, .c (.lit (.int .i64 (v1))))], [(1, .box [.lit (.int .i64 (a0.Kind)), .lit (.bool (a0.AckRequest)), .lit (.bool (a0.Pending)), .lit (.bool (a0.Secure)), .lit (.int .u8 (a0.Seq)), .lit (.int .u16 (a0.Pan)), .lit (.int .i64 (a0.Dst.Mode)), .lit (.int .u16 (a0.Dst.Short)), .lit (.int .u64 (a0.Dst.EUI)), .lit (.int .i64 (a0.Src.Mode)), .lit (.int .u16 (a0.Src.Short)), .lit (.int .u64 (a0.Src.EUI)), .lit (.int .u32 (a0.Counter)), .lit (.int .u8 (a0.Key)), .slc 1 0 (List.length a0.Payload) (List.map (ecI .u8) a0.Payload), .slc 1 0 (List.length a0.MIC) (List.map (ecI .u8) a0.MIC)])]⟩) (by kernel_rfl) (by kernel_rfl) ?_
    refine TS_joinB ⟨[(3, [])], []⟩ (fun (v2 : Int) => [(3, .c (.lit (.int .i64 (v2))))]) (fun (v2 : Int) => []) (F_frame_length_j2) r ?_ ?_
    · clear h
      intro v2 h
      unfold F_frame_length_j2 at h
      refine TS_go 6 ?_
      have ret := Option.some.inj h
      subst ret
      exact TS_ret (by kernel_rfl) (by kernel_rfl) (by kernel_rfl)
    · refine TS_go 5 ?_
      replace h := condO h
      rcases h with ⟨hb3, h⟩ | ⟨hb3, h⟩
      · refine TS_know 23 (b := true) hb3 (by kernel_rfl) (by kernel_rfl) ?_
        refine TS_T (by kernel_rfl) rfl ?_
        refine TS_go 9 ?_
        exact TS_meet (IntKind.wrap .i64 (v1 + (IntKind.wrap .i64 (5 + (List.length a0.MIC : Int))))) ⟨[(3, [])], []⟩ h (by kernel_rfl) (by kernel_rfl)
      · refine TS_know 23 (b := false) hb3 (by kernel_rfl) (by kernel_rfl) ?_
        refine TS_F (by kernel_rfl) rfl ?_
        refine TS_go 1 ?_
        exact TS_meet v1 ⟨[(3, [])], []⟩ h (by kernel_rfl) (by kernel_rfl)
  · refine TS_go 6 ?_
    replace h := condO h
    rcases h with ⟨hb4, h⟩ | ⟨hb4, h⟩
    · refine TS_know 11 (b := true) hb4 (by kernel_rfl) (by kernel_rfl) ?_
      refine TS_T (by kernel_rfl) rfl ?_
      refine TS_draw (by kernel_rfl) ?_
      refine TD_go 3 ?_
      replace h := bindO h
      obtain ⟨v5, hv5, h⟩ := h
      refine TD_call [] (ok_frame_addrBytes a0.Dst v5 hv5) (by kernel_rfl) (by kernel_rfl) ?_
      refine TD_go 3 ?_
      replace h := bindO h
      obtain ⟨v6, hv6, h⟩ := h
      refine TD_call [] (ok_frame_addrBytes a0.Src v6 hv6) (by kernel_rfl) (by kernel_rfl) ?_
      refine TD_go 3 ?_
      refine TD_end (by kernel_rfl) ?_
      exact TS_meet (IntKind.wrap .i64 ((IntKind.wrap .i64 ((IntKind.wrap .i64 (3 + (List.length a0.Payload : Int))) + 2)) + (IntKind.wrap .i64 ((IntKind.wrap .i64 (2 + v5)) + v6)))) ⟨[(1, []), (3, [])], [(1, (1, []))]⟩ h (by kernel_rfl) (by kernel_rfl)
    · refine TS_know 11 (b := false) hb4 (by kernel_rfl) (by kernel_rfl) ?_
      refine TS_F (by kernel_rfl) rfl ?_
      refine TS_go 1 ?_
      exact TS_meet (IntKind.wrap .i64 ((IntKind.wrap .i64 (3 + (List.length a0.Payload : Int))) + 2)) ⟨[(1, []), (3, [])], [(1, (1, []))]⟩ h (by kernel_rfl) (by kernel_rfl)

/-- multihop/frame.validData -/
noncomputable def F_frame_validData (a0 : S_Frame) : Option (Bool) :=
  (F_address_Valid a0.Dst).bind fun v1 =>
  bif v1 then
    bif (a0.Dst.Mode == 0) then
      some (false)
    else
      (F_address_Valid a0.Src).bind fun v4 =>
      bif v4 then
        bif (a0.Src.Mode == 0) then
          some (false)
        else
          (F_address_IsBroadcast a0.Src).bind fun v7 =>
          bif v7 then
            some (false)
          else
            bif a0.AckRequest then
              (F_address_IsBroadcast a0.Dst).bind fun v10 =>
              bif v10 then
                some (false)
              else
                bif a0.Secure then
                  bif ((List.length a0.MIC : Int) != 4) then
                    some (false)
                  else
                    (F_frame_length a0).bind fun v14 =>
                    some ((decide (v14 ≤ 127)))
                else
                  bif (a0.Counter != 0) then
                    some (false)
                  else
                    bif (a0.Key != 0) then
                      some (false)
                    else
                      bif ((List.length a0.MIC : Int) != 0) then
                        some (false)
                      else
                        (F_frame_length a0).bind fun v18 =>
                        some ((decide (v18 ≤ 127)))
            else
              bif a0.Secure then
                bif ((List.length a0.MIC : Int) != 4) then
                  some (false)
                else
                  (F_frame_length a0).bind fun v21 =>
                  some ((decide (v21 ≤ 127)))
              else
                bif (a0.Counter != 0) then
                  some (false)
                else
                  bif (a0.Key != 0) then
                    some (false)
                  else
                    bif ((List.length a0.MIC : Int) != 0) then
                      some (false)
                    else
                      (F_frame_length a0).bind fun v25 =>
                      some ((decide (v25 ≤ 127)))
      else
        some (false)
  else
    some (false)
set_option maxRecDepth 100000 in
set_option maxHeartbeats 40000000 in
theorem ok_frame_validData (a0 : S_Frame) (r : Bool) (h : F_frame_validData a0 = some r) : Con Try.prog 67 [.agg (S_Frame.cs a0)] [] (.c (.lit (.bool (r)))) [] := by
  unfold F_frame_validData at h
  refine con_of [] [] 67 Try.func67 rfl rfl (by kernel_rfl) (fun K => ?_)
  refine TS_go 10 ?_
  replace h := bindO h
  obtain ⟨v1, hv1, h⟩ := h
  refine TS_call [] (ok_address_Valid a0.Dst v1 hv1) (by kernel_rfl) (by kernel_rfl) ?_
  refine TS_go 2 ?_
  replace h := condO h
  rcases h with ⟨hb2, h⟩ | ⟨hb2, h⟩
  · subst hb2
    refine TS_go 6 ?_
    replace h := condO h
    rcases h with ⟨hb3, h⟩ | ⟨hb3, h⟩
    · refine TS_know 11 (b := true) hb3 (by kernel_rfl) (by kernel_rfl) ?_
      refine TS_know 12 (b := true) hb3 (by kernel_rfl) (by kernel_rfl) ?_
      refine TS_know 13 (b := true) hb3 (by kernel_rfl) (by kernel_rfl) ?_
      refine TS_go 12 ?_
      refine TS_T (by kernel_rfl) rfl ?_
      refine TS_go 6 ?_
      have ret := Option.some.inj h
      subst ret
      exact TS_ret (by kernel_rfl) (by kernel_rfl) (by kernel_rfl)
    · refine TS_know 11 (b := false) hb3 (by kernel_rfl) (by kernel_rfl) ?_
      refine TS_know 12 (b := false) hb3 (by kernel_rfl) (by kernel_rfl) ?_
      refine TS_know 13 (b := false) hb3 (by kernel_rfl) (by kernel_rfl) ?_
      refine TS_go 2 ?_
      replace h := bindO h
      obtain ⟨v4, hv4, h⟩ := h
      refine TS_call [] (ok_address_Valid a0.Src v4 hv4) (by kernel_rfl) (by kernel_rfl) ?_
      refine TS_go 3 ?_
      replace h := condO h
      rcases h with ⟨hb5, h⟩ | ⟨hb5, h⟩
      · subst hb5
        refine TS_go 6 ?_
        replace h := condO h
        rcases h with ⟨hb6, h⟩ | ⟨hb6, h⟩
        · refine TS_know 23 (b := true) hb6 (by kernel_rfl) (by kernel_rfl) ?_
          refine TS_know 24 (b := true) hb6 (by kernel_rfl) (by kernel_rfl) ?_
          refine TS_T (by kernel_rfl) rfl ?_
          refine TS_go 6 ?_
          have ret := Option.some.inj h
          subst ret
          exact TS_ret (by kernel_rfl) (by kernel_rfl) (by kernel_rfl)
        · refine TS_know 23 (b := false) hb6 (by kernel_rfl) (by kernel_rfl) ?_
          refine TS_know 24 (b := false) hb6 (by kernel_rfl) (by kernel_rfl) ?_
          refine TS_F (by kernel_rfl) rfl ?_
          refine TS_go 6 ?_
          replace h := bindO h
          obtain ⟨v7, hv7, h⟩ := h
          refine TS_call [] (ok_address_IsBroadcast a0.Src v7 hv7) (by kernel_rfl) (by kernel_rfl) ?_
          refine TS_go 1 ?_
          replace h := condO h
          rcases h with ⟨hb8, h⟩ | ⟨hb8, h⟩
          · subst hb8
            refine TS_go 9 ?_
            refine TS_T (by kernel_rfl) rfl ?_
            refine TS_go 6 ?_
            have ret := Option.some.inj h
            subst ret
            exact TS_ret (by kernel_rfl) (by kernel_rfl) (by kernel_rfl)
          · subst hb8
            refine TS_go 3 ?_
            replace h := condO h
            rcases h with ⟨hb9, h⟩ | ⟨hb9, h⟩
            · refine TS_know 30 (b := true) hb9 (by kernel_rfl) (by kernel_rfl) ?_
              refine TS_know 31 (b := true) hb9 (by kernel_rfl) (by kernel_rfl) ?_
              refine TS_go 2 ?_
              replace h := bindO h
              obtain ⟨v10, hv10, h⟩ := h
              refine TS_call [] (ok_address_IsBroadcast a0.Dst v10 hv10) (by kernel_rfl) (by kernel_rfl) ?_
              refine TS_go 3 ?_
              replace h := condO h
              rcases h with ⟨hb11, h⟩ | ⟨hb11, h⟩
              · subst hb11
                refine TS_T (by kernel_rfl) rfl ?_
                refine TS_go 6 ?_
                have ret := Option.some.inj h
                subst ret
                exact TS_ret (by kernel_rfl) (by kernel_rfl) (by kernel_rfl)
              · subst hb11
                refine TS_F (by kernel_rfl) rfl ?_
                refine TS_go 7 ?_
                replace h := condO h
                rcases h with ⟨hb12, h⟩ | ⟨hb12, h⟩
                · refine TS_know 38 (b := true) hb12 (by kernel_rfl) (by kernel_rfl) ?_
                  refine TS_know 39 (b := true) hb12 (by kernel_rfl) (by kernel_rfl) ?_
                  refine TS_go 6 ?_
                  replace h := condO h
                  rcases h with ⟨hb13, h⟩ | ⟨hb13, h⟩
                  · refine TS_know 43 (b := true) hb13 (by kernel_rfl) (by kernel_rfl) ?_
                    refine TS_know 44 (b := true) hb13 (by kernel_rfl) (by kernel_rfl) ?_
                    refine TS_T (by kernel_rfl) rfl ?_
                    refine TS_go 6 ?_
                    have ret := Option.some.inj h
                    subst ret
                    exact TS_ret (by kernel_rfl) (by kernel_rfl) (by kernel_rfl)
                  · refine TS_know 43 (b := false) hb13 (by kernel_rfl) (by kernel_rfl) ?_
                    refine TS_know 44 (b := false) hb13 (by kernel_rfl) (by kernel_rfl) ?_
                    refine TS_F (by kernel_rfl) rfl ?_
                    refine TS_go 6 ?_
                    refine TS_know 46 (b := true) hb12 (by kernel_rfl) (by kernel_rfl) ?_
                    refine TS_go 18 ?_
                    refine TS_F (by kernel_rfl) rfl ?_
                    refine TS_go 4 ?_
                    replace h := bindO h
                    obtain ⟨v14, hv14, h⟩ := h
                    refine TS_call [] (ok_frame_length a0 v14 hv14) (by kernel_rfl) (by kernel_rfl) ?_
                    refine TS_go 4 ?_
                    have ret := Option.some.inj h
                    subst ret
                    exact TS_ret (by kernel_rfl) (by kernel_rfl) (by kernel_rfl)
                · refine TS_know 38 (b := false) hb12 (by kernel_rfl) (by kernel_rfl) ?_
                  refine TS_know 39 (b := false) hb12 (by kernel_rfl) (by kernel_rfl) ?_
                  refine TS_go 6 ?_
                  refine TS_F (by kernel_rfl) rfl ?_
                  refine TS_go 6 ?_
                  refine TS_know 46 (b := false) hb12 (by kernel_rfl) (by kernel_rfl) ?_
                  refine TS_go 6 ?_
                  replace h := condO h
                  rcases h with ⟨hb15, h⟩ | ⟨hb15, h⟩
                  · refine TS_know 51 (b := true) hb15 (by kernel_rfl) (by kernel_rfl) ?_
                    refine TS_know 52 (b := true) hb15 (by kernel_rfl) (by kernel_rfl) ?_
                    refine TS_go 12 ?_
                    refine TS_T (by kernel_rfl) rfl ?_
                    refine TS_go 6 ?_
                    have ret := Option.some.inj h
                    subst ret
                    exact TS_ret (by kernel_rfl) (by kernel_rfl) (by kernel_rfl)
                  · refine TS_know 51 (b := false) hb15 (by kernel_rfl) (by kernel_rfl) ?_
                    refine TS_know 52 (b := false) hb15 (by kernel_rfl) (by kernel_rfl) ?_
                    refine TS_go 5 ?_
                    replace h := condO h
                    rcases h with ⟨hb16, h⟩ | ⟨hb16, h⟩
                    · refine TS_know 55 (b := true) hb16 (by kernel_rfl) (by kernel_rfl) ?_
                      refine TS_know 56 (b := true) hb16 (by kernel_rfl) (by kernel_rfl) ?_
                      refine TS_know 57 (b := true) hb16 (by kernel_rfl) (by kernel_rfl) ?_
                      refine TS_go 7 ?_
                      refine TS_T (by kernel_rfl) rfl ?_
                      refine TS_go 6 ?_
                      have ret := Option.some.inj h
                      subst ret
                      exact TS_ret (by kernel_rfl) (by kernel_rfl) (by kernel_rfl)
                    · refine TS_know 55 (b := false) hb16 (by kernel_rfl) (by kernel_rfl) ?_
                      refine TS_know 56 (b := false) hb16 (by kernel_rfl) (by kernel_rfl) ?_
                      refine TS_know 57 (b := false) hb16 (by kernel_rfl) (by kernel_rfl) ?_
                      refine TS_go 7 ?_
                      replace h := condO h
                      rcases h with ⟨hb17, h⟩ | ⟨hb17, h⟩
                      · refine TS_know 61 (b := true) hb17 (by kernel_rfl) (by kernel_rfl) ?_
                        refine TS_know 62 (b := true) hb17 (by kernel_rfl) (by kernel_rfl) ?_
                        refine TS_know 63 (b := true) hb17 (by kernel_rfl) (by kernel_rfl) ?_
                        refine TS_T (by kernel_rfl) rfl ?_
                        refine TS_go 6 ?_
                        have ret := Option.some.inj h
                        subst ret
                        exact TS_ret (by kernel_rfl) (by kernel_rfl) (by kernel_rfl)
                      · refine TS_know 61 (b := false) hb17 (by kernel_rfl) (by kernel_rfl) ?_
                        refine TS_know 62 (b := false) hb17 (by kernel_rfl) (by kernel_rfl) ?_
                        refine TS_know 63 (b := false) hb17 (by kernel_rfl) (by kernel_rfl) ?_
                        refine TS_F (by kernel_rfl) rfl ?_
                        refine TS_go 4 ?_
                        replace h := bindO h
                        obtain ⟨v18, hv18, h⟩ := h
                        refine TS_call [] (ok_frame_length a0 v18 hv18) (by kernel_rfl) (by kernel_rfl) ?_
                        refine TS_go 4 ?_
                        have ret := Option.some.inj h
                        subst ret
                        exact TS_ret (by kernel_rfl) (by kernel_rfl) (by kernel_rfl)
            · refine TS_know 30 (b := false) hb9 (by kernel_rfl) (by kernel_rfl) ?_
              refine TS_know 31 (b := false) hb9 (by kernel_rfl) (by kernel_rfl) ?_
              refine TS_go 6 ?_
              refine TS_F (by kernel_rfl) rfl ?_
              refine TS_go 7 ?_
              replace h := condO h
              rcases h with ⟨hb19, h⟩ | ⟨hb19, h⟩
              · refine TS_know 38 (b := true) hb19 (by kernel_rfl) (by kernel_rfl) ?_
                refine TS_know 39 (b := true) hb19 (by kernel_rfl) (by kernel_rfl) ?_
                refine TS_go 6 ?_
                replace h := condO h
                rcases h with ⟨hb20, h⟩ | ⟨hb20, h⟩
                · refine TS_know 43 (b := true) hb20 (by kernel_rfl) (by kernel_rfl) ?_
                  refine TS_know 44 (b := true) hb20 (by kernel_rfl) (by kernel_rfl) ?_
                  refine TS_T (by kernel_rfl) rfl ?_
                  refine TS_go 6 ?_
                  have ret := Option.some.inj h
                  subst ret
                  exact TS_ret (by kernel_rfl) (by kernel_rfl) (by kernel_rfl)
                · refine TS_know 43 (b := false) hb20 (by kernel_rfl) (by kernel_rfl) ?_
                  refine TS_know 44 (b := false) hb20 (by kernel_rfl) (by kernel_rfl) ?_
                  refine TS_F (by kernel_rfl) rfl ?_
                  refine TS_go 6 ?_
                  refine TS_know 46 (b := true) hb19 (by kernel_rfl) (by kernel_rfl) ?_
                  refine TS_go 18 ?_
                  refine TS_F (by kernel_rfl) rfl ?_
                  refine TS_go 4 ?_
                  replace h := bindO h
                  obtain ⟨v21, hv21, h⟩ := h
                  refine TS_call [] (ok_frame_length a0 v21 hv21) (by kernel_rfl) (by kernel_rfl) ?_
                  refine TS_go 4 ?_
                  have ret := Option.some.inj h
                  subst ret
                  exact TS_ret (by kernel_rfl) (by kernel_rfl) (by kernel_rfl)
              · refine TS_know 38 (b := false) hb19 (by kernel_rfl) (by kernel_rfl) ?_
                refine TS_know 39 (b := false) hb19 (by kernel_rfl) (by kernel_rfl) ?_
                refine TS_go 6 ?_
                refine TS_F (by kernel_rfl) rfl ?_
                refine TS_go 6 ?_
                refine TS_know 46 (b := false) hb19 (by kernel_rfl) (by kernel_rfl) ?_
                refine TS_go 6 ?_
                replace h := condO h
                rcases h with ⟨hb22, h⟩ | ⟨hb22, h⟩
                · refine TS_know 51 (b := true) hb22 (by kernel_rfl) (by kernel_rfl) ?_
                  refine TS_know 52 (b := true) hb22 (by kernel_rfl) (by kernel_rfl) ?_
                  refine TS_go 12 ?_
                  refine TS_T (by kernel_rfl) rfl ?_
                  refine TS_go 6 ?_
                  have ret := Option.some.inj h
                  subst ret
                  exact TS_ret (by kernel_rfl) (by kernel_rfl) (by kernel_rfl)
                · refine TS_know 51 (b := false) hb22 (by kernel_rfl) (by kernel_rfl) ?_
                  refine TS_know 52 (b := false) hb22 (by kernel_rfl) (by kernel_rfl) ?_
                  refine TS_go 5 ?_
                  replace h := condO h
                  rcases h with ⟨hb23, h⟩ | ⟨hb23, h⟩
                  · refine TS_know 55 (b := true) hb23 (by kernel_rfl) (by kernel_rfl) ?_
                    refine TS_know 56 (b := true) hb23 (by kernel_rfl) (by kernel_rfl) ?_
                    refine TS_know 57 (b := true) hb23 (by kernel_rfl) (by kernel_rfl) ?_
                    refine TS_go 7 ?_
                    refine TS_T (by kernel_rfl) rfl ?_
                    refine TS_go 6 ?_
                    have ret := Option.some.inj h
                    subst ret
                    exact TS_ret (by kernel_rfl) (by kernel_rfl) (by kernel_rfl)
                  · refine TS_know 55 (b := false) hb23 (by kernel_rfl) (by kernel_rfl) ?_
                    refine TS_know 56 (b := false) hb23 (by kernel_rfl) (by kernel_rfl) ?_
                    refine TS_know 57 (b := false) hb23 (by kernel_rfl) (by kernel_rfl) ?_
                    refine TS_go 7 ?_
                    replace h := condO h
                    rcases h with ⟨hb24, h⟩ | ⟨hb24, h⟩
                    · refine TS_know 61 (b := true) hb24 (by kernel_rfl) (by kernel_rfl) ?_
                      refine TS_know 62 (b := true) hb24 (by kernel_rfl) (by kernel_rfl) ?_
                      refine TS_know 63 (b := true) hb24 (by kernel_rfl) (by kernel_rfl) ?_
                      refine TS_T (by kernel_rfl) rfl ?_
                      refine TS_go 6 ?_
                      have ret := Option.some.inj h
                      subst ret
                      exact TS_ret (by kernel_rfl) (by kernel_rfl) (by kernel_rfl)
                    · refine TS_know 61 (b := false) hb24 (by kernel_rfl) (by kernel_rfl) ?_
                      refine TS_know 62 (b := false) hb24 (by kernel_rfl) (by kernel_rfl) ?_
                      refine TS_know 63 (b := false) hb24 (by kernel_rfl) (by kernel_rfl) ?_
                      refine TS_F (by kernel_rfl) rfl ?_
                      refine TS_go 4 ?_
                      replace h := bindO h
                      obtain ⟨v25, hv25, h⟩ := h
                      refine TS_call [] (ok_frame_length a0 v25 hv25) (by kernel_rfl) (by kernel_rfl) ?_
                      refine TS_go 4 ?_
                      have ret := Option.some.inj h
                      subst ret
                      exact TS_ret (by kernel_rfl) (by kernel_rfl) (by kernel_rfl)
      · subst hb5
        refine TS_go 6 ?_
        refine TS_T (by kernel_rfl) rfl ?_
        refine TS_go 6 ?_
        have ret := Option.some.inj h
        subst ret
        exact TS_ret (by kernel_rfl) (by kernel_rfl) (by kernel_rfl)
  · subst hb2
    refine TS_go 18 ?_
    refine TS_T (by kernel_rfl) rfl ?_
    refine TS_go 6 ?_
    have ret := Option.some.inj h
    subst ret
    exact TS_ret (by kernel_rfl) (by kernel_rfl) (by kernel_rfl)

/-- multihop/frame.Valid -/
noncomputable def F_frame_Valid_j1 (a0 : S_Frame) (v3 : Bool) : Option (Bool) :=
  bif v3 then
    (F_frame_validData a0).bind fun v5 =>
    some (v5)
  else
    some (false)
noncomputable def F_frame_Valid (a0 : S_Frame) : Option (Bool) :=
  bif (a0.Kind == 2) then
    (F_frame_validAck a0).bind fun v2 =>
    some (v2)
  else
    bif (a0.Kind == 1) then
      (F_frame_Valid_j1 a0) true
    else
      (F_frame_Valid_j1 a0) (a0.Kind == 3)
set_option maxRecDepth 100000 in
set_option maxHeartbeats 40000000 in
theorem ok_frame_Valid (a0 : S_Frame) (r : Bool) (h : F_frame_Valid a0 = some r) : Con Try.prog 37 [.agg (S_Frame.cs a0)] [] (.c (.lit (.bool (r)))) [] := by
  unfold F_frame_Valid at h
  refine con_of [] [] 14 Try.func37 rfl rfl (by kernel_rfl) (fun K => ?_)
  refine TS_go 17 ?_
  replace h := condO h
  rcases h with ⟨hb1, h⟩ | ⟨hb1, h⟩
  · refine TS_know 6 (b := true) hb1 (by kernel_rfl) (by kernel_rfl) ?_
    refine TS_know 5 (b := true) hb1 (by kernel_rfl) (by kernel_rfl) ?_
    refine TS_T (by kernel_rfl) rfl ?_
    refine TS_go 3 ?_
    replace h := bindO h
    obtain ⟨v2, hv2, h⟩ := h
    refine TS_call [] (ok_frame_validAck a0 v2 hv2) (by kernel_rfl) (by kernel_rfl) ?_
    refine TS_go 5 ?_
    have ret := Option.some.inj h
    subst ret
    exact TS_ret (by kernel_rfl) (by kernel_rfl) (by kernel_rfl)
  · refine TS_know 6 (b := false) hb1 (by kernel_rfl) (by kernel_rfl) ?_
    refine TS_know 5 (b := false) hb1 (by kernel_rfl) (by kernel_rfl) ?_
    refine TS_F (by kernel_rfl) rfl ?_
    refine TS_cut ⟨[(1, []), (4, [])], [(1, (1, []))]⟩ (.mk [.code (codeAt [1, 0, 1, 0, 1, 1] (bodyOf Try.f37)), .blk 0, .code (codeAt [1, 1] (bodyOf Try.f37))] .normal ⟨[(1, .c (.box 1 0)), (4, .c (.lit (.int .i64 (a0.Kind))))], [(1, .box [.lit (.int .i64 (a0.Kind)), .lit (.bool (a0.AckRequest)), .lit (.bool (a0.Pending)), .lit (.bool (a0.Secure)), .lit (.int .u8 (a0.Seq)), .lit (.int .u16 (a0.Pan)), .lit (.int .i64 (a0.Dst.Mode)), .lit (.int .u16 (a0.Dst.Short)), .lit (.int .u64 (a0.Dst.EUI)), .lit (.int .i64 (a0.Src.Mode)), .lit (.int .u16 (a0.Src.Short)), .lit (.int .u64 (a0.Src.EUI)), .lit (.int .u32 (a0.Counter)), .lit (.int .u8 (a0.Key)), .slc 1 0 (List.length a0.Payload) (List.map (ecI .u8) a0.Payload), .slc 1 0 (List.length a0.MIC) (List.map (ecI .u8) a0.MIC)])]⟩) (by kernel_rfl) (by kernel_rfl) ?_
    refine TS_joinB ⟨[(1, [])], [(1, (1, []))]⟩ (fun (v3 : Bool) => [(9, .c (.lit (.bool (v3))))]) (fun (v3 : Bool) => []) (F_frame_Valid_j1 a0) r ?_ ?_
    · clear h
      intro v3 h
      unfold F_frame_Valid_j1 at h
      replace h := condO h
      rcases h with ⟨hb4, h⟩ | ⟨hb4, h⟩
      · subst hb4
        refine TS_T (by kernel_rfl) rfl ?_
        refine TS_go 3 ?_
        replace h := bindO h
        obtain ⟨v5, hv5, h⟩ := h
        refine TS_call [] (ok_frame_validData a0 v5 hv5) (by kernel_rfl) (by kernel_rfl) ?_
        refine TS_go 5 ?_
        have ret := Option.some.inj h
        subst ret
        exact TS_ret (by kernel_rfl) (by kernel_rfl) (by kernel_rfl)
      · subst hb4
        refine TS_F (by kernel_rfl) rfl ?_
        refine TS_go 7 ?_
        have ret := Option.some.inj h
        subst ret
        exact TS_ret (by kernel_rfl) (by kernel_rfl) (by kernel_rfl)
    · refine TS_go 5 ?_
      replace h := condO h
      rcases h with ⟨hb6, h⟩ | ⟨hb6, h⟩
      · refine TS_know 10 (b := true) hb6 (by kernel_rfl) (by kernel_rfl) ?_
        refine TS_know 9 (b := true) hb6 (by kernel_rfl) (by kernel_rfl) ?_
        refine TS_T (by kernel_rfl) rfl ?_
        refine TS_go 1 ?_
        exact TS_meet true ⟨[(1, []), (9, [])], [(1, (1, []))]⟩ h (by kernel_rfl) (by kernel_rfl)
      · refine TS_know 10 (b := false) hb6 (by kernel_rfl) (by kernel_rfl) ?_
        refine TS_know 9 (b := false) hb6 (by kernel_rfl) (by kernel_rfl) ?_
        refine TS_F (by kernel_rfl) rfl ?_
        refine TS_go 4 ?_
        exact TS_meet (a0.Kind == 3) ⟨[(1, []), (9, [])], [(1, (1, []))]⟩ h (by kernel_rfl) (by kernel_rfl)

/-- multihop/frame.flag -/
noncomputable def F_frame_flag (a0 : Bool) (a1 : Int) : Option (Int) :=
  bif a0 then
    some (a1)
  else
    some (0)
set_option maxRecDepth 100000 in
set_option maxHeartbeats 40000000 in
theorem ok_frame_flag (a0 : Bool) (a1 : Int) (r : Int) (h : F_frame_flag a0 a1 = some r) : Con Try.prog 68 [.c (.lit (.bool (a0))), .c (.lit (.int .u8 (a1)))] [] (.c (.lit (.int .u8 (r)))) [] := by
  unfold F_frame_flag at h
  refine con_of [] [] 7 Try.func68 rfl rfl (by kernel_rfl) (fun K => ?_)
  refine TS_go 9 ?_
  replace h := condO h
  rcases h with ⟨hb1, h⟩ | ⟨hb1, h⟩
  · subst hb1
    refine TS_T (by kernel_rfl) rfl ?_
    refine TS_go 7 ?_
    have ret := Option.some.inj h
    subst ret
    exact TS_ret (by kernel_rfl) (by kernel_rfl) (by kernel_rfl)
  · subst hb1
    refine TS_F (by kernel_rfl) rfl ?_
    refine TS_go 6 ?_
    have ret := Option.some.inj h
    subst ret
    exact TS_ret (by kernel_rfl) (by kernel_rfl) (by kernel_rfl)

/-- multihop/octets.Append -/
noncomputable def F_octets_Append_l2 (v1 : Int) (a0 : List Int) (a1 : Int) (s3 : Int × (List Int)) : Option ((Int × (List Int)) ⊕ ((List Int))) :=
  bif (decide (s3.1 < v1)) then
    bif decide (0 ≤ (IntKind.wrap .i64 (8 * (IntKind.wrap .i64 ((IntKind.wrap .i64 (v1 - 1)) - s3.1))))) then
      (idx (Cut.app .whole s3.2) (IntKind.wrap .i64 ((List.length a0 : Int) + s3.1))).bind fun _e8 =>
      (s3.2[(0 + Int.toNat (IntKind.wrap .i64 ((List.length a0 : Int) + s3.1)))]?).bind fun _e9 =>
      some (Sum.inl (IntKind.wrap .i64 (s3.1 + 1), (List.set s3.2 (0 + Int.toNat (IntKind.wrap .i64 ((List.length a0 : Int) + s3.1))) (IntKind.wrap .u8 (ishr .u64 a1 (IntKind.wrap .i64 (8 * (IntKind.wrap .i64 ((IntKind.wrap .i64 (v1 - 1)) - s3.1)))))))))
    else none
  else
    some (Sum.inr s3.2)
noncomputable def F_octets_Append_j1 (a0 : List Int) (a1 : Int) (v1 : Int) : Option ((List Int)) :=
  (mkO 1 (IntKind.wrap .i64 ((List.length a0 : Int) + v1)) (IntKind.wrap .i64 ((List.length a0 : Int) + v1))).bind fun n2 =>
  (loopO (F_octets_Append_l2 v1 a0 a1) (0, (cpL (List.replicate n2 (0 : Int)) 0 (List.length (Cut.app .whole (List.replicate n2 (0 : Int)))) (Cut.app .whole a0)))).bind fun b4 =>
  some (b4)
noncomputable def F_octets_Append (a0 : List Int) (a1 : Int) (a2 : Int) : Option ((List Int)) :=
  bif (decide (a2 < 0)) then
    (F_octets_Append_j1 a0 a1) 0
  else
    bif (decide (a2 > 8)) then
      (F_octets_Append_j1 a0 a1) 0
    else
      (F_octets_Append_j1 a0 a1) a2
set_option maxRecDepth 100000 in
set_option maxHeartbeats 40000000 in
theorem okT_octets_Append (a0 : List Int) (a1 : Int) (a2 : Int) (r : (List Int)) (h : F_octets_Append a0 a1 a2 = some r) : Con Try.prog 69 [.c (eS 1 (ecI .u8) (a0)), .c (.lit (.int .u64 (a1))), .c (.lit (.int .i64 (a2)))] [] (.c (.slc 1 900002 (List.length r) (List.map (ecI .u8) r))) [(900000, .spare 5 1 (List.length r))] := by
  unfold F_octets_Append at h
  refine con_of [] [(900000, [])] 43 Try.func69 rfl rfl (by kernel_rfl) (fun K => ?_)
  refine TS_go 4 ?_
  refine TS_cut ⟨[(0, []), (1, []), (2, [])], []⟩ (.mk [.code (codeAt [1] (bodyOf Try.f69))] .normal ⟨[(0, .c (.slc 1 0 (List.length a0) (List.map (ecI .u8) a0))), (1, .c (.lit (.int .u64 (a1)))), (2, .c (.lit (.int .i64 (a2))))], []⟩) (by kernel_rfl) (by kernel_rfl) ?_
  refine TS_joinB ⟨[(0, []), (1, []), (2, [])], []⟩ (fun (v1 : Int) => [(2, .c (.lit (.int .i64 (v1))))]) (fun (v1 : Int) => []) (F_octets_Append_j1 a0 a1) r ?_ ?_
  · clear h
    intro v1 h
    unfold F_octets_Append_j1 at h
    refine TS_go 6 ?_
    replace h := bindO h
    obtain ⟨n2, hn2, h⟩ := h
    refine TS_makeR 19 5 1 (ecI .u8) (0 : Int) [] (cs := [.lit (.int .u8 (0))]) (l := IntKind.wrap .i64 ((List.length a0 : Int) + v1)) (c := IntKind.wrap .i64 ((List.length a0 : Int) + v1)) hn2 (by kernel_rfl) (by kernel_rfl) (by kernel_rfl) ?_
    refine TS_go 6 ?_
    refine TS_cpR 19 5 1 (List.length (List.replicate n2 (0 : Int))) 0 (ecI .u8) (fun _ => by kernel_rfl) (l := (List.replicate n2 (0 : Int))) (l2 := a0) .whole .whole (by kernel_rfl) (by kernel_rfl) ?_
    refine TS_go 8 ?_
    refine TS_cut ⟨[(0, []), (1, []), (2, []), (7, []), (23, []), (24, [])], [(19, (19, []))]⟩ (.mk [.code (codeAt [1, 1, 1, 1, 0, 1, 0] (bodyOf Try.f69)), .blk 0, .code (codeAt [1, 1, 1, 1, 1] (bodyOf Try.f69))] .normal ⟨[(0, .c (.slc 1 0 (List.length a0) (List.map (ecI .u8) a0))), (1, .c (.lit (.int .u64 (a1)))), (2, .c (.lit (.int .i64 (v1)))), (7, .c (.own 19)), (23, .c (.lit (.int .i64 (v1)))), (24, .c (.lit (.int .i64 (0))))], [(19, .row 5 1 (List.length (cpL (List.replicate n2 (0 : Int)) 0 (List.length (Cut.app .whole (List.replicate n2 (0 : Int)))) (Cut.app .whole a0))) (List.map (ecI .u8) (cpL (List.replicate n2 (0 : Int)) 0 (List.length (Cut.app .whole (List.replicate n2 (0 : Int)))) (Cut.app .whole a0))))]⟩) (by kernel_rfl) (by kernel_rfl) ?_
    replace h := bindO h
    obtain ⟨y5, hl2, hK2⟩ := h
    refine TS_loopB (F_octets_Append_l2 v1 a0 a1) ⟨[(0, []), (1, []), (2, []), (7, []), (23, []), (24, [])], [(19, (19, []))]⟩ (fun (s3 : Int × (List Int)) => [(24, .c (.lit (.int .i64 (s3.1))))]) (fun (s3 : Int × (List Int)) => [(19, .row 5 1 (List.length s3.2) (List.map (ecI .u8) s3.2))]) (0, (cpL (List.replicate n2 (0 : Int)) 0 (List.length (Cut.app .whole (List.replicate n2 (0 : Int)))) (Cut.app .whole a0))) y5 (.exit 0) (fun (b : (List Int)) => b) ⟨[(7, [])], [(19, (19, []))]⟩ (fun (b4 : (List Int)) => []) (fun (b4 : (List Int)) => [(19, .row 5 1 (List.length b4) (List.map (ecI .u8) b4))]) hl2 (by kernel_rfl) (by kernel_rfl) ?_ ?_
    · intro s3 x h hy2
      unfold F_octets_Append_l2 at h
      refine TS_go 5 ?_
      replace h := condO h
      rcases h with ⟨hb6, h⟩ | ⟨hb6, h⟩
      · refine TS_know 25 (b := true) hb6 (by kernel_rfl) (by kernel_rfl) ?_
        refine TS_T (by kernel_rfl) rfl ?_
        refine TS_go 20 ?_
        replace h := chkO h
        obtain ⟨hc7, h⟩ := h
        refine TS_num (op := .shr) (k := .u64) (k' := .i64) (m := a1) (i := IntKind.wrap .i64 (8 * (IntKind.wrap .i64 ((IntKind.wrap .i64 (v1 - 1)) - s3.1)))) (of_decide_eq_true hc7) rfl (by simp) (by kernel_rfl) (by kernel_rfl) ?_
        refine TS_go 1 ?_
        replace h := bindO h
        obtain ⟨_e8, he8, h⟩ := h
        refine TS_idxR 19 1 0 (ecI .u8) .whole he8 (by kernel_rfl) (by kernel_rfl) ?_
        replace h := bindO h
        obtain ⟨_e9, he9, h⟩ := h
        refine TS_stE 19 5 1 (List.length s3.2) (0 + Int.toNat (IntKind.wrap .i64 ((List.length a0 : Int) + s3.1))) 0 (ecI .u8) (ds := [.lit (.int .u8 (IntKind.wrap .u8 (ishr .u64 a1 (IntKind.wrap .i64 (8 * (IntKind.wrap .i64 ((IntKind.wrap .i64 (v1 - 1)) - s3.1)))))))]) (IntKind.wrap .u8 (ishr .u64 a1 (IntKind.wrap .i64 (8 * (IntKind.wrap .i64 ((IntKind.wrap .i64 (v1 - 1)) - s3.1)))))) he9 (by kernel_rfl) (by kernel_rfl) (by kernel_rfl) (by kernel_rfl) ?_
        refine TS_go 6 ?_
        have ret := Option.some.inj h
        subst ret
        exact TS_againB _ ⟨[(0, []), (1, []), (2, []), (7, []), (23, []), (24, [])], [(19, (19, []))]⟩ rfl (by kernel_rfl) (by kernel_rfl)
      · refine TS_know 25 (b := false) hb6 (by kernel_rfl) (by kernel_rfl) ?_
        refine TS_F (by kernel_rfl) rfl ?_
        refine TS_go 2 ?_
        have ret := Option.some.inj h
        subst ret
        exact TS_brkB s3.2 ⟨[(7, [])], [(19, (19, []))]⟩ rfl (by kernel_rfl) (by kernel_rfl) (by kernel_rfl)
    · intro b4 hb
      subst y5
      have h := hK2
      refine TS_go 6 ?_
      refine TS_settle 19 (by kernel_rfl) ?_
      refine TS_fitU ⟨[(6, [])], [(19, (900000, []))]⟩ (by kernel_rfl) ?_
      refine TS_go 1 ?_
      have ret := Option.some.inj h
      subst ret
      exact TS_ret (by kernel_rfl) (by kernel_rfl) (by kernel_rfl)
  · refine TS_go 5 ?_
    replace h := condO h
    rcases h with ⟨hb11, h⟩ | ⟨hb11, h⟩
    · refine TS_know 10 (b := true) hb11 (by kernel_rfl) (by kernel_rfl) ?_
      refine TS_know 11 (b := true) hb11 (by kernel_rfl) (by kernel_rfl) ?_
      refine TS_go 4 ?_
      refine TS_T (by kernel_rfl) rfl ?_
      refine TS_go 3 ?_
      exact TS_meet 0 ⟨[(0, []), (1, []), (2, [])], []⟩ h (by kernel_rfl) (by kernel_rfl)
    · refine TS_know 10 (b := false) hb11 (by kernel_rfl) (by kernel_rfl) ?_
      refine TS_know 11 (b := false) hb11 (by kernel_rfl) (by kernel_rfl) ?_
      refine TS_go 4 ?_
      replace h := condO h
      rcases h with ⟨hb12, h⟩ | ⟨hb12, h⟩
      · refine TS_know 13 (b := true) hb12 (by kernel_rfl) (by kernel_rfl) ?_
        refine TS_know 14 (b := true) hb12 (by kernel_rfl) (by kernel_rfl) ?_
        refine TS_T (by kernel_rfl) rfl ?_
        refine TS_go 3 ?_
        exact TS_meet 0 ⟨[(0, []), (1, []), (2, [])], []⟩ h (by kernel_rfl) (by kernel_rfl)
      · refine TS_know 13 (b := false) hb12 (by kernel_rfl) (by kernel_rfl) ?_
        refine TS_know 14 (b := false) hb12 (by kernel_rfl) (by kernel_rfl) ?_
        refine TS_F (by kernel_rfl) rfl ?_
        refine TS_go 1 ?_
        exact TS_meet a2 ⟨[(0, []), (1, []), (2, [])], []⟩ h (by kernel_rfl) (by kernel_rfl)
/-- multihop/frame.appendAddr -/
noncomputable def F_frame_appendAddr (a0 : List Int) (a1 : S_Addr) : Option ((List Int)) :=
  bif (a1.Mode == 2) then
    (F_octets_Append a0 (IntKind.wrap .u64 a1.Short) 2).bind fun v2 =>
    some (v2)
  else
    (F_octets_Append a0 a1.EUI 8).bind fun v3 =>
    some (v3)
set_option maxRecDepth 100000 in
set_option maxHeartbeats 40000000 in
theorem okT_frame_appendAddr (a0 : List Int) (a1 : S_Addr) (r : (List Int)) (h : F_frame_appendAddr a0 a1 = some r) : Con Try.prog 70 [.c (eS 1 (ecI .u8) (a0)), .agg (S_Addr.cs a1)] [] (.c (.slc 1 900002 (List.length r) (List.map (ecI .u8) r))) [(900000, .spare 5 1 (List.length r))] := by
  unfold F_frame_appendAddr at h
  refine con_of [] [(900000, [])] 17 Try.func70 rfl rfl (by kernel_rfl) (fun K => ?_)
  refine TS_go 12 ?_
  replace h := condO h
  rcases h with ⟨hb1, h⟩ | ⟨hb1, h⟩
  · refine TS_know 7 (b := true) hb1 (by kernel_rfl) (by kernel_rfl) ?_
    refine TS_T (by kernel_rfl) rfl ?_
    refine TS_go 6 ?_
    replace h := bindO h
    obtain ⟨v2, hv2, h⟩ := h
    refine TS_con [] [(12, 900000)] none (okT_octets_Append a0 (IntKind.wrap .u64 a1.Short) 2 v2 hv2) (by kernel_rfl) (by kernel_rfl) (by kernel_rfl) ?_
    refine TS_go 2 ?_
    refine TS_fitU ⟨[(4, [])], [(12, (900000, []))]⟩ (by kernel_rfl) ?_
    refine TS_go 2 ?_
    have ret := Option.some.inj h
    subst ret
    exact TS_ret (by kernel_rfl) (by kernel_rfl) (by kernel_rfl)
  · refine TS_know 7 (b := false) hb1 (by kernel_rfl) (by kernel_rfl) ?_
    refine TS_F (by kernel_rfl) rfl ?_
    refine TS_go 6 ?_
    replace h := bindO h
    obtain ⟨v3, hv3, h⟩ := h
    refine TS_con [] [(16, 900000)] none (okT_octets_Append a0 a1.EUI 8 v3 hv3) (by kernel_rfl) (by kernel_rfl) (by kernel_rfl) ?_
    refine TS_go 2 ?_
    refine TS_fitU ⟨[(4, [])], [(16, (900000, []))]⟩ (by kernel_rfl) ?_
    refine TS_go 1 ?_
    have ret := Option.some.inj h
    subst ret
    exact TS_ret (by kernel_rfl) (by kernel_rfl) (by kernel_rfl)
/-- multihop/frame.Header -/
noncomputable def F_frame_Header_j3 (v1 : S_Frame) (v6 : (List Int)) : Option ((List Int)) :=
  (appO 1 v6 (Cut.app .whole v1.Payload)).bind fun l7 =>
  some (l7)
noncomputable def F_frame_Header_j2 (v1 : S_Frame) (v5 : (List Int)) : Option ((List Int)) :=
  bif v1.Secure then
    (F_octets_Append v5 (IntKind.wrap .u64 v1.Counter) 4).bind fun v9 =>
    (appO 1 v9 (Cut.app .whole ([v1.Key] : List Int))).bind fun l10 =>
    (F_frame_Header_j3 v1) l10
  else
    (F_frame_Header_j3 v1) v5
noncomputable def F_frame_Header_j1  (v1 : S_Frame) : Option ((List Int)) :=
  (F_frame_flag v1.AckRequest 32).bind fun v2 =>
  (F_frame_flag v1.Pending 16).bind fun v3 =>
  (F_frame_flag v1.Secure 8).bind fun v4 =>
  bif (v1.Kind != 2) then
    (F_octets_Append ([ior .u8 (ior .u8 (ior .u8 (ishl .u8 (IntKind.wrap .u8 v1.Kind) 6) v2) v3) v4, ior .u8 (ishl .u8 (IntKind.wrap .u8 v1.Dst.Mode) 6) (ishl .u8 (IntKind.wrap .u8 v1.Src.Mode) 4), v1.Seq] : List Int) (IntKind.wrap .u64 v1.Pan) 2).bind fun v12 =>
    (F_frame_appendAddr v12 v1.Dst).bind fun v13 =>
    (F_frame_appendAddr v13 v1.Src).bind fun v14 =>
    (F_frame_Header_j2 v1) v14
  else
    (F_frame_Header_j2 v1) ([ior .u8 (ior .u8 (ior .u8 (ishl .u8 (IntKind.wrap .u8 v1.Kind) 6) v2) v3) v4, ior .u8 (ishl .u8 (IntKind.wrap .u8 v1.Dst.Mode) 6) (ishl .u8 (IntKind.wrap .u8 v1.Src.Mode) 4), v1.Seq] : List Int)
noncomputable def F_frame_Header (a0 : S_Frame) : Option ((List Int)) :=
  (F_frame_Valid a0).bind fun v15 =>
  bif v15 then
    (F_frame_Header_j1) a0
  else
    (mkO 1 4 4).bind fun n17 =>
    (F_frame_Valid (S_Frame.mk a0.Kind a0.AckRequest a0.Pending a0.Secure a0.Seq a0.Pan a0.Dst a0.Src a0.Counter a0.Key a0.Payload (List.replicate n17 (0 : Int)))).bind fun v18 =>
    bif v18 then
      (F_frame_Header_j1) (S_Frame.mk a0.Kind a0.AckRequest a0.Pending a0.Secure a0.Seq a0.Pan a0.Dst a0.Src a0.Counter a0.Key a0.Payload (List.replicate n17 (0 : Int)))
    else
      some (([] : List Int))
set_option maxRecDepth 100000 in
set_option maxHeartbeats 40000000 in
theorem okT_frame_Header (a0 : S_Frame) (r : (List Int)) (h : F_frame_Header a0 = some r) : Con Try.prog 40 [.agg (S_Frame.cs a0)] [] (.c (.slc 1 900002 (List.length r) (List.map (ecI .u8) r))) [(900000, .spare 5 1 (List.length r))] := by
  unfold F_frame_Header at h
  refine con_of [] [(900000, [])] 76 Try.func40 rfl rfl (by kernel_rfl) (fun K => ?_)
  refine TS_go 5 ?_
  refine TS_cut ⟨[(1, [])], [(1, (1, []))]⟩ (.mk [.code (codeAt [1] (bodyOf Try.f40))] .normal ⟨[(1, .c (.box 1 0))], [(1, .box [.lit (.int .i64 (a0.Kind)), .lit (.bool (a0.AckRequest)), .lit (.bool (a0.Pending)), .lit (.bool (a0.Secure)), .lit (.int .u8 (a0.Seq)), .lit (.int .u16 (a0.Pan)), .lit (.int .i64 (a0.Dst.Mode)), .lit (.int .u16 (a0.Dst.Short)), .lit (.int .u64 (a0.Dst.EUI)), .lit (.int .i64 (a0.Src.Mode)), .lit (.int .u16 (a0.Src.Short)), .lit (.int .u64 (a0.Src.EUI)), .lit (.int .u32 (a0.Counter)), .lit (.int .u8 (a0.Key)), .slc 1 0 (List.length a0.Payload) (List.map (ecI .u8) a0.Payload), .slc 1 0 (List.length a0.MIC) (List.map (ecI .u8) a0.MIC)])]⟩) (by kernel_rfl) (by kernel_rfl) ?_
  refine TS_joinB ⟨[(1, [])], [(1, (1, []))]⟩ (fun (v1 : S_Frame) => []) (fun (v1 : S_Frame) => [(1, .box (S_Frame.cs v1))]) (F_frame_Header_j1) r ?_ ?_
  · clear h
    intro v1 h
    unfold F_frame_Header_j1 at h
    refine TS_go 1 ?_
    refine TS_draw (by kernel_rfl) ?_
    refine TD_go 6 ?_
    replace h := bindO h
    obtain ⟨v2, hv2, h⟩ := h
    refine TD_call [] (ok_frame_flag v1.AckRequest 32 v2 hv2) (by kernel_rfl) (by kernel_rfl) ?_
    refine TD_go 3 ?_
    replace h := bindO h
    obtain ⟨v3, hv3, h⟩ := h
    refine TD_call [] (ok_frame_flag v1.Pending 16 v3 hv3) (by kernel_rfl) (by kernel_rfl) ?_
    refine TD_go 3 ?_
    replace h := bindO h
    obtain ⟨v4, hv4, h⟩ := h
    refine TD_call [] (ok_frame_flag v1.Secure 8 v4 hv4) (by kernel_rfl) (by kernel_rfl) ?_
    refine TD_go 2 ?_
    refine TD_end (by kernel_rfl) ?_
    refine TS_go 16 ?_
    refine TS_litNT 43 5 1 (ecI .u8) [] ([ior .u8 (ior .u8 (ior .u8 (ishl .u8 (IntKind.wrap .u8 v1.Kind) 6) v2) v3) v4, ior .u8 (ishl .u8 (IntKind.wrap .u8 v1.Dst.Mode) 6) (ishl .u8 (IntKind.wrap .u8 v1.Src.Mode) 4), v1.Seq] : List Int) (by kernel_rfl) (by kernel_rfl) ?_
    refine TS_go 2 ?_
    refine TS_cut ⟨[(1, []), (4, [])], [(1, (1, [])), (43, (43, []))]⟩ (.mk [.code (codeAt [1, 1, 1, 1] (bodyOf Try.f40))] .normal ⟨[(1, .c (.box 1 0)), (4, .c (.slc 1 45 (List.length ([ior .u8 (ior .u8 (ior .u8 (ishl .u8 (IntKind.wrap .u8 v1.Kind) 6) v2) v3) v4, ior .u8 (ishl .u8 (IntKind.wrap .u8 v1.Dst.Mode) 6) (ishl .u8 (IntKind.wrap .u8 v1.Src.Mode) 4), v1.Seq] : List Int)) (List.map (ecI .u8) ([ior .u8 (ior .u8 (ior .u8 (ishl .u8 (IntKind.wrap .u8 v1.Kind) 6) v2) v3) v4, ior .u8 (ishl .u8 (IntKind.wrap .u8 v1.Dst.Mode) 6) (ishl .u8 (IntKind.wrap .u8 v1.Src.Mode) 4), v1.Seq] : List Int))))], [(1, .box [.lit (.int .i64 (v1.Kind)), .lit (.bool (v1.AckRequest)), .lit (.bool (v1.Pending)), .lit (.bool (v1.Secure)), .lit (.int .u8 (v1.Seq)), .lit (.int .u16 (v1.Pan)), .lit (.int .i64 (v1.Dst.Mode)), .lit (.int .u16 (v1.Dst.Short)), .lit (.int .u64 (v1.Dst.EUI)), .lit (.int .i64 (v1.Src.Mode)), .lit (.int .u16 (v1.Src.Short)), .lit (.int .u64 (v1.Src.EUI)), .lit (.int .u32 (v1.Counter)), .lit (.int .u8 (v1.Key)), .slc 1 0 (List.length v1.Payload) (List.map (ecI .u8) v1.Payload), .slc 1 0 (List.length v1.MIC) (List.map (ecI .u8) v1.MIC)]), (43, .spare 5 1 (List.length ([ior .u8 (ior .u8 (ior .u8 (ishl .u8 (IntKind.wrap .u8 v1.Kind) 6) v2) v3) v4, ior .u8 (ishl .u8 (IntKind.wrap .u8 v1.Dst.Mode) 6) (ishl .u8 (IntKind.wrap .u8 v1.Src.Mode) 4), v1.Seq] : List Int)))]⟩) (by kernel_rfl) (by kernel_rfl) ?_
    refine TS_joinB ⟨[(1, []), (4, [])], [(1, (1, [])), (43, (43, []))]⟩ (fun (v5 : (List Int)) => [(4, .c (.slc 1 45 (List.length v5) (List.map (ecI .u8) v5)))]) (fun (v5 : (List Int)) => [(43, .spare 5 1 (List.length v5))]) (F_frame_Header_j2 v1) r ?_ ?_
    · clear h
      intro v5 h
      unfold F_frame_Header_j2 at h
      refine TS_cut ⟨[(1, []), (4, [])], [(1, (1, [])), (43, (43, []))]⟩ (.mk [.code (codeAt [1, 1, 1, 1, 1] (bodyOf Try.f40))] .normal ⟨[(1, .c (.box 1 0)), (4, .c (.slc 1 45 (List.length v5) (List.map (ecI .u8) v5)))], [(1, .box [.lit (.int .i64 (v1.Kind)), .lit (.bool (v1.AckRequest)), .lit (.bool (v1.Pending)), .lit (.bool (v1.Secure)), .lit (.int .u8 (v1.Seq)), .lit (.int .u16 (v1.Pan)), .lit (.int .i64 (v1.Dst.Mode)), .lit (.int .u16 (v1.Dst.Short)), .lit (.int .u64 (v1.Dst.EUI)), .lit (.int .i64 (v1.Src.Mode)), .lit (.int .u16 (v1.Src.Short)), .lit (.int .u64 (v1.Src.EUI)), .lit (.int .u32 (v1.Counter)), .lit (.int .u8 (v1.Key)), .slc 1 0 (List.length v1.Payload) (List.map (ecI .u8) v1.Payload), .slc 1 0 (List.length v1.MIC) (List.map (ecI .u8) v1.MIC)]), (43, .spare 5 1 (List.length v5))]⟩) (by kernel_rfl) (by kernel_rfl) ?_
      refine TS_joinB ⟨[(1, []), (4, [])], [(1, (1, [])), (43, (43, []))]⟩ (fun (v6 : (List Int)) => [(4, .c (.slc 1 45 (List.length v6) (List.map (ecI .u8) v6)))]) (fun (v6 : (List Int)) => [(43, .spare 5 1 (List.length v6))]) (F_frame_Header_j3 v1) r ?_ ?_
      · clear h
        intro v6 h
        unfold F_frame_Header_j3 at h
        refine TS_go 5 ?_
        replace h := bindO h
        obtain ⟨_l7, hl7, h⟩ := h
        refine TS_appT (d := 43) (e := 5) (sz := 1) (N := List.length v6) (ecI .u8) (fun _ => by kernel_rfl) (l1 := v6) (l2 := v1.Payload) (c := .whole) hl7 (by kernel_rfl) (by kernel_rfl) ?_
        refine TS_go 2 ?_
        refine TS_fitU ⟨[(2, [])], [(43, (900000, []))]⟩ (by kernel_rfl) ?_
        refine TS_go 1 ?_
        have ret := Option.some.inj h
        subst ret
        exact TS_ret (by kernel_rfl) (by kernel_rfl) (by kernel_rfl)
      · refine TS_go 5 ?_
        replace h := condO h
        rcases h with ⟨hb8, h⟩ | ⟨hb8, h⟩
        · refine TS_know 61 (b := true) hb8 (by kernel_rfl) (by kernel_rfl) ?_
          refine TS_T (by kernel_rfl) rfl ?_
          refine TS_go 6 ?_
          replace h := bindO h
          obtain ⟨v9, hv9, h⟩ := h
          refine TS_con [[2]] [(66, 900000)] none (okT_octets_Append v5 (IntKind.wrap .u64 v1.Counter) 4 v9 hv9) (by kernel_rfl) (by kernel_rfl) (by kernel_rfl) ?_
          refine TS_go 6 ?_
          refine TS_litNT 70 5 1 (ecI .u8) [] ([v1.Key] : List Int) (by kernel_rfl) (by kernel_rfl) ?_
          replace h := bindO h
          obtain ⟨l10, hl10, h⟩ := h
          refine TS_appT (d := 66) (e := 5) (sz := 1) (N := List.length v9) (ecI .u8) (fun _ => by kernel_rfl) (l1 := v9) (l2 := ([v1.Key] : List Int)) (c := .whole) hl10 (by kernel_rfl) (by kernel_rfl) ?_
          refine TS_go 2 ?_
          exact TS_meet l10 ⟨[(1, []), (4, [])], [(1, (1, [])), (66, (43, []))]⟩ h (by kernel_rfl) (by kernel_rfl)
        · refine TS_know 61 (b := false) hb8 (by kernel_rfl) (by kernel_rfl) ?_
          refine TS_F (by kernel_rfl) rfl ?_
          refine TS_go 1 ?_
          exact TS_meet v5 ⟨[(1, []), (4, [])], [(1, (1, [])), (43, (43, []))]⟩ h (by kernel_rfl) (by kernel_rfl)
    · refine TS_go 6 ?_
      replace h := condO h
      rcases h with ⟨hb11, h⟩ | ⟨hb11, h⟩
      · refine TS_know 46 (b := true) hb11 (by kernel_rfl) (by kernel_rfl) ?_
        refine TS_T (by kernel_rfl) rfl ?_
        refine TS_go 6 ?_
        replace h := bindO h
        obtain ⟨v12, hv12, h⟩ := h
        refine TS_con [[2]] [(51, 900000)] none (okT_octets_Append ([ior .u8 (ior .u8 (ior .u8 (ishl .u8 (IntKind.wrap .u8 v1.Kind) 6) v2) v3) v4, ior .u8 (ishl .u8 (IntKind.wrap .u8 v1.Dst.Mode) 6) (ishl .u8 (IntKind.wrap .u8 v1.Src.Mode) 4), v1.Seq] : List Int) (IntKind.wrap .u64 v1.Pan) 2 v12 hv12) (by kernel_rfl) (by kernel_rfl) (by kernel_rfl) ?_
        refine TS_go 7 ?_
        replace h := bindO h
        obtain ⟨v13, hv13, h⟩ := h
        refine TS_con [[2]] [(55, 900000)] none (okT_frame_appendAddr v12 v1.Dst v13 hv13) (by kernel_rfl) (by kernel_rfl) (by kernel_rfl) ?_
        refine TS_go 6 ?_
        replace h := bindO h
        obtain ⟨v14, hv14, h⟩ := h
        refine TS_con [[2]] [(59, 900000)] none (okT_frame_appendAddr v13 v1.Src v14 hv14) (by kernel_rfl) (by kernel_rfl) (by kernel_rfl) ?_
        refine TS_go 2 ?_
        exact TS_meet v14 ⟨[(1, []), (4, [])], [(1, (1, [])), (59, (43, []))]⟩ h (by kernel_rfl) (by kernel_rfl)
      · refine TS_know 46 (b := false) hb11 (by kernel_rfl) (by kernel_rfl) ?_
        refine TS_F (by kernel_rfl) rfl ?_
        refine TS_go 1 ?_
        exact TS_meet ([ior .u8 (ior .u8 (ior .u8 (ishl .u8 (IntKind.wrap .u8 v1.Kind) 6) v2) v3) v4, ior .u8 (ishl .u8 (IntKind.wrap .u8 v1.Dst.Mode) 6) (ishl .u8 (IntKind.wrap .u8 v1.Src.Mode) 4), v1.Seq] : List Int) ⟨[(1, []), (4, [])], [(1, (1, [])), (43, (43, []))]⟩ h (by kernel_rfl) (by kernel_rfl)
  · refine TS_go 3 ?_
    replace h := bindO h
    obtain ⟨v15, hv15, h⟩ := h
    refine TS_call [] (ok_frame_Valid a0 v15 hv15) (by kernel_rfl) (by kernel_rfl) ?_
    refine TS_go 2 ?_
    replace h := condO h
    rcases h with ⟨hb16, h⟩ | ⟨hb16, h⟩
    · subst hb16
      refine TS_F (by kernel_rfl) rfl ?_
      refine TS_go 1 ?_
      exact TS_meet a0 ⟨[(1, [])], [(1, (1, []))]⟩ h (by kernel_rfl) (by kernel_rfl)
    · subst hb16
      refine TS_T (by kernel_rfl) rfl ?_
      refine TS_go 2 ?_
      replace h := bindO h
      obtain ⟨n17, hn17, h⟩ := h
      refine TS_makeT 8 5 1 (ecI .u8) (0 : Int) [] (cs := [.lit (.int .u8 (0))]) (l := 4) (c := 4) hn17 (by kernel_rfl) (by kernel_rfl) (by kernel_rfl) ?_
      refine TS_go 6 ?_
      replace h := bindO h
      obtain ⟨v18, hv18, h⟩ := h
      refine TS_call [[0, 0, 0, 0, 0, 0, 0, 0, 0, 0, 0, 0, 0, 0, 2, 2]] (ok_frame_Valid (S_Frame.mk a0.Kind a0.AckRequest a0.Pending a0.Secure a0.Seq a0.Pan a0.Dst a0.Src a0.Counter a0.Key a0.Payload (List.replicate n17 (0 : Int))) v18 hv18) (by kernel_rfl) (by kernel_rfl) ?_
      refine TS_go 2 ?_
      replace h := condO h
      rcases h with ⟨hb19, h⟩ | ⟨hb19, h⟩
      · subst hb19
        refine TS_F (by kernel_rfl) rfl ?_
        refine TS_go 1 ?_
        exact TS_meet (S_Frame.mk a0.Kind a0.AckRequest a0.Pending a0.Secure a0.Seq a0.Pan a0.Dst a0.Src a0.Counter a0.Key a0.Payload (List.replicate n17 (0 : Int))) ⟨[(1, [])], [(1, (1, [0, 0, 0, 0, 0, 0, 0, 0, 0, 0, 0, 0, 0, 0, 0, 2]))]⟩ h (by kernel_rfl) (by kernel_rfl)
      · subst hb19
        refine TS_T (by kernel_rfl) rfl ?_
        refine TS_go 4 ?_
        refine TS_nilT 2 600000 5 1 (by kernel_rfl) ?_
        refine TS_fitU ⟨[(2, [])], [(600000, (900000, []))]⟩ (by kernel_rfl) ?_
        refine TS_go 1 ?_
        refine TS_outJ (by kernel_rfl) ?_
        have ret := Option.some.inj h
        subst ret
        exact TS_ret (by kernel_rfl) (by kernel_rfl) (by kernel_rfl)
/-- multihop/siphash.little -/
noncomputable def F_siphash_little_l1 (a0 : List Int) (s1 : Int × Int) : Option ((Int × Int) ⊕ (Int)) :=
  bif (decide (s1.2 < (List.length a0 : Int))) then
    (idx a0 s1.2).bind fun e5 =>
    bif decide (0 ≤ (IntKind.wrap .i64 (8 * s1.2))) then
      some (Sum.inl (ior .u64 s1.1 (ishl .u64 (IntKind.wrap .u64 e5) (IntKind.wrap .i64 (8 * s1.2))), IntKind.wrap .i64 (s1.2 + 1)))
    else none
  else
    some (Sum.inr s1.1)
noncomputable def F_siphash_little (a0 : List Int) : Option (Int) :=
  (loopO (F_siphash_little_l1 a0) (0, 0)).bind fun b2 =>
  some (b2)
set_option maxRecDepth 100000 in
set_option maxHeartbeats 40000000 in
theorem ok_siphash_little (a0 : List Int) (r : Int) (h : F_siphash_little a0 = some r) : Con Try.prog 93 [.c (eS 1 (ecI .u8) (a0))] [] (.c (.lit (.int .u64 (r)))) [] := by
  unfold F_siphash_little at h
  refine con_of [] [] 22 Try.func93 rfl rfl (by kernel_rfl) (fun K => ?_)
  refine TS_go 16 ?_
  refine TS_cut ⟨[(3, []), (6, []), (7, []), (8, [])], []⟩ (.mk [.code (codeAt [1, 1, 0, 1, 0] (bodyOf Try.f93)), .blk 0, .code (codeAt [1, 1, 1] (bodyOf Try.f93))] .normal ⟨[(3, .c (.lit (.int .u64 (0)))), (6, .c (.slc 1 0 (List.length a0) (List.map (ecI .u8) a0))), (7, .c (.lit (.int .i64 ((List.length a0 : Int))))), (8, .c (.lit (.int .i64 (0))))], []⟩) (by kernel_rfl) (by kernel_rfl) ?_
  replace h := bindO h
  obtain ⟨y3, hl1, hK1⟩ := h
  refine TS_loopB (F_siphash_little_l1 a0) ⟨[(3, []), (6, []), (7, []), (8, [])], []⟩ (fun (s1 : Int × Int) => [(3, .c (.lit (.int .u64 (s1.1)))), (8, .c (.lit (.int .i64 (s1.2))))]) (fun (s1 : Int × Int) => []) (0, 0) y3 (.exit 0) (fun (b : Int) => b) ⟨[(3, [])], []⟩ (fun (b2 : Int) => [(3, .c (.lit (.int .u64 (b2))))]) (fun (b2 : Int) => []) hl1 (by kernel_rfl) (by kernel_rfl) ?_ ?_
  · intro s1 x h hy1
    unfold F_siphash_little_l1 at h
    refine TS_go 5 ?_
    replace h := condO h
    rcases h with ⟨hb4, h⟩ | ⟨hb4, h⟩
    · refine TS_know 9 (b := true) hb4 (by kernel_rfl) (by kernel_rfl) ?_
      refine TS_T (by kernel_rfl) rfl ?_
      refine TS_go 6 ?_
      replace h := bindO h
      obtain ⟨e5, he5, h⟩ := h
      refine TS_idx (ecI .u8) he5 (by kernel_rfl) (by kernel_rfl) ?_
      refine TS_go 10 ?_
      replace h := chkO h
      obtain ⟨hc6, h⟩ := h
      refine TS_num (op := .shl) (k := .u64) (k' := .i64) (m := IntKind.wrap .u64 e5) (i := IntKind.wrap .i64 (8 * s1.2)) (of_decide_eq_true hc6) rfl (by simp) (by kernel_rfl) (by kernel_rfl) ?_
      refine TS_go 8 ?_
      have ret := Option.some.inj h
      subst ret
      exact TS_againB _ ⟨[(3, []), (6, []), (7, []), (8, [])], []⟩ rfl (by kernel_rfl) (by kernel_rfl)
    · refine TS_know 9 (b := false) hb4 (by kernel_rfl) (by kernel_rfl) ?_
      refine TS_F (by kernel_rfl) rfl ?_
      refine TS_go 2 ?_
      have ret := Option.some.inj h
      subst ret
      exact TS_brkB s1.1 ⟨[(3, [])], []⟩ rfl (by kernel_rfl) (by kernel_rfl) (by kernel_rfl)
  · intro b2 hb
    subst y3
    have h := hK1
    refine TS_go 7 ?_
    have ret := Option.some.inj h
    subst ret
    exact TS_ret (by kernel_rfl) (by kernel_rfl) (by kernel_rfl)

/-- math/bits.RotateLeft64 -/
noncomputable def F_math_bits_RotateLeft64 (a0 : Int) (a1 : Int) : Option (Int) :=
  bif decide (0 ≤ (iand .u64 (IntKind.wrap .u64 a1) 63)) then
    bif decide (0 ≤ (IntKind.wrap .u64 (64 - (iand .u64 (IntKind.wrap .u64 a1) 63)))) then
      some (ior .u64 (ishl .u64 a0 (iand .u64 (IntKind.wrap .u64 a1) 63)) (ishr .u64 a0 (IntKind.wrap .u64 (64 - (iand .u64 (IntKind.wrap .u64 a1) 63)))))
    else none
  else none
set_option maxRecDepth 100000 in
set_option maxHeartbeats 40000000 in
theorem ok_math_bits_RotateLeft64 (a0 : Int) (a1 : Int) (r : Int) (h : F_math_bits_RotateLeft64 a0 a1 = some r) : Con Try.prog 103 [.c (.lit (.int .u64 (a0))), .c (.lit (.int .i64 (a1)))] [] (.c (.lit (.int .u64 (r)))) [] := by
  unfold F_math_bits_RotateLeft64 at h
  refine con_of [] [] 17 Try.func103 rfl rfl (by kernel_rfl) (fun K => ?_)
  refine TS_go 15 ?_
  replace h := chkO h
  obtain ⟨hc1, h⟩ := h
  refine TS_num (op := .shl) (k := .u64) (k' := .u64) (m := a0) (i := iand .u64 (IntKind.wrap .u64 a1) 63) (of_decide_eq_true hc1) rfl (by simp) (by kernel_rfl) (by kernel_rfl) ?_
  refine TS_go 3 ?_
  replace h := chkO h
  obtain ⟨hc2, h⟩ := h
  refine TS_num (op := .shr) (k := .u64) (k' := .u64) (m := a0) (i := IntKind.wrap .u64 (64 - (iand .u64 (IntKind.wrap .u64 a1) 63))) (of_decide_eq_true hc2) rfl (by simp) (by kernel_rfl) (by kernel_rfl) ?_
  refine TS_go 4 ?_
  have ret := Option.some.inj h
  subst ret
  exact TS_ret (by kernel_rfl) (by kernel_rfl) (by kernel_rfl)

/-- (multihop/siphash.state).rounds -/
noncomputable def F_siphash_state_rounds_l1 (a1 : Int) (s1 : Int × (List Int)) : Option ((Int × (List Int)) ⊕ ((List Int))) :=
  bif (decide (s1.1 < a1)) then
    (F_math_bits_RotateLeft64 (s1.2.getD 1 0) 13).bind fun v5 =>
    (F_math_bits_RotateLeft64 (IntKind.wrap .u64 ((s1.2.getD 0 0) + (s1.2.getD 1 0))) 32).bind fun v6 =>
    (F_math_bits_RotateLeft64 (s1.2.getD 3 0) 16).bind fun v7 =>
    (F_math_bits_RotateLeft64 (ixor .u64 v7 (IntKind.wrap .u64 ((s1.2.getD 2 0) + (s1.2.getD 3 0)))) 21).bind fun v8 =>
    (F_math_bits_RotateLeft64 (ixor .u64 v5 (IntKind.wrap .u64 ((s1.2.getD 0 0) + (s1.2.getD 1 0)))) 17).bind fun v9 =>
    (F_math_bits_RotateLeft64 (IntKind.wrap .u64 ((IntKind.wrap .u64 ((s1.2.getD 2 0) + (s1.2.getD 3 0))) + (ixor .u64 v5 (IntKind.wrap .u64 ((s1.2.getD 0 0) + (s1.2.getD 1 0)))))) 32).bind fun v10 =>
    some (Sum.inl (IntKind.wrap .i64 (s1.1 + 1), [IntKind.wrap .u64 (v6 + (ixor .u64 v7 (IntKind.wrap .u64 ((s1.2.getD 2 0) + (s1.2.getD 3 0))))), ixor .u64 v9 (IntKind.wrap .u64 ((IntKind.wrap .u64 ((s1.2.getD 2 0) + (s1.2.getD 3 0))) + (ixor .u64 v5 (IntKind.wrap .u64 ((s1.2.getD 0 0) + (s1.2.getD 1 0)))))), v10, ixor .u64 v8 (IntKind.wrap .u64 (v6 + (ixor .u64 v7 (IntKind.wrap .u64 ((s1.2.getD 2 0) + (s1.2.getD 3 0))))))]))
  else
    some (Sum.inr s1.2)
noncomputable def F_siphash_state_rounds (a0 : List Int) (a1 : Int) : Option ((List Int)) :=
  (loopO (F_siphash_state_rounds_l1 a1) (0, a0)).bind fun b2 =>
  some (b2)
set_option maxRecDepth 100000 in
set_option maxHeartbeats 40000000 in
theorem ok_siphash_state_rounds (a0 : List Int) (a1 : Int) (r : (List Int)) (h : F_siphash_state_rounds a0 a1 = some r) : Con Try.prog 95 [.agg (arrS .u64 4 a0), .c (.lit (.int .i64 (a1)))] [] (.agg (arrS .u64 4 r)) [] := by
  unfold F_siphash_state_rounds at h
  refine con_of [] [] 82 Try.func95 rfl rfl (by kernel_rfl) (fun K => ?_)
  refine TS_go 12 ?_
  refine TS_cut ⟨[(2, []), (4, []), (5, []), (6, [])], [(2, (2, [])), (4, (4, []))]⟩ (.mk [.code (codeAt [1, 0, 1, 0] (bodyOf Try.f95)), .blk 0, .code (codeAt [1, 1] (bodyOf Try.f95))] .normal ⟨[(2, .c (.box 2 0)), (4, .c (.box 4 0)), (5, .c (.lit (.int .i64 (a1)))), (6, .c (.lit (.int .i64 (0))))], [(2, .box [.lit (.int .u64 ((a0.getD 0 0))), .lit (.int .u64 ((a0.getD 1 0))), .lit (.int .u64 ((a0.getD 2 0))), .lit (.int .u64 ((a0.getD 3 0)))]), (4, .box [.lit (.int .u64 (0)), .lit (.int .u64 (0)), .lit (.int .u64 (0)), .lit (.int .u64 (0))])]⟩) (by kernel_rfl) (by kernel_rfl) ?_
  replace h := bindO h
  obtain ⟨y3, hl1, hK1⟩ := h
  refine TS_loopB (F_siphash_state_rounds_l1 a1) ⟨[(2, []), (4, []), (5, []), (6, [])], [(2, (2, [])), (4, (4, []))]⟩ (fun (s1 : Int × (List Int)) => [(6, .c (.lit (.int .i64 (s1.1))))]) (fun (s1 : Int × (List Int)) => [(2, .box (arrS .u64 4 s1.2))]) (0, a0) y3 (.exit 0) (fun (b : (List Int)) => b) ⟨[(2, []), (4, [])], [(2, (2, [])), (4, (4, []))]⟩ (fun (b2 : (List Int)) => []) (fun (b2 : (List Int)) => [(2, .box (arrS .u64 4 b2))]) hl1 (by kernel_rfl) (by kernel_rfl) ?_ ?_
  · intro s1 x h hy1
    unfold F_siphash_state_rounds_l1 at h
    refine TS_go 5 ?_
    replace h := condO h
    rcases h with ⟨hb4, h⟩ | ⟨hb4, h⟩
    · refine TS_know 7 (b := true) hb4 (by kernel_rfl) (by kernel_rfl) ?_
      refine TS_T (by kernel_rfl) rfl ?_
      refine TS_go 17 ?_
      replace h := bindO h
      obtain ⟨v5, hv5, h⟩ := h
      refine TS_call [] (ok_math_bits_RotateLeft64 (s1.2.getD 1 0) 13 v5 hv5) (by kernel_rfl) (by kernel_rfl) ?_
      refine TS_go 17 ?_
      replace h := bindO h
      obtain ⟨v6, hv6, h⟩ := h
      refine TS_call [] (ok_math_bits_RotateLeft64 (IntKind.wrap .u64 ((s1.2.getD 0 0) + (s1.2.getD 1 0))) 32 v6 hv6) (by kernel_rfl) (by kernel_rfl) ?_
      refine TS_go 17 ?_
      replace h := bindO h
      obtain ⟨v7, hv7, h⟩ := h
      refine TS_call [] (ok_math_bits_RotateLeft64 (s1.2.getD 3 0) 16 v7 hv7) (by kernel_rfl) (by kernel_rfl) ?_
      refine TS_go 27 ?_
      replace h := bindO h
      obtain ⟨v8, hv8, h⟩ := h
      refine TS_call [] (ok_math_bits_RotateLeft64 (ixor .u64 v7 (IntKind.wrap .u64 ((s1.2.getD 2 0) + (s1.2.getD 3 0)))) 21 v8 hv8) (by kernel_rfl) (by kernel_rfl) ?_
      refine TS_go 27 ?_
      replace h := bindO h
      obtain ⟨v9, hv9, h⟩ := h
      refine TS_call [] (ok_math_bits_RotateLeft64 (ixor .u64 v5 (IntKind.wrap .u64 ((s1.2.getD 0 0) + (s1.2.getD 1 0)))) 17 v9 hv9) (by kernel_rfl) (by kernel_rfl) ?_
      refine TS_go 16 ?_
      replace h := bindO h
      obtain ⟨v10, hv10, h⟩ := h
      refine TS_call [] (ok_math_bits_RotateLeft64 (IntKind.wrap .u64 ((IntKind.wrap .u64 ((s1.2.getD 2 0) + (s1.2.getD 3 0))) + (ixor .u64 v5 (IntKind.wrap .u64 ((s1.2.getD 0 0) + (s1.2.getD 1 0)))))) 32 v10 hv10) (by kernel_rfl) (by kernel_rfl) ?_
      refine TS_go 8 ?_
      have ret := Option.some.inj h
      subst ret
      exact TS_againB _ ⟨[(2, []), (4, []), (5, []), (6, [])], [(2, (2, [])), (4, (4, []))]⟩ rfl (by kernel_rfl) (by kernel_rfl)
    · refine TS_know 7 (b := false) hb4 (by kernel_rfl) (by kernel_rfl) ?_
      refine TS_F (by kernel_rfl) rfl ?_
      refine TS_go 2 ?_
      have ret := Option.some.inj h
      subst ret
      exact TS_brkB s1.2 ⟨[(2, []), (4, [])], [(2, (2, [])), (4, (4, []))]⟩ rfl (by kernel_rfl) (by kernel_rfl) (by kernel_rfl)
  · intro b2 hb
    subst y3
    have h := hK1
    refine TS_go 7 ?_
    have ret := Option.some.inj h
    subst ret
    exact TS_ret (by kernel_rfl) (by kernel_rfl) (by kernel_rfl)

/-- (multihop/siphash.state).mix -/
noncomputable def F_siphash_state_mix (a0 : List Int) (a1 : Int) : Option ((List Int)) :=
  (F_siphash_state_rounds [(a0.getD 0 0), (a0.getD 1 0), (a0.getD 2 0), ixor .u64 (a0.getD 3 0) a1] 2).bind fun v1 =>
  some ([ixor .u64 (v1.getD 0 0) a1, (v1.getD 1 0), (v1.getD 2 0), (v1.getD 3 0)])
set_option maxRecDepth 100000 in
set_option maxHeartbeats 40000000 in
theorem ok_siphash_state_mix (a0 : List Int) (a1 : Int) (r : (List Int)) (h : F_siphash_state_mix a0 a1 = some r) : Con Try.prog 94 [.agg (arrS .u64 4 a0), .c (.lit (.int .u64 (a1)))] [] (.agg (arrS .u64 4 r)) [] := by
  unfold F_siphash_state_mix at h
  refine con_of [] [] 18 Try.func94 rfl rfl (by kernel_rfl) (fun K => ?_)
  refine TS_go 17 ?_
  replace h := bindO h
  obtain ⟨v1, hv1, h⟩ := h
  refine TS_call [] (ok_siphash_state_rounds [(a0.getD 0 0), (a0.getD 1 0), (a0.getD 2 0), ixor .u64 (a0.getD 3 0) a1] 2 v1 hv1) (by kernel_rfl) (by kernel_rfl) ?_
  refine TS_go 17 ?_
  have ret := Option.some.inj h
  subst ret
  exact TS_ret (by kernel_rfl) (by kernel_rfl) (by kernel_rfl)

/-- multihop/siphash.Sum -/
noncomputable def F_siphash_Sum_l1 (a1 : List Int) (s3 : Int × (List Int)) : Option ((Int × (List Int)) ⊕ ((List Int))) :=
  bif (decide (s3.1 < (iquo .i64 (List.length a1 : Int) 8))) then
    (subO a1 (IntKind.wrap .i64 (8 * s3.1)) (IntKind.wrap .i64 ((IntKind.wrap .i64 (8 * s3.1)) + 8))).bind fun l7 =>
    (F_siphash_little l7).bind fun v8 =>
    (F_siphash_state_mix s3.2 v8).bind fun v9 =>
    some (Sum.inl (IntKind.wrap .i64 (s3.1 + 1), v9))
  else
    some (Sum.inr s3.2)
noncomputable def F_siphash_Sum (a0 : List Int) (a1 : List Int) : Option (Int) :=
  (F_siphash_little (arrL 8 a0)).bind fun v1 =>
  (F_siphash_little ([(a0.getD 8 0), (a0.getD 9 0), (a0.getD 10 0), (a0.getD 11 0), (a0.getD 12 0), (a0.getD 13 0), (a0.getD 14 0), (a0.getD 15 0)] : List Int)).bind fun v2 =>
  (loopO (F_siphash_Sum_l1 a1) (0, [ixor .u64 v1 8317987319222330741, ixor .u64 v2 7237128888997146477, ixor .u64 v1 7816392313619706465, ixor .u64 v2 8387220255154660723])).bind fun b4 =>
  (subO a1 (IntKind.wrap .i64 (8 * (iquo .i64 (List.length a1 : Int) 8))) (List.length a1 : Int)).bind fun l11 =>
  (F_siphash_little l11).bind fun v12 =>
  (F_siphash_state_mix b4 (ior .u64 v12 (ishl .u64 (IntKind.wrap .u64 (List.length a1 : Int)) 56))).bind fun v13 =>
  (F_siphash_state_rounds [(v13.getD 0 0), (v13.getD 1 0), ixor .u64 (v13.getD 2 0) 255, (v13.getD 3 0)] 4).bind fun v14 =>
  some (ixor .u64 (ixor .u64 (ixor .u64 (v14.getD 0 0) (v14.getD 1 0)) (v14.getD 2 0)) (v14.getD 3 0))
set_option maxRecDepth 100000 in
set_option maxHeartbeats 40000000 in
theorem ok_siphash_Sum (a0 : List Int) (a1 : List Int) (r : Int) (h : F_siphash_Sum a0 a1 = some r) : Con Try.prog 81 [.agg (arrS .u8 16 a0), .c (eS 1 (ecI .u8) (a1))] [] (.c (.lit (.int .u64 (r)))) [] := by
  unfold F_siphash_Sum at h
  refine con_of [] [] 70 Try.func81 rfl rfl (by kernel_rfl) (fun K => ?_)
  refine TS_go 6 ?_
  refine TS_draw (by kernel_rfl) ?_
  refine TD_win 2 0 16 (a := 0) (b := 8) (by decide) (by decide) (by kernel_rfl) (by kernel_rfl) ?_
  replace h := bindO h
  obtain ⟨v1, hv1, h⟩ := h
  refine TD_callF [] (ok_siphash_little (arrL 8 a0) v1 hv1) (by kernel_rfl) (by kernel_rfl) ?_
  refine TD_win 2 0 16 (a := 8) (b := 16) (by decide) (by decide) (by kernel_rfl) (by kernel_rfl) ?_
  replace h := bindO h
  obtain ⟨v2, hv2, h⟩ := h
  refine TD_callF [] (ok_siphash_little ([(a0.getD 8 0), (a0.getD 9 0), (a0.getD 10 0), (a0.getD 11 0), (a0.getD 12 0), (a0.getD 13 0), (a0.getD 14 0), (a0.getD 15 0)] : List Int) v2 hv2) (by kernel_rfl) (by kernel_rfl) ?_
  refine TD_go 2 ?_
  refine TD_end (by kernel_rfl) ?_
  refine TS_go 28 ?_
  refine TS_cut ⟨[(1, []), (7, []), (8, []), (26, []), (27, [])], [(7, (7, []))]⟩ (.mk [.code (codeAt [1, 1, 1, 1, 0, 1, 0] (bodyOf Try.f81)), .blk 0, .code (codeAt [1, 1, 1, 1, 1] (bodyOf Try.f81))] .normal ⟨[(1, .c (.slc 1 0 (List.length a1) (List.map (ecI .u8) a1))), (7, .c (.box 7 0)), (8, .c (.lit (.int .i64 (iquo .i64 (List.length a1 : Int) 8)))), (26, .c (.lit (.int .i64 (iquo .i64 (List.length a1 : Int) 8)))), (27, .c (.lit (.int .i64 (0))))], [(7, .box [.lit (.int .u64 (ixor .u64 v1 8317987319222330741)), .lit (.int .u64 (ixor .u64 v2 7237128888997146477)), .lit (.int .u64 (ixor .u64 v1 7816392313619706465)), .lit (.int .u64 (ixor .u64 v2 8387220255154660723))])]⟩) (by kernel_rfl) (by kernel_rfl) ?_
  replace h := bindO h
  obtain ⟨y5, hl1, hK1⟩ := h
  refine TS_loopB (F_siphash_Sum_l1 a1) ⟨[(1, []), (7, []), (8, []), (26, []), (27, [])], [(7, (7, []))]⟩ (fun (s3 : Int × (List Int)) => [(27, .c (.lit (.int .i64 (s3.1))))]) (fun (s3 : Int × (List Int)) => [(7, .box (arrS .u64 4 s3.2))]) (0, [ixor .u64 v1 8317987319222330741, ixor .u64 v2 7237128888997146477, ixor .u64 v1 7816392313619706465, ixor .u64 v2 8387220255154660723]) y5 (.exit 0) (fun (b : (List Int)) => b) ⟨[(1, []), (7, []), (8, [])], [(7, (7, []))]⟩ (fun (b4 : (List Int)) => []) (fun (b4 : (List Int)) => [(7, .box (arrS .u64 4 b4))]) hl1 (by kernel_rfl) (by kernel_rfl) ?_ ?_
  · intro s3 x h hy1
    unfold F_siphash_Sum_l1 at h
    refine TS_go 5 ?_
    replace h := condO h
    rcases h with ⟨hb6, h⟩ | ⟨hb6, h⟩
    · refine TS_know 28 (b := true) hb6 (by kernel_rfl) (by kernel_rfl) ?_
      refine TS_T (by kernel_rfl) rfl ?_
      refine TS_go 8 ?_
      refine TS_draw (by kernel_rfl) ?_
      refine TD_go 7 ?_
      replace h := bindO h
      obtain ⟨l7, hl7, h⟩ := h
      refine TD_sub (ecI .u8) 1 hl7 (by kernel_rfl) (by kernel_rfl) ?_
      replace h := bindO h
      obtain ⟨v8, hv8, h⟩ := h
      refine TD_call [] (ok_siphash_little l7 v8 hv8) (by kernel_rfl) (by kernel_rfl) ?_
      replace h := bindO h
      obtain ⟨v9, hv9, h⟩ := h
      refine TD_call [] (ok_siphash_state_mix s3.2 v8 v9 hv9) (by kernel_rfl) (by kernel_rfl) ?_
      refine TD_go 1 ?_
      refine TD_end (by kernel_rfl) ?_
      refine TS_go 5 ?_
      have ret := Option.some.inj h
      subst ret
      exact TS_againB _ ⟨[(1, []), (7, []), (8, []), (26, []), (27, [])], [(7, (7, []))]⟩ rfl (by kernel_rfl) (by kernel_rfl)
    · refine TS_know 28 (b := false) hb6 (by kernel_rfl) (by kernel_rfl) ?_
      refine TS_F (by kernel_rfl) rfl ?_
      refine TS_go 2 ?_
      have ret := Option.some.inj h
      subst ret
      exact TS_brkB s3.2 ⟨[(1, []), (7, []), (8, [])], [(7, (7, []))]⟩ rfl (by kernel_rfl) (by kernel_rfl) (by kernel_rfl)
  · intro b4 hb
    subst y5
    have h := hK1
    refine TS_go 2 ?_
    refine TS_draw (by kernel_rfl) ?_
    refine TD_go 4 ?_
    replace h := bindO h
    obtain ⟨l11, hl11, h⟩ := h
    refine TD_sub (ecI .u8) 1 hl11 (by kernel_rfl) (by kernel_rfl) ?_
    replace h := bindO h
    obtain ⟨v12, hv12, h⟩ := h
    refine TD_call [] (ok_siphash_little l11 v12 hv12) (by kernel_rfl) (by kernel_rfl) ?_
    refine TD_go 5 ?_
    replace h := bindO h
    obtain ⟨v13, hv13, h⟩ := h
    refine TD_call [] (ok_siphash_state_mix b4 (ior .u64 v12 (ishl .u64 (IntKind.wrap .u64 (List.length a1 : Int)) 56)) v13 hv13) (by kernel_rfl) (by kernel_rfl) ?_
    refine TD_go 1 ?_
    refine TD_end (by kernel_rfl) ?_
    refine TS_go 11 ?_
    replace h := bindO h
    obtain ⟨v14, hv14, h⟩ := h
    refine TS_call [] (ok_siphash_state_rounds [(v13.getD 0 0), (v13.getD 1 0), ixor .u64 (v13.getD 2 0) 255, (v13.getD 3 0)] 4 v14 hv14) (by kernel_rfl) (by kernel_rfl) ?_
    refine TS_go 18 ?_
    have ret := Option.some.inj h
    subst ret
    exact TS_ret (by kernel_rfl) (by kernel_rfl) (by kernel_rfl)

/-- multihop/siphash.Tag -/
noncomputable def F_siphash_Tag_l1 (a2 : Int) (v3 : Int) (s5 : Int × (List Int)) : Option ((Int × (List Int)) ⊕ ((List Int))) :=
  bif (decide (s5.1 < a2)) then
    bif decide (0 ≤ (IntKind.wrap .i64 (8 * s5.1))) then
      (idx (Cut.app .whole s5.2) s5.1).bind fun _e10 =>
      (s5.2[(0 + Int.toNat s5.1)]?).bind fun _e11 =>
      some (Sum.inl (IntKind.wrap .i64 (s5.1 + 1), (List.set s5.2 (0 + Int.toNat s5.1) (IntKind.wrap .u8 (ishr .u64 v3 (IntKind.wrap .i64 (8 * s5.1)))))))
    else none
  else
    some (Sum.inr s5.2)
noncomputable def F_siphash_Tag (a0 : List Int) (a1 : List Int) (a2 : Int) : Option ((List Int) × Bool) :=
  bif (decide (a2 < 1)) then
    some ((([] : List Int), false))
  else
    bif (decide (a2 > 8)) then
      some ((([] : List Int), false))
    else
      (F_siphash_Sum a0 a1).bind fun v3 =>
      (mkO 1 a2 a2).bind fun n4 =>
      (loopO (F_siphash_Tag_l1 a2 v3) (0, (List.replicate n4 (0 : Int)))).bind fun b6 =>
      some ((b6, true))
set_option maxRecDepth 100000 in
set_option maxHeartbeats 40000000 in
theorem okT_siphash_Tag (a0 : List Int) (a1 : List Int) (a2 : Int) (r : (List Int) × Bool) (h : F_siphash_Tag a0 a1 a2 = some r) : Con Try.prog 57 [.agg (arrS .u8 16 a0), .c (eS 1 (ecI .u8) (a1)), .c (.lit (.int .i64 (a2)))] [] (.tup [(false, [.slc 1 900002 (List.length r.1) (List.map (ecI .u8) r.1)]), (false, [.lit (.bool (r.2))])]) [(900000, .spare 5 1 (List.length r.1))] := by
  unfold F_siphash_Tag at h
  refine con_of [] [(900000, [])] 36 Try.func57 rfl rfl (by kernel_rfl) (fun K => ?_)
  refine TS_go 12 ?_
  replace h := condO h
  rcases h with ⟨hb1, h⟩ | ⟨hb1, h⟩
  · refine TS_know 12 (b := true) hb1 (by kernel_rfl) (by kernel_rfl) ?_
    refine TS_know 13 (b := true) hb1 (by kernel_rfl) (by kernel_rfl) ?_
    refine TS_go 4 ?_
    refine TS_T (by kernel_rfl) rfl ?_
    refine TS_go 5 ?_
    refine TS_nilT 6 600000 5 1 (by kernel_rfl) ?_
    refine TS_fitU ⟨[(6, []), (7, [])], [(600000, (900000, []))]⟩ (by kernel_rfl) ?_
    refine TS_go 2 ?_
    have ret := Option.some.inj h
    subst ret
    exact TS_ret (by kernel_rfl) (by kernel_rfl) (by kernel_rfl)
  · refine TS_know 12 (b := false) hb1 (by kernel_rfl) (by kernel_rfl) ?_
    refine TS_know 13 (b := false) hb1 (by kernel_rfl) (by kernel_rfl) ?_
    refine TS_go 4 ?_
    replace h := condO h
    rcases h with ⟨hb2, h⟩ | ⟨hb2, h⟩
    · refine TS_know 15 (b := true) hb2 (by kernel_rfl) (by kernel_rfl) ?_
      refine TS_know 16 (b := true) hb2 (by kernel_rfl) (by kernel_rfl) ?_
      refine TS_T (by kernel_rfl) rfl ?_
      refine TS_go 5 ?_
      refine TS_nilT 6 600000 5 1 (by kernel_rfl) ?_
      refine TS_fitU ⟨[(6, []), (7, [])], [(600000, (900000, []))]⟩ (by kernel_rfl) ?_
      refine TS_go 2 ?_
      have ret := Option.some.inj h
      subst ret
      exact TS_ret (by kernel_rfl) (by kernel_rfl) (by kernel_rfl)
    · refine TS_know 15 (b := false) hb2 (by kernel_rfl) (by kernel_rfl) ?_
      refine TS_know 16 (b := false) hb2 (by kernel_rfl) (by kernel_rfl) ?_
      refine TS_F (by kernel_rfl) rfl ?_
      refine TS_go 5 ?_
      replace h := bindO h
      obtain ⟨v3, hv3, h⟩ := h
      refine TS_call [] (ok_siphash_Sum a0 a1 v3 hv3) (by kernel_rfl) (by kernel_rfl) ?_
      refine TS_go 5 ?_
      replace h := bindO h
      obtain ⟨n4, hn4, h⟩ := h
      refine TS_makeR 21 5 1 (ecI .u8) (0 : Int) [] (cs := [.lit (.int .u8 (0))]) (l := a2) (c := a2) hn4 (by kernel_rfl) (by kernel_rfl) (by kernel_rfl) ?_
      refine TS_go 9 ?_
      refine TS_cut ⟨[(8, []), (9, []), (22, []), (23, [])], [(21, (21, []))]⟩ (.mk [.code (codeAt [1, 1, 1, 1, 0, 1, 0] (bodyOf Try.f57)), .blk 0, .code (codeAt [1, 1, 1, 1, 1] (bodyOf Try.f57))] .normal ⟨[(8, .c (.lit (.int .u64 (v3)))), (9, .c (.own 21)), (22, .c (.lit (.int .i64 (a2)))), (23, .c (.lit (.int .i64 (0))))], [(21, .row 5 1 (List.length (List.replicate n4 (0 : Int))) (List.map (ecI .u8) (List.replicate n4 (0 : Int))))]⟩) (by kernel_rfl) (by kernel_rfl) ?_
      replace h := bindO h
      obtain ⟨y7, hl1, hK1⟩ := h
      refine TS_loopB (F_siphash_Tag_l1 a2 v3) ⟨[(8, []), (9, []), (22, []), (23, [])], [(21, (21, []))]⟩ (fun (s5 : Int × (List Int)) => [(23, .c (.lit (.int .i64 (s5.1))))]) (fun (s5 : Int × (List Int)) => [(21, .row 5 1 (List.length s5.2) (List.map (ecI .u8) s5.2))]) (0, (List.replicate n4 (0 : Int))) y7 (.exit 0) (fun (b : (List Int)) => b) ⟨[(9, [])], [(21, (21, []))]⟩ (fun (b6 : (List Int)) => []) (fun (b6 : (List Int)) => [(21, .row 5 1 (List.length b6) (List.map (ecI .u8) b6))]) hl1 (by kernel_rfl) (by kernel_rfl) ?_ ?_
      · intro s5 x h hy1
        unfold F_siphash_Tag_l1 at h
        refine TS_go 5 ?_
        replace h := condO h
        rcases h with ⟨hb8, h⟩ | ⟨hb8, h⟩
        · refine TS_know 24 (b := true) hb8 (by kernel_rfl) (by kernel_rfl) ?_
          refine TS_T (by kernel_rfl) rfl ?_
          refine TS_go 14 ?_
          replace h := chkO h
          obtain ⟨hc9, h⟩ := h
          refine TS_num (op := .shr) (k := .u64) (k' := .i64) (m := v3) (i := IntKind.wrap .i64 (8 * s5.1)) (of_decide_eq_true hc9) rfl (by simp) (by kernel_rfl) (by kernel_rfl) ?_
          refine TS_go 1 ?_
          replace h := bindO h
          obtain ⟨_e10, he10, h⟩ := h
          refine TS_idxR 21 1 0 (ecI .u8) .whole he10 (by kernel_rfl) (by kernel_rfl) ?_
          replace h := bindO h
          obtain ⟨_e11, he11, h⟩ := h
          refine TS_stE 21 5 1 (List.length s5.2) (0 + Int.toNat s5.1) 0 (ecI .u8) (ds := [.lit (.int .u8 (IntKind.wrap .u8 (ishr .u64 v3 (IntKind.wrap .i64 (8 * s5.1)))))]) (IntKind.wrap .u8 (ishr .u64 v3 (IntKind.wrap .i64 (8 * s5.1)))) he11 (by kernel_rfl) (by kernel_rfl) (by kernel_rfl) (by kernel_rfl) ?_
          refine TS_go 6 ?_
          have ret := Option.some.inj h
          subst ret
          exact TS_againB _ ⟨[(8, []), (9, []), (22, []), (23, [])], [(21, (21, []))]⟩ rfl (by kernel_rfl) (by kernel_rfl)
        · refine TS_know 24 (b := false) hb8 (by kernel_rfl) (by kernel_rfl) ?_
          refine TS_F (by kernel_rfl) rfl ?_
          refine TS_go 2 ?_
          have ret := Option.some.inj h
          subst ret
          exact TS_brkB s5.2 ⟨[(9, [])], [(21, (21, []))]⟩ rfl (by kernel_rfl) (by kernel_rfl) (by kernel_rfl)
      · intro b6 hb
        subst y7
        have h := hK1
        refine TS_go 7 ?_
        refine TS_settle 21 (by kernel_rfl) ?_
        refine TS_fitU ⟨[(6, []), (7, [])], [(21, (900000, []))]⟩ (by kernel_rfl) ?_
        refine TS_go 1 ?_
        have ret := Option.some.inj h
        subst ret
        exact TS_ret (by kernel_rfl) (by kernel_rfl) (by kernel_rfl)
/-- bytes.Equal -/
noncomputable def F_bytes_Equal (a0 : List Int) (a1 : List Int) : Option (Bool) :=
  some (((u8L (Cut.app .whole a0)) == (u8L (Cut.app .whole a1))))
set_option maxRecDepth 100000 in
set_option maxHeartbeats 40000000 in
theorem ok_bytes_Equal (a0 : List Int) (a1 : List Int) (r : Bool) (h : F_bytes_Equal a0 a1 = some r) : Con Try.prog 44 [.c (eS 1 (ecI .u8) (a0)), .c (eS 1 (ecI .u8) (a1))] [] (.c (.lit (.bool (r)))) [] := by
  unfold F_bytes_Equal at h
  refine con_of [] [] 10 Try.func44 rfl rfl (by kernel_rfl) (fun K => ?_)
  refine TS_go 7 ?_
  refine TS_b2s a0 .whole (by kernel_rfl) (by kernel_rfl) ?_
  refine TS_go 1 ?_
  refine TS_b2s a1 .whole (by kernel_rfl) (by kernel_rfl) ?_
  refine TS_str .eql (u8L (Cut.app .whole a0)) (u8L (Cut.app .whole a1)) rfl (by kernel_rfl) (by kernel_rfl) ?_
  refine TS_go 3 ?_
  have ret := Option.some.inj h
  subst ret
  exact TS_ret (by kernel_rfl) (by kernel_rfl) (by kernel_rfl)

/-- multihop/siphash.Verify -/
noncomputable def F_siphash_Verify (a0 : List Int) (a1 : List Int) (a2 : List Int) : Option (Bool) :=
  (F_siphash_Tag a0 a1 (List.length a2 : Int)).bind fun v1 =>
  bif v1.2 then
    (F_bytes_Equal v1.1 a2).bind fun v3 =>
    some (v3)
  else
    some (false)
set_option maxRecDepth 100000 in
set_option maxHeartbeats 40000000 in
theorem ok_siphash_Verify (a0 : List Int) (a1 : List Int) (a2 : List Int) (r : Bool) (h : F_siphash_Verify a0 a1 a2 = some r) : Con Try.prog 39 [.agg (arrS .u8 16 a0), .c (eS 1 (ecI .u8) (a1)), .c (eS 1 (ecI .u8) (a2))] [] (.c (.lit (.bool (r)))) [] := by
  unfold F_siphash_Verify at h
  refine con_of [] [] 23 Try.func39 rfl rfl (by kernel_rfl) (fun K => ?_)
  refine TS_go 11 ?_
  replace h := bindO h
  obtain ⟨v1, hv1, h⟩ := h
  refine TS_con [] [(14, 900000)] none (okT_siphash_Tag a0 a1 (List.length a2 : Int) v1 hv1) (by kernel_rfl) (by kernel_rfl) (by kernel_rfl) ?_
  refine TS_go 10 ?_
  replace h := condO h
  rcases h with ⟨hb2, h⟩ | ⟨hb2, h⟩
  · refine TS_know 16 (b := true) hb2 (by kernel_rfl) (by kernel_rfl) ?_
    refine TS_know 8 (b := true) hb2 (by kernel_rfl) (by kernel_rfl) ?_
    refine TS_know 17 (b := true) hb2 (by kernel_rfl) (by kernel_rfl) ?_
    refine TS_know 18 (b := true) hb2 (by kernel_rfl) (by kernel_rfl) ?_
    refine TS_go 2 ?_
    replace h := bindO h
    obtain ⟨v3, hv3, h⟩ := h
    refine TS_call [[2]] (ok_bytes_Equal v1.1 a2 v3 hv3) (by kernel_rfl) (by kernel_rfl) ?_
    refine TS_go 4 ?_
    have ret := Option.some.inj h
    subst ret
    exact TS_ret (by kernel_rfl) (by kernel_rfl) (by kernel_rfl)
  · refine TS_know 16 (b := false) hb2 (by kernel_rfl) (by kernel_rfl) ?_
    refine TS_know 8 (b := false) hb2 (by kernel_rfl) (by kernel_rfl) ?_
    refine TS_know 17 (b := false) hb2 (by kernel_rfl) (by kernel_rfl) ?_
    refine TS_know 18 (b := false) hb2 (by kernel_rfl) (by kernel_rfl) ?_
    refine TS_go 7 ?_
    have ret := Option.some.inj h
    subst ret
    exact TS_ret (by kernel_rfl) (by kernel_rfl) (by kernel_rfl)

/-- multihop/guard.clone[multihop/api.LinkKey] -/
noncomputable def F_guard_clone_api_LinkKey (a0 : List S_LinkKey) : Option ((List S_LinkKey)) :=
  (appO 17 ([] : List S_LinkKey) (Cut.app .whole a0)).bind fun l1 =>
  some (l1)
set_option maxRecDepth 100000 in
set_option maxHeartbeats 40000000 in
theorem okT_guard_clone_api_LinkKey (a0 : List S_LinkKey) (r : (List S_LinkKey)) (h : F_guard_clone_api_LinkKey a0 = some r) : Con Try.prog 61 [.c (eS 17 S_LinkKey.cs (a0))] [] (.c (.slc 17 900002 (List.length r) (List.map S_LinkKey.cs r))) [(900000, .spare 69 17 (List.length r))] := by
  unfold F_guard_clone_api_LinkKey at h
  refine con_of [] [(900000, [])] 5 Try.func61 rfl rfl (by kernel_rfl) (fun K => ?_)
  refine TS_go 7 ?_
  replace h := bindO h
  obtain ⟨_l1, hl1, h⟩ := h
  refine TS_appNT 4 69 17 S_LinkKey.cs (fun _ => by kernel_rfl) (l2 := a0) .whole hl1 (by kernel_rfl) (by kernel_rfl) ?_
  refine TS_go 2 ?_
  refine TS_fitU ⟨[(2, [])], [(4, (900000, []))]⟩ (by kernel_rfl) ?_
  refine TS_go 1 ?_
  have ret := Option.some.inj h
  subst ret
  exact TS_ret (by kernel_rfl) (by kernel_rfl) (by kernel_rfl)
/-- multihop/guard.clone[multihop/api.Peer] -/
noncomputable def F_guard_clone_api_Peer (a0 : List S_Peer) : Option ((List S_Peer)) :=
  (appO 40 ([] : List S_Peer) (Cut.app .whole a0)).bind fun l1 =>
  some (l1)
set_option maxRecDepth 100000 in
set_option maxHeartbeats 40000000 in
theorem okT_guard_clone_api_Peer (a0 : List S_Peer) (r : (List S_Peer)) (h : F_guard_clone_api_Peer a0 = some r) : Con Try.prog 74 [.c (eS 6 S_Peer.cs (a0))] [] (.c (.slc 6 900002 (List.length r) (List.map S_Peer.cs r))) [(900000, .spare 79 6 (List.length r))] := by
  unfold F_guard_clone_api_Peer at h
  refine con_of [] [(900000, [])] 5 Try.func74 rfl rfl (by kernel_rfl) (fun K => ?_)
  refine TS_go 7 ?_
  replace h := bindO h
  obtain ⟨_l1, hl1, h⟩ := h
  refine TS_appNT 4 79 6 S_Peer.cs (fun _ => by kernel_rfl) (l2 := a0) .whole hl1 (by kernel_rfl) (by kernel_rfl) ?_
  refine TS_go 2 ?_
  refine TS_fitU ⟨[(2, [])], [(4, (900000, []))]⟩ (by kernel_rfl) ?_
  refine TS_go 1 ?_
  have ret := Option.some.inj h
  subst ret
  exact TS_ret (by kernel_rfl) (by kernel_rfl) (by kernel_rfl)
/-- multihop/guard.own -/
noncomputable def F_guard_own (a0 : S_Guard) : Option (S_Guard) :=
  (F_guard_clone_api_LinkKey a0.Keys).bind fun v1 =>
  (F_guard_clone_api_Peer a0.Peers).bind fun v2 =>
  some ((S_Guard.mk v1 a0.Counter a0.Reserved a0.Nonce v2))
set_option maxRecDepth 100000 in
set_option maxHeartbeats 40000000 in
theorem okT_guard_own (a0 : S_Guard) (r : S_Guard) (h : F_guard_own a0 = some r) : Con Try.prog 42 [.agg (S_Guard.cs a0)] [] (.agg [.slc 17 900002 (List.length r.Keys) (List.map S_LinkKey.cs r.Keys), .lit (.int .u32 (r.Counter)), .lit (.int .u32 (r.Reserved)), .lit (.int .u32 (r.Nonce)), .slc 6 900006 (List.length r.Peers) (List.map S_Peer.cs r.Peers)]) [(900000, .spare 69 17 (List.length r.Keys)), (900004, .spare 79 6 (List.length r.Peers))] := by
  unfold F_guard_own at h
  refine con_of [] [(900000, []), (900004, [])] 12 Try.func42 rfl rfl (by kernel_rfl) (fun K => ?_)
  refine TS_go 9 ?_
  replace h := bindO h
  obtain ⟨v1, hv1, h⟩ := h
  refine TS_con [] [(5, 900000)] none (okT_guard_clone_api_LinkKey a0.Keys v1 hv1) (by kernel_rfl) (by kernel_rfl) (by kernel_rfl) ?_
  refine TS_go 7 ?_
  replace h := bindO h
  obtain ⟨v2, hv2, h⟩ := h
  refine TS_con [] [(9, 900000)] none (okT_guard_clone_api_Peer a0.Peers v2 hv2) (by kernel_rfl) (by kernel_rfl) (by kernel_rfl) ?_
  refine TS_go 8 ?_
  refine TS_fitU ⟨[(2, [])], [(5, (900000, [])), (9, (900004, [])), (2, (2, []))]⟩ (by kernel_rfl) ?_
  refine TS_go 1 ?_
  have ret := Option.some.inj h
  subst ret
  exact TS_ret (by kernel_rfl) (by kernel_rfl) (by kernel_rfl)
/-- multihop/guard.accept -/
noncomputable def F_guard_accept (a0 : S_Peer) (a1 : Int) : Option (S_Peer × Int) :=
  bif (decide (a1 > a0.Last)) then
    bif decide (0 ≤ (IntKind.wrap .u32 (a1 - a0.Last))) then
      some (((S_Peer.mk a0.Src a0.Key a1 (ior .u32 (ishl .u32 a0.Window (IntKind.wrap .u32 (a1 - a0.Last))) 1)), 0))
    else none
  else
    bif (decide ((IntKind.wrap .u32 (a0.Last - a1)) ≥ 32)) then
      some (((S_Peer.mk (S_Addr.mk 0 0 0) 0 0 0), 13))
    else
      bif decide (0 ≤ (IntKind.wrap .u32 (a0.Last - a1))) then
        bif ((iand .u32 (ishr .u32 a0.Window (IntKind.wrap .u32 (a0.Last - a1))) 1) == 1) then
          some (((S_Peer.mk (S_Addr.mk 0 0 0) 0 0 0), 13))
        else
          bif decide (0 ≤ (IntKind.wrap .u32 (a0.Last - a1))) then
            some (((S_Peer.mk a0.Src a0.Key a0.Last (ior .u32 a0.Window (ishl .u32 1 (IntKind.wrap .u32 (a0.Last - a1))))), 0))
          else none
      else none
set_option maxRecDepth 100000 in
set_option maxHeartbeats 40000000 in
theorem ok_guard_accept (a0 : S_Peer) (a1 : Int) (r : S_Peer × Int) (h : F_guard_accept a0 a1 = some r) : Con Try.prog 43 [.agg (S_Peer.cs a0), .c (.lit (.int .u32 (a1)))] [] (.tup [(true, S_Peer.cs r.1), (false, [.lit (.int .i64 (r.2))])]) [] := by
  unfold F_guard_accept at h
  refine con_of [] [] 45 Try.func43 rfl rfl (by kernel_rfl) (fun K => ?_)
  refine TS_go 14 ?_
  replace h := condO h
  rcases h with ⟨hb1, h⟩ | ⟨hb1, h⟩
  · refine TS_know 10 (b := true) hb1 (by kernel_rfl) (by kernel_rfl) ?_
    refine TS_T (by kernel_rfl) rfl ?_
    refine TS_go 8 ?_
    replace h := chkO h
    obtain ⟨hc2, h⟩ := h
    refine TS_num (op := .shl) (k := .u32) (k' := .u32) (m := a0.Window) (i := IntKind.wrap .u32 (a1 - a0.Last)) (of_decide_eq_true hc2) rfl (by simp) (by kernel_rfl) (by kernel_rfl) ?_
    refine TS_go 18 ?_
    have ret := Option.some.inj h
    subst ret
    exact TS_ret (by kernel_rfl) (by kernel_rfl) (by kernel_rfl)
  · refine TS_know 10 (b := false) hb1 (by kernel_rfl) (by kernel_rfl) ?_
    refine TS_F (by kernel_rfl) rfl ?_
    refine TS_go 15 ?_
    replace h := condO h
    rcases h with ⟨hb3, h⟩ | ⟨hb3, h⟩
    · refine TS_know 28 (b := true) hb3 (by kernel_rfl) (by kernel_rfl) ?_
      refine TS_know 29 (b := true) hb3 (by kernel_rfl) (by kernel_rfl) ?_
      refine TS_go 8 ?_
      refine TS_T (by kernel_rfl) rfl ?_
      refine TS_go 8 ?_
      have ret := Option.some.inj h
      subst ret
      exact TS_ret (by kernel_rfl) (by kernel_rfl) (by kernel_rfl)
    · refine TS_know 28 (b := false) hb3 (by kernel_rfl) (by kernel_rfl) ?_
      refine TS_know 29 (b := false) hb3 (by kernel_rfl) (by kernel_rfl) ?_
      refine TS_go 3 ?_
      replace h := chkO h
      obtain ⟨hc4, h⟩ := h
      refine TS_num (op := .shr) (k := .u32) (k' := .u32) (m := a0.Window) (i := IntKind.wrap .u32 (a0.Last - a1)) (of_decide_eq_true hc4) rfl (by simp) (by kernel_rfl) (by kernel_rfl) ?_
      refine TS_go 4 ?_
      replace h := condO h
      rcases h with ⟨hb5, h⟩ | ⟨hb5, h⟩
      · refine TS_know 35 (b := true) hb5 (by kernel_rfl) (by kernel_rfl) ?_
        refine TS_know 36 (b := true) hb5 (by kernel_rfl) (by kernel_rfl) ?_
        refine TS_T (by kernel_rfl) rfl ?_
        refine TS_go 8 ?_
        have ret := Option.some.inj h
        subst ret
        exact TS_ret (by kernel_rfl) (by kernel_rfl) (by kernel_rfl)
      · refine TS_know 35 (b := false) hb5 (by kernel_rfl) (by kernel_rfl) ?_
        refine TS_know 36 (b := false) hb5 (by kernel_rfl) (by kernel_rfl) ?_
        refine TS_F (by kernel_rfl) rfl ?_
        refine TS_go 6 ?_
        replace h := chkO h
        obtain ⟨hc6, h⟩ := h
        refine TS_num (op := .shl) (k := .u32) (k' := .u32) (m := 1) (i := IntKind.wrap .u32 (a0.Last - a1)) (of_decide_eq_true hc6) rfl (by simp) (by kernel_rfl) (by kernel_rfl) ?_
        refine TS_go 11 ?_
        have ret := Option.some.inj h
        subst ret
        exact TS_ret (by kernel_rfl) (by kernel_rfl) (by kernel_rfl)

/-- multihop/guard.clone[multihop/api.LinkKey] -/
noncomputable def F_guard_clone_api_LinkKey_R (a0 : List S_LinkKey) : Option ((List S_LinkKey)) :=
  (appO 17 ([] : List S_LinkKey) (Cut.app .whole a0)).bind fun l1 =>
  some (l1)
set_option maxRecDepth 100000 in
set_option maxHeartbeats 40000000 in
theorem okT_guard_clone_api_LinkKey_R (a0 : List S_LinkKey) (r : (List S_LinkKey)) (h : F_guard_clone_api_LinkKey_R a0 = some r) : Con Try.prog 61 [.c (eS 17 S_LinkKey.cs (a0))] [] (.c (.own 900000)) [(900000, .row 69 17 (List.length r) (List.map S_LinkKey.cs r))] := by
  unfold F_guard_clone_api_LinkKey_R at h
  refine con_of [] [(900000, [])] 5 Try.func61 rfl rfl (by kernel_rfl) (fun K => ?_)
  refine TS_go 7 ?_
  replace h := bindO h
  obtain ⟨_l1, hl1, h⟩ := h
  refine TS_appNR 4 69 17 S_LinkKey.cs (fun _ => by kernel_rfl) (l2 := a0) .whole hl1 (by kernel_rfl) (by kernel_rfl) ?_
  refine TS_go 2 ?_
  refine TS_fitU ⟨[(2, [])], [(4, (900000, []))]⟩ (by kernel_rfl) ?_
  refine TS_go 1 ?_
  have ret := Option.some.inj h
  subst ret
  exact TS_ret (by kernel_rfl) (by kernel_rfl) (by kernel_rfl)

/-- multihop/guard.clone[multihop/api.Peer] -/
noncomputable def F_guard_clone_api_Peer_R (a0 : List S_Peer) : Option ((List S_Peer)) :=
  (appO 40 ([] : List S_Peer) (Cut.app .whole a0)).bind fun l1 =>
  some (l1)
set_option maxRecDepth 100000 in
set_option maxHeartbeats 40000000 in
theorem okT_guard_clone_api_Peer_R (a0 : List S_Peer) (r : (List S_Peer)) (h : F_guard_clone_api_Peer_R a0 = some r) : Con Try.prog 74 [.c (eS 6 S_Peer.cs (a0))] [] (.c (.own 900000)) [(900000, .row 79 6 (List.length r) (List.map S_Peer.cs r))] := by
  unfold F_guard_clone_api_Peer_R at h
  refine con_of [] [(900000, [])] 5 Try.func74 rfl rfl (by kernel_rfl) (fun K => ?_)
  refine TS_go 7 ?_
  replace h := bindO h
  obtain ⟨_l1, hl1, h⟩ := h
  refine TS_appNR 4 79 6 S_Peer.cs (fun _ => by kernel_rfl) (l2 := a0) .whole hl1 (by kernel_rfl) (by kernel_rfl) ?_
  refine TS_go 2 ?_
  refine TS_fitU ⟨[(2, [])], [(4, (900000, []))]⟩ (by kernel_rfl) ?_
  refine TS_go 1 ?_
  have ret := Option.some.inj h
  subst ret
  exact TS_ret (by kernel_rfl) (by kernel_rfl) (by kernel_rfl)

/-- multihop/guard.own -/
noncomputable def F_guard_own_R (a0 : S_Guard) : Option (S_Guard) :=
  (F_guard_clone_api_LinkKey_R a0.Keys).bind fun v1 =>
  (F_guard_clone_api_Peer_R a0.Peers).bind fun v2 =>
  some ((S_Guard.mk v1 a0.Counter a0.Reserved a0.Nonce v2))
set_option maxRecDepth 100000 in
set_option maxHeartbeats 40000000 in
theorem okT_guard_own_R (a0 : S_Guard) (r : S_Guard) (h : F_guard_own_R a0 = some r) : Con Try.prog 42 [.agg (S_Guard.cs a0)] [] (.agg [.own 900000, .lit (.int .u32 (r.Counter)), .lit (.int .u32 (r.Reserved)), .lit (.int .u32 (r.Nonce)), .own 900004]) [(900000, .row 69 17 (List.length r.Keys) (List.map S_LinkKey.cs r.Keys)), (900004, .row 79 6 (List.length r.Peers) (List.map S_Peer.cs r.Peers))] := by
  unfold F_guard_own_R at h
  refine con_of [] [(900000, []), (900004, [])] 12 Try.func42 rfl rfl (by kernel_rfl) (fun K => ?_)
  refine TS_go 9 ?_
  replace h := bindO h
  obtain ⟨v1, hv1, h⟩ := h
  refine TS_con [] [(5, 900000)] none (okT_guard_clone_api_LinkKey_R a0.Keys v1 hv1) (by kernel_rfl) (by kernel_rfl) (by kernel_rfl) ?_
  refine TS_go 7 ?_
  replace h := bindO h
  obtain ⟨v2, hv2, h⟩ := h
  refine TS_con [] [(9, 900000)] none (okT_guard_clone_api_Peer_R a0.Peers v2 hv2) (by kernel_rfl) (by kernel_rfl) (by kernel_rfl) ?_
  refine TS_go 8 ?_
  refine TS_fitU ⟨[(2, [])], [(5, (900000, [])), (9, (900004, [])), (2, (2, []))]⟩ (by kernel_rfl) ?_
  refine TS_go 1 ?_
  have ret := Option.some.inj h
  subst ret
  exact TS_ret (by kernel_rfl) (by kernel_rfl) (by kernel_rfl)

/-- multihop/guard.message -/
noncomputable def F_guard_message (a0 : Int) (a1 : Int) : Option ((List Int)) :=
  (F_octets_Append ([a0] : List Int) (IntKind.wrap .u64 a1) 4).bind fun v1 =>
  some (v1)
set_option maxRecDepth 100000 in
set_option maxHeartbeats 40000000 in
theorem okT_guard_message (a0 : Int) (a1 : Int) (r : (List Int)) (h : F_guard_message a0 a1 = some r) : Con Try.prog 45 [.c (.lit (.int .u8 (a0))), .c (.lit (.int .u32 (a1)))] [] (.c (.slc 1 900002 (List.length r) (List.map (ecI .u8) r))) [(900000, .spare 5 1 (List.length r))] := by
  unfold F_guard_message at h
  refine con_of [] [(900000, [])] 10 Try.func45 rfl rfl (by kernel_rfl) (fun K => ?_)
  refine TS_go 7 ?_
  refine TS_litNT 6 5 1 (ecI .u8) [] ([a0] : List Int) (by kernel_rfl) (by kernel_rfl) ?_
  refine TS_go 2 ?_
  replace h := bindO h
  obtain ⟨v1, hv1, h⟩ := h
  refine TS_con [[2]] [(9, 900000)] none (okT_octets_Append ([a0] : List Int) (IntKind.wrap .u64 a1) 4 v1 hv1) (by kernel_rfl) (by kernel_rfl) (by kernel_rfl) ?_
  refine TS_go 2 ?_
  refine TS_fitU ⟨[(4, [])], [(9, (900000, []))]⟩ (by kernel_rfl) ?_
  refine TS_go 1 ?_
  have ret := Option.some.inj h
  subst ret
  exact TS_ret (by kernel_rfl) (by kernel_rfl) (by kernel_rfl)
/-- multihop/guard.Open -/
noncomputable def F_guard_Open_l1 (a0 : S_Guard) (a1 : S_Frame) (s11 : Int) : Option ((Int) ⊕ (Int)) :=
  bif (decide (s11 < (List.length a0.Peers : Int))) then
    (idx a0.Peers s11).bind fun e15 =>
    (F_guard_comparePeers e15 (S_Peer.mk a1.Src a1.Key a1.Counter 4294967295)).bind fun v16 =>
    bif (decide (v16 < 0)) then
      some (Sum.inl (IntKind.wrap .i64 (s11 + 1)))
    else
      some (Sum.inr s11)
  else
    some (Sum.inr s11)
noncomputable def F_guard_Open (a0 : S_Guard) (a1 : S_Frame) : Option (S_Guard × Int) :=
  (F_guard_Valid a0).bind fun v1 =>
  bif v1 then
    (F_frame_Valid a1).bind fun v3 =>
    bif v3 then
      bif a1.Secure then
        (F_guard_keyOf a0 a1.Key).bind fun v6 =>
        bif v6.2 then
          (F_frame_Header a1).bind fun v8 =>
          (F_siphash_Verify v6.1 v8 a1.MIC).bind fun v9 =>
          bif v9 then
            (loopO (F_guard_Open_l1 a0 a1) 0).bind fun b12 =>
            (F_guard_own_R a0).bind fun v19 =>
            bif (decide (b12 < (List.length a0.Peers : Int))) then
              (idx a0.Peers b12).bind fun e21 =>
              bif (S_Addr.eqb e21.Src a1.Src) then
                (idx a0.Peers b12).bind fun e23 =>
                bif (e23.Key == a1.Key) then
                  (idx a0.Peers b12).bind fun e25 =>
                  (F_guard_accept e25 a1.Counter).bind fun v26 =>
                  bif (v26.2 != 0) then
                    some (((S_Guard.mk ([] : List S_LinkKey) 0 0 0 ([] : List S_Peer)), v26.2))
                  else
                    (idx (Cut.app .whole v19.Peers) b12).bind fun _e28 =>
                    (v19.Peers[(0 + Int.toNat b12)]?).bind fun _e29 =>
                    some (((S_Guard.mk v19.Keys v19.Counter v19.Reserved v19.Nonce (List.set v19.Peers (0 + Int.toNat b12) v26.1)), 0))
                else
                  bif (a1.Kind != 3) then
                    some (((S_Guard.mk ([] : List S_LinkKey) 0 0 0 ([] : List S_Peer)), 11))
                  else
                    (F_guard_message 2 a0.Nonce).bind fun v31 =>
                    (F_bytes_Equal a1.Payload v31).bind fun v32 =>
                    bif v32 then
                      bif ((List.length a0.Peers : Int) == 16) then
                        some (((S_Guard.mk ([] : List S_LinkKey) 0 0 0 ([] : List S_Peer)), 10))
                      else
                        bif decide ((0 : Int) ≤ 0 ∧ 0 ≤ b12 ∧ b12 ≤ (List.length v19.Peers : Int)) then
                          (appO 40 (List.take (Int.toNat b12) v19.Peers) (Cut.app .whole ([(S_Peer.mk a1.Src a1.Key a1.Counter 4294967295)] : List S_Peer))).bind fun l36 =>
                          (subO a0.Peers b12 (List.length a0.Peers : Int)).bind fun l37 =>
                          (appO 40 (List.take (List.length l36) l36) (Cut.app .whole l37)).bind fun l38 =>
                          some (((S_Guard.mk v19.Keys v19.Counter v19.Reserved v19.Nonce l38), 0))
                        else none
                    else
                      some (((S_Guard.mk ([] : List S_LinkKey) 0 0 0 ([] : List S_Peer)), 11))
              else
                bif (a1.Kind != 3) then
                  some (((S_Guard.mk ([] : List S_LinkKey) 0 0 0 ([] : List S_Peer)), 11))
                else
                  (F_guard_message 2 a0.Nonce).bind fun v40 =>
                  (F_bytes_Equal a1.Payload v40).bind fun v41 =>
                  bif v41 then
                    bif ((List.length a0.Peers : Int) == 16) then
                      some (((S_Guard.mk ([] : List S_LinkKey) 0 0 0 ([] : List S_Peer)), 10))
                    else
                      bif decide ((0 : Int) ≤ 0 ∧ 0 ≤ b12 ∧ b12 ≤ (List.length v19.Peers : Int)) then
                        (appO 40 (List.take (Int.toNat b12) v19.Peers) (Cut.app .whole ([(S_Peer.mk a1.Src a1.Key a1.Counter 4294967295)] : List S_Peer))).bind fun l45 =>
                        (subO a0.Peers b12 (List.length a0.Peers : Int)).bind fun l46 =>
                        (appO 40 (List.take (List.length l45) l45) (Cut.app .whole l46)).bind fun l47 =>
                        some (((S_Guard.mk v19.Keys v19.Counter v19.Reserved v19.Nonce l47), 0))
                      else none
                  else
                    some (((S_Guard.mk ([] : List S_LinkKey) 0 0 0 ([] : List S_Peer)), 11))
            else
              bif (a1.Kind != 3) then
                some (((S_Guard.mk ([] : List S_LinkKey) 0 0 0 ([] : List S_Peer)), 11))
              else
                (F_guard_message 2 a0.Nonce).bind fun v49 =>
                (F_bytes_Equal a1.Payload v49).bind fun v50 =>
                bif v50 then
                  bif ((List.length a0.Peers : Int) == 16) then
                    some (((S_Guard.mk ([] : List S_LinkKey) 0 0 0 ([] : List S_Peer)), 10))
                  else
                    bif decide ((0 : Int) ≤ 0 ∧ 0 ≤ b12 ∧ b12 ≤ (List.length v19.Peers : Int)) then
                      (appO 40 (List.take (Int.toNat b12) v19.Peers) (Cut.app .whole ([(S_Peer.mk a1.Src a1.Key a1.Counter 4294967295)] : List S_Peer))).bind fun l54 =>
                      (subO a0.Peers b12 (List.length a0.Peers : Int)).bind fun l55 =>
                      (appO 40 (List.take (List.length l54) l54) (Cut.app .whole l55)).bind fun l56 =>
                      some (((S_Guard.mk v19.Keys v19.Counter v19.Reserved v19.Nonce l56), 0))
                    else none
                else
                  some (((S_Guard.mk ([] : List S_LinkKey) 0 0 0 ([] : List S_Peer)), 11))
          else
            some (((S_Guard.mk ([] : List S_LinkKey) 0 0 0 ([] : List S_Peer)), 12))
        else
          some (((S_Guard.mk ([] : List S_LinkKey) 0 0 0 ([] : List S_Peer)), 9))
      else
        some (((S_Guard.mk ([] : List S_LinkKey) 0 0 0 ([] : List S_Peer)), 1))
    else
      some (((S_Guard.mk ([] : List S_LinkKey) 0 0 0 ([] : List S_Peer)), 1))
  else
    some (((S_Guard.mk ([] : List S_LinkKey) 0 0 0 ([] : List S_Peer)), 1))
set_option maxRecDepth 100000 in
set_option maxHeartbeats 40000000 in
theorem okT_guard_Open (a0 : S_Guard) (a1 : S_Frame) (r : S_Guard × Int) (h : F_guard_Open a0 a1 = some r) : Con Try.prog 14 [.agg (S_Guard.cs a0), .agg (S_Frame.cs a1)] [] (.tup [(true, [.slc 17 900002 (List.length r.1.Keys) (List.map S_LinkKey.cs r.1.Keys), .lit (.int .u32 (r.1.Counter)), .lit (.int .u32 (r.1.Reserved)), .lit (.int .u32 (r.1.Nonce)), .slc 6 900006 (List.length r.1.Peers) (List.map S_Peer.cs r.1.Peers)]), (false, [.lit (.int .i64 (r.2))])]) [(900000, .spare 69 17 (List.length r.1.Keys)), (900004, .spare 79 6 (List.length r.1.Peers))] := by
  unfold F_guard_Open at h
  refine con_of [] [(900000, []), (900004, [])] 154 Try.func14 rfl rfl (by kernel_rfl) (fun K => ?_)
  refine TS_go 11 ?_
  replace h := bindO h
  obtain ⟨v1, hv1, h⟩ := h
  refine TS_call [] (ok_guard_Valid a0 v1 hv1) (by kernel_rfl) (by kernel_rfl) ?_
  refine TS_go 2 ?_
  replace h := condO h
  rcases h with ⟨hb2, h⟩ | ⟨hb2, h⟩
  · subst hb2
    refine TS_go 1 ?_
    replace h := bindO h
    obtain ⟨v3, hv3, h⟩ := h
    refine TS_call [] (ok_frame_Valid a1 v3 hv3) (by kernel_rfl) (by kernel_rfl) ?_
    refine TS_go 3 ?_
    replace h := condO h
    rcases h with ⟨hb4, h⟩ | ⟨hb4, h⟩
    · subst hb4
      refine TS_go 5 ?_
      replace h := condO h
      rcases h with ⟨hb5, h⟩ | ⟨hb5, h⟩
      · refine TS_know 23 (b := true) hb5 (by kernel_rfl) (by kernel_rfl) ?_
        refine TS_know 24 (b := false) (notF hb5) (by kernel_rfl) (by kernel_rfl) ?_
        refine TS_know 25 (b := false) (notF hb5) (by kernel_rfl) (by kernel_rfl) ?_
        refine TS_F (by kernel_rfl) rfl ?_
        refine TS_go 6 ?_
        replace h := bindO h
        obtain ⟨v6, hv6, h⟩ := h
        refine TS_call [] (ok_guard_keyOf a0 a1.Key v6 hv6) (by kernel_rfl) (by kernel_rfl) ?_
        refine TS_go 13 ?_
        replace h := condO h
        rcases h with ⟨hb7, h⟩ | ⟨hb7, h⟩
        · refine TS_know 33 (b := true) hb7 (by kernel_rfl) (by kernel_rfl) ?_
          refine TS_know 7 (b := true) hb7 (by kernel_rfl) (by kernel_rfl) ?_
          refine TS_know 34 (b := true) hb7 (by kernel_rfl) (by kernel_rfl) ?_
          refine TS_know 35 (b := false) (notF hb7) (by kernel_rfl) (by kernel_rfl) ?_
          refine TS_F (by kernel_rfl) rfl ?_
          refine TS_go 3 ?_
          refine TS_draw (by kernel_rfl) ?_
          refine TD_go 2 ?_
          replace h := bindO h
          obtain ⟨v8, hv8, h⟩ := h
          refine TD_conX (d := 39) (e := 900000) [] (okT_frame_Header a1 v8 hv8) (by kernel_rfl) (by kernel_rfl) ?_
          refine TD_go 2 ?_
          replace h := bindO h
          obtain ⟨v9, hv9, h⟩ := h
          refine TD_call [[], [2]] (ok_siphash_Verify v6.1 v8 a1.MIC v9 hv9) (by kernel_rfl) (by kernel_rfl) ?_
          refine TD_go 1 ?_
          refine TD_end (by kernel_rfl) ?_
          replace h := condO h
          rcases h with ⟨hb10, h⟩ | ⟨hb10, h⟩
          · subst hb10
            refine TS_F (by kernel_rfl) rfl ?_
            refine TS_go 19 ?_
            refine TS_cut ⟨[(2, []), (3, []), (4, []), (8, []), (9, [])], [(2, (2, [])), (3, (3, [])), (4, (4, [])), (8, (8, []))]⟩ (.mk [.code (codeAt [1, 1, 1, 1, 1, 1, 1, 0, 0] (bodyOf Try.f14)), .blk 0, .code (codeAt [1, 1, 1, 1, 1, 1, 1, 1] (bodyOf Try.f14))] .normal ⟨[(2, .c (.box 2 0)), (3, .c (.box 3 0)), (4, .c (.box 4 0)), (8, .c (.box 8 0)), (9, .c (.lit (.int .i64 (0))))], [(2, .box [.slc 17 0 (List.length a0.Keys) (List.map S_LinkKey.cs a0.Keys), .lit (.int .u32 (a0.Counter)), .lit (.int .u32 (a0.Reserved)), .lit (.int .u32 (a0.Nonce)), .slc 6 0 (List.length a0.Peers) (List.map S_Peer.cs a0.Peers)]), (3, .box [.lit (.int .i64 (a1.Kind)), .lit (.bool (a1.AckRequest)), .lit (.bool (a1.Pending)), .lit (.bool (a1.Secure)), .lit (.int .u8 (a1.Seq)), .lit (.int .u16 (a1.Pan)), .lit (.int .i64 (a1.Dst.Mode)), .lit (.int .u16 (a1.Dst.Short)), .lit (.int .u64 (a1.Dst.EUI)), .lit (.int .i64 (a1.Src.Mode)), .lit (.int .u16 (a1.Src.Short)), .lit (.int .u64 (a1.Src.EUI)), .lit (.int .u32 (a1.Counter)), .lit (.int .u8 (a1.Key)), .slc 1 0 (List.length a1.Payload) (List.map (ecI .u8) a1.Payload), .slc 1 0 (List.length a1.MIC) (List.map (ecI .u8) a1.MIC)]), (4, .box [.lit (.slice none 0 0), .lit (.int .u32 (0)), .lit (.int .u32 (0)), .lit (.int .u32 (0)), .lit (.slice none 0 0)]), (8, .box [.lit (.int .i64 (a1.Src.Mode)), .lit (.int .u16 (a1.Src.Short)), .lit (.int .u64 (a1.Src.EUI)), .lit (.int .u8 (a1.Key)), .lit (.int .u32 (a1.Counter)), .lit (.int .u32 (4294967295))])]⟩) (by kernel_rfl) (by kernel_rfl) ?_
            replace h := bindO h
            obtain ⟨y13, hl1, hK1⟩ := h
            refine TS_loopB (F_guard_Open_l1 a0 a1) ⟨[(2, []), (3, []), (4, []), (8, []), (9, [])], [(2, (2, [])), (3, (3, [])), (4, (4, [])), (8, (8, []))]⟩ (fun (s11 : Int) => [(9, .c (.lit (.int .i64 (s11))))]) (fun (s11 : Int) => []) 0 y13 (.exit 0) (fun (b : Int) => b) ⟨[(2, []), (3, []), (4, []), (8, []), (9, [])], [(2, (2, [])), (3, (3, [])), (4, (4, [])), (8, (8, []))]⟩ (fun (b12 : Int) => [(9, .c (.lit (.int .i64 (b12))))]) (fun (b12 : Int) => []) hl1 (by kernel_rfl) (by kernel_rfl) ?_ ?_
            · intro s11 x h hy1
              unfold F_guard_Open_l1 at h
              refine TS_go 2 ?_
              refine TS_draw (by kernel_rfl) ?_
              refine TD_go 5 ?_
              replace h := condO h
              rcases h with ⟨hb14, h⟩ | ⟨hb14, h⟩
              · refine TD_know 57 (b := true) hb14 trivial (by kernel_rfl) (by kernel_rfl) ?_
                refine TD_go 3 ?_
                replace h := bindO h
                obtain ⟨e15, he15, h⟩ := h
                refine TD_idx S_Peer.cs he15 (by kernel_rfl) (by kernel_rfl) ?_
                refine TD_go 2 ?_
                replace h := bindO h
                obtain ⟨v16, hv16, h⟩ := h
                refine TD_call [] (ok_guard_comparePeers e15 (S_Peer.mk a1.Src a1.Key a1.Counter 4294967295) v16 hv16) (by kernel_rfl) (by kernel_rfl) ?_
                refine TD_go 2 ?_
                refine TD_end (by kernel_rfl) ?_
                replace h := condO h
                rcases h with ⟨hb17, h⟩ | ⟨hb17, h⟩
                · refine TS_know 56 (b := true) hb14 (by kernel_rfl) (by kernel_rfl) ?_
                  refine TS_know 65 (b := true) hb17 (by kernel_rfl) (by kernel_rfl) ?_
                  refine TS_know 66 (b := true) hb17 (by kernel_rfl) (by kernel_rfl) ?_
                  refine TS_T (by kernel_rfl) rfl ?_
                  refine TS_go 8 ?_
                  have ret := Option.some.inj h
                  subst ret
                  exact TS_againB _ ⟨[(2, []), (3, []), (4, []), (8, []), (9, [])], [(2, (2, [])), (3, (3, [])), (4, (4, [])), (8, (8, []))]⟩ rfl (by kernel_rfl) (by kernel_rfl)
                · refine TS_know 56 (b := true) hb14 (by kernel_rfl) (by kernel_rfl) ?_
                  refine TS_know 65 (b := false) hb17 (by kernel_rfl) (by kernel_rfl) ?_
                  refine TS_know 66 (b := false) hb17 (by kernel_rfl) (by kernel_rfl) ?_
                  refine TS_F (by kernel_rfl) rfl ?_
                  refine TS_go 2 ?_
                  have ret := Option.some.inj h
                  subst ret
                  exact TS_brkB s11 ⟨[(2, []), (3, []), (4, []), (8, []), (9, [])], [(2, (2, [])), (3, (3, [])), (4, (4, [])), (8, (8, []))]⟩ rfl (by kernel_rfl) (by kernel_rfl) (by kernel_rfl)
              · refine TD_know 57 (b := false) hb14 trivial (by kernel_rfl) (by kernel_rfl) ?_
                refine TD_go 9 ?_
                refine TD_end (by kernel_rfl) ?_
                refine TS_F (by kernel_rfl) rfl ?_
                refine TS_go 2 ?_
                have ret := Option.some.inj h
                subst ret
                exact TS_brkB s11 ⟨[(2, []), (3, []), (4, []), (8, []), (9, [])], [(2, (2, [])), (3, (3, [])), (4, (4, [])), (8, (8, []))]⟩ rfl (by kernel_rfl) (by kernel_rfl) (by kernel_rfl)
            · intro b12 hb
              subst y13
              have h := hK1
              refine TS_go 4 ?_
              replace h := bindO h
              obtain ⟨v19, hv19, h⟩ := h
              refine TS_con [] [(70, 900000), (600000, 900004)] none (okT_guard_own_R a0 v19 hv19) (by kernel_rfl) (by kernel_rfl) (by kernel_rfl) ?_
              refine TS_go 5 ?_
              refine TS_draw (by kernel_rfl) ?_
              refine TD_go 5 ?_
              replace h := condO h
              rcases h with ⟨hb20, h⟩ | ⟨hb20, h⟩
              · refine TD_know 76 (b := true) hb20 trivial (by kernel_rfl) (by kernel_rfl) ?_
                refine TD_go 3 ?_
                replace h := bindO h
                obtain ⟨_e21, he21, h⟩ := h
                refine TD_idx S_Peer.cs he21 (by kernel_rfl) (by kernel_rfl) ?_
                refine TD_go 6 ?_
                replace h := condO h
                rcases h with ⟨hb22, h⟩ | ⟨hb22, h⟩
                · refine TD_know 87 (b := true) hb22 trivial (by kernel_rfl) (by kernel_rfl) ?_
                  refine TD_go 3 ?_
                  replace h := bindO h
                  obtain ⟨_e23, he23, h⟩ := h
                  refine TD_idx S_Peer.cs he23 (by kernel_rfl) (by kernel_rfl) ?_
                  refine TD_go 6 ?_
                  refine TD_end (by kernel_rfl) ?_
                  replace h := condO h
                  rcases h with ⟨hb24, h⟩ | ⟨hb24, h⟩
                  · refine TS_know 75 (b := true) hb20 (by kernel_rfl) (by kernel_rfl) ?_
                    refine TS_know 85 (b := true) hb22 (by kernel_rfl) (by kernel_rfl) ?_
                    refine TS_know 86 (b := true) hb22 (by kernel_rfl) (by kernel_rfl) ?_
                    refine TS_know 96 (b := true) hb24 (by kernel_rfl) (by kernel_rfl) ?_
                    refine TS_know 97 (b := true) hb24 (by kernel_rfl) (by kernel_rfl) ?_
                    refine TS_T (by kernel_rfl) rfl ?_
                    refine TS_go 1 ?_
                    refine TS_draw (by kernel_rfl) ?_
                    refine TD_go 3 ?_
                    replace h := bindO h
                    obtain ⟨e25, he25, h⟩ := h
                    refine TD_idx S_Peer.cs he25 (by kernel_rfl) (by kernel_rfl) ?_
                    refine TD_go 3 ?_
                    replace h := bindO h
                    obtain ⟨v26, hv26, h⟩ := h
                    refine TD_call [] (ok_guard_accept e25 a1.Counter v26 hv26) (by kernel_rfl) (by kernel_rfl) ?_
                    refine TD_go 6 ?_
                    refine TD_end (by kernel_rfl) ?_
                    refine TS_go 6 ?_
                    replace h := condO h
                    rcases h with ⟨hb27, h⟩ | ⟨hb27, h⟩
                    · refine TS_know 110 (b := true) hb27 (by kernel_rfl) (by kernel_rfl) ?_
                      refine TS_T (by kernel_rfl) rfl ?_
                      refine TS_go 7 ?_
                      refine TS_nilB 4 0 600001 69 17 (by kernel_rfl) ?_
                      refine TS_nilB 4 4 600002 79 6 (by kernel_rfl) ?_
                      refine TS_fitU ⟨[(4, []), (5, [])], [(600001, (900000, [])), (600002, (900004, [])), (4, (4, []))]⟩ (by kernel_rfl) ?_
                      refine TS_go 3 ?_
                      have ret := Option.some.inj h
                      subst ret
                      exact TS_ret (by kernel_rfl) (by kernel_rfl) (by kernel_rfl)
                    · refine TS_know 110 (b := false) hb27 (by kernel_rfl) (by kernel_rfl) ?_
                      refine TS_F (by kernel_rfl) rfl ?_
                      refine TS_go 7 ?_
                      replace h := bindO h
                      obtain ⟨_e28, he28, h⟩ := h
                      refine TS_idxR 600000 6 0 S_Peer.cs .whole he28 (by kernel_rfl) (by kernel_rfl) ?_
                      replace h := bindO h
                      obtain ⟨_e29, he29, h⟩ := h
                      refine TS_stE 600000 79 6 (List.length v19.Peers) (0 + Int.toNat b12) 0 S_Peer.cs (ds := [.lit (.int .i64 (v26.1.Src.Mode)), .lit (.int .u16 (v26.1.Src.Short)), .lit (.int .u64 (v26.1.Src.EUI)), .lit (.int .u8 (v26.1.Key)), .lit (.int .u32 (v26.1.Last)), .lit (.int .u32 (v26.1.Window))]) v26.1 he29 (by kernel_rfl) (by kernel_rfl) (by kernel_rfl) (by kernel_rfl) ?_
                      refine TS_go 7 ?_
                      refine TS_settle 70 (by kernel_rfl) ?_
                      refine TS_settle 600000 (by kernel_rfl) ?_
                      refine TS_fitU ⟨[(4, []), (5, [])], [(70, (900000, [])), (600000, (900004, [])), (4, (4, []))]⟩ (by kernel_rfl) ?_
                      refine TS_go 2 ?_
                      have ret := Option.some.inj h
                      subst ret
                      exact TS_ret (by kernel_rfl) (by kernel_rfl) (by kernel_rfl)
                  · refine TS_know 75 (b := true) hb20 (by kernel_rfl) (by kernel_rfl) ?_
                    refine TS_know 85 (b := true) hb22 (by kernel_rfl) (by kernel_rfl) ?_
                    refine TS_know 86 (b := true) hb22 (by kernel_rfl) (by kernel_rfl) ?_
                    refine TS_know 96 (b := false) hb24 (by kernel_rfl) (by kernel_rfl) ?_
                    refine TS_know 97 (b := false) hb24 (by kernel_rfl) (by kernel_rfl) ?_
                    refine TS_F (by kernel_rfl) rfl ?_
                    refine TS_go 3 ?_
                    refine TS_draw (by kernel_rfl) ?_
                    refine TD_go 3 ?_
                    replace h := condO h
                    rcases h with ⟨hb30, h⟩ | ⟨hb30, h⟩
                    · refine TD_know 122 (b := true) hb30 trivial (by kernel_rfl) (by kernel_rfl) ?_
                      refine TD_go 8 ?_
                      refine TD_end (by kernel_rfl) ?_
                      refine TS_T (by kernel_rfl) rfl ?_
                      refine TS_go 6 ?_
                      refine TS_nilB 4 0 600001 69 17 (by kernel_rfl) ?_
                      refine TS_nilB 4 4 600002 79 6 (by kernel_rfl) ?_
                      refine TS_fitU ⟨[(4, []), (5, [])], [(600001, (900000, [])), (600002, (900004, [])), (4, (4, []))]⟩ (by kernel_rfl) ?_
                      refine TS_go 2 ?_
                      have ret := Option.some.inj h
                      subst ret
                      exact TS_ret (by kernel_rfl) (by kernel_rfl) (by kernel_rfl)
                    · refine TD_know 122 (b := false) hb30 trivial (by kernel_rfl) (by kernel_rfl) ?_
                      refine TD_go 4 ?_
                      replace h := bindO h
                      obtain ⟨v31, hv31, h⟩ := h
                      refine TD_conX (d := 127) (e := 900000) [] (okT_guard_message 2 a0.Nonce v31 hv31) (by kernel_rfl) (by kernel_rfl) ?_
                      replace h := bindO h
                      obtain ⟨v32, hv32, h⟩ := h
                      refine TD_call [[], [2]] (ok_bytes_Equal a1.Payload v31 v32 hv32) (by kernel_rfl) (by kernel_rfl) ?_
                      refine TD_go 2 ?_
                      refine TD_end (by kernel_rfl) ?_
                      replace h := condO h
                      rcases h with ⟨hb33, h⟩ | ⟨hb33, h⟩
                      · subst hb33
                        refine TS_F (by kernel_rfl) rfl ?_
                        refine TS_go 9 ?_
                        replace h := condO h
                        rcases h with ⟨hb34, h⟩ | ⟨hb34, h⟩
                        · refine TS_know 121 (b := false) hb30 (by kernel_rfl) (by kernel_rfl) ?_
                          refine TS_know 135 (b := true) hb34 (by kernel_rfl) (by kernel_rfl) ?_
                          refine TS_T (by kernel_rfl) rfl ?_
                          refine TS_go 6 ?_
                          refine TS_nilB 4 0 600001 69 17 (by kernel_rfl) ?_
                          refine TS_nilB 4 4 600002 79 6 (by kernel_rfl) ?_
                          refine TS_fitU ⟨[(4, []), (5, [])], [(600001, (900000, [])), (600002, (900004, [])), (4, (4, []))]⟩ (by kernel_rfl) ?_
                          refine TS_go 2 ?_
                          have ret := Option.some.inj h
                          subst ret
                          exact TS_ret (by kernel_rfl) (by kernel_rfl) (by kernel_rfl)
                        · refine TS_know 121 (b := false) hb30 (by kernel_rfl) (by kernel_rfl) ?_
                          refine TS_know 135 (b := false) hb34 (by kernel_rfl) (by kernel_rfl) ?_
                          refine TS_F (by kernel_rfl) rfl ?_
                          refine TS_go 2 ?_
                          refine TS_draw (by kernel_rfl) ?_
                          refine TD_go 3 ?_
                          replace h := chkO h
                          obtain ⟨hc35, h⟩ := h
                          refine TD_slRow 600000 6 (List.length v19.Peers) (a := 0) (b := b12) hc35 rfl (by kernel_rfl) (by kernel_rfl) ?_
                          refine TD_go 1 ?_
                          refine TD_litNT 142 79 6 S_Peer.cs [] ([(S_Peer.mk a1.Src a1.Key a1.Counter 4294967295)] : List S_Peer) (by kernel_rfl) (by kernel_rfl) ?_
                          replace h := bindO h
                          obtain ⟨l36, hl36, h⟩ := h
                          refine TD_appR (d := 600000) (e := 79) (sz := 6) (N := List.length v19.Peers) (m := (Int.toNat b12)) S_Peer.cs (fun _ => by kernel_rfl) (l1 := v19.Peers) (l2 := ([(S_Peer.mk a1.Src a1.Key a1.Counter 4294967295)] : List S_Peer)) (c := .whole) hl36 (by kernel_rfl) (by kernel_rfl) ?_
                          refine TD_go 2 ?_
                          refine TD_end (by kernel_rfl) ?_
                          refine TS_go 1 ?_
                          refine TS_draw (by kernel_rfl) ?_
                          refine TD_go 5 ?_
                          replace h := bindO h
                          obtain ⟨l37, hl37, h⟩ := h
                          refine TD_sub S_Peer.cs 6 hl37 (by kernel_rfl) (by kernel_rfl) ?_
                          replace h := bindO h
                          obtain ⟨_l38, hl38, h⟩ := h
                          refine TD_appR (d := 600000) (e := 79) (sz := 6) (N := List.length l36) (m := (List.length l36)) S_Peer.cs (fun _ => by kernel_rfl) (l1 := l36) (l2 := l37) (c := .whole) hl38 (by kernel_rfl) (by kernel_rfl) ?_
                          refine TD_go 2 ?_
                          refine TD_end (by kernel_rfl) ?_
                          refine TS_go 6 ?_
                          refine TS_settle 70 (by kernel_rfl) ?_
                          refine TS_settle 600000 (by kernel_rfl) ?_
                          refine TS_fitU ⟨[(4, []), (5, [])], [(70, (900000, [])), (600000, (900004, [])), (4, (4, []))]⟩ (by kernel_rfl) ?_
                          refine TS_go 1 ?_
                          have ret := Option.some.inj h
                          subst ret
                          exact TS_ret (by kernel_rfl) (by kernel_rfl) (by kernel_rfl)
                      · subst hb33
                        refine TS_T (by kernel_rfl) rfl ?_
                        refine TS_go 6 ?_
                        refine TS_nilB 4 0 600001 69 17 (by kernel_rfl) ?_
                        refine TS_nilB 4 4 600002 79 6 (by kernel_rfl) ?_
                        refine TS_fitU ⟨[(4, []), (5, [])], [(600001, (900000, [])), (600002, (900004, [])), (4, (4, []))]⟩ (by kernel_rfl) ?_
                        refine TS_go 2 ?_
                        have ret := Option.some.inj h
                        subst ret
                        exact TS_ret (by kernel_rfl) (by kernel_rfl) (by kernel_rfl)
                · refine TD_know 87 (b := false) hb22 trivial (by kernel_rfl) (by kernel_rfl) ?_
                  refine TD_go 10 ?_
                  refine TD_end (by kernel_rfl) ?_
                  refine TS_F (by kernel_rfl) rfl ?_
                  refine TS_go 3 ?_
                  refine TS_draw (by kernel_rfl) ?_
                  refine TD_go 3 ?_
                  replace h := condO h
                  rcases h with ⟨hb39, h⟩ | ⟨hb39, h⟩
                  · refine TD_know 122 (b := true) hb39 trivial (by kernel_rfl) (by kernel_rfl) ?_
                    refine TD_go 8 ?_
                    refine TD_end (by kernel_rfl) ?_
                    refine TS_T (by kernel_rfl) rfl ?_
                    refine TS_go 6 ?_
                    refine TS_nilB 4 0 600001 69 17 (by kernel_rfl) ?_
                    refine TS_nilB 4 4 600002 79 6 (by kernel_rfl) ?_
                    refine TS_fitU ⟨[(4, []), (5, [])], [(600001, (900000, [])), (600002, (900004, [])), (4, (4, []))]⟩ (by kernel_rfl) ?_
                    refine TS_go 2 ?_
                    have ret := Option.some.inj h
                    subst ret
                    exact TS_ret (by kernel_rfl) (by kernel_rfl) (by kernel_rfl)
                  · refine TD_know 122 (b := false) hb39 trivial (by kernel_rfl) (by kernel_rfl) ?_
                    refine TD_go 4 ?_
                    replace h := bindO h
                    obtain ⟨v40, hv40, h⟩ := h
                    refine TD_conX (d := 127) (e := 900000) [] (okT_guard_message 2 a0.Nonce v40 hv40) (by kernel_rfl) (by kernel_rfl) ?_
                    replace h := bindO h
                    obtain ⟨v41, hv41, h⟩ := h
                    refine TD_call [[], [2]] (ok_bytes_Equal a1.Payload v40 v41 hv41) (by kernel_rfl) (by kernel_rfl) ?_
                    refine TD_go 2 ?_
                    refine TD_end (by kernel_rfl) ?_
                    replace h := condO h
                    rcases h with ⟨hb42, h⟩ | ⟨hb42, h⟩
                    · subst hb42
                      refine TS_F (by kernel_rfl) rfl ?_
                      refine TS_go 9 ?_
                      replace h := condO h
                      rcases h with ⟨hb43, h⟩ | ⟨hb43, h⟩
                      · refine TS_know 75 (b := true) hb20 (by kernel_rfl) (by kernel_rfl) ?_
                        refine TS_know 85 (b := false) hb22 (by kernel_rfl) (by kernel_rfl) ?_
                        refine TS_know 86 (b := false) hb22 (by kernel_rfl) (by kernel_rfl) ?_
                        refine TS_know 121 (b := false) hb39 (by kernel_rfl) (by kernel_rfl) ?_
                        refine TS_know 135 (b := true) hb43 (by kernel_rfl) (by kernel_rfl) ?_
                        refine TS_T (by kernel_rfl) rfl ?_
                        refine TS_go 6 ?_
                        refine TS_nilB 4 0 600001 69 17 (by kernel_rfl) ?_
                        refine TS_nilB 4 4 600002 79 6 (by kernel_rfl) ?_
                        refine TS_fitU ⟨[(4, []), (5, [])], [(600001, (900000, [])), (600002, (900004, [])), (4, (4, []))]⟩ (by kernel_rfl) ?_
                        refine TS_go 2 ?_
                        have ret := Option.some.inj h
                        subst ret
                        exact TS_ret (by kernel_rfl) (by kernel_rfl) (by kernel_rfl)
                      · refine TS_know 75 (b := true) hb20 (by kernel_rfl) (by kernel_rfl) ?_
                        refine TS_know 85 (b := false) hb22 (by kernel_rfl) (by kernel_rfl) ?_
                        refine TS_know 86 (b := false) hb22 (by kernel_rfl) (by kernel_rfl) ?_
                        refine TS_know 121 (b := false) hb39 (by kernel_rfl) (by kernel_rfl) ?_
                        refine TS_know 135 (b := false) hb43 (by kernel_rfl) (by kernel_rfl) ?_
                        refine TS_F (by kernel_rfl) rfl ?_
                        refine TS_go 2 ?_
                        refine TS_draw (by kernel_rfl) ?_
                        refine TD_go 3 ?_
                        replace h := chkO h
                        obtain ⟨hc44, h⟩ := h
                        refine TD_slRow 600000 6 (List.length v19.Peers) (a := 0) (b := b12) hc44 rfl (by kernel_rfl) (by kernel_rfl) ?_
                        refine TD_go 1 ?_
                        refine TD_litNT 142 79 6 S_Peer.cs [] ([(S_Peer.mk a1.Src a1.Key a1.Counter 4294967295)] : List S_Peer) (by kernel_rfl) (by kernel_rfl) ?_
                        replace h := bindO h
                        obtain ⟨l45, hl45, h⟩ := h
                        refine TD_appR (d := 600000) (e := 79) (sz := 6) (N := List.length v19.Peers) (m := (Int.toNat b12)) S_Peer.cs (fun _ => by kernel_rfl) (l1 := v19.Peers) (l2 := ([(S_Peer.mk a1.Src a1.Key a1.Counter 4294967295)] : List S_Peer)) (c := .whole) hl45 (by kernel_rfl) (by kernel_rfl) ?_
                        refine TD_go 2 ?_
                        refine TD_end (by kernel_rfl) ?_
                        refine TS_go 1 ?_
                        refine TS_draw (by kernel_rfl) ?_
                        refine TD_go 5 ?_
                        replace h := bindO h
                        obtain ⟨l46, hl46, h⟩ := h
                        refine TD_sub S_Peer.cs 6 hl46 (by kernel_rfl) (by kernel_rfl) ?_
                        replace h := bindO h
                        obtain ⟨_l47, hl47, h⟩ := h
                        refine TD_appR (d := 600000) (e := 79) (sz := 6) (N := List.length l45) (m := (List.length l45)) S_Peer.cs (fun _ => by kernel_rfl) (l1 := l45) (l2 := l46) (c := .whole) hl47 (by kernel_rfl) (by kernel_rfl) ?_
                        refine TD_go 2 ?_
                        refine TD_end (by kernel_rfl) ?_
                        refine TS_go 6 ?_
                        refine TS_settle 70 (by kernel_rfl) ?_
                        refine TS_settle 600000 (by kernel_rfl) ?_
                        refine TS_fitU ⟨[(4, []), (5, [])], [(70, (900000, [])), (600000, (900004, [])), (4, (4, []))]⟩ (by kernel_rfl) ?_
                        refine TS_go 1 ?_
                        have ret := Option.some.inj h
                        subst ret
                        exact TS_ret (by kernel_rfl) (by kernel_rfl) (by kernel_rfl)
                    · subst hb42
                      refine TS_T (by kernel_rfl) rfl ?_
                      refine TS_go 6 ?_
                      refine TS_nilB 4 0 600001 69 17 (by kernel_rfl) ?_
                      refine TS_nilB 4 4 600002 79 6 (by kernel_rfl) ?_
                      refine TS_fitU ⟨[(4, []), (5, [])], [(600001, (900000, [])), (600002, (900004, [])), (4, (4, []))]⟩ (by kernel_rfl) ?_
                      refine TS_go 2 ?_
                      have ret := Option.some.inj h
                      subst ret
                      exact TS_ret (by kernel_rfl) (by kernel_rfl) (by kernel_rfl)
              · refine TD_know 76 (b := false) hb20 trivial (by kernel_rfl) (by kernel_rfl) ?_
                refine TD_go 21 ?_
                refine TD_end (by kernel_rfl) ?_
                refine TS_F (by kernel_rfl) rfl ?_
                refine TS_go 3 ?_
                refine TS_draw (by kernel_rfl) ?_
                refine TD_go 3 ?_
                replace h := condO h
                rcases h with ⟨hb48, h⟩ | ⟨hb48, h⟩
                · refine TD_know 122 (b := true) hb48 trivial (by kernel_rfl) (by kernel_rfl) ?_
                  refine TD_go 8 ?_
                  refine TD_end (by kernel_rfl) ?_
                  refine TS_T (by kernel_rfl) rfl ?_
                  refine TS_go 6 ?_
                  refine TS_nilB 4 0 600001 69 17 (by kernel_rfl) ?_
                  refine TS_nilB 4 4 600002 79 6 (by kernel_rfl) ?_
                  refine TS_fitU ⟨[(4, []), (5, [])], [(600001, (900000, [])), (600002, (900004, [])), (4, (4, []))]⟩ (by kernel_rfl) ?_
                  refine TS_go 2 ?_
                  have ret := Option.some.inj h
                  subst ret
                  exact TS_ret (by kernel_rfl) (by kernel_rfl) (by kernel_rfl)
                · refine TD_know 122 (b := false) hb48 trivial (by kernel_rfl) (by kernel_rfl) ?_
                  refine TD_go 4 ?_
                  replace h := bindO h
                  obtain ⟨v49, hv49, h⟩ := h
                  refine TD_conX (d := 127) (e := 900000) [] (okT_guard_message 2 a0.Nonce v49 hv49) (by kernel_rfl) (by kernel_rfl) ?_
                  replace h := bindO h
                  obtain ⟨v50, hv50, h⟩ := h
                  refine TD_call [[], [2]] (ok_bytes_Equal a1.Payload v49 v50 hv50) (by kernel_rfl) (by kernel_rfl) ?_
                  refine TD_go 2 ?_
                  refine TD_end (by kernel_rfl) ?_
                  replace h := condO h
                  rcases h with ⟨hb51, h⟩ | ⟨hb51, h⟩
                  · subst hb51
                    refine TS_F (by kernel_rfl) rfl ?_
                    refine TS_go 9 ?_
                    replace h := condO h
                    rcases h with ⟨hb52, h⟩ | ⟨hb52, h⟩
                    · refine TS_know 75 (b := false) hb20 (by kernel_rfl) (by kernel_rfl) ?_
                      refine TS_know 121 (b := false) hb48 (by kernel_rfl) (by kernel_rfl) ?_
                      refine TS_know 135 (b := true) hb52 (by kernel_rfl) (by kernel_rfl) ?_
                      refine TS_T (by kernel_rfl) rfl ?_
                      refine TS_go 6 ?_
                      refine TS_nilB 4 0 600001 69 17 (by kernel_rfl) ?_
                      refine TS_nilB 4 4 600002 79 6 (by kernel_rfl) ?_
                      refine TS_fitU ⟨[(4, []), (5, [])], [(600001, (900000, [])), (600002, (900004, [])), (4, (4, []))]⟩ (by kernel_rfl) ?_
                      refine TS_go 2 ?_
                      have ret := Option.some.inj h
                      subst ret
                      exact TS_ret (by kernel_rfl) (by kernel_rfl) (by kernel_rfl)
                    · refine TS_know 75 (b := false) hb20 (by kernel_rfl) (by kernel_rfl) ?_
                      refine TS_know 121 (b := false) hb48 (by kernel_rfl) (by kernel_rfl) ?_
                      refine TS_know 135 (b := false) hb52 (by kernel_rfl) (by kernel_rfl) ?_
                      refine TS_F (by kernel_rfl) rfl ?_
                      refine TS_go 2 ?_
                      refine TS_draw (by kernel_rfl) ?_
                      refine TD_go 3 ?_
                      replace h := chkO h
                      obtain ⟨hc53, h⟩ := h
                      refine TD_slRow 600000 6 (List.length v19.Peers) (a := 0) (b := b12) hc53 rfl (by kernel_rfl) (by kernel_rfl) ?_
                      refine TD_go 1 ?_
                      refine TD_litNT 142 79 6 S_Peer.cs [] ([(S_Peer.mk a1.Src a1.Key a1.Counter 4294967295)] : List S_Peer) (by kernel_rfl) (by kernel_rfl) ?_
                      replace h := bindO h
                      obtain ⟨l54, hl54, h⟩ := h
                      refine TD_appR (d := 600000) (e := 79) (sz := 6) (N := List.length v19.Peers) (m := (Int.toNat b12)) S_Peer.cs (fun _ => by kernel_rfl) (l1 := v19.Peers) (l2 := ([(S_Peer.mk a1.Src a1.Key a1.Counter 4294967295)] : List S_Peer)) (c := .whole) hl54 (by kernel_rfl) (by kernel_rfl) ?_
                      refine TD_go 2 ?_
                      refine TD_end (by kernel_rfl) ?_
                      refine TS_go 1 ?_
                      refine TS_draw (by kernel_rfl) ?_
                      refine TD_go 5 ?_
                      replace h := bindO h
                      obtain ⟨l55, hl55, h⟩ := h
                      refine TD_sub S_Peer.cs 6 hl55 (by kernel_rfl) (by kernel_rfl) ?_
                      replace h := bindO h
                      obtain ⟨_l56, hl56, h⟩ := h
                      refine TD_appR (d := 600000) (e := 79) (sz := 6) (N := List.length l54) (m := (List.length l54)) S_Peer.cs (fun _ => by kernel_rfl) (l1 := l54) (l2 := l55) (c := .whole) hl56 (by kernel_rfl) (by kernel_rfl) ?_
                      refine TD_go 2 ?_
                      refine TD_end (by kernel_rfl) ?_
                      refine TS_go 6 ?_
                      refine TS_settle 70 (by kernel_rfl) ?_
                      refine TS_settle 600000 (by kernel_rfl) ?_
                      refine TS_fitU ⟨[(4, []), (5, [])], [(70, (900000, [])), (600000, (900004, [])), (4, (4, []))]⟩ (by kernel_rfl) ?_
                      refine TS_go 1 ?_
                      have ret := Option.some.inj h
                      subst ret
                      exact TS_ret (by kernel_rfl) (by kernel_rfl) (by kernel_rfl)
                  · subst hb51
                    refine TS_T (by kernel_rfl) rfl ?_
                    refine TS_go 6 ?_
                    refine TS_nilB 4 0 600001 69 17 (by kernel_rfl) ?_
                    refine TS_nilB 4 4 600002 79 6 (by kernel_rfl) ?_
                    refine TS_fitU ⟨[(4, []), (5, [])], [(600001, (900000, [])), (600002, (900004, [])), (4, (4, []))]⟩ (by kernel_rfl) ?_
                    refine TS_go 2 ?_
                    have ret := Option.some.inj h
                    subst ret
                    exact TS_ret (by kernel_rfl) (by kernel_rfl) (by kernel_rfl)
          · subst hb10
            refine TS_T (by kernel_rfl) rfl ?_
            refine TS_go 6 ?_
            refine TS_nilB 4 0 600000 69 17 (by kernel_rfl) ?_
            refine TS_nilB 4 4 600001 79 6 (by kernel_rfl) ?_
            refine TS_fitU ⟨[(4, []), (5, [])], [(600000, (900000, [])), (600001, (900004, [])), (4, (4, []))]⟩ (by kernel_rfl) ?_
            refine TS_go 2 ?_
            have ret := Option.some.inj h
            subst ret
            exact TS_ret (by kernel_rfl) (by kernel_rfl) (by kernel_rfl)
        · refine TS_know 33 (b := false) hb7 (by kernel_rfl) (by kernel_rfl) ?_
          refine TS_know 7 (b := false) hb7 (by kernel_rfl) (by kernel_rfl) ?_
          refine TS_know 34 (b := false) hb7 (by kernel_rfl) (by kernel_rfl) ?_
          refine TS_know 35 (b := true) (notT hb7) (by kernel_rfl) (by kernel_rfl) ?_
          refine TS_T (by kernel_rfl) rfl ?_
          refine TS_go 6 ?_
          refine TS_nilB 4 0 600000 69 17 (by kernel_rfl) ?_
          refine TS_nilB 4 4 600001 79 6 (by kernel_rfl) ?_
          refine TS_fitU ⟨[(4, []), (5, [])], [(600000, (900000, [])), (600001, (900004, [])), (4, (4, []))]⟩ (by kernel_rfl) ?_
          refine TS_go 2 ?_
          have ret := Option.some.inj h
          subst ret
          exact TS_ret (by kernel_rfl) (by kernel_rfl) (by kernel_rfl)
      · refine TS_know 23 (b := false) hb5 (by kernel_rfl) (by kernel_rfl) ?_
        refine TS_know 24 (b := true) (notT hb5) (by kernel_rfl) (by kernel_rfl) ?_
        refine TS_know 25 (b := true) (notT hb5) (by kernel_rfl) (by kernel_rfl) ?_
        refine TS_T (by kernel_rfl) rfl ?_
        refine TS_go 6 ?_
        refine TS_nilB 4 0 600000 69 17 (by kernel_rfl) ?_
        refine TS_nilB 4 4 600001 79 6 (by kernel_rfl) ?_
        refine TS_fitU ⟨[(4, []), (5, [])], [(600000, (900000, [])), (600001, (900004, [])), (4, (4, []))]⟩ (by kernel_rfl) ?_
        refine TS_go 2 ?_
        have ret := Option.some.inj h
        subst ret
        exact TS_ret (by kernel_rfl) (by kernel_rfl) (by kernel_rfl)
    · subst hb4
      refine TS_go 5 ?_
      refine TS_T (by kernel_rfl) rfl ?_
      refine TS_go 6 ?_
      refine TS_nilB 4 0 600000 69 17 (by kernel_rfl) ?_
      refine TS_nilB 4 4 600001 79 6 (by kernel_rfl) ?_
      refine TS_fitU ⟨[(4, []), (5, [])], [(600000, (900000, [])), (600001, (900004, [])), (4, (4, []))]⟩ (by kernel_rfl) ?_
      refine TS_go 2 ?_
      have ret := Option.some.inj h
      subst ret
      exact TS_ret (by kernel_rfl) (by kernel_rfl) (by kernel_rfl)
  · subst hb2
    refine TS_go 10 ?_
    refine TS_T (by kernel_rfl) rfl ?_
    refine TS_go 6 ?_
    refine TS_nilB 4 0 600000 69 17 (by kernel_rfl) ?_
    refine TS_nilB 4 4 600001 79 6 (by kernel_rfl) ?_
    refine TS_fitU ⟨[(4, []), (5, [])], [(600000, (900000, [])), (600001, (900004, [])), (4, (4, []))]⟩ (by kernel_rfl) ?_
    refine TS_go 2 ?_
    have ret := Option.some.inj h
    subst ret
    exact TS_ret (by kernel_rfl) (by kernel_rfl) (by kernel_rfl)
end
section
open Go.RowKit
attribute [local irreducible] TS go TD goD

/-- multihop/multihoplaw06.keyed -/
noncomputable def F_law06_keyed (a0 : Int) (a1 : Int) : Option (S_Guard) :=
  (F_made_Key 1).bind fun v1 =>
  some ((S_Guard.mk ([(S_LinkKey.mk 1 v1)] : List S_LinkKey) 0 a0 a1 ([] : List S_Peer)))
set_option maxRecDepth 100000 in
set_option maxHeartbeats 40000000 in
theorem okT_law06_keyed (a0 : Int) (a1 : Int) (r : S_Guard) (h : F_law06_keyed a0 a1 = some r) : Con Try.prog 29 [.c (.lit (.int .u32 (a0))), .c (.lit (.int .u32 (a1)))] [] (.agg [.slc 17 900002 (List.length r.Keys) (List.map S_LinkKey.cs r.Keys), .lit (.int .u32 (r.Counter)), .lit (.int .u32 (r.Reserved)), .lit (.int .u32 (r.Nonce)), .slc 6 0 (List.length r.Peers) (List.map S_Peer.cs r.Peers)]) [(900000, .spare 69 17 (List.length r.Keys))] := by
  unfold F_law06_keyed at h
  refine con_of [[0, 0, 0, 0, 7]] [(900000, [])] 11 Try.func29 rfl rfl (by kernel_rfl) (fun K => ?_)
  refine TS_go 6 ?_
  replace h := bindO h
  obtain ⟨v1, hv1, h⟩ := h
  refine TS_call [] (ok_made_Key 1 v1 hv1) (by kernel_rfl) (by kernel_rfl) ?_
  refine TS_go 1 ?_
  refine TS_litNT 7 69 17 S_LinkKey.cs [] ([(S_LinkKey.mk 1 v1)] : List S_LinkKey) (by kernel_rfl) (by kernel_rfl) ?_
  refine TS_go 5 ?_
  refine TS_fitU ⟨[(4, [])], [(7, (900000, [])), (4, (4, []))]⟩ (by kernel_rfl) ?_
  refine TS_go 1 ?_
  have ret := Option.some.inj h
  subst ret
  exact TS_ret (by kernel_rfl) (by kernel_rfl) (by kernel_rfl)
/-- multihop/guard.Challenge -/
noncomputable def F_guard_Challenge (a0 : S_Guard) : Option ((List Int)) :=
  (F_guard_Valid a0).bind fun v1 =>
  bif v1 then
    (F_guard_message 1 a0.Nonce).bind fun v3 =>
    some (v3)
  else
    some (([] : List Int))
set_option maxRecDepth 100000 in
set_option maxHeartbeats 40000000 in
theorem okT_guard_Challenge (a0 : S_Guard) (r : (List Int)) (h : F_guard_Challenge a0 = some r) : Con Try.prog 23 [.agg (S_Guard.cs a0)] [] (.c (.slc 1 900002 (List.length r) (List.map (ecI .u8) r))) [(900000, .spare 5 1 (List.length r))] := by
  unfold F_guard_Challenge at h
  refine con_of [] [(900000, [])] 9 Try.func23 rfl rfl (by kernel_rfl) (fun K => ?_)
  refine TS_go 9 ?_
  replace h := bindO h
  obtain ⟨v1, hv1, h⟩ := h
  refine TS_call [] (ok_guard_Valid a0 v1 hv1) (by kernel_rfl) (by kernel_rfl) ?_
  refine TS_go 2 ?_
  replace h := condO h
  rcases h with ⟨hb2, h⟩ | ⟨hb2, h⟩
  · subst hb2
    refine TS_F (by kernel_rfl) rfl ?_
    refine TS_go 5 ?_
    replace h := bindO h
    obtain ⟨v3, hv3, h⟩ := h
    refine TS_con [] [(8, 900000)] none (okT_guard_message 1 a0.Nonce v3 hv3) (by kernel_rfl) (by kernel_rfl) (by kernel_rfl) ?_
    refine TS_go 2 ?_
    refine TS_fitU ⟨[(2, [])], [(8, (900000, []))]⟩ (by kernel_rfl) ?_
    refine TS_go 1 ?_
    have ret := Option.some.inj h
    subst ret
    exact TS_ret (by kernel_rfl) (by kernel_rfl) (by kernel_rfl)
  · subst hb2
    refine TS_T (by kernel_rfl) rfl ?_
    refine TS_go 4 ?_
    refine TS_nilT 2 600000 5 1 (by kernel_rfl) ?_
    refine TS_fitU ⟨[(2, [])], [(600000, (900000, []))]⟩ (by kernel_rfl) ?_
    refine TS_go 2 ?_
    have ret := Option.some.inj h
    subst ret
    exact TS_ret (by kernel_rfl) (by kernel_rfl) (by kernel_rfl)
/-- multihop/guard.Respond -/
noncomputable def F_guard_Respond (a0 : List Int) : Option ((List Int) × Bool) :=
  bif ((List.length a0 : Int) != 5) then
    some ((([] : List Int), false))
  else
    (idx a0 0).bind fun e2 =>
    bif (e2 != 1) then
      some ((([] : List Int), false))
    else
      (subO a0 1 (List.length a0 : Int)).bind fun l4 =>
      (appO 1 ([2] : List Int) (Cut.app .whole l4)).bind fun l5 =>
      some ((l5, true))
set_option maxRecDepth 100000 in
set_option maxHeartbeats 40000000 in
theorem okT_guard_Respond (a0 : List Int) (r : (List Int) × Bool) (h : F_guard_Respond a0 = some r) : Con Try.prog 24 [.c (eS 1 (ecI .u8) (a0))] [] (.tup [(false, [.slc 1 900002 (List.length r.1) (List.map (ecI .u8) r.1)]), (false, [.lit (.bool (r.2))])]) [(900000, .spare 5 1 (List.length r.1))] := by
  unfold F_guard_Respond at h
  refine con_of [] [(900000, [])] 17 Try.func24 rfl rfl (by kernel_rfl) (fun K => ?_)
  refine TS_go 12 ?_
  replace h := condO h
  rcases h with ⟨hb1, h⟩ | ⟨hb1, h⟩
  · refine TS_know 6 (b := true) hb1 (by kernel_rfl) (by kernel_rfl) ?_
    refine TS_know 7 (b := true) hb1 (by kernel_rfl) (by kernel_rfl) ?_
    refine TS_go 6 ?_
    refine TS_T (by kernel_rfl) rfl ?_
    refine TS_go 5 ?_
    refine TS_nilT 2 600000 5 1 (by kernel_rfl) ?_
    refine TS_fitU ⟨[(2, []), (3, [])], [(600000, (900000, []))]⟩ (by kernel_rfl) ?_
    refine TS_go 2 ?_
    have ret := Option.some.inj h
    subst ret
    exact TS_ret (by kernel_rfl) (by kernel_rfl) (by kernel_rfl)
  · refine TS_know 6 (b := false) hb1 (by kernel_rfl) (by kernel_rfl) ?_
    refine TS_know 7 (b := false) hb1 (by kernel_rfl) (by kernel_rfl) ?_
    refine TS_go 1 ?_
    replace h := bindO h
    obtain ⟨_e2, he2, h⟩ := h
    refine TS_idx (ecI .u8) he2 (by kernel_rfl) (by kernel_rfl) ?_
    refine TS_go 4 ?_
    replace h := condO h
    rcases h with ⟨hb3, h⟩ | ⟨hb3, h⟩
    · refine TS_know 11 (b := true) hb3 (by kernel_rfl) (by kernel_rfl) ?_
      refine TS_know 12 (b := true) hb3 (by kernel_rfl) (by kernel_rfl) ?_
      refine TS_T (by kernel_rfl) rfl ?_
      refine TS_go 5 ?_
      refine TS_nilT 2 600000 5 1 (by kernel_rfl) ?_
      refine TS_fitU ⟨[(2, []), (3, [])], [(600000, (900000, []))]⟩ (by kernel_rfl) ?_
      refine TS_go 2 ?_
      have ret := Option.some.inj h
      subst ret
      exact TS_ret (by kernel_rfl) (by kernel_rfl) (by kernel_rfl)
    · refine TS_know 11 (b := false) hb3 (by kernel_rfl) (by kernel_rfl) ?_
      refine TS_know 12 (b := false) hb3 (by kernel_rfl) (by kernel_rfl) ?_
      refine TS_F (by kernel_rfl) rfl ?_
      refine TS_go 3 ?_
      refine TS_litNT 13 5 1 (ecI .u8) [] ([2] : List Int) (by kernel_rfl) (by kernel_rfl) ?_
      refine TS_go 1 ?_
      replace h := bindO h
      obtain ⟨l4, hl4, h⟩ := h
      refine TS_sub (ecI .u8) 1 hl4 (by kernel_rfl) (by kernel_rfl) ?_
      replace h := bindO h
      obtain ⟨_l5, hl5, h⟩ := h
      refine TS_appT (d := 13) (e := 5) (sz := 1) (N := List.length ([2] : List Int)) (ecI .u8) (fun _ => by kernel_rfl) (l1 := ([2] : List Int)) (l2 := l4) (c := .whole) hl5 (by kernel_rfl) (by kernel_rfl) ?_
      refine TS_go 3 ?_
      refine TS_fitU ⟨[(2, []), (3, [])], [(13, (900000, []))]⟩ (by kernel_rfl) ?_
      refine TS_go 1 ?_
      have ret := Option.some.inj h
      subst ret
      exact TS_ret (by kernel_rfl) (by kernel_rfl) (by kernel_rfl)
/-- multihop/multihoplaw06.short -/
noncomputable def F_law06_short (a0 : Int) : Option (S_Addr) :=
  some ((S_Addr.mk 2 (IntKind.wrap .u16 a0) 0))
set_option maxRecDepth 100000 in
set_option maxHeartbeats 40000000 in
theorem ok_law06_short (a0 : Int) (r : S_Addr) (h : F_law06_short a0 = some r) : Con Try.prog 30 [.c (.lit (.int .i64 (a0)))] [] (.agg (S_Addr.cs r)) [] := by
  unfold F_law06_short at h
  refine con_of [] [] 6 Try.func30 rfl rfl (by kernel_rfl) (fun K => ?_)
  refine TS_go 12 ?_
  have ret := Option.some.inj h
  subst ret
  exact TS_ret (by kernel_rfl) (by kernel_rfl) (by kernel_rfl)

/-- multihop/guard.clone[byte] -/
noncomputable def F_guard_clone_byte (a0 : List Int) : Option ((List Int)) :=
  (appO 1 ([] : List Int) (Cut.app .whole a0)).bind fun l1 =>
  some (l1)
set_option maxRecDepth 100000 in
set_option maxHeartbeats 40000000 in
theorem okT_guard_clone_byte (a0 : List Int) (r : (List Int)) (h : F_guard_clone_byte a0 = some r) : Con Try.prog 58 [.c (eS 1 (ecI .u8) (a0))] [] (.c (.slc 1 900002 (List.length r) (List.map (ecI .u8) r))) [(900000, .spare 5 1 (List.length r))] := by
  unfold F_guard_clone_byte at h
  refine con_of [] [(900000, [])] 5 Try.func58 rfl rfl (by kernel_rfl) (fun K => ?_)
  refine TS_go 7 ?_
  replace h := bindO h
  obtain ⟨_l1, hl1, h⟩ := h
  refine TS_appNT 4 5 1 (ecI .u8) (fun _ => by kernel_rfl) (l2 := a0) .whole hl1 (by kernel_rfl) (by kernel_rfl) ?_
  refine TS_go 2 ?_
  refine TS_fitU ⟨[(2, [])], [(4, (900000, []))]⟩ (by kernel_rfl) ?_
  refine TS_go 1 ?_
  have ret := Option.some.inj h
  subst ret
  exact TS_ret (by kernel_rfl) (by kernel_rfl) (by kernel_rfl)
/-- multihop/guard.Seal -/
noncomputable def F_guard_Seal (a0 : S_Guard) (a1 : S_Frame) (a2 : Int) : Option (S_Guard × S_Frame × Int) :=
  (F_guard_Valid a0).bind fun v1 =>
  bif v1 then
    (F_frame_Valid a1).bind fun v3 =>
    bif v3 then
      bif (a1.Kind == 2) then
        some (((S_Guard.mk ([] : List S_LinkKey) 0 0 0 ([] : List S_Peer)), (S_Frame.mk 0 false false false 0 0 (S_Addr.mk 0 0 0) (S_Addr.mk 0 0 0) 0 0 ([] : List Int) ([] : List Int)), 1))
      else
        bif a1.Secure then
          some (((S_Guard.mk ([] : List S_LinkKey) 0 0 0 ([] : List S_Peer)), (S_Frame.mk 0 false false false 0 0 (S_Addr.mk 0 0 0) (S_Addr.mk 0 0 0) 0 0 ([] : List Int) ([] : List Int)), 1))
        else
          (F_guard_keyOf a0 a2).bind fun v7 =>
          bif v7.2 then
            bif (a0.Counter == a0.Reserved) then
              some (((S_Guard.mk ([] : List S_LinkKey) 0 0 0 ([] : List S_Peer)), (S_Frame.mk 0 false false false 0 0 (S_Addr.mk 0 0 0) (S_Addr.mk 0 0 0) 0 0 ([] : List Int) ([] : List Int)), 11))
            else
              (F_frame_Header (S_Frame.mk a1.Kind a1.AckRequest a1.Pending true a1.Seq a1.Pan a1.Dst a1.Src a0.Counter a2 a1.Payload a1.MIC)).bind fun v10 =>
              (F_siphash_Tag v7.1 v10 4).bind fun v11 =>
              (F_frame_Valid (S_Frame.mk a1.Kind a1.AckRequest a1.Pending true a1.Seq a1.Pan a1.Dst a1.Src a0.Counter a2 a1.Payload v11.1)).bind fun v12 =>
              bif v12 then
                (F_guard_clone_byte a1.Payload).bind fun v14 =>
                (F_guard_own a0).bind fun v15 =>
                some (((S_Guard.mk v15.Keys (IntKind.wrap .u32 (v15.Counter + 1)) v15.Reserved v15.Nonce v15.Peers), (S_Frame.mk a1.Kind a1.AckRequest a1.Pending true a1.Seq a1.Pan a1.Dst a1.Src a0.Counter a2 v14 v11.1), 0))
              else
                some (((S_Guard.mk ([] : List S_LinkKey) 0 0 0 ([] : List S_Peer)), (S_Frame.mk 0 false false false 0 0 (S_Addr.mk 0 0 0) (S_Addr.mk 0 0 0) 0 0 ([] : List Int) ([] : List Int)), 3))
          else
            some (((S_Guard.mk ([] : List S_LinkKey) 0 0 0 ([] : List S_Peer)), (S_Frame.mk 0 false false false 0 0 (S_Addr.mk 0 0 0) (S_Addr.mk 0 0 0) 0 0 ([] : List Int) ([] : List Int)), 9))
    else
      some (((S_Guard.mk ([] : List S_LinkKey) 0 0 0 ([] : List S_Peer)), (S_Frame.mk 0 false false false 0 0 (S_Addr.mk 0 0 0) (S_Addr.mk 0 0 0) 0 0 ([] : List Int) ([] : List Int)), 1))
  else
    some (((S_Guard.mk ([] : List S_LinkKey) 0 0 0 ([] : List S_Peer)), (S_Frame.mk 0 false false false 0 0 (S_Addr.mk 0 0 0) (S_Addr.mk 0 0 0) 0 0 ([] : List Int) ([] : List Int)), 1))
set_option maxRecDepth 100000 in
set_option maxHeartbeats 40000000 in
theorem okT_guard_Seal (a0 : S_Guard) (a1 : S_Frame) (a2 : Int) (r : S_Guard × S_Frame × Int) (h : F_guard_Seal a0 a1 a2 = some r) : Con Try.prog 20 [.agg (S_Guard.cs a0), .agg (S_Frame.cs a1), .c (.lit (.int .u8 (a2)))] [] (.tup [(true, [.slc 17 900002 (List.length r.1.Keys) (List.map S_LinkKey.cs r.1.Keys), .lit (.int .u32 (r.1.Counter)), .lit (.int .u32 (r.1.Reserved)), .lit (.int .u32 (r.1.Nonce)), .slc 6 900006 (List.length r.1.Peers) (List.map S_Peer.cs r.1.Peers)]), (true, [.lit (.int .i64 (r.2.1.Kind)), .lit (.bool (r.2.1.AckRequest)), .lit (.bool (r.2.1.Pending)), .lit (.bool (r.2.1.Secure)), .lit (.int .u8 (r.2.1.Seq)), .lit (.int .u16 (r.2.1.Pan)), .lit (.int .i64 (r.2.1.Dst.Mode)), .lit (.int .u16 (r.2.1.Dst.Short)), .lit (.int .u64 (r.2.1.Dst.EUI)), .lit (.int .i64 (r.2.1.Src.Mode)), .lit (.int .u16 (r.2.1.Src.Short)), .lit (.int .u64 (r.2.1.Src.EUI)), .lit (.int .u32 (r.2.1.Counter)), .lit (.int .u8 (r.2.1.Key)), .slc 1 900080 (List.length r.2.1.Payload) (List.map (ecI .u8) r.2.1.Payload), .slc 1 900081 (List.length r.2.1.MIC) (List.map (ecI .u8) r.2.1.MIC)]), (false, [.lit (.int .i64 (r.2.2))])]) [(900000, .spare 69 17 (List.length r.1.Keys)), (900004, .spare 79 6 (List.length r.1.Peers)), (900078, .spare 5 1 (List.length r.2.1.Payload)), (900079, .spare 5 1 (List.length r.2.1.MIC))] := by
  unfold F_guard_Seal at h
  refine con_of [] [(900000, []), (900004, []), (900078, []), (900079, [])] 79 Try.func20 rfl rfl (by kernel_rfl) (fun K => ?_)
  refine TS_go 12 ?_
  replace h := bindO h
  obtain ⟨v1, hv1, h⟩ := h
  refine TS_call [] (ok_guard_Valid a0 v1 hv1) (by kernel_rfl) (by kernel_rfl) ?_
  refine TS_go 2 ?_
  replace h := condO h
  rcases h with ⟨hb2, h⟩ | ⟨hb2, h⟩
  · subst hb2
    refine TS_go 1 ?_
    replace h := bindO h
    obtain ⟨v3, hv3, h⟩ := h
    refine TS_call [] (ok_frame_Valid a1 v3 hv3) (by kernel_rfl) (by kernel_rfl) ?_
    refine TS_go 3 ?_
    replace h := condO h
    rcases h with ⟨hb4, h⟩ | ⟨hb4, h⟩
    · subst hb4
      refine TS_go 5 ?_
      replace h := condO h
      rcases h with ⟨hb5, h⟩ | ⟨hb5, h⟩
      · refine TS_know 23 (b := true) hb5 (by kernel_rfl) (by kernel_rfl) ?_
        refine TS_know 24 (b := true) hb5 (by kernel_rfl) (by kernel_rfl) ?_
        refine TS_know 25 (b := true) hb5 (by kernel_rfl) (by kernel_rfl) ?_
        refine TS_go 4 ?_
        refine TS_T (by kernel_rfl) rfl ?_
        refine TS_go 8 ?_
        refine TS_nilB 6 0 600000 69 17 (by kernel_rfl) ?_
        refine TS_nilB 6 4 600001 79 6 (by kernel_rfl) ?_
        refine TS_nilB 7 14 600002 5 1 (by kernel_rfl) ?_
        refine TS_nilB 7 15 600003 5 1 (by kernel_rfl) ?_
        refine TS_fitU ⟨[(6, []), (7, []), (8, [])], [(600000, (900000, [])), (600001, (900004, [])), (600002, (900078, [])), (600003, (900079, [])), (6, (6, [])), (7, (7, []))]⟩ (by kernel_rfl) ?_
        refine TS_go 2 ?_
        have ret := Option.some.inj h
        subst ret
        exact TS_ret (by kernel_rfl) (by kernel_rfl) (by kernel_rfl)
      · refine TS_know 23 (b := false) hb5 (by kernel_rfl) (by kernel_rfl) ?_
        refine TS_know 24 (b := false) hb5 (by kernel_rfl) (by kernel_rfl) ?_
        refine TS_know 25 (b := false) hb5 (by kernel_rfl) (by kernel_rfl) ?_
        refine TS_go 4 ?_
        replace h := condO h
        rcases h with ⟨hb6, h⟩ | ⟨hb6, h⟩
        · refine TS_know 27 (b := true) hb6 (by kernel_rfl) (by kernel_rfl) ?_
          refine TS_know 28 (b := true) hb6 (by kernel_rfl) (by kernel_rfl) ?_
          refine TS_T (by kernel_rfl) rfl ?_
          refine TS_go 8 ?_
          refine TS_nilB 6 0 600000 69 17 (by kernel_rfl) ?_
          refine TS_nilB 6 4 600001 79 6 (by kernel_rfl) ?_
          refine TS_nilB 7 14 600002 5 1 (by kernel_rfl) ?_
          refine TS_nilB 7 15 600003 5 1 (by kernel_rfl) ?_
          refine TS_fitU ⟨[(6, []), (7, []), (8, [])], [(600000, (900000, [])), (600001, (900004, [])), (600002, (900078, [])), (600003, (900079, [])), (6, (6, [])), (7, (7, []))]⟩ (by kernel_rfl) ?_
          refine TS_go 2 ?_
          have ret := Option.some.inj h
          subst ret
          exact TS_ret (by kernel_rfl) (by kernel_rfl) (by kernel_rfl)
        · refine TS_know 27 (b := false) hb6 (by kernel_rfl) (by kernel_rfl) ?_
          refine TS_know 28 (b := false) hb6 (by kernel_rfl) (by kernel_rfl) ?_
          refine TS_F (by kernel_rfl) rfl ?_
          refine TS_go 5 ?_
          replace h := bindO h
          obtain ⟨v7, hv7, h⟩ := h
          refine TS_call [] (ok_guard_keyOf a0 a2 v7 hv7) (by kernel_rfl) (by kernel_rfl) ?_
          refine TS_go 13 ?_
          replace h := condO h
          rcases h with ⟨hb8, h⟩ | ⟨hb8, h⟩
          · refine TS_know 36 (b := true) hb8 (by kernel_rfl) (by kernel_rfl) ?_
            refine TS_know 10 (b := true) hb8 (by kernel_rfl) (by kernel_rfl) ?_
            refine TS_know 37 (b := true) hb8 (by kernel_rfl) (by kernel_rfl) ?_
            refine TS_know 38 (b := false) (notF hb8) (by kernel_rfl) (by kernel_rfl) ?_
            refine TS_F (by kernel_rfl) rfl ?_
            refine TS_go 10 ?_
            replace h := condO h
            rcases h with ⟨hb9, h⟩ | ⟨hb9, h⟩
            · refine TS_know 45 (b := true) hb9 (by kernel_rfl) (by kernel_rfl) ?_
              refine TS_T (by kernel_rfl) rfl ?_
              refine TS_go 8 ?_
              refine TS_nilB 6 0 600000 69 17 (by kernel_rfl) ?_
              refine TS_nilB 6 4 600001 79 6 (by kernel_rfl) ?_
              refine TS_nilB 7 14 600002 5 1 (by kernel_rfl) ?_
              refine TS_nilB 7 15 600003 5 1 (by kernel_rfl) ?_
              refine TS_fitU ⟨[(6, []), (7, []), (8, [])], [(600000, (900000, [])), (600001, (900004, [])), (600002, (900078, [])), (600003, (900079, [])), (6, (6, [])), (7, (7, []))]⟩ (by kernel_rfl) ?_
              refine TS_go 2 ?_
              have ret := Option.some.inj h
              subst ret
              exact TS_ret (by kernel_rfl) (by kernel_rfl) (by kernel_rfl)
            · refine TS_know 45 (b := false) hb9 (by kernel_rfl) (by kernel_rfl) ?_
              refine TS_F (by kernel_rfl) rfl ?_
              refine TS_go 20 ?_
              refine TS_draw (by kernel_rfl) ?_
              refine TD_go 2 ?_
              replace h := bindO h
              obtain ⟨v10, hv10, h⟩ := h
              refine TD_conX (d := 57) (e := 900000) [] (okT_frame_Header (S_Frame.mk a1.Kind a1.AckRequest a1.Pending true a1.Seq a1.Pan a1.Dst a1.Src a0.Counter a2 a1.Payload a1.MIC) v10 hv10) (by kernel_rfl) (by kernel_rfl) ?_
              replace h := bindO h
              obtain ⟨v11, hv11, h⟩ := h
              refine TD_conX (d := 58) (e := 900000) [[], [2]] (okT_siphash_Tag v7.1 v10 4 v11 hv11) (by kernel_rfl) (by kernel_rfl) ?_
              refine TD_go 5 ?_
              refine TD_end (by kernel_rfl) ?_
              refine TS_go 4 ?_
              replace h := bindO h
              obtain ⟨v12, hv12, h⟩ := h
              refine TS_call [[0, 0, 0, 0, 0, 0, 0, 0, 0, 0, 0, 0, 0, 0, 2, 2]] (ok_frame_Valid (S_Frame.mk a1.Kind a1.AckRequest a1.Pending true a1.Seq a1.Pan a1.Dst a1.Src a0.Counter a2 a1.Payload v11.1) v12 hv12) (by kernel_rfl) (by kernel_rfl) ?_
              refine TS_go 2 ?_
              replace h := condO h
              rcases h with ⟨hb13, h⟩ | ⟨hb13, h⟩
              · subst hb13
                refine TS_F (by kernel_rfl) rfl ?_
                refine TS_go 5 ?_
                replace h := bindO h
                obtain ⟨v14, hv14, h⟩ := h
                refine TS_con [] [(69, 900000)] none (okT_guard_clone_byte a1.Payload v14 hv14) (by kernel_rfl) (by kernel_rfl) (by kernel_rfl) ?_
                refine TS_go 6 ?_
                replace h := bindO h
                obtain ⟨v15, hv15, h⟩ := h
                refine TS_con [] [(72, 900000), (600000, 900004)] none (okT_guard_own a0 v15 hv15) (by kernel_rfl) (by kernel_rfl) (by kernel_rfl) ?_
                refine TS_go 12 ?_
                refine TS_draw (by kernel_rfl) ?_
                refine TD_go 5 ?_
                refine TD_end (by kernel_rfl) ?_
                refine TS_fitU ⟨[(6, []), (7, []), (8, [])], [(72, (900000, [])), (600000, (900004, [])), (69, (900078, [])), (58, (900079, [])), (6, (6, [])), (7, (7, []))]⟩ (by kernel_rfl) ?_
                refine TS_go 1 ?_
                have ret := Option.some.inj h
                subst ret
                exact TS_ret (by kernel_rfl) (by kernel_rfl) (by kernel_rfl)
              · subst hb13
                refine TS_T (by kernel_rfl) rfl ?_
                refine TS_go 8 ?_
                refine TS_nilB 6 0 600000 69 17 (by kernel_rfl) ?_
                refine TS_nilB 6 4 600001 79 6 (by kernel_rfl) ?_
                refine TS_nilB 7 14 600002 5 1 (by kernel_rfl) ?_
                refine TS_nilB 7 15 600003 5 1 (by kernel_rfl) ?_
                refine TS_fitU ⟨[(6, []), (7, []), (8, [])], [(600000, (900000, [])), (600001, (900004, [])), (600002, (900078, [])), (600003, (900079, [])), (6, (6, [])), (7, (7, []))]⟩ (by kernel_rfl) ?_
                refine TS_go 2 ?_
                have ret := Option.some.inj h
                subst ret
                exact TS_ret (by kernel_rfl) (by kernel_rfl) (by kernel_rfl)
          · refine TS_know 36 (b := false) hb8 (by kernel_rfl) (by kernel_rfl) ?_
            refine TS_know 10 (b := false) hb8 (by kernel_rfl) (by kernel_rfl) ?_
            refine TS_know 37 (b := false) hb8 (by kernel_rfl) (by kernel_rfl) ?_
            refine TS_know 38 (b := true) (notT hb8) (by kernel_rfl) (by kernel_rfl) ?_
            refine TS_T (by kernel_rfl) rfl ?_
            refine TS_go 8 ?_
            refine TS_nilB 6 0 600000 69 17 (by kernel_rfl) ?_
            refine TS_nilB 6 4 600001 79 6 (by kernel_rfl) ?_
            refine TS_nilB 7 14 600002 5 1 (by kernel_rfl) ?_
            refine TS_nilB 7 15 600003 5 1 (by kernel_rfl) ?_
            refine TS_fitU ⟨[(6, []), (7, []), (8, [])], [(600000, (900000, [])), (600001, (900004, [])), (600002, (900078, [])), (600003, (900079, [])), (6, (6, [])), (7, (7, []))]⟩ (by kernel_rfl) ?_
            refine TS_go 2 ?_
            have ret := Option.some.inj h
            subst ret
            exact TS_ret (by kernel_rfl) (by kernel_rfl) (by kernel_rfl)
    · subst hb4
      refine TS_go 9 ?_
      refine TS_T (by kernel_rfl) rfl ?_
      refine TS_go 8 ?_
      refine TS_nilB 6 0 600000 69 17 (by kernel_rfl) ?_
      refine TS_nilB 6 4 600001 79 6 (by kernel_rfl) ?_
      refine TS_nilB 7 14 600002 5 1 (by kernel_rfl) ?_
      refine TS_nilB 7 15 600003 5 1 (by kernel_rfl) ?_
      refine TS_fitU ⟨[(6, []), (7, []), (8, [])], [(600000, (900000, [])), (600001, (900004, [])), (600002, (900078, [])), (600003, (900079, [])), (6, (6, [])), (7, (7, []))]⟩ (by kernel_rfl) ?_
      refine TS_go 2 ?_
      have ret := Option.some.inj h
      subst ret
      exact TS_ret (by kernel_rfl) (by kernel_rfl) (by kernel_rfl)
  · subst hb2
    refine TS_go 14 ?_
    refine TS_T (by kernel_rfl) rfl ?_
    refine TS_go 8 ?_
    refine TS_nilB 6 0 600000 69 17 (by kernel_rfl) ?_
    refine TS_nilB 6 4 600001 79 6 (by kernel_rfl) ?_
    refine TS_nilB 7 14 600002 5 1 (by kernel_rfl) ?_
    refine TS_nilB 7 15 600003 5 1 (by kernel_rfl) ?_
    refine TS_fitU ⟨[(6, []), (7, []), (8, [])], [(600000, (900000, [])), (600001, (900004, [])), (600002, (900078, [])), (600003, (900079, [])), (6, (6, [])), (7, (7, []))]⟩ (by kernel_rfl) ?_
    refine TS_go 2 ?_
    have ret := Option.some.inj h
    subst ret
    exact TS_ret (by kernel_rfl) (by kernel_rfl) (by kernel_rfl)
theorem ok_guard_Seal (a0 : S_Guard) (a1 : S_Frame) (a2 : Int) (r : S_Guard × S_Frame × Int) (h : F_guard_Seal a0 a1 a2 = some r) : Con Try.prog 20 [.agg (S_Guard.cs a0), .agg (S_Frame.cs a1), .c (.lit (.int .u8 (a2)))] [] (.tup [(true, S_Guard.cs r.1), (true, S_Frame.cs r.2.1), (false, [.lit (.int .i64 (r.2.2))])]) [] :=
  con_drop [[18, 0, 0, 0, 7], [0, 0, 0, 0, 0, 0, 0, 0, 0, 0, 0, 0, 0, 0, 2, 2]] [] (okT_guard_Seal a0 a1 a2 r h) (by kernel_rfl) (by kernel_rfl) (by kernel_rfl)

/-- multihop/multihoplaw06.known -/
noncomputable def F_law06_known  : Option (Bool) :=
  (F_law06_keyed 9 0).bind fun v1 =>
  (F_law06_keyed 0 5).bind fun v2 =>
  (F_guard_Challenge v2).bind fun v3 =>
  (F_guard_Respond v3).bind fun v4 =>
  (F_law06_short 2).bind fun v5 =>
  (F_law06_short 1).bind fun v6 =>
  (F_guard_Seal v1 (S_Frame.mk 3 false false false 0 0 v5 v6 0 0 v4.1 ([] : List Int)) 1).bind fun v7 =>
  (F_guard_Open v2 v7.2.1).bind fun v8 =>
  (F_guard_Open v8.1 v7.2.1).bind fun v9 =>
  bif v4.2 then
    bif (v7.2.2 == 0) then
      bif (v8.2 == 0) then
        some ((v9.2 == 13))
      else
        some (false)
    else
      some (false)
  else
    some (false)
set_option maxRecDepth 100000 in
set_option maxHeartbeats 40000000 in
theorem ok_law06_known  (r : Bool) (h : F_law06_known  = some r) : Con Try.prog 17 [] [] (.c (.lit (.bool (r)))) [] := by
  unfold F_law06_known at h
  refine con_of [] [] 55 Try.func17 rfl rfl (by kernel_rfl) (fun K => ?_)
  refine TS_go 6 ?_
  replace h := bindO h
  obtain ⟨v1, hv1, h⟩ := h
  refine TS_con [] [(12, 900000)] none (okT_law06_keyed 9 0 v1 hv1) (by kernel_rfl) (by kernel_rfl) (by kernel_rfl) ?_
  replace h := bindO h
  obtain ⟨v2, hv2, h⟩ := h
  refine TS_con [] [(13, 900000)] none (okT_law06_keyed 0 5 v2 hv2) (by kernel_rfl) (by kernel_rfl) (by kernel_rfl) ?_
  refine TS_go 8 ?_
  replace h := bindO h
  obtain ⟨v3, hv3, h⟩ := h
  refine TS_con [[18, 0, 0, 0, 7]] [(16, 900000)] none (okT_guard_Challenge v2 v3 hv3) (by kernel_rfl) (by kernel_rfl) (by kernel_rfl) ?_
  replace h := bindO h
  obtain ⟨v4, hv4, h⟩ := h
  refine TS_con [[2]] [(17, 900000)] none (okT_guard_Respond v3 v4 hv4) (by kernel_rfl) (by kernel_rfl) (by kernel_rfl) ?_
  refine TS_go 7 ?_
  refine TS_draw (by kernel_rfl) ?_
  refine TD_go 1 ?_
  replace h := bindO h
  obtain ⟨v5, hv5, h⟩ := h
  refine TD_call [] (ok_law06_short 2 v5 hv5) (by kernel_rfl) (by kernel_rfl) ?_
  replace h := bindO h
  obtain ⟨v6, hv6, h⟩ := h
  refine TD_call [] (ok_law06_short 1 v6 hv6) (by kernel_rfl) (by kernel_rfl) ?_
  refine TD_go 2 ?_
  replace h := bindO h
  obtain ⟨v7, hv7, h⟩ := h
  refine TD_call [[18, 0, 0, 0, 7], [0, 0, 0, 0, 0, 0, 0, 0, 0, 0, 0, 0, 0, 0, 2, 2]] (ok_guard_Seal v1 (S_Frame.mk 3 false false false 0 0 v5 v6 0 0 v4.1 ([] : List Int)) 1 v7 hv7) (by kernel_rfl) (by kernel_rfl) ?_
  refine TD_go 9 ?_
  refine TD_end (by kernel_rfl) ?_
  refine TS_go 4 ?_
  replace h := bindO h
  obtain ⟨v8, hv8, h⟩ := h
  refine TS_con [[18, 0, 0, 0, 7]] [(33, 900000), (600000, 900004)] none (okT_guard_Open v2 v7.2.1 v8 hv8) (by kernel_rfl) (by kernel_rfl) (by kernel_rfl) ?_
  refine TS_go 11 ?_
  replace h := bindO h
  obtain ⟨v9, hv9, h⟩ := h
  refine TS_con [[18, 0, 0, 0, 7]] [(39, 900000), (600001, 900004)] none (okT_guard_Open v8.1 v7.2.1 v9 hv9) (by kernel_rfl) (by kernel_rfl) (by kernel_rfl) ?_
  refine TS_go 11 ?_
  replace h := condO h
  rcases h with ⟨hb10, h⟩ | ⟨hb10, h⟩
  · refine TS_know 19 (b := true) hb10 (by kernel_rfl) (by kernel_rfl) ?_
    refine TS_know 4 (b := true) hb10 (by kernel_rfl) (by kernel_rfl) ?_
    refine TS_know 42 (b := true) hb10 (by kernel_rfl) (by kernel_rfl) ?_
    refine TS_know 43 (b := true) hb10 (by kernel_rfl) (by kernel_rfl) ?_
    refine TS_go 4 ?_
    replace h := condO h
    rcases h with ⟨hb11, h⟩ | ⟨hb11, h⟩
    · refine TS_know 45 (b := true) hb11 (by kernel_rfl) (by kernel_rfl) ?_
      refine TS_know 46 (b := true) hb11 (by kernel_rfl) (by kernel_rfl) ?_
      refine TS_know 47 (b := true) hb11 (by kernel_rfl) (by kernel_rfl) ?_
      refine TS_go 4 ?_
      replace h := condO h
      rcases h with ⟨hb12, h⟩ | ⟨hb12, h⟩
      · refine TS_know 49 (b := true) hb12 (by kernel_rfl) (by kernel_rfl) ?_
        refine TS_know 50 (b := true) hb12 (by kernel_rfl) (by kernel_rfl) ?_
        refine TS_know 51 (b := true) hb12 (by kernel_rfl) (by kernel_rfl) ?_
        refine TS_go 6 ?_
        have ret := Option.some.inj h
        subst ret
        exact TS_ret (by kernel_rfl) (by kernel_rfl) (by kernel_rfl)
      · refine TS_know 49 (b := false) hb12 (by kernel_rfl) (by kernel_rfl) ?_
        refine TS_know 50 (b := false) hb12 (by kernel_rfl) (by kernel_rfl) ?_
        refine TS_know 51 (b := false) hb12 (by kernel_rfl) (by kernel_rfl) ?_
        refine TS_go 6 ?_
        have ret := Option.some.inj h
        subst ret
        exact TS_ret (by kernel_rfl) (by kernel_rfl) (by kernel_rfl)
    · refine TS_know 45 (b := false) hb11 (by kernel_rfl) (by kernel_rfl) ?_
      refine TS_know 46 (b := false) hb11 (by kernel_rfl) (by kernel_rfl) ?_
      refine TS_know 47 (b := false) hb11 (by kernel_rfl) (by kernel_rfl) ?_
      refine TS_go 10 ?_
      have ret := Option.some.inj h
      subst ret
      exact TS_ret (by kernel_rfl) (by kernel_rfl) (by kernel_rfl)
  · refine TS_know 19 (b := false) hb10 (by kernel_rfl) (by kernel_rfl) ?_
    refine TS_know 4 (b := false) hb10 (by kernel_rfl) (by kernel_rfl) ?_
    refine TS_know 42 (b := false) hb10 (by kernel_rfl) (by kernel_rfl) ?_
    refine TS_know 43 (b := false) hb10 (by kernel_rfl) (by kernel_rfl) ?_
    refine TS_go 14 ?_
    have ret := Option.some.inj h
    subst ret
    exact TS_ret (by kernel_rfl) (by kernel_rfl) (by kernel_rfl)
end
section
open Go.RowKit
attribute [local irreducible] TS go TD goD

/-- multihop/multihoplaw06.GuardForged -/
noncomputable def F_law06_GuardForged_l1 (v2 : S_Guard × S_multihopmade_Tape) (v3 : S_Frame × S_multihopmade_Tape) (s8 : Bool × Int) : Option ((Bool × Int) ⊕ (Bool)) :=
  bif (decide (s8.2 < (List.length v2.1.Keys : Int))) then
    bif s8.1 then
      some (Sum.inl (true, IntKind.wrap .i64 (s8.2 + 1)))
    else
      (idx v2.1.Keys s8.2).bind fun e13 =>
      some (Sum.inl ((e13.Index == v3.1.Key), IntKind.wrap .i64 (s8.2 + 1)))
  else
    some (Sum.inr s8.1)
noncomputable def F_law06_GuardForged (a0 : List Int) (a1 : Int) (a2 : Int) : Option (Bool) :=
  (F_made_New a0).bind fun v1 =>
  (F_made_Tape_Guard v1).bind fun v2 =>
  (F_made_Tape_Sealed v2.2 v2.1).bind fun v3 =>
  bif (a2 == 0) then
    (F_law06_known ).bind fun v5 =>
    some (v5)
  else
    bif ((List.length v3.1.MIC : Int) != 4) then
      (F_law06_known ).bind fun v7 =>
      some (v7)
    else
      (loopO (F_law06_GuardForged_l1 v2 v3) (false, 0)).bind fun b9 =>
      (appO 1 (List.take (List.length ([] : List Int)) ([] : List Int)) (Cut.app .whole v3.1.MIC)).bind fun l15 =>
      (F_made_Mod a1 4).bind fun v16 =>
      (idx (Cut.app .whole l15) v16).bind fun _e17 =>
      (l15[(0 + Int.toNat v16)]?).bind fun e18 =>
      (idx (Cut.app .whole l15) v16).bind fun _e19 =>
      (l15[(0 + Int.toNat v16)]?).bind fun _e20 =>
      (F_guard_Open v2.1 (S_Frame.mk v3.1.Kind v3.1.AckRequest v3.1.Pending v3.1.Secure v3.1.Seq v3.1.Pan v3.1.Dst v3.1.Src v3.1.Counter v3.1.Key v3.1.Payload (List.set l15 (0 + Int.toNat v16) (ixor .u8 e18 a2)))).bind fun v21 =>
      (F_law06_known ).bind fun v22 =>
      bif v22 then
        bif ((v21.2 == 12) == b9) then
          some (((v21.2 == 9) == (!b9)))
        else
          some (false)
      else
        some (false)
set_option maxRecDepth 100000 in
set_option maxHeartbeats 40000000 in
theorem ok_law06_GuardForged (a0 : List Int) (a1 : Int) (a2 : Int) (r : Bool) (h : F_law06_GuardForged a0 a1 a2 = some r) : Con Try.prog 7 [.c (eS 1 (ecI .i64) (a0)), .c (.lit (.int .i64 (a1))), .c (.lit (.int .u8 (a2)))] [] (.c (.lit (.bool (r)))) [] := by
  unfold F_law06_GuardForged at h
  refine con_of [] [] 83 Try.func7 rfl rfl (by kernel_rfl) (fun K => ?_)
  refine TS_go 7 ?_
  replace h := bindO h
  obtain ⟨v1, hv1, h⟩ := h
  refine TS_con [] [(15, 10)] none (ok_made_New a0 v1 hv1) (by kernel_rfl) (by kernel_rfl) (by kernel_rfl) ?_
  refine TS_go 5 ?_
  replace h := bindO h
  obtain ⟨v2, hv2, h⟩ := h
  refine TS_con [] [(17, 900000), (600000, 900004)] (some (15, 0)) (okT_made_Tape_Guard v1 v2 hv2) (by kernel_rfl) (by kernel_rfl) (by kernel_rfl) ?_
  refine TS_go 7 ?_
  replace h := bindO h
  obtain ⟨v3, hv3, h⟩ := h
  refine TS_con [[], [18, 0, 0, 0, 7]] [] (some (15, 0)) (ok_made_Tape_Sealed v2.2 v2.1 v3 hv3) (by kernel_rfl) (by kernel_rfl) (by kernel_rfl) ?_
  refine TS_go 9 ?_
  replace h := condO h
  rcases h with ⟨hb4, h⟩ | ⟨hb4, h⟩
  · refine TS_know 22 (b := true) hb4 (by kernel_rfl) (by kernel_rfl) ?_
    refine TS_know 23 (b := true) hb4 (by kernel_rfl) (by kernel_rfl) ?_
    refine TS_go 6 ?_
    refine TS_T (by kernel_rfl) rfl ?_
    refine TS_go 2 ?_
    replace h := bindO h
    obtain ⟨v5, hv5, h⟩ := h
    refine TS_call [] (ok_law06_known  v5 hv5) (by kernel_rfl) (by kernel_rfl) ?_
    refine TS_go 4 ?_
    have ret := Option.some.inj h
    subst ret
    exact TS_ret (by kernel_rfl) (by kernel_rfl) (by kernel_rfl)
  · refine TS_know 22 (b := false) hb4 (by kernel_rfl) (by kernel_rfl) ?_
    refine TS_know 23 (b := false) hb4 (by kernel_rfl) (by kernel_rfl) ?_
    refine TS_go 6 ?_
    replace h := condO h
    rcases h with ⟨hb6, h⟩ | ⟨hb6, h⟩
    · refine TS_know 27 (b := true) hb6 (by kernel_rfl) (by kernel_rfl) ?_
      refine TS_know 28 (b := true) hb6 (by kernel_rfl) (by kernel_rfl) ?_
      refine TS_T (by kernel_rfl) rfl ?_
      refine TS_go 2 ?_
      replace h := bindO h
      obtain ⟨v7, hv7, h⟩ := h
      refine TS_call [] (ok_law06_known  v7 hv7) (by kernel_rfl) (by kernel_rfl) ?_
      refine TS_go 4 ?_
      have ret := Option.some.inj h
      subst ret
      exact TS_ret (by kernel_rfl) (by kernel_rfl) (by kernel_rfl)
    · refine TS_know 27 (b := false) hb6 (by kernel_rfl) (by kernel_rfl) ?_
      refine TS_know 28 (b := false) hb6 (by kernel_rfl) (by kernel_rfl) ?_
      refine TS_F (by kernel_rfl) rfl ?_
      refine TS_go 11 ?_
      refine TS_cut ⟨[(1, []), (2, []), (8, []), (9, []), (10, []), (11, [])], [(17, (17, [])), (600000, (600000, [])), (8, (8, [])), (9, (9, []))]⟩ (.mk [.code (codeAt [1, 1, 1, 1, 1, 1, 0, 1, 0] (bodyOf Try.f7)), .blk 0, .code (codeAt [1, 1, 1, 1, 1, 1, 1] (bodyOf Try.f7))] .normal ⟨[(1, .c (.lit (.int .i64 (a1)))), (2, .c (.lit (.int .u8 (a2)))), (8, .c (.box 8 0)), (9, .c (.box 9 0)), (10, .c (.lit (.bool (false)))), (11, .c (.lit (.int .i64 (0))))], [(17, .spare 69 17 (List.length v2.1.Keys)), (600000, .spare 79 6 (List.length v2.1.Peers)), (8, .box [.slc 17 19 (List.length v2.1.Keys) (List.map S_LinkKey.cs v2.1.Keys), .lit (.int .u32 (v2.1.Counter)), .lit (.int .u32 (v2.1.Reserved)), .lit (.int .u32 (v2.1.Nonce)), .slc 6 600002 (List.length v2.1.Peers) (List.map S_Peer.cs v2.1.Peers)]), (9, .box [.lit (.int .i64 (v3.1.Kind)), .lit (.bool (v3.1.AckRequest)), .lit (.bool (v3.1.Pending)), .lit (.bool (v3.1.Secure)), .lit (.int .u8 (v3.1.Seq)), .lit (.int .u16 (v3.1.Pan)), .lit (.int .i64 (v3.1.Dst.Mode)), .lit (.int .u16 (v3.1.Dst.Short)), .lit (.int .u64 (v3.1.Dst.EUI)), .lit (.int .i64 (v3.1.Src.Mode)), .lit (.int .u16 (v3.1.Src.Short)), .lit (.int .u64 (v3.1.Src.EUI)), .lit (.int .u32 (v3.1.Counter)), .lit (.int .u8 (v3.1.Key)), .slc 1 0 (List.length v3.1.Payload) (List.map (ecI .u8) v3.1.Payload), .slc 1 0 (List.length v3.1.MIC) (List.map (ecI .u8) v3.1.MIC)])]⟩) (by kernel_rfl) (by kernel_rfl) ?_
      replace h := bindO h
      obtain ⟨y10, hl1, hK1⟩ := h
      refine TS_loopB (F_law06_GuardForged_l1 v2 v3) ⟨[(1, []), (2, []), (8, []), (9, []), (10, []), (11, [])], [(8, (8, [])), (9, (9, [])), (17, (17, [])), (600000, (600000, []))]⟩ (fun (s8 : Bool × Int) => [(10, .c (.lit (.bool (s8.1)))), (11, .c (.lit (.int .i64 (s8.2))))]) (fun (s8 : Bool × Int) => []) (false, 0) y10 (.exit 0) (fun (b : Bool) => b) ⟨[(1, []), (2, []), (8, []), (9, []), (10, [])], [(8, (8, [])), (9, (9, [])), (17, (17, [])), (600000, (600000, []))]⟩ (fun (b9 : Bool) => [(10, .c (.lit (.bool (b9))))]) (fun (b9 : Bool) => []) hl1 (by kernel_rfl) (by kernel_rfl) ?_ ?_
      · intro s8 x h hy1
        unfold F_law06_GuardForged_l1 at h
        refine TS_go 9 ?_
        replace h := condO h
        rcases h with ⟨hb11, h⟩ | ⟨hb11, h⟩
        · refine TS_know 34 (b := true) hb11 (by kernel_rfl) (by kernel_rfl) ?_
          refine TS_T (by kernel_rfl) rfl ?_
          refine TS_go 3 ?_
          refine TS_draw (by kernel_rfl) ?_
          refine TD_go 1 ?_
          replace h := condO h
          rcases h with ⟨hb12, h⟩ | ⟨hb12, h⟩
          · refine TD_know 38 (b := true) hb12 trivial (by kernel_rfl) (by kernel_rfl) ?_
            refine TD_go 11 ?_
            refine TD_end (by kernel_rfl) ?_
            refine TS_go 6 ?_
            have ret := Option.some.inj h
            subst ret
            exact TS_againB _ ⟨[(1, []), (2, []), (8, []), (9, []), (10, []), (11, [])], [(8, (8, [])), (9, (9, [])), (17, (17, [])), (600000, (600000, []))]⟩ rfl (by kernel_rfl) (by kernel_rfl)
          · refine TD_know 38 (b := false) hb12 trivial (by kernel_rfl) (by kernel_rfl) ?_
            refine TD_go 3 ?_
            replace h := bindO h
            obtain ⟨_e13, he13, h⟩ := h
            refine TD_idx S_LinkKey.cs he13 (by kernel_rfl) (by kernel_rfl) ?_
            refine TD_go 7 ?_
            refine TD_end (by kernel_rfl) ?_
            refine TS_go 6 ?_
            have ret := Option.some.inj h
            subst ret
            exact TS_againB _ ⟨[(1, []), (2, []), (8, []), (9, []), (10, []), (11, [])], [(8, (8, [])), (9, (9, [])), (17, (17, [])), (600000, (600000, []))]⟩ rfl (by kernel_rfl) (by kernel_rfl)
        · refine TS_know 34 (b := false) hb11 (by kernel_rfl) (by kernel_rfl) ?_
          refine TS_F (by kernel_rfl) rfl ?_
          refine TS_go 2 ?_
          have ret := Option.some.inj h
          subst ret
          exact TS_brkB s8.1 ⟨[(1, []), (2, []), (8, []), (9, []), (10, [])], [(8, (8, [])), (9, (9, [])), (17, (17, [])), (600000, (600000, []))]⟩ rfl (by kernel_rfl) (by kernel_rfl) (by kernel_rfl)
      · intro b9 hb
        subst y10
        have h := hK1
        refine TS_go 3 ?_
        refine TS_litNR 49 5 1 (ecI .u8) [] ([] : List Int) (by kernel_rfl) (by kernel_rfl) ?_
        refine TS_go 2 ?_
        replace h := bindO h
        obtain ⟨l15, hl15, h⟩ := h
        refine TS_appR (d := 49) (e := 5) (sz := 1) (N := List.length ([] : List Int)) (m := (List.length ([] : List Int))) (ecI .u8) (fun _ => by kernel_rfl) (l1 := ([] : List Int)) (l2 := v3.1.MIC) (c := .whole) hl15 (by kernel_rfl) (by kernel_rfl) ?_
        refine TS_go 4 ?_
        refine TS_draw (by kernel_rfl) ?_
        refine TD_go 3 ?_
        replace h := bindO h
        obtain ⟨v16, hv16, h⟩ := h
        refine TD_call [] (ok_made_Mod a1 4 v16 hv16) (by kernel_rfl) (by kernel_rfl) ?_
        replace h := bindO h
        obtain ⟨_e17, he17, h⟩ := h
        refine TD_idxR 49 1 0 (ecI .u8) .whole he17 (by kernel_rfl) (by kernel_rfl) ?_
        replace h := bindO h
        obtain ⟨e18, he18, h⟩ := h
        refine TD_ldE 5 (0 + Int.toNat v16) 0 (ecI .u8) (v := .c (.lit (.int .u8 (e18)))) he18 (by kernel_rfl) (by kernel_rfl) (by kernel_rfl) ?_
        refine TD_go 2 ?_
        replace h := bindO h
        obtain ⟨_e19, he19, h⟩ := h
        refine TD_idxR 49 1 0 (ecI .u8) .whole he19 (by kernel_rfl) (by kernel_rfl) ?_
        replace h := bindO h
        obtain ⟨_e20, he20, h⟩ := h
        refine TD_stE 49 5 1 (List.length l15) (0 + Int.toNat v16) 0 (ecI .u8) (ds := [.lit (.int .u8 (ixor .u8 e18 a2))]) (ixor .u8 e18 a2) he20 (by kernel_rfl) (by kernel_rfl) (by kernel_rfl) (by kernel_rfl) ?_
        refine TD_end (by kernel_rfl) ?_
        refine TS_go 4 ?_
        refine TS_settle 49 (by kernel_rfl) ?_
        replace h := bindO h
        obtain ⟨v21, hv21, h⟩ := h
        refine TS_con [[18, 0, 0, 0, 7], [0, 0, 0, 0, 0, 0, 0, 0, 0, 0, 0, 0, 0, 0, 2, 2]] [(66, 900000), (600001, 900004)] none (okT_guard_Open v2.1 (S_Frame.mk v3.1.Kind v3.1.AckRequest v3.1.Pending v3.1.Secure v3.1.Seq v3.1.Pan v3.1.Dst v3.1.Src v3.1.Counter v3.1.Key v3.1.Payload (List.set l15 (0 + Int.toNat v16) (ixor .u8 e18 a2))) v21 hv21) (by kernel_rfl) (by kernel_rfl) (by kernel_rfl) ?_
        refine TS_go 9 ?_
        replace h := bindO h
        obtain ⟨v22, hv22, h⟩ := h
        refine TS_call [] (ok_law06_known  v22 hv22) (by kernel_rfl) (by kernel_rfl) ?_
        refine TS_go 1 ?_
        replace h := condO h
        rcases h with ⟨hb23, h⟩ | ⟨hb23, h⟩
        · subst hb23
          refine TS_go 6 ?_
          replace h := condO h
          rcases h with ⟨hb24, h⟩ | ⟨hb24, h⟩
          · refine TS_know 74 (b := true) hb24 (by kernel_rfl) (by kernel_rfl) ?_
            refine TS_know 75 (b := true) hb24 (by kernel_rfl) (by kernel_rfl) ?_
            refine TS_know 76 (b := true) hb24 (by kernel_rfl) (by kernel_rfl) ?_
            refine TS_go 9 ?_
            have ret := Option.some.inj h
            subst ret
            exact TS_ret (by kernel_rfl) (by kernel_rfl) (by kernel_rfl)
          · refine TS_know 74 (b := false) hb24 (by kernel_rfl) (by kernel_rfl) ?_
            refine TS_know 75 (b := false) hb24 (by kernel_rfl) (by kernel_rfl) ?_
            refine TS_know 76 (b := false) hb24 (by kernel_rfl) (by kernel_rfl) ?_
            refine TS_go 9 ?_
            have ret := Option.some.inj h
            subst ret
            exact TS_ret (by kernel_rfl) (by kernel_rfl) (by kernel_rfl)
        · subst hb23
          refine TS_go 15 ?_
          have ret := Option.some.inj h
          subst ret
          exact TS_ret (by kernel_rfl) (by kernel_rfl) (by kernel_rfl)
end
section
open Go.ChangeShapes Go.WideShapes Go.ChangeAt Go.RowKit

theorem own : ownKnob Try.prog.godebug = none := by kernel_rfl
theorem laidOut : laidOutB Try.prog = true := by kernel_rfl

/-- the arguments read as before -/
theorem trodAll_below {H : Type} {enc : TypeId × Value → H} {P : Program} (hl : laidOutB P = true) {W W' : World} (hb : Below W.heap.size W W') :
    ∀ {ts : List TypeId} {vs : List Value} {ds : List (DataW H)} {ps : List MemPlace}, ts.all (fun t => P.readableRec t && decide (t < P.types.size)) = true →
      DataW.TrodAll enc P W 0 (fun _ => true) true ts vs ds ps → DataW.TrodAll enc P W' 0 (fun b => decide (b < W.heap.size)) true ts vs ds ps
  | [], _, _, _, _, h => by
    obtain ⟨rfl, rfl, rfl⟩ := trodAll_nil h
    exact trodAll_mk0
  | t :: ts, vs, ds, ps, hr, h => by
    obtain ⟨v, vs', d, ds', p, q, rfl, rfl, rfl, h1, h2⟩ := trodAll_cons h
    simp only [List.all_cons, Bool.and_eq_true, decide_eq_true_eq] at hr
    have lt : ∀ x ∈ p, x.block < W.heap.size := by obtain ⟨m, hm⟩ := h1; exact DataW.trod_lt m _ _ _ hm
    exact trodAll_cons_mk (Below.trod hl hr.1.1 hr.1.2 h1 hb lt) (trodAll_below hl hb hr.2 h2)

/-- the reader that sees all -/
def rdAll (w : World) : Rd := fun b o => w.cell? ⟨b, o, none⟩
def env0 : Env := ⟨fun _ => (0, 0), fun _ => (.slice none 0 0, .slice none 0 0)⟩
theorem vrel_lit (rd : Rd) (g : Env) (v : Value) : VRel rd g v (.c (.lit v)) := IRel.lit v
def ArgsOk (rd : Rd) (g : Env) : List Value → List SV → Prop
  | [], [] => True
  | u :: us, x :: xs => VRel rd g u x ∧ ArgsOk rd g us xs
  | _, _ => False
theorem ArgsOk.get {rd : Rd} {g : Env} : ∀ {us : List Value} {xs : List SV}, ArgsOk rd g us xs → us.length = xs.length ∧ ∀ (i : Nat) (x : SV), xs[i]? = some x → ∃ u, us[i]? = some u ∧ VRel rd g u x
  | [], [], _ => ⟨rfl, fun i x h => by simp at h⟩
  | u :: us, y :: xs, h => by
    obtain ⟨h1, h2⟩ := h
    obtain ⟨k1, k2⟩ := h2.get
    refine ⟨by simp [k1], fun i x hx => ?_⟩
    rcases i with _ | i
    · cases hx; exact ⟨u, rfl, h1⟩
    · exact k2 i x (by simpa using hx)
/-- a law that is true -/
theorem con_true {P : Program} {f : FuncId} {args : List SV} (h : Con P f args [] (.c (.lit (.bool true))) []) {W : World} {us : List Value} (ha : ArgsOk (rdAll W) env0 us args) :
    Calls P f us.toArray W fun e w' => e = .returned (.bool true) ∧ Ext W w' := by
  obtain ⟨h1, h2⟩ := ha.get
  have nol : ∀ d (x : Res), look ([] : Hp) d = some x → False := fun d x hx => by simp [look] at hx
  have noin : ∀ g b o, ¬ InFoot g ([] : Hp) b o := by rintro g b o ⟨d, r, hd, _⟩; exact nol _ _ hd
  refine (h (rdAll W) env0 W us.toArray (fun b o v hv => hv) (by simpa using h1) (fun i x hx => by simpa using h2 i x hx) (fun d x hx => (nol d x hx).elim) (fun d d' r r' b o _ hd => (nol _ _ hd).elim) (fun b o hx => (noin _ _ _ hx).elim)).mono ?_
  rintro e w' ⟨u, g', rfl, hk, _, _, _, _, hu⟩
  have hE : Ext W w' := (hk.weak (fun b o x => noin _ _ _ x)).ext
  refine ⟨?_, hE⟩
  have := (hu (rdAll w') (by
    intro b o v hv
    obtain ⟨g, rfl⟩ := hE
    have hb := World.block_lt_of_cell? _ _ hv
    unfold rdAll
    rw [cell_plus _ _ _ _ _ hb]
    exact hv) (fun b o u _ _ hc => hc)).1
  cases this
  rfl
def wfI (k : IntKind) (n : Int) : Prop := (Lit.int k n).wf = true
def Seg (rd : Rd) (cs : List Value) (off n : Nat) (l : List SC) : Prop := l.length = n ∧ ∀ (j : Nat) (y : SC), l[j]? = some y → ∃ u, cs[off + j]? = some u ∧ IRel rd u y
theorem Seg.append {rd : Rd} {cs : List Value} {off n m : Nat} {l l' : List SC} (h : Seg rd cs off n l) (k : Seg rd cs (off + n) m l') : Seg rd cs off (n + m) (l ++ l') := by
  refine ⟨by rw [List.length_append, h.1, k.1], fun j y hy => ?_⟩
  by_cases hj : j < l.length
  · rw [List.getElem?_append_left hj] at hy
    exact h.2 j y hy
  · rw [List.getElem?_append_right (by omega)] at hy
    obtain ⟨u, h1, h2⟩ := k.2 _ y hy
    have h3 := h.1
    refine ⟨u, ?_, h2⟩
    rw [← h1]
    congr 1
    omega

/-- a value of the type t is the shadow of an α -/
def Opens (P : Program) (t : TypeId) {α : Type} (f : α → List SC) (wf : α → Prop) : Prop :=
  ∀ (H : Type) (enc : TypeId × Value → H) (W : World) (fuel : Nat) (cs : List Value) (x : DataW H × List MemPlace), DataW.trod enc P W 0 (fun _ => true) true fuel t cs = some x → ∃ a : α, Seg (rdAll W) cs 0 cs.length (f a) ∧ wf a

theorem opens_int {P : Program} {t : TypeId} {k : IntKind} (ht : P.underlying t = some (.int k)) : Opens P t (ecI k) (wfI k) := by
  intro H enc W fuel cs x h
  obtain ⟨n, rfl, _, hw⟩ := DataW.trod_int ht h
  refine ⟨n, ⟨rfl, fun j y hy => ?_⟩, hw⟩
  rcases j with _ | j
  · simp only [ecI, List.getElem?_cons_zero, Option.some.injEq] at hy
    subst hy
    exact ⟨_, rfl, .lit _⟩
  · simp [ecI] at hy
end
section
open Go.ChangeShapes Go.WideShapes Go.ChangeAt Go.RowKit

def Wt (P : Program) (t : TypeId) {H : Type} (d : DataW H) : Prop := ∀ n ∈ d.weights P t, n ≤ reachBytes
def OpensR (P : Program) (t : TypeId) {α : Type} (f : α → List SC) (wf : α → Prop) : Prop :=
  ∀ (H : Type) (enc : TypeId × Value → H) (W : World) (fuel : Nat) (cs : List Value) (x : DataW H × List MemPlace), DataW.trod enc P W 0 (fun _ => true) true fuel t cs = some x → Wt P t x.1 → ∃ a : α, Seg (rdAll W) cs 0 cs.length (f a) ∧ wf a
theorem Opens.r {P : Program} {t : TypeId} {α : Type} {f : α → List SC} {wf : α → Prop} (h : Opens P t f wf) : OpensR P t f wf := fun H enc W fuel cs x h1 _ => h H enc W fuel cs x h1
def wfR {α : Type} (p : α → Prop) (l : List α) : Prop := l.length ≤ 140737488351232 ∧ ∀ z ∈ l, p z
theorem mem_weightsAll {H : Type} {P : Program} {e : TypeId} : ∀ {l : List (DataW H)} {d : DataW H}, d ∈ l → ∀ n ∈ d.weights P e, n ∈ DataW.weightsAll P e l
  | x :: l, d, h, n, hn => by
    simp only [DataW.weightsAll, List.mem_append]
    rcases List.mem_cons.1 h with rfl | h
    · exact Or.inl hn
    · exact Or.inr (mem_weightsAll h n hn)
theorem wt_of {H : Type} {P : Program} {ts : List TypeId} {ds : List (DataW H)} (h : (DataW.weightsEach P ts ds).all (· ≤ reachBytes) = true) {j : Nat} {t : TypeId} {d : DataW H} (ht : ts[j]? = some t) (hd : ds[j]? = some d) : Wt P t d := fun n hn => by
  have := List.all_eq_true.1 h _ (DataW.weights_mem_each ht hd n hn)
  simpa using this
theorem opens_sliceR {P : Program} {t e : TypeId} {sz : Nat} (ht : P.underlying t = some (.slice e)) (hsz : P.cellsOf e = sz) {α : Type} {f : α → List SC} {wf : α → Prop} (hop : OpensR P e f wf) (hlen : ∀ a, (f a).length = sz) (hpos : decide (0 < sz) = true) (hby : decide (0 < P.bytesOf e) = true) : OpensR P t (ecS sz f) (wfR wf) := by
  intro H enc W fuel cs x h hw
  have hb := of_decide_eq_true hby
  have hp := of_decide_eq_true hpos
  rcases DataW.trod_slice ht h with ⟨rfl, _⟩ | ⟨a, len, cap, elems, rest, m, _, rfl, rfl, _, hlc, hcm, hel, hg, _⟩
  · refine ⟨[], ⟨rfl, fun j y hy => ?_⟩, by simp, fun z hz => absurd hz (by simp)⟩
    rcases j with _ | j
    · simp only [ecS, List.map_nil, List.getElem?_cons_zero, Option.some.injEq] at hy
      subst hy
      exact ⟨_, rfl, .nil _ _ _ (by decide)⟩
    · simp [ecS] at hy
  · have e0 : DataW.weights P t (.slice (elems.map (·.1)) (rest.map (·.1)) : DataW H) = (((elems.map (·.1)).length + (rest.map (·.1)).length) * P.bytesOf e :: (DataW.weightsAll P e (elems.map (·.1)) ++ DataW.weightsAll P e (rest.map (·.1)))) := by simp [DataW.weights, ht]
    have hlen' : len ≤ 140737488351232 := by
      have h2 := hw (((elems.map (·.1)).length + (rest.map (·.1)).length) * P.bytesOf e) (by rw [e0]; exact List.mem_cons_self)
      have h3 : len * 1 ≤ ((elems.map (·.1)).length + (rest.map (·.1)).length) * P.bytesOf e := Nat.mul_le_mul (by rw [List.length_map, hel]; omega) hb
      have h4 : reachBytes = 140737488351232 := rfl
      omega
    have key : ∀ i, i < len → ∃ (us : List Value) (b : α), W.cells? 0 (a.add (i * sz)) sz = some us ∧ Seg (rdAll W) us 0 us.length (f b) ∧ wf b := by
      intro i hi
      have h1 := hg i hi
      rw [hsz] at h1
      obtain ⟨y, hy⟩ : ∃ y, elems[i]? = some y := ⟨_, List.getElem?_eq_getElem (by omega)⟩
      rw [hy] at h1
      obtain ⟨us, k1, k2⟩ := Option.bind_eq_some_iff.1 h1
      obtain ⟨b, k3, k4⟩ := hop H enc W m us y k2 (fun n hn => hw n (by
        rw [e0]
        exact List.mem_cons_of_mem _ (List.mem_append_left _ (mem_weightsAll (d := y.1) (List.mem_map.2 ⟨y, List.mem_of_getElem? hy, rfl⟩) n hn))))
      exact ⟨us, b, k1, k3, k4⟩
    have key2 : ∃ l : List α, l.length = len ∧ ∀ i b, l[i]? = some b → wf b ∧ ∃ us, W.cells? 0 (a.add (i * sz)) sz = some us ∧ Seg (rdAll W) us 0 us.length (f b) := by
      have : ∀ q, q ≤ len → ∃ l : List α, l.length = q ∧ ∀ i b, l[i]? = some b → wf b ∧ ∃ us, W.cells? 0 (a.add (i * sz)) sz = some us ∧ Seg (rdAll W) us 0 us.length (f b) := by
        intro q
        induction q with
        | zero => exact fun _ => ⟨[], rfl, fun i b hb => by simp at hb⟩
        | succ q ih =>
          intro hq
          obtain ⟨l, hl, hall⟩ := ih (by omega)
          obtain ⟨us, b, k1, k2, k3⟩ := key q (by omega)
          refine ⟨l ++ [b], by simp [hl], fun i c hc => ?_⟩
          by_cases hi : i < l.length
          · rw [List.getElem?_append_left hi] at hc
            exact hall i c hc
          · rw [List.getElem?_append_right (by omega)] at hc
            have hi0 : i - l.length = 0 := by
              have := (List.getElem?_eq_some_iff.1 hc).1
              simp at this
              omega
            rw [hi0] at hc
            cases hc
            have : i = q := by omega
            subst this
            exact ⟨k3, us, k1, k2⟩
      exact this len (Nat.le_refl _)
    obtain ⟨l, hl, hall⟩ := key2
    refine ⟨l, ⟨rfl, fun j y hy => ?_⟩, by omega, fun z hz => ?_⟩
    · rcases j with _ | j
      · simp only [ecS, List.getElem?_cons_zero, Option.some.injEq] at hy
        subst hy
        refine ⟨_, rfl, ?_⟩
        rw [hl]
        by_cases hz : len = 0
        · subst hz
          have : l = [] := List.eq_nil_of_length_eq_zero hl
          subst this
          exact .nil _ _ _ hcm
        · obtain ⟨b0, hb0⟩ : ∃ b, l[0]? = some b := ⟨_, List.getElem?_eq_getElem (by omega)⟩
          obtain ⟨_, us0, k0, _⟩ := hall 0 b0 hb0
          obtain ⟨hlen0, _, hc0⟩ := World.cells?_some k0
          have hcell0 := hc0 0 (by omega)
          obtain ⟨bl, off, spot⟩ := a
          have hspot : spot = none := by
            obtain ⟨z, hz0⟩ : ∃ z, us0[0]? = some z := ⟨_, List.getElem?_eq_getElem (by omega)⟩
            rw [hz0] at hcell0
            simpa [Addr.add] using World.cell?_spot hcell0
          subst hspot
          have cellAt : ∀ i b, l[i]? = some b → ∀ j y, (f b)[j]? = some y → ∃ u, W.cell? ⟨bl, off + i * sz + j, none⟩ = some u ∧ IRel (rdAll W) u y := by
            intro i b hb j y hy
            obtain ⟨_, us, k1, k2⟩ := hall i b hb
            obtain ⟨hlen1, _, hc1⟩ := World.cells?_some k1
            obtain ⟨u, q1, q2⟩ := k2.2 j y hy
            rw [Nat.zero_add] at q1
            have hj : j < sz := by have := (List.getElem?_eq_some_iff.1 hy).1; rw [hlen b] at this; exact this
            have := hc1 j (by omega)
            rw [q1] at this
            refine ⟨u, ?_, q2⟩
            rw [Addr.add_mid, Addr.add_mid] at this
            exact this
          refine .slc bl off len cap sz (l.map f) (fun i j => (W.cell? ⟨bl, off + i * sz + j, none⟩).getD (.bool false)) (by simp [hl]) hlc hcm ?_ ?_ ?_
          · intro x hx
            obtain ⟨b, _, rfl⟩ := List.mem_map.1 hx
            exact hlen b
          · intro i x j y hx hy
            rw [List.getElem?_map] at hx
            obtain ⟨b, hb, rfl⟩ := Option.map_eq_some_iff.1 hx
            obtain ⟨u, q1, _⟩ := cellAt i b hb j y hy
            simp only [rdAll, q1, Option.getD_some]
          · intro i x j y hx hy
            rw [List.getElem?_map] at hx
            obtain ⟨b, hb, rfl⟩ := Option.map_eq_some_iff.1 hx
            obtain ⟨u, q1, q2⟩ := cellAt i b hb j y hy
            simp only [q1, Option.getD_some]
            exact q2
      · simp [ecS] at hy
    · obtain ⟨i, hi⟩ := List.getElem?_of_mem hz
      exact (hall i z hi).1

/-- a single cell as an argument -/
theorem open_cellR {P : Program} {t : TypeId} {H : Type} {enc : TypeId × Value → H} {W : World} {v : Value} {d : DataW H} {p : List MemPlace} {α : Type} {f : α → List SC} {wf : α → Prop} {c : α → SC} (hop : OpensR P t f wf) (hc : ∀ a, f a = [c a]) (hv : v.cells = #[v]) (h : DataW.Trod enc P W 0 (fun _ => true) true t v d p) (hw : Wt P t d) : ∃ a, VRel (rdAll W) env0 v (.c (c a)) ∧ wf a := by
  obtain ⟨fuel, hf⟩ := h
  obtain ⟨a, hs, hw2⟩ := hop H enc W fuel _ _ hf hw
  rw [hv] at hs
  refine ⟨a, ?_, hw2⟩
  obtain ⟨u, k1, k2⟩ := hs.2 0 (c a) (by rw [hc]; rfl)
  simp at k1
  subst k1
  exact k2.c
/-- a slice as an argument -/
theorem open_slcR {P : Program} {t e : TypeId} {H : Type} {enc : TypeId × Value → H} {W : World} {v : Value} {d : DataW H} {p : List MemPlace} {r : Reach} {b0 : Nat} {α : Type} {sz : Nat} {f : α → List SC} {wf : List α → Prop} (hop : OpensR P t (ecS sz f) wf) (ht : P.underlying t = some (.slice e))
    (hv : Value.okWide P W r b0 t v) (h : DataW.Trod enc P W 0 (fun _ => true) true t v d p) (hw : Wt P t d) : ∃ a, VRel (rdAll W) env0 v (.c (eS sz f a)) ∧ wf a := by
  obtain ⟨a0, len, cap, rfl⟩ := okWide_slice ht hv
  exact open_cellR hop (fun a => rfl) rfl h hw
end
section
open Go.ChangeShapes Go.WideShapes Go.ChangeAt Go.RowKit

set_option maxRecDepth 100000 in
theorem guardForged_lifted (hF : ∀ (a0 : List Int) (a1 : Int) (a2 : Int), wfR (wfI .i64) a0 → wfI .i64 a1 → wfI .u8 a2 → F_law06_GuardForged a0 a1 a2 = some true) (os : Os) (started : os.Started) (H : Type) (enc : TypeId × Value → H) :
    ReturnsInHanded {} Try.checked os 7 .any (Rows.guardForgedSpec.pre6 enc Try.prog Try.f7 Rows.guardForgedRow.domain false) (Rows.guardForgedSpec.post enc Try.prog Try.f7 false true false false) := by
  refine returnsInHanded_of_change_sized (C := Try.checked) own started (by kernel_rfl) Try.func7
    (ChangeSpec.witness6 (enc := enc) (C := Try.checked) false ⟨#[], #[.slice none 0 0, .int .i64 0, .int .u8 0], []⟩ 8 (by kernel_rfl) (by kernel_rfl) (by kernel_rfl) (by kernel_rfl)) ?_
  intro W base args ds gs before hval0 hW hcnd hsz0 _
  have hval : ∀ (j : Nat) t v, Try.f7.params[j]? = some t → args[j]? = some v → Value.okWide Try.prog W .any base t v := hval0
  have hW' := hW
  obtain ⟨p, q, hA0, hV, rfl, hfz, hnd⟩ := hW
  have hA : DataW.TrodAll enc Try.prog W 0 (fun _ => true) true Try.f7.params.toList args.toList ds p := hA0
  have hAll := hA
  rw [Try.params7] at hA hval hAll
  obtain ⟨v0, vs0, d0, ds0, p0, q0, hargs, rfl, rfl, h0, r0⟩ := trodAll_cons hA
  obtain ⟨v1, vs1, d1, ds1, p1, q1, rfl, rfl, rfl, h1, r1⟩ := trodAll_cons r0
  obtain ⟨v2, vs2, d2, ds2, p2, q2, rfl, rfl, rfl, h2, r2⟩ := trodAll_cons r1
  obtain ⟨rfl, rfl, rfl⟩ := trodAll_nil r2
  obtain rfl : args = #[v0, v1, v2] := by cases args; simp_all
  obtain ⟨rfl, rfl⟩ := trodVars_none hV
  obtain ⟨x0, hR0, w0⟩ := open_slcR (opens_sliceR (sz := 1) Try.underlying22 (by kernel_rfl) (opens_int (k := .i64) Try.underlying3).r (fun _ => by kernel_rfl) (by kernel_rfl) (by kernel_rfl)) Try.underlying22 (hval 0 22 v0 rfl rfl) h0 (wt_of hsz0 (j := 0) (by kernel_rfl) rfl)
  obtain ⟨x1, rfl, rfl, rfl, w1⟩ := open_int Try.underlying3 (hval 1 3 v1 rfl rfl) h1
  obtain ⟨x2, rfl, rfl, rfl, w2⟩ := open_int Try.underlying5 (hval 2 5 v2 rfl rfl) h2
  clear hA0 hval0 hsz0
  refine (con_true (us := [v0, .int .i64 x1, .int .u8 x2]) (ok_law06_GuardForged x0 x1 x2 true (hF x0 x1 x2 w0 w1 w2)) ⟨hR0, vrel_lit _ _ _, vrel_lit _ _ _, trivial⟩).mono fun e W' ⟨he, hx⟩ => ?_
  subst he
  have bel := hx.below
  exact ⟨_, rfl, _, _, _, [], _, [], hW', trodAll_mk1 (shut_bool Try.underlying4 _), trodAll_below laidOut bel (by kernel_rfl) hAll, rfl, bel.frame _, fun h => by cases h⟩

theorem guardForged_of (hF : ∀ (a0 : List Int) (a1 : Int) (a2 : Int), wfR (wfI .i64) a0 → wfI .i64 a1 → wfI .u8 a2 → F_law06_GuardForged a0 a1 a2 = some true) : Rows.GuardForgedSaid :=
  OpenClaim.holds_of_wide 7 Try.f7 rfl rfl rfl rfl rfl rfl rfl ⟨rfl, rfl, rfl, rfl, rfl⟩ rfl rfl rfl rfl rfl (by kernel_rfl) Try.func7 (by kernel_rfl)
    (of_decide_eq_true (by kernel_rfl)) (by unfold Func.isWrapper; first | (rw [if_pos (by decide +kernel)]; kernel_rfl) | (rw [if_neg (by decide +kernel)]; exact ⟨rfl, rfl⟩))
    (fun os started H enc _ => guardForged_lifted hF os started H enc)
end
section
open Go.RowKit

theorem beqF {α : Type} [BEq α] [LawfulBEq α] {a b : α} (h : ¬ a = b) : (a == b) = false := by simpa using h
theorem decT {p : Prop} [Decidable p] (h : p) : decide p = true := by simpa using h
theorem decF {p : Prop} [Decidable p] (h : ¬ p) : decide p = false := by simpa using h
theorem wi {x : Int} (h0 : -9223372036854775808 ≤ x) (h1 : x ≤ 9223372036854775807) : IntKind.wrap .i64 x = x := by
  simp [IntKind.wrap, IntKind.bits, IntKind.signed]
  omega
theorem wu {x : Int} (h0 : 0 ≤ x) (h1 : x < 18446744073709551616) : IntKind.wrap .u64 x = x := by
  simp [IntKind.wrap, IntKind.bits, IntKind.signed]
  omega
theorem wu32 {x : Int} (h0 : 0 ≤ x) (h1 : x < 4294967296) : IntKind.wrap .u32 x = x := by
  simp [IntKind.wrap, IntKind.bits, IntKind.signed]
  omega
theorem wu16 {x : Int} (h0 : 0 ≤ x) (h1 : x < 65536) : IntKind.wrap .u16 x = x := by
  simp [IntKind.wrap, IntKind.bits, IntKind.signed]
  omega
theorem wu8 {x : Int} (h0 : 0 ≤ x) (h1 : x < 256) : IntKind.wrap .u8 x = x := by
  simp [IntKind.wrap, IntKind.bits, IntKind.signed]
  omega
theorem wk (k : Nat) (h : k < 9223372036854775807) : IntKind.wrap .i64 ((k : Int) + 1) = ((k + 1 : Nat) : Int) := by
  rw [wi (by omega) (by omega)]; rfl
theorem wrap8 (x : Int) : IntKind.wrap .u8 x = x % 256 := by
  simp [IntKind.wrap, IntKind.bits, IntKind.signed]
theorem wrap16 (x : Int) : IntKind.wrap .u16 x = x % 65536 := by
  simp [IntKind.wrap, IntKind.bits, IntKind.signed]
theorem wrap32 (x : Int) : IntKind.wrap .u32 x = x % 4294967296 := by
  simp [IntKind.wrap, IntKind.bits, IntKind.signed]
theorem wrap64 (x : Int) : IntKind.wrap .u64 x = x % 18446744073709551616 := by
  simp [IntKind.wrap, IntKind.bits, IntKind.signed]
theorem wrap8_bd (x : Int) : 0 ≤ IntKind.wrap .u8 x ∧ IntKind.wrap .u8 x ≤ 255 := by rw [wrap8]; omega

section
variable {σ ρ : Type} {step : σ → Option (σ ⊕ ρ)}
theorem loop_done {s : σ} {r : ρ} (h : step s = some (.inr r)) : loopO step s = some r := by rw [loopO_eq, h]
theorem loop_next {s s' : σ} (h : step s = some (.inl s')) : loopO step s = loopO step s' := by rw [loopO_eq, h]
/-- a loop that keeps I and ends with Q -/
theorem loop_inv (I : σ → Prop) (Q : ρ → Prop) (m : σ → Nat) (hs : ∀ s, I s → (∃ s', step s = some (.inl s') ∧ I s' ∧ m s' < m s) ∨ (∃ r, step s = some (.inr r) ∧ Q r)) (s : σ) (h : I s) : ∃ r, loopO step s = some r ∧ Q r := by
  induction hn : m s using Nat.strongRecOn generalizing s with
  | ind n ih =>
    subst hn
    rcases hs s h with ⟨s', h1, h2, h3⟩ | ⟨r, h1, h2⟩
    · obtain ⟨r, hr, hq⟩ := ih (m s') h3 s' h2 rfl
      exact ⟨r, by rw [loop_next h1]; exact hr, hq⟩
    · exact ⟨r, loop_done h1, h2⟩
/-- a loop whose states are known -/
theorem loop_to (S : Nat → σ) (n : Nat) (h : ∀ k, k < n → step (S k) = some (.inl (S (k + 1)))) : loopO step (S 0) = loopO step (S n) := by
  induction n with
  | zero => rfl
  | succ n ih => rw [ih (fun k hk => h k (by omega)), loop_next (h n (by omega))]
theorem loop_run (S : Nat → σ) (n : Nat) {r : ρ} (h : ∀ k, k < n → step (S k) = some (.inl (S (k + 1)))) (he : step (S n) = some (.inr r)) : loopO step (S 0) = some r := by
  rw [loop_to S n h, loop_done he]
/-- a loop that is left at the first place where p fails -/
theorem loop_first (S : Nat → σ) (n : Nat) (p : Nat → Bool) (out : Nat → ρ) {re : ρ} (h1 : ∀ k, k < n → p k = true → step (S k) = some (.inl (S (k + 1)))) (h2 : ∀ k, k < n → p k = false → step (S k) = some (.inr (out k))) (h3 : step (S n) = some (.inr re)) :
    (∃ k, k < n ∧ p k = false ∧ (∀ j, j < k → p j = true) ∧ loopO step (S 0) = some (out k)) ∨ ((∀ k, k < n → p k = true) ∧ loopO step (S 0) = some re) := by
  by_cases hx : ∀ k, k < n → p k = true
  · exact .inr ⟨hx, loop_run S n (fun k hk => h1 k hk (hx k hk)) h3⟩
  · have hx' : ∃ k, k < n ∧ p k = false := by
      apply Classical.byContradiction
      intro hno
      apply hx
      intro k hk
      cases hpk : p k with
      | true => rfl
      | false => exact absurd ⟨k, hk, hpk⟩ hno
    have : ∃ k, (k < n ∧ p k = false) ∧ ∀ j, j < k → ¬ (j < n ∧ p j = false) := by
      obtain ⟨k, hk⟩ := hx'
      induction k using Nat.strongRecOn with
      | ind k ih =>
        by_cases hj : ∃ j, j < k ∧ j < n ∧ p j = false
        · obtain ⟨j, hj1, hj2⟩ := hj; exact ih j hj1 hj2
        · exact ⟨k, hk, fun j hjk hh => hj ⟨j, hjk, hh⟩⟩
    obtain ⟨k, ⟨hk, hpk⟩, hmin⟩ := this
    have hall : ∀ j, j < k → p j = true := by
      intro j hj
      cases hpj : p j with
      | true => rfl
      | false => exact absurd ⟨by omega, hpj⟩ (hmin j hj)
    refine .inl ⟨k, hk, hpk, hall, ?_⟩
    rw [loop_to S k (fun j hj => h1 j (by omega) (hall j hj)), loop_done (h2 k hk hpk)]
/-- a loop that answers whether p holds everywhere -/
theorem loop_all (S : Nat → σ) (n : Nat) (p : Nat → Bool) {rt rf : ρ} (h1 : ∀ k, k < n → p k = true → step (S k) = some (.inl (S (k + 1)))) (h2 : ∀ k, k < n → p k = false → step (S k) = some (.inr rf)) (h3 : step (S n) = some (.inr rt)) :
    loopO step (S 0) = some (if ∀ k, k < n → p k = true then rt else rf) := by
  rcases loop_first S n p (fun _ => rf) h1 h2 h3 with ⟨k, hk, hpk, _, h⟩ | ⟨ha, h⟩
  · rw [h, if_neg]
    intro hh
    rw [hh k hk] at hpk
    cases hpk
  · rw [h, if_pos ha]
end
theorem idx_nat {α : Type} (l : List α) (k : Nat) : idx l (k : Int) = l[k]? := by simp [idx]
theorem idx_lt {α : Type} {l : List α} {k : Nat} (h : k < l.length) : idx l (k : Int) = some l[k] := by rw [idx_nat]; exact List.getElem?_eq_getElem h
theorem idx_int {α : Type} {l : List α} {i : Int} (h0 : 0 ≤ i) (h1 : i < l.length) : idx l i = some (l[i.toNat]'(by omega)) := by
  unfold idx; rw [if_pos h0]; exact List.getElem?_eq_getElem _
theorem appO_some {α : Type} {by_ : Nat} {l1 l2 : List α} (h : (l1.length + l2.length) * by_ ≤ 140737488355328) (h' : l1.length + l2.length ≤ 140737488355328) : appO by_ l1 l2 = some (l1 ++ l2) := by
  unfold appO; rw [if_pos ⟨h, h'⟩]
theorem subO_some {α : Type} {l : List α} {a b : Int} (h0 : 0 ≤ a) (h1 : a ≤ b) (h2 : b ≤ l.length) : subO l a b = some ((l.take b.toNat).drop a.toNat) := by
  unfold subO; rw [if_pos ⟨h0, h1, h2⟩]

theorem setA_set {n : Nat} {l : List Int} {i : Nat} {v : Int} (h : l.length = n) : setA n l i v = l.set i v := by
  apply List.ext_getElem?
  intro j
  unfold setA
  rcases Nat.lt_or_ge j n with hj | hj
  · rw [List.getElem?_map, List.getElem?_range hj, List.getElem?_set]
    by_cases hij : i = j
    · subst hij; simp; omega
    · simp [hij, Ne.symm hij, List.getD_eq_getElem?_getD, List.getElem?_eq_getElem (show j < l.length by omega)]
  · rw [List.getElem?_eq_none (by simpa using hj), List.getElem?_eq_none (by simp; omega)]
theorem setA_len (n : Nat) (l : List Int) (i : Nat) (v : Int) : (setA n l i v).length = n := by simp [setA]

def lexC : List Int → List Int → Int
  | [], [] => 0
  | [], _ :: _ => -1
  | _ :: _, [] => 1
  | a :: s, b :: t => if a < b then -1 else if b < a then 1 else lexC s t
theorem lexC_self : ∀ a : List Int, lexC a a = 0
  | [] => rfl
  | x :: l => by simp [lexC, lexC_self l]
theorem getD_get {l : List Int} {i : Nat} (h : i < l.length) : l.getD i 0 = l[i] := by simp [List.getD_eq_getElem?_getD, List.getElem?_eq_getElem h]
theorem getD_mem {p : Int → Prop} {l : List Int} (h : ∀ z ∈ l, p z) (h0 : p 0) (i : Nat) : p (l.getD i 0) := by
  rcases Nat.lt_or_ge i l.length with hi | hi
  · rw [getD_get hi]; exact h _ (List.getElem_mem hi)
  · rw [List.getD_eq_getElem?_getD, List.getElem?_eq_none hi]; exact h0
end
section
open Go.RowKit

def okB (l : List Int) : Prop := ∀ z ∈ l, 0 ≤ z ∧ z ≤ 255
theorem okB_nil : okB [] := fun z h => by simp at h
theorem okB.append {a b : List Int} (ha : okB a) (hb : okB b) : okB (a ++ b) := fun z h => (List.mem_append.1 h).elim (ha z) (hb z)
theorem okB.get {l : List Int} (h : okB l) {i : Nat} (hi : i < l.length) : 0 ≤ l[i] ∧ l[i] ≤ 255 := h _ (List.getElem_mem hi)
theorem okB.take {l : List Int} (h : okB l) (n : Nat) : okB (l.take n) := fun z hz => h z (List.mem_of_mem_take hz)
theorem okB.drop {l : List Int} (h : okB l) (n : Nat) : okB (l.drop n) := fun z hz => h z (List.mem_of_mem_drop hz)
theorem okB.set {l : List Int} (h : okB l) (n : Nat) {v : Int} (hv : 0 ≤ v ∧ v ≤ 255) : okB (l.set n v) := fun z hz => (List.mem_or_eq_of_mem_set hz).elim (h z) (fun e => e ▸ hv)
theorem okB.getD {l : List Int} (h : okB l) (n : Nat) : 0 ≤ l.getD n 0 ∧ l.getD n 0 ≤ 255 := getD_mem (p := fun z => 0 ≤ z ∧ z ≤ 255) h (by omega) n
theorem okB_one {v : Int} (h : 0 ≤ v ∧ v ≤ 255) : okB [v] := fun z hz => by rw [List.mem_singleton.1 hz]; exact h
theorem okB_cons {v : Int} {l : List Int} (h : 0 ≤ v ∧ v ≤ 255) (k : okB l) : okB (v :: l) := fun z hz => (List.mem_cons.1 hz).elim (fun e => e ▸ h) (k z)
theorem u8_inj {a b : Int} (ha : 0 ≤ a ∧ a ≤ 255) (hb : 0 ≤ b ∧ b ≤ 255) (h : a.toNat.toUInt8 = b.toNat.toUInt8) : a = b := by
  have e1 : (a.toNat.toUInt8).toNat = a.toNat := by simp [Nat.toUInt8]; omega
  have e2 : (b.toNat.toUInt8).toNat = b.toNat := by simp [Nat.toUInt8]; omega
  rw [h] at e1
  omega
theorem u8L_inj : ∀ {a b : List Int}, okB a → okB b → u8L a = u8L b → a = b
  | [], [], _, _, _ => rfl
  | [], _ :: _, _, _, h => by simp [u8L] at h
  | _ :: _, [], _, _, h => by simp [u8L] at h
  | x :: s, y :: t, ha, hb, h => by
    simp only [u8L, List.map_cons, List.cons.injEq] at h
    rw [u8_inj (ha x (by simp)) (hb y (by simp)) h.1, u8L_inj (fun z hz => ha z (by simp [hz])) (fun z hz => hb z (by simp [hz])) h.2]
theorem u8L_beq {a b : List Int} (ha : okB a) (hb : okB b) : (u8L a == u8L b) = decide (a = b) := by
  by_cases h : a = b
  · subst h; simp
  · rw [decF h]
    exact beqF (fun q => h (u8L_inj ha hb q))
theorem ishr_eq {x y : Int} (h0 : 0 ≤ y) (h1 : y < 64) : ishr .u64 x y = x / 2 ^ y.toNat := by
  unfold ishr
  rw [show min y.toNat IntKind.u64.bits = y.toNat by simp [IntKind.bits]; omega]
  exact Int.fdiv_eq_ediv_of_nonneg _ (Int.pow_nonneg (by omega))
theorem ishl_eq {x y : Int} (h0 : 0 ≤ y) (h1 : y < 64) : ishl .u64 x y = (x * 2 ^ y.toNat) % 18446744073709551616 := by
  unfold ishl
  rw [show min y.toNat IntKind.u64.bits = y.toNat by simp [IntKind.bits]; omega, wrap64]
theorem byte_eq {v : Int} {j : Int} (h0 : 0 ≤ j) (h1 : j < 64) : IntKind.wrap .u8 (ishr .u64 v j) = v / 2 ^ j.toNat % 256 := by
  rw [ishr_eq h0 h1, wrap8]
theorem ior_add {x y : Int} (i : Nat) (h0 : 0 ≤ x) (h1 : x < 2 ^ i) (h2 : 0 ≤ y) (h3 : x + y * 2 ^ i < 18446744073709551616) : ior .u64 x (y * 2 ^ i) = x + y * 2 ^ i := by
  obtain ⟨a, rfl⟩ := Int.eq_ofNat_of_zero_le h0
  obtain ⟨b, rfl⟩ := Int.eq_ofNat_of_zero_le h2
  have hp : ((b : Int) * 2 ^ i) = ((b * 2 ^ i : Nat) : Int) := by rw [Int.natCast_mul, Int.natCast_pow]; rfl
  have ha : a < 2 ^ i := by
    have e : ((2 : Int) ^ i) = ((2 ^ i : Nat) : Int) := by rw [Int.natCast_pow]; rfl
    rw [e] at h1
    omega
  rw [hp] at h3 ⊢
  have h3' : a + b * 2 ^ i < 18446744073709551616 := by omega
  unfold ior
  have e1 : (BitVec.ofInt IntKind.u64.bits (a : Int)).toNat = a := by
    rw [BitVec.toNat_ofInt]
    simp only [IntKind.bits]
    omega
  have e2 : (BitVec.ofInt IntKind.u64.bits ((b * 2 ^ i : Nat) : Int)).toNat = b * 2 ^ i := by
    rw [BitVec.toNat_ofInt]
    simp only [IntKind.bits]
    omega
  rw [BitVec.toNat_or, e1, e2, Nat.or_comm, show b * 2 ^ i ||| a = 2 ^ i * b + a by rw [Nat.two_pow_add_eq_or_of_lt ha, Nat.mul_comm]]
  rw [wrap64, Nat.mul_comm]
  omega

def beB (v : Int) (n : Nat) : List Int := (List.range n).map fun i => v / 2 ^ (8 * (n - 1 - i)) % 256
def leB (v : Int) (n : Nat) : List Int := (List.range n).map fun i => v / 2 ^ (8 * i) % 256
theorem beB_len (v : Int) (n : Nat) : (beB v n).length = n := by simp [beB]
theorem leB_len (v : Int) (n : Nat) : (leB v n).length = n := by simp [leB]
theorem beB_ok (v : Int) (n : Nat) : okB (beB v n) := fun z hz => by
  obtain ⟨i, _, rfl⟩ := List.mem_map.1 hz
  omega
theorem leB_ok (v : Int) (n : Nat) : okB (leB v n) := fun z hz => by
  obtain ⟨i, _, rfl⟩ := List.mem_map.1 hz
  omega
theorem beB_get {v : Int} {n i : Nat} (h : i < n) : (beB v n)[i]? = some (v / 2 ^ (8 * (n - 1 - i)) % 256) := by
  unfold beB
  rw [List.getElem?_map, List.getElem?_range h]; rfl
theorem leB_get {v : Int} {n i : Nat} (h : i < n) : (leB v n)[i]? = some (v / 2 ^ (8 * i) % 256) := by
  unfold leB
  rw [List.getElem?_map, List.getElem?_range h]; rfl
theorem take_snoc {α : Type} {l : List α} {k : Nat} {x : α} (h : l[k]? = some x) : l.take (k + 1) = l.take k ++ [x] := by
  rw [List.take_add_one, h]; rfl
theorem set_mid {α : Type} (a b : List α) (x y : α) {k : Nat} (h : k = a.length) : (a ++ x :: b).set k y = a ++ y :: b := by
  subst h
  rw [List.set_append_right _ _ (Nat.le_refl _), Nat.sub_self]
  rfl

/-- the number of bytes, the greatest first -/
def beN : List Int → Int := fun l => l.foldl (fun v c => v * 256 + c) 0
/-- the number of bytes, the least first -/
def leN : List Int → Int
  | [] => 0
  | x :: l => x + 256 * leN l
theorem leN_bd : ∀ {l : List Int}, okB l → 0 ≤ leN l ∧ leN l < 256 ^ l.length
  | [], _ => by simp [leN]
  | x :: l, h => by
    have h1 := h x (by simp)
    have h2 := leN_bd (l := l) (fun z hz => h z (by simp [hz]))
    simp only [leN, List.length_cons, Int.pow_succ]
    omega
theorem leN_append : ∀ (a b : List Int), leN (a ++ b) = leN a + 256 ^ a.length * leN b
  | [], b => by simp [leN]
  | x :: a, b => by
    simp only [List.cons_append, leN, leN_append a b, List.length_cons, Int.pow_succ]
    have e : (256 : Int) ^ a.length * 256 * leN b = 256 * (256 ^ a.length * leN b) := by
      rw [Int.mul_comm ((256 : Int) ^ a.length) 256, Int.mul_assoc]
    rw [e]
    omega
theorem beN_snoc (l : List Int) (x : Int) : beN (l ++ [x]) = beN l * 256 + x := by simp [beN]
theorem beN_aux : ∀ (l : List Int) (v : Int), okB l → 0 ≤ v → 0 ≤ l.foldl (fun v c => v * 256 + c) v ∧ l.foldl (fun v c => v * 256 + c) v < (v + 1) * 256 ^ l.length
  | [], v, _, h => by simp; omega
  | x :: l, v, h, hv => by
    have h1 := h x (by simp)
    obtain ⟨a, b⟩ := beN_aux l (v * 256 + x) (fun z hz => h z (by simp [hz])) (by omega)
    refine ⟨a, Int.lt_of_lt_of_le b ?_⟩
    have e : (v + 1) * (256 : Int) ^ (x :: l).length = (v + 1) * 256 * 256 ^ l.length := by
      rw [List.length_cons, Int.pow_succ, Int.mul_comm ((256 : Int) ^ l.length) 256, Int.mul_assoc]
    rw [e]
    exact Int.mul_le_mul_of_nonneg_right (by omega) (Int.pow_nonneg (by omega))
theorem beN_bd {l : List Int} (h : okB l) : 0 ≤ beN l ∧ beN l < 256 ^ l.length := by
  have := beN_aux l 0 h (by omega)
  simpa [beN] using this
theorem pow256 {m : Nat} (h : m ≤ 8) : (256 : Int) ^ m ≤ 18446744073709551616 := by
  rcases m with _ | _ | _ | _ | _ | _ | _ | _ | _ | m
  all_goals first | decide | omega
theorem leN_lt64 {l : List Int} (h : okB l) (h8 : l.length ≤ 8) : 0 ≤ leN l ∧ leN l < 18446744073709551616 := by
  have := leN_bd h
  have := pow256 h8
  omega
theorem beN_lt64 {l : List Int} (h : okB l) (h8 : l.length ≤ 8) : 0 ≤ beN l ∧ beN l < 18446744073709551616 := by
  have := beN_bd h
  have := pow256 h8
  omega
end
section
open Go.RowKit

theorem octets_append_n (a : List Int) (v : Int) (n : Nat) (hn : n ≤ 8) (ha : a.length ≤ 140737488355320) : F_octets_Append_j1 a v n = some (a ++ beB v n) := by
  unfold F_octets_Append_j1
  have e1 : IntKind.wrap .i64 ((a.length : Int) + (n : Int)) = ((a.length + n : Nat) : Int) := by rw [wi (by omega) (by omega)]; rfl
  rw [e1]
  have e2 : mkO 1 ((a.length + n : Nat) : Int) ((a.length + n : Nat) : Int) = some (a.length + n) := by
    unfold mkO
    rw [if_pos ⟨by omega, by omega, by omega, by omega⟩, Int.toNat_natCast]
  rw [e2, Option.bind_some]
  have e3 : cpL (List.replicate (a.length + n) (0 : Int)) 0 (List.length (Cut.app .whole (List.replicate (a.length + n) (0 : Int)))) (Cut.app .whole a) = a ++ (beB v n).take 0 ++ List.replicate (n - 0) 0 := by
    unfold cpL
    simp only [Cut.app, List.length_replicate, List.take_zero, List.nil_append, List.append_nil, Nat.zero_add, Nat.sub_zero]
    rw [show min a.length (a.length + n) = a.length by omega, List.take_length, List.drop_replicate, show a.length + n - a.length = n by omega]
  rw [e3]
  have hl := loop_run (step := F_octets_Append_l2 n a v) (S := fun k => ((k : Int), a ++ (beB v n).take k ++ List.replicate (n - k) 0)) n (r := a ++ beB v n) (fun k hk => by
    unfold F_octets_Append_l2
    dsimp only
    have w1 : IntKind.wrap .i64 ((n : Int) - 1) = (n : Int) - 1 := wi (by omega) (by omega)
    have w2 : IntKind.wrap .i64 ((n : Int) - 1 - (k : Int)) = ((n - 1 - k : Nat) : Int) := by rw [wi (by omega) (by omega)]; omega
    have w3 : IntKind.wrap .i64 (8 * ((n - 1 - k : Nat) : Int)) = ((8 * (n - 1 - k) : Nat) : Int) := by rw [wi (by omega) (by omega)]; omega
    have w4 : IntKind.wrap .i64 ((a.length : Int) + (k : Int)) = ((a.length + k : Nat) : Int) := by rw [wi (by omega) (by omega)]; rfl
    have hlen : (a ++ (beB v n).take k ++ List.replicate (n - k) (0 : Int)).length = a.length + n := by
      simp only [List.length_append, List.length_take, beB_len, List.length_replicate]; omega
    rw [decT (show (k : Int) < (n : Int) by omega), w1, w2, w3, w4, decT (show (0 : Int) ≤ ((8 * (n - 1 - k) : Nat) : Int) by omega)]
    simp only [cond_true, Cut.app, Nat.zero_add, Int.toNat_natCast]
    rw [idx_lt (by omega), Option.bind_some, List.getElem?_eq_getElem (by omega), Option.bind_some, wk k (by omega), byte_eq (by omega) (by omega), Int.toNat_natCast]
    congr 3
    obtain ⟨m, hm⟩ : ∃ m, n - k = m + 1 := ⟨n - k - 1, by omega⟩
    rw [hm, List.replicate_succ, set_mid _ _ _ _ (by simp only [List.length_append, List.length_take, beB_len]; omega), take_snoc (beB_get hk), show n - (k + 1) = m by omega]
    simp) (by
    unfold F_octets_Append_l2
    dsimp only
    rw [decF (show ¬ (n : Int) < (n : Int) by omega)]
    simp only [cond_false]
    rw [List.take_of_length_le (by rw [beB_len]; exact Nat.le_refl _), Nat.sub_self]
    simp)
  simp only [Int.natCast_zero] at hl
  rw [hl]
  rfl
/-- octets.Append -/
theorem octets_append (a : List Int) (v : Int) (n : Nat) (hn : n ≤ 8) (ha : a.length ≤ 140737488355320) : F_octets_Append a v n = some (a ++ beB v n) := by
  unfold F_octets_Append
  rw [decF (show ¬ (n : Int) < 0 by omega), decF (show ¬ (n : Int) > 8 by omega)]
  exact octets_append_n a v n hn ha
/-- the reference's Append -/
theorem ref01_append (a : List Int) (v : Int) (n : Nat) (hn : n ≤ 8) (ha : a.length ≤ 140737488355320) : F_ref01_Append a v n = some (a ++ beB v n) := by
  unfold F_ref01_Append
  simp only [Cut.app]
  rw [appO_some (by simp; omega) (by simp; omega), Option.bind_some, decF (show ¬ (n : Int) < 0 by omega), decF (show ¬ (n : Int) > 8 by omega)]
  simp only [cond_false, List.nil_append]
  rw [wi (by omega) (by omega)]
  have hl := loop_run (step := F_ref01_Append_l1 v) (S := fun k => (a ++ (beB v n).take k, (n : Int) - 1 - (k : Int))) n (r := a ++ beB v n) (fun k hk => by
    unfold F_ref01_Append_l1
    dsimp only
    have w1 : IntKind.wrap .u64 ((n : Int) - 1 - (k : Int)) = (n : Int) - 1 - (k : Int) := wu (by omega) (by omega)
    have w2 : IntKind.wrap .u64 (8 * ((n : Int) - 1 - (k : Int))) = ((8 * (n - 1 - k) : Nat) : Int) := by rw [wu (by omega) (by omega)]; omega
    have w3 : IntKind.wrap .i64 ((n : Int) - 1 - (k : Int) - 1) = (n : Int) - 1 - ((k + 1 : Nat) : Int) := by rw [wi (by omega) (by omega)]; omega
    rw [decT (show (n : Int) - 1 - (k : Int) ≥ 0 by omega), w1, w2, w3, decT (show (0 : Int) ≤ ((8 * (n - 1 - k) : Nat) : Int) by omega)]
    simp only [cond_true, Cut.app]
    rw [appO_some (by simp only [List.length_append, List.length_take, beB_len, List.length_singleton]; omega) (by simp only [List.length_append, List.length_take, beB_len, List.length_singleton]; omega), Option.bind_some, byte_eq (by omega) (by omega), Int.toNat_natCast, take_snoc (beB_get hk), List.append_assoc]) (by
    unfold F_ref01_Append_l1
    dsimp only
    rw [decF (show ¬ (n : Int) - 1 - (n : Int) ≥ 0 by omega)]
    simp only [cond_false]
    rw [List.take_of_length_le (by rw [beB_len]; exact Nat.le_refl _)])
  simp only [Int.natCast_zero, List.take_zero, List.append_nil, Int.sub_zero] at hl
  rw [hl]
  rfl
end
section
open Go.RowKit

theorem oc2 (a : List Int) (v : Int) (ha : a.length ≤ 1000) : F_octets_Append a v 2 = some (a ++ beB v 2) := octets_append a v 2 (by omega) (by omega)
theorem rc2 (a : List Int) (v : Int) (ha : a.length ≤ 1000) : F_ref01_Append a v 2 = some (a ++ beB v 2) := ref01_append a v 2 (by omega) (by omega)
theorem oc4 (a : List Int) (v : Int) (ha : a.length ≤ 1000) : F_octets_Append a v 4 = some (a ++ beB v 4) := octets_append a v 4 (by omega) (by omega)
theorem rc4 (a : List Int) (v : Int) (ha : a.length ≤ 1000) : F_ref01_Append a v 4 = some (a ++ beB v 4) := ref01_append a v 4 (by omega) (by omega)
theorem oc8 (a : List Int) (v : Int) (ha : a.length ≤ 1000) : F_octets_Append a v 8 = some (a ++ beB v 8) := octets_append a v 8 (by omega) (by omega)
theorem rc8 (a : List Int) (v : Int) (ha : a.length ≤ 1000) : F_ref01_Append a v 8 = some (a ++ beB v 8) := ref01_append a v 8 (by omega) (by omega)
def A00 : S_Addr := S_Addr.mk 0 0 0
def AdrOk (a : S_Addr) : Prop := (a.Mode = 2 ∧ a.EUI = 0 ∧ 0 ≤ a.Short ∧ a.Short ≤ 65535) ∨ (a.Mode = 3 ∧ a.Short = 0 ∧ 0 ≤ a.EUI ∧ a.EUI ≤ 18446744073709551615)
def bcast (a : S_Addr) : Prop := a.Mode = 2 ∧ a.Short = 65535
def adrL (a : S_Addr) : List Int := if a.Mode = 2 then beB a.Short 2 else beB a.EUI 8
def flg (b : Bool) (n : Int) : Int := bif b then n else 0
/-- the first three bytes -/
def hd3 (f : S_Frame) : List Int := [64 * f.Kind + flg f.AckRequest 32 + flg f.Pending 16 + flg f.Secure 8, 64 * f.Dst.Mode + 16 * f.Src.Mode, f.Seq]
def adrs (f : S_Frame) : List Int := if f.Kind = 2 then [] else beB f.Pan 2 ++ adrL f.Dst ++ adrL f.Src
def secs (f : S_Frame) : List Int := bif f.Secure then beB f.Counter 4 ++ [f.Key] else []
def hdL (f : S_Frame) : List Int := hd3 f ++ adrs f ++ secs f ++ f.Payload
structure GoodF (f : S_Frame) : Prop where
  kind : f.Kind = 1 ∨ f.Kind = 2 ∨ f.Kind = 3
  seq : 0 ≤ f.Seq ∧ f.Seq ≤ 255
  ack : f.Kind = 2 → f = S_Frame.mk 2 false f.Pending false f.Seq 0 A00 A00 0 0 [] []
  adr : f.Kind ≠ 2 → AdrOk f.Dst ∧ AdrOk f.Src ∧ ¬ bcast f.Src ∧ (f.AckRequest = true → ¬ bcast f.Dst) ∧ 0 ≤ f.Pan ∧ f.Pan ≤ 65535
  sec : f.Secure = true → 0 ≤ f.Counter ∧ f.Counter ≤ 4294967295 ∧ 0 ≤ f.Key ∧ f.Key ≤ 255 ∧ f.MIC.length = 4
  nos : f.Secure = false → f.Counter = 0 ∧ f.Key = 0 ∧ f.MIC = []
  pay : okB f.Payload
  mic : okB f.MIC
  size : (hdL f).length + f.MIC.length + 2 ≤ 127

theorem adrL_len (a : S_Addr) : (adrL a).length = if a.Mode = 2 then 2 else 8 := by
  unfold adrL
  split <;> rw [beB_len]
theorem adrL_ok (a : S_Addr) : okB (adrL a) := by
  unfold adrL
  split
  · exact beB_ok _ _
  · exact beB_ok _ _
theorem adrL_le (a : S_Addr) : (adrL a).length ≤ 8 := by
  unfold adrL
  split <;> rw [beB_len] <;> omega
theorem hd3_len (f : S_Frame) : (hd3 f).length = 3 := rfl
theorem adrs_le (f : S_Frame) : (adrs f).length ≤ 18 := by
  have h1 := adrL_le f.Dst
  have h2 := adrL_le f.Src
  unfold adrs
  split
  · simp
  · simp only [List.length_append, beB_len]; omega
theorem secs_le (f : S_Frame) : (secs f).length ≤ 5 := by
  unfold secs
  cases f.Secure
  · simp
  · simp only [cond_true, List.length_append, beB_len, List.length_singleton]; omega
/-- the length, as the program counts it -/
def lenF (f : S_Frame) : Int := 3 + f.Payload.length + 2 + (if f.Kind = 2 then 0 else 2 + (if f.Dst.Mode = 2 then 2 else 8) + (if f.Src.Mode = 2 then 2 else 8)) + (bif f.Secure then 5 + (f.MIC.length : Int) else 0)
theorem lenF_eq {f : S_Frame} (h : GoodF f) : lenF f = ((hdL f).length : Int) + f.MIC.length + 2 := by
  have hs : ((secs f).length : Int) = (bif f.Secure then 5 else 0) := by
    unfold secs
    cases f.Secure
    · rfl
    · simp only [cond_true, List.length_append, beB_len, List.length_singleton]; rfl
  have ha : ((adrs f).length : Int) = (if f.Kind = 2 then 0 else 2 + (if f.Dst.Mode = 2 then 2 else 8) + (if f.Src.Mode = 2 then 2 else 8)) := by
    unfold adrs
    split
    · rfl
    · rename_i hk
      obtain ⟨d, s, _⟩ := h.adr hk
      simp only [List.length_append, beB_len, adrL_len]
      split <;> split <;> rfl
  have hm : f.Secure = false → f.MIC.length = 0 := fun e => by rw [(h.nos e).2.2]; rfl
  unfold lenF hdL
  simp only [List.length_append, hd3_len]
  cases hc : f.Secure
  · rw [hc] at hs
    simp only [cond_false] at hs ⊢
    have := hm hc
    omega
  · rw [hc] at hs
    simp only [cond_true] at hs ⊢
    omega

theorem f_addrBytes {a : S_Addr} (h : AdrOk a) : F_frame_addrBytes a = some (if a.Mode = 2 then 2 else 8) := by
  unfold F_frame_addrBytes
  rcases h with h | h
  · rw [h.1]; rfl
  · rw [h.1]; rfl
theorem f_length {f : S_Frame} (h : GoodF f) : F_frame_length f = some (lenF f) := by
  have hp : (f.Payload.length : Int) ≤ 127 := by
    have := h.size
    unfold hdL at this
    simp only [List.length_append] at this
    omega
  have hm : (f.MIC.length : Int) ≤ 127 := by have := h.size; omega
  unfold F_frame_length F_frame_length_j1 F_frame_length_j2 lenF
  by_cases hk : f.Kind = 2
  · rw [show (f.Kind != 2) = false by simp [hk], if_pos hk]
    simp only [cond_false]
    cases f.Secure
    · simp only [cond_false]
      rw [wi (x := 3 + (f.Payload.length : Int)) (by omega) (by omega), wi (by omega) (by omega)]
      congr 1
    · simp only [cond_true]
      rw [wi (x := 3 + (f.Payload.length : Int)) (by omega) (by omega), wi (x := 3 + (f.Payload.length : Int) + 2) (by omega) (by omega), wi (x := 5 + (f.MIC.length : Int)) (by omega) (by omega), wi (by omega) (by omega)]
      congr 1
  · obtain ⟨d, s, _⟩ := h.adr hk
    rw [show (f.Kind != 2) = true by simp [hk], if_neg hk, f_addrBytes d, f_addrBytes s]
    simp only [cond_true, Option.bind_some]
    generalize ea : (if f.Dst.Mode = 2 then (2 : Int) else 8) = x
    generalize eb : (if f.Src.Mode = 2 then (2 : Int) else 8) = y
    have hx : 0 ≤ x ∧ x ≤ 8 := by rw [← ea]; split <;> omega
    have hy : 0 ≤ y ∧ y ≤ 8 := by rw [← eb]; split <;> omega
    rw [wi (x := 3 + (f.Payload.length : Int)) (by omega) (by omega), wi (x := 3 + (f.Payload.length : Int) + 2) (by omega) (by omega), wi (x := 2 + x) (by omega) (by omega), wi (x := 2 + x + y) (by omega) (by omega), wi (x := 3 + (f.Payload.length : Int) + 2 + (2 + x + y)) (by omega) (by omega)]
    cases f.Secure
    · simp only [cond_false]
      congr 1; omega
    · simp only [cond_true]
      rw [wi (x := 5 + (f.MIC.length : Int)) (by omega) (by omega), wi (by omega) (by omega)]
theorem f_avalid {a : S_Addr} (h : AdrOk a) : F_address_Valid a = some true := by
  unfold F_address_Valid
  rcases h with h | h
  · rw [h.1, h.2.1]; rfl
  · rw [h.1, h.2.1]; rfl
theorem f_amode {a : S_Addr} (h : AdrOk a) : (a.Mode == 0) = false := by
  rcases h with h | h
  · rw [h.1]; rfl
  · rw [h.1]; rfl
theorem f_abc {a : S_Addr} (h : ¬ bcast a) : F_address_IsBroadcast a = some false := by
  unfold F_address_IsBroadcast S_Addr.eqb
  by_cases h1 : a.Mode = 2
  · have h2 : a.Short ≠ 65535 := fun e => h ⟨h1, e⟩
    simp [h2]
  · simp [h1]
theorem f_valid {f : S_Frame} (h : GoodF f) : F_frame_Valid f = some true := by
  unfold F_frame_Valid F_frame_Valid_j1
  by_cases hk : f.Kind = 2
  · have e := h.ack hk
    rw [e]
    rfl
  · obtain ⟨d, s, nb, na, _⟩ := h.adr hk
    have hv : F_frame_validData f = some true := by
      have hl : decide (lenF f ≤ 127) = true := by
        rw [lenF_eq h]
        have := h.size
        exact decT (by omega)
      unfold F_frame_validData
      rw [f_avalid d, f_avalid s, f_amode d, f_amode s, f_abc nb, f_length h]
      simp only [Option.bind_some, cond_true, cond_false, hl]
      cases ha : f.AckRequest
      · cases hs : f.Secure
        · obtain ⟨c, k, m⟩ := h.nos hs
          rw [c, k, m]
          rfl
        · obtain ⟨_, _, _, _, m⟩ := h.sec hs
          rw [m]
          rfl
      · rw [f_abc (na ha)]
        cases hs : f.Secure
        · obtain ⟨c, k, m⟩ := h.nos hs
          rw [c, k, m]
          rfl
        · obtain ⟨_, _, _, _, m⟩ := h.sec hs
          rw [m]
          rfl
    rw [hv, show (f.Kind == 2) = false by simp [hk]]
    rcases h.kind with e | e | e
    · rw [e]; rfl
    · exact absurd e hk
    · rw [e]; rfl
theorem f_adr (l : List Int) {a : S_Addr} (h : AdrOk a) (hl : l.length ≤ 1000) : F_frame_appendAddr l a = some (l ++ adrL a) := by
  unfold F_frame_appendAddr adrL
  rcases h with h | h
  · rw [h.1, wu (x := a.Short) (by omega) (by omega)]
    simp only [BEq.rfl, cond_true, if_true]
    rw [oc2 l a.Short (by omega)]; rfl
  · rw [h.1]
    rw [show ((3 : Int) == 2) = false by rfl, if_neg (show ¬ (3 : Int) = 2 by omega)]
    simp only [cond_false]
    rw [oc8 l a.EUI (by omega)]; rfl
theorem f_flag (b : Bool) (n : Int) : F_frame_flag b n = some (flg b n) := by cases b <;> rfl
theorem f_byte0 (k : Int) (a p s : Bool) (h : k = 1 ∨ k = 2 ∨ k = 3) : ior .u8 (ior .u8 (ior .u8 (ishl .u8 (IntKind.wrap .u8 k) 6) (flg a 32)) (flg p 16)) (flg s 8) = 64 * k + flg a 32 + flg p 16 + flg s 8 := by
  rcases h with rfl | rfl | rfl <;> cases a <;> cases p <;> cases s <;> decide
theorem f_byte1 (k s : Int) (h : k = 0 ∨ k = 2 ∨ k = 3) (h' : s = 0 ∨ s = 2 ∨ s = 3) : ior .u8 (ishl .u8 (IntKind.wrap .u8 k) 6) (ishl .u8 (IntKind.wrap .u8 s) 4) = 64 * k + 16 * s := by
  rcases h with rfl | rfl | rfl <;> rcases h' with rfl | rfl | rfl <;> decide
theorem adr_mode {a : S_Addr} (h : AdrOk a) : a.Mode = 0 ∨ a.Mode = 2 ∨ a.Mode = 3 := by
  rcases h with h | h
  · exact Or.inr (Or.inl h.1)
  · exact Or.inr (Or.inr h.1)
theorem good_modes {f : S_Frame} (h : GoodF f) : (f.Dst.Mode = 0 ∨ f.Dst.Mode = 2 ∨ f.Dst.Mode = 3) ∧ (f.Src.Mode = 0 ∨ f.Src.Mode = 2 ∨ f.Src.Mode = 3) := by
  by_cases hk : f.Kind = 2
  · rw [h.ack hk]
    exact ⟨Or.inl rfl, Or.inl rfl⟩
  · obtain ⟨d, s, _⟩ := h.adr hk
    exact ⟨adr_mode d, adr_mode s⟩
theorem good_pay {f : S_Frame} (h : GoodF f) : f.Payload.length ≤ 127 ∧ f.MIC.length ≤ 127 := by
  have := h.size
  unfold hdL at this
  simp only [List.length_append] at this
  omega
theorem f_j2 {f : S_Frame} (h : GoodF f) (l : List Int) (hl : l.length ≤ 100) : F_frame_Header_j2 f l = some (l ++ secs f ++ f.Payload) := by
  have hp := (good_pay h).1
  unfold F_frame_Header_j2 F_frame_Header_j3 secs
  cases hs : f.Secure
  · simp only [cond_false, Cut.app, List.append_nil]
    rw [appO_some (by omega) (by omega)]; rfl
  · obtain ⟨c0, c1, k0, k1, _⟩ := h.sec hs
    simp only [cond_true, Cut.app]
    rw [wu (x := f.Counter) c0 (by omega), oc4 l f.Counter (by omega), Option.bind_some, appO_some (by simp only [List.length_append, beB_len, List.length_singleton]; omega) (by simp only [List.length_append, beB_len, List.length_singleton]; omega), Option.bind_some, appO_some (by simp only [List.length_append, beB_len, List.length_singleton]; omega) (by simp only [List.length_append, beB_len, List.length_singleton]; omega), Option.bind_some, List.append_assoc l]
theorem f_header {f : S_Frame} (h : GoodF f) : F_frame_Header f = some (hdL f) := by
  unfold F_frame_Header
  rw [f_valid h]
  simp only [Option.bind_some, cond_true]
  unfold F_frame_Header_j1
  obtain ⟨md, ms⟩ := good_modes h
  rw [f_flag, f_flag, f_flag]
  simp only [Option.bind_some]
  rw [f_byte0 _ _ _ _ h.kind, f_byte1 _ _ md ms]
  by_cases hk : f.Kind = 2
  · rw [show (f.Kind != 2) = false by simp [hk]]
    simp only [cond_false]
    rw [f_j2 h _ (by simp)]
    unfold hdL adrs hd3
    rw [if_pos hk, List.append_nil]
  · obtain ⟨d, s, _, _, p0, p1⟩ := h.adr hk
    have l1 := adrL_le f.Dst
    have l2 := adrL_le f.Src
    rw [show (f.Kind != 2) = true by simp [hk]]
    simp only [cond_true]
    rw [wu (x := f.Pan) p0 (by omega), oc2 _ f.Pan (by simp), Option.bind_some, f_adr _ d (by simp [beB_len]), Option.bind_some, f_adr _ s (by simp only [List.length_append, List.length_cons, List.length_nil, beB_len]; omega), Option.bind_some, f_j2 h _ (by simp only [List.length_append, List.length_cons, List.length_nil, beB_len]; omega)]
    unfold hdL adrs hd3
    rw [if_neg hk]
    simp only [List.append_assoc]

def tB (a : BitVec 16) : BitVec 16 := bif a.getLsbD 0 then (a >>> 1) ^^^ 33800#16 else a >>> 1
theorem flg_bd (b : Bool) {n : Int} (h : 0 ≤ n) : 0 ≤ flg b n ∧ flg b n ≤ n := by cases b <;> simp [flg] <;> omega
theorem hd3_ok {f : S_Frame} (h : GoodF f) : okB (hd3 f) := by
  obtain ⟨md, ms⟩ := good_modes h
  have h1 := flg_bd f.AckRequest (n := 32) (by omega)
  have h2 := flg_bd f.Pending (n := 16) (by omega)
  have h3 := flg_bd f.Secure (n := 8) (by omega)
  have hk := h.kind
  refine okB_cons (by omega) (okB_cons (by omega) (okB_one h.seq))
theorem hdL_ok {f : S_Frame} (h : GoodF f) : okB (hdL f) := by
  unfold hdL
  refine (((hd3_ok h).append ?_).append ?_).append h.pay
  · unfold adrs
    split
    · exact okB_nil
    · exact ((beB_ok _ _).append (adrL_ok _)).append (adrL_ok _)
  · unfold secs
    cases hs : f.Secure
    · exact okB_nil
    · obtain ⟨_, _, k0, k1, _⟩ := h.sec hs
      exact (beB_ok _ _).append (okB_one ⟨k0, k1⟩)
theorem r_flag (b : Bool) (n : Int) : F_ref05_flag b n = some (flg b n) := by cases b <;> rfl
theorem r_adr (l : List Int) {a : S_Addr} (h : AdrOk a) (hl : l.length ≤ 1000) : F_ref05_addr_G0 l a = some (l ++ adrL a) := by
  unfold F_ref05_addr_G0 adrL
  rcases h with h | h
  · rw [h.1, wu (x := a.Short) (by omega) (by omega)]
    simp only [BEq.rfl, cond_true, if_true]
    rw [rc2 l a.Short (by omega), Option.bind_some, decT (by simp [beB_len])]; rfl
  · rw [h.1]
    rw [show ((3 : Int) == 2) = false by rfl, show ((3 : Int) == 3) = true by rfl, if_neg (show ¬ (3 : Int) = 2 by omega)]
    simp only [cond_false, cond_true]
    rw [rc8 l a.EUI (by omega), Option.bind_some, decT (by simp [beB_len])]; rfl
theorem r_byte0 (k : Int) (a p s : Bool) (h : k = 1 ∨ k = 2 ∨ k = 3) : IntKind.wrap .u8 (IntKind.wrap .i64 ((IntKind.wrap .i64 ((IntKind.wrap .i64 ((IntKind.wrap .i64 (64 * k)) + flg a 32)) + flg p 16)) + flg s 8)) = 64 * k + flg a 32 + flg p 16 + flg s 8 := by
  rcases h with rfl | rfl | rfl <;> cases a <;> cases p <;> cases s <;> decide
theorem r_byte1 (k s : Int) (h : k = 0 ∨ k = 2 ∨ k = 3) (h' : s = 0 ∨ s = 2 ∨ s = 3) : IntKind.wrap .u8 (IntKind.wrap .i64 ((IntKind.wrap .i64 (64 * k)) + (IntKind.wrap .i64 (16 * s)))) = 64 * k + 16 * s := by
  rcases h with rfl | rfl | rfl <;> rcases h' with rfl | rfl | rfl <;> decide
theorem r_j1 {f : S_Frame} (h : GoodF f) (l : List Int) (hl : l.length ≤ 100) : F_ref05_header_j1 f l = some (l ++ secs f ++ f.Payload) := by
  have hp := (good_pay h).1
  unfold F_ref05_header_j1 F_ref05_header_j2 secs
  cases hs : f.Secure
  · simp only [cond_false, Cut.app, List.append_nil]
    rw [appO_some (by omega) (by omega)]; rfl
  · obtain ⟨c0, c1, k0, k1, _⟩ := h.sec hs
    simp only [cond_true, Cut.app]
    rw [wu (x := f.Counter) c0 (by omega), rc4 l f.Counter (by omega), Option.bind_some, appO_some (by simp only [List.length_append, beB_len, List.length_singleton]; omega) (by simp only [List.length_append, beB_len, List.length_singleton]; omega), Option.bind_some, appO_some (by simp only [List.length_append, beB_len, List.length_singleton]; omega) (by simp only [List.length_append, beB_len, List.length_singleton]; omega), Option.bind_some, List.append_assoc l]
theorem r_header {f : S_Frame} (h : GoodF f) : F_ref05_header f = some (hdL f) := by
  unfold F_ref05_header
  obtain ⟨md, ms⟩ := good_modes h
  rw [r_flag, r_flag, r_flag]
  simp only [Option.bind_some]
  rw [r_byte0 _ _ _ _ h.kind, r_byte1 _ _ md ms]
  by_cases hk : f.Kind = 2
  · rw [show (f.Kind != 2) = false by simp [hk]]
    simp only [cond_false]
    rw [r_j1 h _ (by simp)]
    unfold hdL adrs hd3
    rw [if_pos hk, List.append_nil]
  · obtain ⟨d, s, _, _, p0, p1⟩ := h.adr hk
    have l1 := adrL_le f.Dst
    have l2 := adrL_le f.Src
    rw [show (f.Kind != 2) = true by simp [hk]]
    simp only [cond_true]
    rw [wu (x := f.Pan) p0 (by omega), rc2 _ f.Pan (by simp), Option.bind_some, r_adr _ d (by simp [beB_len]), Option.bind_some, r_adr _ s (by simp only [List.length_append, List.length_cons, List.length_nil, beB_len]; omega), Option.bind_some, r_j1 h _ (by simp only [List.length_append, List.length_cons, List.length_nil, beB_len]; omega)]
    unfold hdL adrs hd3
    rw [if_neg hk]
    simp only [List.append_assoc]
theorem r_avalid {a : S_Addr} (h : AdrOk a) : F_ref04_Valid a = some true := by
  unfold F_ref04_Valid
  rcases h with h | h
  · rw [h.1, h.2.1]; rfl
  · rw [h.1, h.2.1]; rfl
theorem r_some {a : S_Addr} (h : AdrOk a) : F_ref04_Some a = some true := by
  unfold F_ref04_Some
  rw [r_avalid h]
  rcases h with h | h
  · rw [h.1]; rfl
  · rw [h.1]; rfl
theorem r_abc {a : S_Addr} (h : AdrOk a) (hb : ¬ bcast a) : F_ref04_IsBroadcast a = some false := by
  unfold F_ref04_IsBroadcast
  rw [r_avalid h]
  simp only [Option.bind_some, cond_true]
  rcases h with h | h
  · rw [h.1]
    have : a.Short ≠ 65535 := fun e => hb ⟨h.1, e⟩
    simp [this]
  · rw [h.1]; rfl
theorem r_one {a : S_Addr} (h : AdrOk a) (hb : ¬ bcast a) : F_ref04_One a = some true := by
  unfold F_ref04_One
  rw [r_some h, r_abc h hb]
  rfl
theorem good_ack (s : Int) (p : Bool) (hs : 0 ≤ s ∧ s ≤ 255) : GoodF (S_Frame.mk 2 false p false s 0 (S_Addr.mk 0 0 0) (S_Addr.mk 0 0 0) 0 0 [] []) where
  kind := Or.inr (Or.inl rfl)
  seq := hs
  ack := fun _ => rfl
  adr := fun e => absurd rfl e
  sec := fun e => by cases e
  nos := fun _ => ⟨rfl, rfl, rfl⟩
  pay := okB_nil
  mic := okB_nil
  size := by
    show (5 : Nat) ≤ 127
    omega
end
section
open Go.RowKit

structure TapeOk (t : S_multihopmade_Tape) : Prop where
  at0 : 0 ≤ t.at_
  at1 : t.at_ ≤ t.l.length
  len : t.l.length ≤ 400
theorem new_spec (l : List Int) : ∃ t, F_made_New l = some t ∧ TapeOk t := by
  unfold F_made_New F_made_New_j1
  by_cases h : (l.length : Int) > 400
  · rw [decT h, subO_some (by omega) (by omega) (by omega)]
    exact ⟨_, rfl, by simp, by simp, by simp; omega⟩
  · rw [decF h]
    exact ⟨_, rfl, by simp, by simp, by simp; omega⟩
theorem rem_spec (x n : Int) (h1 : 1 ≤ n) (h2 : n ≤ 4611686018427387904) : -4611686018427387904 < Int.tmod x n ∧ Int.tmod x n < n ∧ -n < Int.tmod x n := by
  have a := Int.tmod_lt_of_pos x (show 0 < n by omega)
  have b := Int.lt_tmod_of_pos x (show 0 < n by omega)
  omega
theorem next_spec {t : S_multihopmade_Tape} (h : TapeOk t) (n : Int) (h1 : 1 ≤ n) (h2 : n ≤ 4611686018427387904) : ∃ v t', F_made_Tape_Next t n = some (v, t') ∧ 0 ≤ v ∧ v < n ∧ TapeOk t' := by
  unfold F_made_Tape_Next F_made_Tape_Next_j1
  have a0 := h.at0
  have a1 := h.at1
  have a2 := h.len
  by_cases hc : t.at_ ≥ (t.l.length : Int)
  · rw [decT hc]
    exact ⟨0, t, rfl, by omega, by omega, h⟩
  · rw [decF hc, idx_int a0 (by omega)]
    simp only [cond_false, Option.bind_some, show decide (n ≠ 0) = true by simp; omega, cond_true]
    obtain ⟨r1, r2, r3⟩ := rem_spec (t.l[t.at_.toNat]'(by omega)) n h1 h2
    generalize Int.tmod (t.l[t.at_.toNat]'(by omega)) n = q at *
    have ew : IntKind.wrap .i64 (t.at_ + 1) = t.at_ + 1 := wi (by omega) (by omega)
    have hok : TapeOk ⟨t.l, t.at_ + 1⟩ := ⟨by dsimp only; omega, by dsimp only; omega, h.len⟩
    rw [ew]
    by_cases hq : q < 0
    · rw [decT hq, wi (by omega) (by omega)]
      exact ⟨q + n, _, rfl, by omega, by omega, hok⟩
    · rw [decF hq]
      exact ⟨q, _, rfl, by omega, by omega, hok⟩
end
section
open Go.RowKit

theorem bool_spec {t : S_multihopmade_Tape} (h : TapeOk t) (n : Int) (h1 : 1 ≤ n) (h2 : n ≤ 4611686018427387904) : ∃ v t', F_made_Tape_Bool t n = some (v, t') ∧ TapeOk t' := by
  unfold F_made_Tape_Bool
  obtain ⟨v, t', e, _, _, k⟩ := next_spec h n h1 h2
  rw [e]
  exact ⟨_, _, rfl, k⟩
end
section
open Go.RowKit

theorem bytes_spec {t : S_multihopmade_Tape} (h : TapeOk t) (n : Nat) (hn : n ≤ 1000000) : ∃ l t', F_made_Tape_Bytes t n = some (l, t') ∧ okB l ∧ l.length ≤ n ∧ TapeOk t' := by
  unfold F_made_Tape_Bytes
  rw [show IntKind.wrap .i64 ((n : Int) + 1) = ((n + 1 : Nat) : Int) by rw [wi (by omega) (by omega)]; rfl]
  obtain ⟨v, t1, e1, h0, h1, k1⟩ := next_spec h ((n + 1 : Nat) : Int) (by omega) (by omega)
  rw [e1, Option.bind_some]
  have e2 : mkO 1 v v = some v.toNat := by
    unfold mkO
    rw [if_pos ⟨by omega, by omega, by omega, by omega⟩]
  dsimp only
  rw [e2, Option.bind_some]
  obtain ⟨r, hr, q⟩ := loop_inv (step := F_made_Tape_Bytes_l1) (fun s => 0 ≤ s.1 ∧ s.1 ≤ v ∧ TapeOk s.2.1 ∧ okB s.2.2 ∧ s.2.2.length = v.toNat) (fun r => TapeOk r.1 ∧ okB r.2 ∧ r.2.length = v.toNat) (fun s => (v - s.1).toNat) (by
    rintro ⟨i, t2, l⟩ ⟨a0, a1, a2, a3, a4⟩
    dsimp only at a0 a1 a2 a3 a4
    unfold F_made_Tape_Bytes_l1
    dsimp only
    by_cases hi : i < (l.length : Int)
    · left
      obtain ⟨w, t3, e3, b0, b1, k3⟩ := next_spec a2 256 (by omega) (by omega)
      rw [decT hi, e3]
      simp only [cond_true, Option.bind_some, Cut.app, Nat.zero_add]
      rw [idx_int a0 hi, Option.bind_some, List.getElem?_eq_getElem (by omega), Option.bind_some, wi (by omega) (by omega), wu8 (by omega) (by omega)]
      refine ⟨_, rfl, ⟨by dsimp only; omega, by dsimp only; omega, k3, a3.set _ (by omega), by simp only [List.length_set]; exact a4⟩, by dsimp only; omega⟩
    · right
      rw [decF hi]
      exact ⟨_, rfl, a2, a3, a4⟩) (0, t1, List.replicate v.toNat 0) ⟨by dsimp only; omega, h0, k1, fun z hz => by rw [(List.mem_replicate.1 hz).2]; omega, by simp⟩
  rw [hr, Option.bind_some]
  exact ⟨_, _, rfl, q.2.1, by rw [q.2.2]; omega, q.1⟩
end
section
open Go.RowKit

theorem word_spec {t : S_multihopmade_Tape} (h : TapeOk t) : ∃ v t', F_made_Tape_Word t = some (v, t') ∧ TapeOk t' := by
  unfold F_made_Tape_Word
  obtain ⟨v1, t1, e1, _, _, k1⟩ := next_spec h 65536 (by omega) (by omega)
  obtain ⟨v2, t2, e2, _, _, k2⟩ := next_spec k1 5 (by omega) (by omega)
  simp only [e1, e2, Option.bind_some]
  cases v2 == 0
  · cases v2 == 1
    · cases v2 == 2
      · cases v2 == 3
        · exact ⟨_, _, rfl, k2⟩
        · exact ⟨_, _, rfl, k2⟩
      · exact ⟨_, _, rfl, k2⟩
    · exact ⟨_, _, rfl, k2⟩
  · exact ⟨_, _, rfl, k2⟩
end
section
open Go.RowKit

theorem device_spec {t : S_multihopmade_Tape} (h : TapeOk t) : ∃ a t', F_made_Tape_Device t = some (a, t') ∧ AdrOk a ∧ ¬ bcast a ∧ TapeOk t' := by
  unfold F_made_Tape_Device
  obtain ⟨v1, t1, e1, a0, a1, k1⟩ := next_spec h 5 (by omega) (by omega)
  obtain ⟨v2, t2, e2, k2⟩ := bool_spec k1 2 (by omega) (by omega)
  simp only [e1, e2, Option.bind_some]
  cases v2
  · refine ⟨_, _, rfl, Or.inl ⟨rfl, rfl, ?_⟩, ?_, k2⟩
    · dsimp only
      rw [wrap16]; omega
    · rintro ⟨_, e⟩
      dsimp only at e
      rw [wrap16] at e
      omega
  · refine ⟨_, _, rfl, Or.inr ⟨rfl, rfl, ?_⟩, ?_, k2⟩
    · dsimp only
      rw [wrap64]; omega
    · rintro ⟨e, _⟩
      dsimp only at e
      omega
theorem hd_le (f : S_Frame) : (hdL f).length ≤ 26 + f.Payload.length := by
  have h1 := adrs_le f
  have h2 := secs_le f
  unfold hdL
  simp only [List.length_append, hd3_len]
  omega
/-- a plain frame -/
theorem good_plain {k : Int} (hk : k = 1 ∨ k = 3) {a p : Bool} {s n : Int} {d c : S_Addr} {l : List Int} (hs : 0 ≤ s ∧ s ≤ 255) (hn : 0 ≤ n ∧ n ≤ 65535) (hd : AdrOk d) (hc : AdrOk c) (hb : ¬ bcast c) (ha : a = true → ¬ bcast d) (hl : okB l) (hz : l.length ≤ 60) : GoodF (S_Frame.mk k a p false s n d c 0 0 l []) where
  kind := by dsimp only; omega
  seq := hs
  ack := fun e => by dsimp only at e; omega
  adr := fun _ => ⟨hd, hc, hb, ha, hn⟩
  sec := fun e => by cases e
  nos := fun _ => ⟨rfl, rfl, rfl⟩
  pay := hl
  mic := okB_nil
  size := by
    have := hd_le (S_Frame.mk k a p false s n d c 0 0 l [])
    dsimp only at this
    dsimp only [List.length_nil]
    omega
theorem good_secure {f : S_Frame} (h : GoodF f) (hk : f.Kind ≠ 2) (hp : f.Payload.length ≤ 60) {c k : Int} {m : List Int} (hc : 0 ≤ c ∧ c ≤ 4294967295) (hy : 0 ≤ k ∧ k ≤ 255) (hm : okB m) (hl : m.length = 4) : GoodF (S_Frame.mk f.Kind f.AckRequest f.Pending true f.Seq f.Pan f.Dst f.Src c k f.Payload m) where
  kind := h.kind
  seq := h.seq
  ack := fun e => absurd e hk
  adr := fun _ => h.adr hk
  sec := fun _ => ⟨hc.1, hc.2, hy.1, hy.2, hl⟩
  nos := fun e => by cases e
  pay := h.pay
  mic := hm
  size := by
    have := hd_le (S_Frame.mk f.Kind f.AckRequest f.Pending true f.Seq f.Pan f.Dst f.Src c k f.Payload m)
    dsimp only at this ⊢
    omega
end
section
open Go.RowKit

theorem addr_refl (a : S_Addr) : S_Addr.eqb a a = true := by
  unfold S_Addr.eqb
  simp
end
section
open Go.RowKit

theorem bF {a b : Int} (h : a ≠ b) : (a == b) = false := beq_eq_false_iff_ne.2 h
theorem bT {a b : Int} (h : a = b) : (a == b) = true := beq_iff_eq.2 h
structure AdrWf (a : S_Addr) : Prop where
  short : 0 ≤ a.Short ∧ a.Short ≤ 65535
  eui : 0 ≤ a.EUI ∧ a.EUI ≤ 18446744073709551615
instance (a : S_Addr) : Decidable (AdrOk a) := by unfold AdrOk; infer_instance
instance (a : S_Addr) : Decidable (bcast a) := by unfold bcast; infer_instance
structure WfF (f : S_Frame) : Prop where
  seq : 0 ≤ f.Seq ∧ f.Seq ≤ 255
  pan : 0 ≤ f.Pan ∧ f.Pan ≤ 65535
  dst : AdrWf f.Dst
  src : AdrWf f.Src
  cnt : 0 ≤ f.Counter ∧ f.Counter ≤ 4294967295
  key : 0 ≤ f.Key ∧ f.Key ≤ 255
  pay : okB f.Payload
  payl : f.Payload.length ≤ 140737488351232
  mic : okB f.MIC
  micl : f.MIC.length ≤ 140737488351232
/-- what the place of a frame allows: the length may be counted, the header may be built -/
structure HdOk (f : S_Frame) : Prop where
  wf : WfF f
  kind : f.Kind = 1 ∨ f.Kind = 3
  dst : AdrOk f.Dst
  src : AdrOk f.Src
theorem HdOk.k2 {f : S_Frame} (h : HdOk f) : f.Kind ≠ 2 := by have := h.kind; omega
theorem avalid_not {a : S_Addr} (w : AdrWf a) (h : ¬ AdrOk a) : F_address_Valid a = some false ∨ (F_address_Valid a = some true ∧ a.Mode = 0) := by
  have h1 := w.short
  have h2 := w.eui
  unfold F_address_Valid
  by_cases m0 : a.Mode = 0
  · rw [m0]
    cases S_Addr.eqb a (S_Addr.mk 0 0 0)
    · exact Or.inl rfl
    · exact Or.inr ⟨rfl, rfl⟩
  refine Or.inl ?_
  rw [bF m0]
  by_cases m2 : a.Mode = 2
  · have : a.EUI ≠ 0 := fun e => h (Or.inl ⟨m2, e, h1⟩)
    rw [bT m2, bF this]; rfl
  by_cases m3 : a.Mode = 3
  · have : a.Short ≠ 0 := fun e => h (Or.inr ⟨m3, e, h2⟩)
    rw [bF m2, bT m3, bF this]; rfl
  · rw [bF m2, bF m3]; rfl
theorem ravalid_not {a : S_Addr} (w : AdrWf a) (h : ¬ AdrOk a) : F_ref04_Some a = some false := by
  have h1 := w.short
  have h2 := w.eui
  unfold F_ref04_Some F_ref04_Valid
  by_cases m0 : a.Mode = 0
  · rw [m0]
    cases a.Short == 0
    · rfl
    · cases a.EUI == 0 <;> rfl
  rw [bF m0]
  by_cases m2 : a.Mode = 2
  · have : a.EUI ≠ 0 := fun e => h (Or.inl ⟨m2, e, h1⟩)
    rw [bT m2, bF this]; rfl
  by_cases m3 : a.Mode = 3
  · have : a.Short ≠ 0 := fun e => h (Or.inr ⟨m3, e, h2⟩)
    rw [bF m2, bT m3, bF this]; rfl
  · rw [bF m2, bF m3]; rfl
theorem abc_yes {a : S_Addr} (w : AdrOk a) (h : bcast a) : F_address_IsBroadcast a = some true := by
  unfold F_address_IsBroadcast S_Addr.eqb
  rcases w with w | w
  · rw [h.1, h.2, w.2.1]; rfl
  · have := h.1; omega
theorem rabc_yes {a : S_Addr} (w : AdrOk a) (h : bcast a) : F_ref04_IsBroadcast a = some true := by
  unfold F_ref04_IsBroadcast
  rw [r_avalid w, h.1, h.2]; rfl
theorem rone_no {a : S_Addr} (w : AdrOk a) (h : bcast a) : F_ref04_One a = some false := by
  unfold F_ref04_One
  rw [r_some w, rabc_yes w h]; rfl
theorem rone_not {a : S_Addr} (w : AdrWf a) (h : ¬ AdrOk a) : F_ref04_One a = some false := by
  unfold F_ref04_One
  rw [ravalid_not w h]; rfl
theorem len_any {f : S_Frame} (h : HdOk f) : F_frame_length f = some (lenF f) ∧ 0 ≤ lenF f ∧ lenF f ≤ 281474976702600 := by
  have hp := h.wf.payl
  have hm := h.wf.micl
  unfold F_frame_length F_frame_length_j1 F_frame_length_j2 lenF
  rw [show (f.Kind != 2) = true by simp [h.k2], if_neg h.k2, f_addrBytes h.dst, f_addrBytes h.src]
  simp only [cond_true, Option.bind_some]
  generalize ea : (if f.Dst.Mode = 2 then (2 : Int) else 8) = x
  generalize eb : (if f.Src.Mode = 2 then (2 : Int) else 8) = y
  have hx : 0 ≤ x ∧ x ≤ 8 := by rw [← ea]; split <;> omega
  have hy : 0 ≤ y ∧ y ≤ 8 := by rw [← eb]; split <;> omega
  rw [wi (x := 3 + (f.Payload.length : Int)) (by omega) (by omega), wi (x := 3 + (f.Payload.length : Int) + 2) (by omega) (by omega), wi (x := 2 + x) (by omega) (by omega), wi (x := 2 + x + y) (by omega) (by omega), wi (x := 3 + (f.Payload.length : Int) + 2 + (2 + x + y)) (by omega) (by omega)]
  cases f.Secure
  · simp only [cond_false]
    exact ⟨by congr 1; omega, by omega, by omega⟩
  · simp only [cond_true]
    rw [wi (x := 5 + (f.MIC.length : Int)) (by omega) (by omega), wi (by omega) (by omega)]
    exact ⟨rfl, by omega, by omega⟩
theorem secs_len (f : S_Frame) : ((secs f).length : Int) = (bif f.Secure then 5 else 0) := by
  unfold secs
  cases f.Secure
  · rfl
  · simp only [cond_true, List.length_append, beB_len, List.length_singleton]; rfl
theorem lenF_hd {f : S_Frame} (h : HdOk f) (hm : f.Secure = false → f.MIC.length = 0) : lenF f = ((hdL f).length : Int) + f.MIC.length + 2 := by
  have hs := secs_len f
  have ha : ((adrs f).length : Int) = 2 + (if f.Dst.Mode = 2 then 2 else 8) + (if f.Src.Mode = 2 then 2 else 8) := by
    unfold adrs
    rw [if_neg h.k2]
    simp only [List.length_append, beB_len, adrL_len]
    split <;> split <;> rfl
  unfold lenF hdL
  rw [if_neg h.k2]
  simp only [List.length_append, hd3_len]
  cases hc : f.Secure
  · rw [hc] at hs
    simp only [cond_false] at hs ⊢
    have := hm hc
    omega
  · rw [hc] at hs
    simp only [cond_true] at hs ⊢
    omega
/-- the rule for the security -/
def secB (f : S_Frame) : Bool := bif f.Secure then (f.MIC.length : Int) == 4 else ((f.Counter == 0) && ((f.Key == 0) && ((f.MIC.length : Int) == 0)))
noncomputable def tailF (f : S_Frame) : Option Bool := bif f.Secure then
                    bif ((List.length f.MIC : Int) != 4) then
                      some (false)
                    else
                      (F_frame_length f).bind fun v14 =>
                      some ((decide (v14 ≤ 127)))
                  else
                    bif (f.Counter != 0) then
                      some (false)
                    else
                      bif (f.Key != 0) then
                        some (false)
                      else
                        bif ((List.length f.MIC : Int) != 0) then
                          some (false)
                        else
                          (F_frame_length f).bind fun v18 =>
                          some ((decide (v18 ≤ 127)))
noncomputable def tailR (f : S_Frame) : Option Bool := bif f.Secure then
              bif ((List.length f.MIC : Int) != 4) then
                some (false)
              else
                (F_ref05_header f).bind fun v21 =>
                some ((decide ((IntKind.wrap .i64 ((IntKind.wrap .i64 ((List.length v21 : Int) + (List.length f.MIC : Int))) + 2)) ≤ 127)))
            else
              bif (f.Counter != 0) then
                some (false)
              else
                bif (f.Key != 0) then
                  some (false)
                else
                  bif ((List.length f.MIC : Int) != 0) then
                    some (false)
                  else
                    (F_ref05_header f).bind fun v25 =>
                    some ((decide ((IntKind.wrap .i64 ((IntKind.wrap .i64 ((List.length v25 : Int) + (List.length f.MIC : Int))) + 2)) ≤ 127)))
theorem tailF_eq {f : S_Frame} (h : HdOk f) : tailF f = some (secB f && decide (lenF f ≤ 127)) := by
  unfold tailF secB
  rw [(len_any h).1]
  simp only [Option.bind_some, bne]
  cases f.Secure
  · cases f.Counter == 0
    · rfl
    · cases f.Key == 0
      · rfl
      · cases (f.MIC.length : Int) == 0 <;> simp
  · cases (f.MIC.length : Int) == 4 <;> simp
theorem r_j1' {f : S_Frame} (h : HdOk f) (l : List Int) (hl : l.length ≤ 100) : F_ref05_header_j1 f l = some (l ++ secs f ++ f.Payload) := by
  have hp := h.wf.payl
  unfold F_ref05_header_j1 F_ref05_header_j2 secs
  cases hs : f.Secure
  · simp only [cond_false, Cut.app, List.append_nil]
    rw [appO_some (by omega) (by omega)]; rfl
  · obtain ⟨c0, c1⟩ := h.wf.cnt
    simp only [cond_true, Cut.app]
    rw [wu (x := f.Counter) c0 (by omega), rc4 l f.Counter (by omega), Option.bind_some, appO_some (by simp only [List.length_append, beB_len, List.length_singleton]; omega) (by simp only [List.length_append, beB_len, List.length_singleton]; omega), Option.bind_some, appO_some (by simp only [List.length_append, beB_len, List.length_singleton]; omega) (by simp only [List.length_append, beB_len, List.length_singleton]; omega), Option.bind_some, List.append_assoc l]
theorem r_header' {f : S_Frame} (h : HdOk f) : F_ref05_header f = some (hdL f) := by
  unfold F_ref05_header
  have p0 := h.wf.pan
  have l1 := adrL_le f.Dst
  have l2 := adrL_le f.Src
  rw [r_flag, r_flag, r_flag]
  simp only [Option.bind_some]
  rw [r_byte0 _ _ _ _ (h.kind.elim Or.inl fun e => Or.inr (Or.inr e)), r_byte1 _ _ (adr_mode h.dst) (adr_mode h.src), show (f.Kind != 2) = true by simp [h.k2]]
  simp only [cond_true]
  rw [wu (x := f.Pan) p0.1 (by omega), rc2 _ f.Pan (by simp), Option.bind_some, r_adr _ h.dst (by simp [beB_len]), Option.bind_some, r_adr _ h.src (by simp only [List.length_append, List.length_cons, List.length_nil, beB_len]; omega), Option.bind_some, r_j1' h _ (by simp only [List.length_append, List.length_cons, List.length_nil, beB_len]; omega)]
  unfold hdL adrs hd3
  rw [if_neg h.k2]
  simp only [List.append_assoc]
theorem tailR_eq {f : S_Frame} (h : HdOk f) : tailR f = some (secB f && decide (lenF f ≤ 127)) := by
  have hm := h.wf.micl
  have hh := hd_le f
  have hp := h.wf.payl
  have key : (f.Secure = false → f.MIC.length = 0) → decide ((IntKind.wrap .i64 ((IntKind.wrap .i64 ((List.length (hdL f) : Int) + (List.length f.MIC : Int))) + 2)) ≤ 127) = decide (lenF f ≤ 127) := fun e => by
    rw [wi (x := ((hdL f).length : Int) + (f.MIC.length : Int)) (by omega) (by omega), wi (by omega) (by omega), lenF_hd h e]
  unfold tailR secB
  rw [r_header' h]
  simp only [Option.bind_some, bne]
  cases hs : f.Secure
  · cases f.Counter == 0
    · rfl
    · cases f.Key == 0
      · rfl
      · cases hz : (f.MIC.length : Int) == 0
        · rfl
        · rw [key (fun _ => by have := eq_of_beq hz; omega)]; rfl
  · cases (f.MIC.length : Int) == 4
    · rfl
    · rw [key (fun e => by rw [hs] at e; cases e)]; rfl
/-- the rule for data and commands -/
def dataB (f : S_Frame) : Bool := decide (AdrOk f.Dst ∧ AdrOk f.Src ∧ ¬ bcast f.Src ∧ (f.AckRequest = true → ¬ bcast f.Dst)) && (secB f && decide (lenF f ≤ 127))
theorem dataB_of {f : S_Frame} (d : AdrOk f.Dst) (s : AdrOk f.Src) (n : ¬ bcast f.Src) (a : f.AckRequest = true → ¬ bcast f.Dst) : dataB f = (secB f && decide (lenF f ≤ 127)) := by
  unfold dataB
  rw [decide_eq_true (show AdrOk f.Dst ∧ AdrOk f.Src ∧ ¬ bcast f.Src ∧ (f.AckRequest = true → ¬ bcast f.Dst) from ⟨d, s, n, a⟩), Bool.true_and]
theorem dataB_not {f : S_Frame} (h : ¬ (AdrOk f.Dst ∧ AdrOk f.Src ∧ ¬ bcast f.Src ∧ (f.AckRequest = true → ¬ bcast f.Dst))) : dataB f = false := by
  unfold dataB
  rw [decide_eq_false h, Bool.false_and]
theorem vdata_eq {f : S_Frame} (w : WfF f) (hk : f.Kind = 1 ∨ f.Kind = 3) : F_frame_validData f = some (dataB f) := by
  have e : F_frame_validData f = ((F_address_Valid f.Dst).bind fun v1 => bif v1 then bif (f.Dst.Mode == 0) then some false else (F_address_Valid f.Src).bind fun v4 => bif v4 then bif (f.Src.Mode == 0) then some false else (F_address_IsBroadcast f.Src).bind fun v7 => bif v7 then some false else bif f.AckRequest then (F_address_IsBroadcast f.Dst).bind fun v10 => bif v10 then some false else tailF f else tailF f else some false else some false) := rfl
  rw [e]
  by_cases d : AdrOk f.Dst
  · by_cases s : AdrOk f.Src
    · rw [f_avalid d, f_avalid s, f_amode d, f_amode s, tailF_eq ⟨w, hk, d, s⟩]
      simp only [Option.bind_some, cond_true, cond_false]
      by_cases n : bcast f.Src
      · rw [abc_yes s n, dataB_not (fun q => q.2.2.1 n)]; rfl
      · rw [f_abc n]
        simp only [Option.bind_some, cond_false]
        cases ha : f.AckRequest
        · rw [dataB_of d s n (fun e => by rw [ha] at e; cases e)]; rfl
        · by_cases b : bcast f.Dst
          · rw [abc_yes d b, dataB_not (fun q => q.2.2.2 ha b)]; rfl
          · rw [f_abc b, dataB_of d s n (fun _ => b)]; rfl
    · rw [f_avalid d, f_amode d, dataB_not (fun q => s q.2.1)]
      simp only [Option.bind_some, cond_true, cond_false]
      rcases avalid_not w.src s with q | ⟨q, q2⟩
      · rw [q]; rfl
      · rw [q, q2]; rfl
  · rw [dataB_not (fun q => d q.1)]
    rcases avalid_not w.dst d with q | ⟨q, q2⟩
    · rw [q]; rfl
    · rw [q, q2]; rfl
theorem rdata_eq {f : S_Frame} (w : WfF f) (hk : f.Kind = 1 ∨ f.Kind = 3) : F_ref05_Valid_j1 f true = some (dataB f) := by
  have e : F_ref05_Valid_j1 f true = ((F_ref04_Some f.Dst).bind fun v12 => bif v12 then (F_ref04_One f.Src).bind fun v14 => bif v14 then bif f.AckRequest then (F_ref04_IsBroadcast f.Dst).bind fun v17 => bif v17 then some false else tailR f else tailR f else some false else some false) := rfl
  rw [e]
  by_cases d : AdrOk f.Dst
  · by_cases s : AdrOk f.Src
    · rw [r_some d, tailR_eq ⟨w, hk, d, s⟩]
      simp only [Option.bind_some, cond_true]
      by_cases n : bcast f.Src
      · rw [rone_no s n, dataB_not (fun q => q.2.2.1 n)]; rfl
      · rw [r_one s n]
        simp only [Option.bind_some, cond_true]
        cases ha : f.AckRequest
        · rw [dataB_of d s n (fun e => by rw [ha] at e; cases e)]; rfl
        · by_cases b : bcast f.Dst
          · rw [rabc_yes d b, dataB_not (fun q => q.2.2.2 ha b)]; rfl
          · rw [r_abc d b, dataB_of d s n (fun _ => b)]; rfl
    · rw [r_some d, rone_not w.src s, dataB_not (fun q => s q.2.1)]; rfl
  · rw [dataB_not (fun q => d q.1), ravalid_not w.dst d]; rfl
noncomputable def validB (f : S_Frame) : Bool := bif f.Kind == 2 then (F_frame_validAck f).getD false else bif (f.Kind == 1) || (f.Kind == 3) then dataB f else false
theorem ack_some (f : S_Frame) : F_frame_validAck f = some ((F_frame_validAck f).getD false) := by
  unfold F_frame_validAck
  cases f.AckRequest <;> cases f.Secure <;> cases f.Pan == 0 <;> cases f.Counter == 0 <;> cases f.Key == 0 <;> cases S_Addr.eqb f.Dst (S_Addr.mk 0 0 0) <;> cases S_Addr.eqb f.Src (S_Addr.mk 0 0 0) <;> cases (f.Payload.length : Int) == 0 <;> rfl
theorem f_valid_eq {f : S_Frame} (w : WfF f) : F_frame_Valid f = some (validB f) := by
  unfold F_frame_Valid F_frame_Valid_j1 validB
  by_cases k2 : f.Kind = 2
  · rw [k2, ack_some f]; rfl
  · rw [show (f.Kind == 2) = false by simp [k2]]
    by_cases k1 : f.Kind = 1
    · rw [vdata_eq w (Or.inl k1), k1]; rfl
    · by_cases k3 : f.Kind = 3
      · rw [vdata_eq w (Or.inr k3), k3]; rfl
      · rw [show (f.Kind == 1) = false by simp [k1], show (f.Kind == 3) = false by simp [k3]]; rfl
theorem r_valid_eq {f : S_Frame} (w : WfF f) : F_ref05_Valid f = some (validB f) := by
  have e : F_ref05_Valid f = (bif f.Kind == 2 then F_frame_validAck f else bif f.Kind == 1 then F_ref05_Valid_j1 f true else F_ref05_Valid_j1 f (f.Kind == 3)) := rfl
  rw [e]
  unfold validB
  by_cases k2 : f.Kind = 2
  · rw [k2, ack_some f]; rfl
  · rw [show (f.Kind == 2) = false by simp [k2]]
    by_cases k1 : f.Kind = 1
    · rw [rdata_eq w (Or.inl k1), k1]; rfl
    · by_cases k3 : f.Kind = 3
      · rw [k3]
        rw [show ((3 : Int) == 1) = false by rfl, show ((3 : Int) == 3) = true by rfl, rdata_eq w (Or.inr k3)]; rfl
      · rw [show (f.Kind == 1) = false by simp [k1], show (f.Kind == 3) = false by simp [k3]]; rfl
theorem bifO {b : Bool} {x : Option Bool} (h : (bif b then x else some false) = some true) : b = true ∧ x = some true := by
  cases b
  · cases h
  · exact ⟨rfl, h⟩
theorem bifN {b : Bool} {x : Option Bool} (h : (bif b then some false else x) = some true) : b = false ∧ x = some true := by
  cases b
  · exact ⟨rfl, h⟩
  · cases h
theorem addr_eq {a b : S_Addr} (h : S_Addr.eqb a b = true) : a = b := by
  obtain ⟨a1, a2, a3⟩ := a
  obtain ⟨b1, b2, b3⟩ := b
  unfold S_Addr.eqb at h
  simp only [Bool.and_eq_true, beq_iff_eq] at h
  obtain ⟨rfl, rfl, rfl, _⟩ := h
  rfl
theorem ack_true {f : S_Frame} (k : f.Kind = 2) (h : F_frame_validAck f = some true) : f = S_Frame.mk 2 false f.Pending false f.Seq 0 A00 A00 0 0 [] [] := by
  unfold F_frame_validAck at h
  obtain ⟨e1, h⟩ := bifN h
  obtain ⟨e2, h⟩ := bifN h
  obtain ⟨e3, h⟩ := bifO h
  obtain ⟨e4, h⟩ := bifO h
  obtain ⟨e5, h⟩ := bifO h
  obtain ⟨e6, h⟩ := bifO h
  obtain ⟨e7, h⟩ := bifO h
  obtain ⟨e8, h⟩ := bifO h
  have e9 := beq_iff_eq.1 (Option.some.inj h)
  have e10 := beq_iff_eq.1 e8
  have p1 : f.Payload = [] := List.eq_nil_of_length_eq_zero (by omega)
  have p2 : f.MIC = [] := List.eq_nil_of_length_eq_zero (by omega)
  have q3 := beq_iff_eq.1 e3
  have q4 := beq_iff_eq.1 e4
  have q5 := beq_iff_eq.1 e5
  have q6 := addr_eq e6
  have q7 := addr_eq e7
  clear e3 e4 e5 e6 e7 e8 e9 e10 h
  obtain ⟨_, _, _, _, _, _, _, _, _, _, _, _⟩ := f
  dsimp only at k e1 e2 q3 q4 q5 q6 q7 p1 p2
  subst k e1 e2 q3 q4 q5 q6 q7 p1 p2
  rfl
/-- what is valid is good -/
theorem good_of {f : S_Frame} (w : WfF f) (h : validB f = true) : GoodF f := by
  unfold validB at h
  by_cases k2 : f.Kind = 2
  · rw [k2] at h
    have ha : F_frame_validAck f = some true := by
      rw [ack_some f]
      exact congrArg some h
    have e := ack_true k2 ha
    rw [e]
    exact good_ack _ _ w.seq
  · rw [show (f.Kind == 2) = false by simp [k2]] at h
    by_cases hk : f.Kind = 1 ∨ f.Kind = 3
    · rw [show ((f.Kind == 1) || (f.Kind == 3)) = true by rcases hk with e | e <;> rw [e] <;> rfl] at h
      simp only [cond_true, cond_false] at h
      by_cases q : AdrOk f.Dst ∧ AdrOk f.Src ∧ ¬ bcast f.Src ∧ (f.AckRequest = true → ¬ bcast f.Dst)
      · obtain ⟨d, s, n, a⟩ := q
        rw [dataB_of d s n a, Bool.and_eq_true] at h
        obtain ⟨h1, h2⟩ := h
        have h2' := of_decide_eq_true h2
        have hns : f.Secure = false → f.Counter = 0 ∧ f.Key = 0 ∧ f.MIC = [] := fun e => by
          unfold secB at h1
          rw [e] at h1
          simp only [cond_false, Bool.and_eq_true, beq_iff_eq] at h1
          exact ⟨h1.1, h1.2.1, List.eq_nil_of_length_eq_zero (by omega)⟩
        exact {
          kind := by omega
          seq := w.seq
          ack := fun e => absurd e k2
          adr := fun _ => ⟨d, s, n, a, w.pan⟩
          sec := fun e => by
            unfold secB at h1
            rw [e] at h1
            simp only [cond_true, beq_iff_eq] at h1
            exact ⟨w.cnt.1, w.cnt.2, w.key.1, w.key.2, by omega⟩
          nos := hns
          pay := w.pay
          mic := w.mic
          size := by
            have := lenF_hd ⟨w, hk, d, s⟩ (fun e => by rw [(hns e).2.2]; rfl)
            omega }
      · rw [dataB_not q] at h; cases h
    · rw [show ((f.Kind == 1) || (f.Kind == 3)) = false by simp; omega] at h
      cases h
theorem good_wf {f : S_Frame} (h : GoodF f) : WfF f where
  seq := h.seq
  pan := by
    by_cases k : f.Kind = 2
    · rw [h.ack k]; exact ⟨Int.le_refl 0, by show (0 : Int) ≤ 65535; omega⟩
    · exact (h.adr k).2.2.2.2
  dst := by
    by_cases k : f.Kind = 2
    · rw [h.ack k]; exact ⟨⟨Int.le_refl 0, by show (0 : Int) ≤ 65535; omega⟩, Int.le_refl 0, by show (0 : Int) ≤ 18446744073709551615; omega⟩
    · rcases (h.adr k).1 with q | q
      · exact ⟨q.2.2, by omega⟩
      · exact ⟨by omega, q.2.2⟩
  src := by
    by_cases k : f.Kind = 2
    · rw [h.ack k]; exact ⟨⟨Int.le_refl 0, by show (0 : Int) ≤ 65535; omega⟩, Int.le_refl 0, by show (0 : Int) ≤ 18446744073709551615; omega⟩
    · rcases (h.adr k).2.1 with q | q
      · exact ⟨q.2.2, by omega⟩
      · exact ⟨by omega, q.2.2⟩
  cnt := by
    cases e : f.Secure
    · rw [(h.nos e).1]; decide
    · exact ⟨(h.sec e).1, (h.sec e).2.1⟩
  key := by
    cases e : f.Secure
    · rw [(h.nos e).2.1]; decide
    · exact ⟨(h.sec e).2.2.1, (h.sec e).2.2.2.1⟩
  pay := h.pay
  payl := by have := (good_pay h).1; omega
  mic := h.mic
  micl := by have := (good_pay h).2; omega
end
section
open Go.RowKit

structure WfP (p : S_Peer) : Prop where
  adr : AdrWf p.Src
  mode : -9223372036854775808 ≤ p.Src.Mode ∧ p.Src.Mode ≤ 9223372036854775807
  key : 0 ≤ p.Key ∧ p.Key ≤ 255
  last : 0 ≤ p.Last ∧ p.Last ≤ 4294967295
  win : 0 ≤ p.Window ∧ p.Window ≤ 4294967295
structure WfK (k : S_LinkKey) : Prop where
  ind : 0 ≤ k.Index ∧ k.Index ≤ 255
  len : k.Key.length = 16
  ok : okB k.Key
structure WfG (g : S_Guard) : Prop where
  keys : ∀ k ∈ g.Keys, WfK k
  keysl : g.Keys.length ≤ 140737488351232
  peers : ∀ p ∈ g.Peers, WfP p
  peersl : g.Peers.length ≤ 140737488351232
  cnt : 0 ≤ g.Counter ∧ g.Counter ≤ 4294967295
  res : 0 ≤ g.Reserved ∧ g.Reserved ≤ 4294967295
  non : 0 ≤ g.Nonce ∧ g.Nonce ≤ 4294967295
def G0 : S_Guard := S_Guard.mk [] 0 0 0 []
def K0 : List Int := [0, 0, 0, 0, 0, 0, 0, 0, 0, 0, 0, 0, 0, 0, 0, 0]
def keyL : List S_LinkKey → Int → List Int × Bool
  | [], _ => (K0, false)
  | k :: l, i => if k.Index = i then (k.Key, true) else keyL l i
def keyS (g : S_Guard) (i : Int) : List Int × Bool := keyL g.Keys i
theorem key_loop {l : List S_LinkKey} (hl : l.length ≤ 4611686018427387904) (i : Int) {step : Int → Option (Int ⊕ (Unit ⊕ (List Int × Bool)))} (h1 : ∀ k (hk : k < l.length), step (k : Int) = if l[k].Index = i then some (.inr (.inr (l[k].Key, true))) else some (.inl ((k + 1 : Nat) : Int))) (h2 : step (l.length : Int) = some (.inr (.inl ()))) :
    ∀ m k, m + k = l.length → (loopO step (k : Int)).bind (Sum.elim (fun _ => some (K0, false)) (fun w => some w)) = some (keyL (l.drop k) i)
  | 0, k, hk => by
    obtain rfl : k = l.length := by omega
    rw [loop_done h2, List.drop_length]
    rfl
  | m + 1, k, hk => by
    have hkl : k < l.length := by omega
    have h := h1 k hkl
    rw [List.drop_eq_getElem_cons hkl, keyL]
    by_cases hi : l[k].Index = i
    · rw [if_pos hi] at h ⊢
      rw [loop_done h]
      rfl
    · rw [if_neg hi] at h ⊢
      rw [loop_next h]
      exact key_loop hl i h1 h2 m (k + 1) (by omega)
theorem key_p {g : S_Guard} (w : WfG g) (i : Int) : F_guard_keyOf g i = some (keyS g i) := by
  have hl := w.keysl
  have h := key_loop (l := g.Keys) (by omega) i (step := F_guard_keyOf_l1 g i) (fun k hk => by
    unfold F_guard_keyOf_l1
    rw [decT (by omega), idx_lt hk]
    simp only [cond_true, Option.bind_some]
    by_cases hi : g.Keys[k].Index = i
    · rw [if_pos hi, bT hi]; rfl
    · rw [if_neg hi, bF hi, wk k (by omega)]; rfl) (by
    unfold F_guard_keyOf_l1
    rw [decF (by omega)]
    rfl) g.Keys.length 0 (by omega)
  rw [List.drop_zero] at h
  exact h
theorem key_r {g : S_Guard} (w : WfG g) (i : Int) : F_ref06_key g i = some (keyS g i) := by
  have hl := w.keysl
  have h := key_loop (l := g.Keys) (by omega) i (step := F_ref06_key_l1 g i) (fun k hk => by
    unfold F_ref06_key_l1
    rw [decT (by omega), idx_lt hk]
    simp only [cond_true, Option.bind_some]
    by_cases hi : g.Keys[k].Index = i
    · rw [if_pos hi, bT hi]; rfl
    · rw [if_neg hi, bF hi, wk k (by omega)]; rfl) (by
    unfold F_ref06_key_l1
    rw [decF (by omega)]
    rfl) g.Keys.length 0 (by omega)
  rw [List.drop_zero] at h
  exact h
theorem keyL_wf : ∀ {l : List S_LinkKey}, (∀ k ∈ l, WfK k) → ∀ i, (keyL l i).1.length = 16 ∧ okB (keyL l i).1
  | [], _, _ => ⟨rfl, by intro z hz; simp [keyL, K0] at hz; omega⟩
  | k :: l, w, i => by
    unfold keyL
    split
    · have := w k (by simp)
      exact ⟨this.len, this.ok⟩
    · exact keyL_wf (fun x hx => w x (by simp [hx])) i
theorem keyS_wf {g : S_Guard} (w : WfG g) (i : Int) : (keyS g i).1.length = 16 ∧ okB (keyS g i).1 := keyL_wf w.keys i
def cmp1 (a b : Int) : Int := if a < b then -1 else if b < a then 1 else 0
theorem cmp8 (a b : Int) : F_cmp_Compare_uint8 a b = some (cmp1 a b) := by
  unfold F_cmp_Compare_uint8 F_cmp_isNaN_uint8 cmp1
  simp only [bne_self_eq_false, Option.bind_some, cond_false]
  by_cases h1 : a < b
  · rw [decT h1, if_pos h1]; rfl
  · rw [decF h1, if_neg h1]
    by_cases h2 : b < a
    · rw [decT (show a > b from h2), if_pos h2]; rfl
    · rw [decF (show ¬ a > b from h2), if_neg h2]; rfl
theorem cmpI (a b : Int) : F_cmp_Compare_int a b = some (cmp1 a b) := cmp8 a b
theorem cmpS (a b : Int) : F_cmp_Compare_api_Short a b = some (cmp1 a b) := cmp8 a b
theorem cmpE (a b : Int) : F_cmp_Compare_api_EUI a b = some (cmp1 a b) := cmp8 a b
def orL : List Int → Int
  | [] => 0
  | x :: l => if x ≠ 0 then x else orL l
theorem or_loop : ∀ (l : List Int) (m k : Nat), l.length ≤ 1000 → m + k = l.length → (loopO (F_cmp_Or_int_l1 l) (k : Int)).bind (Sum.elim (fun _ => some 0) (fun w => some w)) = some (orL (l.drop k))
  | l, 0, k, hl, hk => by
    obtain rfl : k = l.length := by omega
    rw [loop_done (r := .inl ()) (by unfold F_cmp_Or_int_l1; rw [decF (by omega)]; rfl), List.drop_length]
    rfl
  | l, m + 1, k, hl, hk => by
    have hkl : k < l.length := by omega
    rw [List.drop_eq_getElem_cons hkl, orL]
    by_cases h0 : l[k] = 0
    · rw [if_neg (by simpa using h0), loop_next (s' := ((k + 1 : Nat) : Int)) (by
        unfold F_cmp_Or_int_l1
        rw [decT (by omega), idx_lt hkl]
        simp only [cond_true, Option.bind_some, h0, bne_self_eq_false, cond_false, wk k (by omega)])]
      exact or_loop l m (k + 1) hl (by omega)
    · rw [if_pos h0, loop_done (r := .inr l[k]) (by
        unfold F_cmp_Or_int_l1
        rw [decT (by omega), idx_lt hkl]
        simp only [cond_true, Option.bind_some, show (l[k] != 0) = true by simpa using h0])]
      rfl
theorem or_p (l : List Int) (hl : l.length ≤ 1000) : F_cmp_Or_int l = some (orL l) := or_loop l l.length 0 hl (by omega)
def keyA (a : S_Addr) : List Int := [a.Mode, a.Short, a.EUI]
theorem adr_cmp (a b : S_Addr) : F_address_Compare a b = some (lexC (keyA a) (keyA b)) := by
  unfold F_address_Compare
  simp only [cmpI, cmpS, cmpE, Option.bind_some]
  rw [or_p _ (by simp), Option.bind_some]
  congr 1
  unfold cmp1 keyA
  simp only [orL, lexC]
  by_cases h1 : a.Mode < b.Mode
  · simp [h1]
  by_cases h2 : b.Mode < a.Mode
  · simp [h1, h2]
  by_cases h3 : a.Short < b.Short
  · simp [h1, h2, h3]
  by_cases h4 : b.Short < a.Short
  · simp [h1, h2, h3, h4]
  by_cases h5 : a.EUI < b.EUI
  · simp [h1, h2, h3, h4, h5]
  by_cases h6 : b.EUI < a.EUI
  · simp [h1, h2, h3, h4, h5, h6]
  · simp [h1, h2, h3, h4, h5, h6]
def cmpK (a : S_Addr) (k : Int) (b : S_Addr) (j : Int) : Int := if lexC (keyA a) (keyA b) ≠ 0 then lexC (keyA a) (keyA b) else cmp1 k j
theorem peers_cmp (p q : S_Peer) : F_guard_comparePeers p q = some (cmpK p.Src p.Key q.Src q.Key) := by
  unfold F_guard_comparePeers
  simp only [adr_cmp, cmp8, Option.bind_some]
  rw [or_p _ (by simp), Option.bind_some]
  congr 1
  simp only [orL, cmpK]
  split
  · rfl
  · split
    · rfl
    · rename_i h; have : cmp1 p.Key q.Key = 0 := Classical.byContradiction fun q => h q
      rw [this]
theorem xor63 {x : Nat} (hx : x < 2 ^ 64) : x ^^^ 2 ^ 63 = (2 ^ 63 + x) % 2 ^ 64 := by
  apply Nat.eq_of_testBit_eq
  intro j
  rw [Nat.testBit_xor, Nat.testBit_mod_two_pow, Nat.testBit_two_pow]
  by_cases h1 : j < 63
  · rw [Nat.testBit_two_pow_add_gt h1, decide_eq_true (show j < 64 by omega), decide_eq_false (show ¬ 63 = j by omega)]
    simp
  by_cases h2 : j = 63
  · subst h2
    rw [Nat.testBit_two_pow_add_eq]
    simp
  · rw [decide_eq_false (show ¬ j < 64 by omega), decide_eq_false (show ¬ 63 = j by omega), Nat.testBit_lt_two_pow (Nat.lt_of_lt_of_le hx (Nat.pow_le_pow_right (by omega) (show 64 ≤ j by omega)))]
    rfl
theorem flip64 {m : Int} (h : -9223372036854775808 ≤ m ∧ m ≤ 9223372036854775807) : ixor .u64 (IntKind.wrap .u64 m) 9223372036854775808 = m + 9223372036854775808 := by
  rw [wrap64]
  have h0 : (BitVec.ofInt 64 (m % 18446744073709551616)).toNat = (m % 18446744073709551616).toNat := by
    rw [BitVec.toNat_ofInt]
    omega
  have h1 : (BitVec.ofInt 64 9223372036854775808).toNat = 2 ^ 63 := by decide
  have hx : (m % 18446744073709551616).toNat < 2 ^ 64 := by omega
  have e : ixor .u64 (m % 18446744073709551616) 9223372036854775808 = IntKind.wrap .u64 (((BitVec.ofInt 64 (m % 18446744073709551616) ^^^ BitVec.ofInt 64 9223372036854775808).toNat : Nat) : Int) := rfl
  rw [e, BitVec.toNat_xor, h0, h1, xor63 hx, wrap64]
  omega
theorem adr_cmpr {a b : S_Addr} (wa : AdrWf a) (ma : -9223372036854775808 ≤ a.Mode ∧ a.Mode ≤ 9223372036854775807) (wb : AdrWf b) (mb : -9223372036854775808 ≤ b.Mode ∧ b.Mode ≤ 9223372036854775807) : F_ref04_Compare a b = some (lexC (keyA a) (keyA b)) := by
  have s1 := wa.short
  have s2 := wb.short
  have hs1 : IntKind.wrap .u64 a.Short = a.Short := wu (by omega) (by omega)
  have hs2 : IntKind.wrap .u64 b.Short = b.Short := wu (by omega) (by omega)
  have st : ∀ k : Nat, k < 3 → F_ref04_Compare_l1 a b (k : Int) = (if ([a.Mode + 9223372036854775808, a.Short, a.EUI] : List Int).getD k 0 < ([b.Mode + 9223372036854775808, b.Short, b.EUI] : List Int).getD k 0 then some (.inr (.inr (-1))) else if ([b.Mode + 9223372036854775808, b.Short, b.EUI] : List Int).getD k 0 < ([a.Mode + 9223372036854775808, a.Short, a.EUI] : List Int).getD k 0 then some (.inr (.inr 1)) else some (.inl ((k + 1 : Nat) : Int))) := by
    intro k hk
    unfold F_ref04_Compare_l1
    rw [flip64 ma, flip64 mb, hs1, hs2, decT (by omega), decT (by omega), wk k (by omega), Int.toNat_natCast]
    simp only [cond_true]
    split
    · rename_i h; rw [decT h]; rfl
    · rename_i h
      rw [decF h]
      split
      · rename_i h2; rw [decT h2]; rfl
      · rename_i h2; rw [decF h2]; rfl
  have s0 := st 0 (by omega)
  have s1' := st 1 (by omega)
  have s2' := st 2 (by omega)
  have s3 : F_ref04_Compare_l1 a b ((3 : Nat) : Int) = some (.inr (.inl ())) := by
    unfold F_ref04_Compare_l1
    rw [decF (by omega)]
    rfl
  simp only [List.getD_cons_zero, List.getD_cons_succ] at s0 s1' s2'
  unfold F_ref04_Compare
  unfold keyA
  simp only [lexC]
  rw [show (0 : Int) = ((0 : Nat) : Int) from rfl]
  by_cases h1 : a.Mode < b.Mode
  · rw [if_pos (by omega)] at s0
    rw [loop_done s0, if_pos h1]
    rfl
  by_cases h2 : b.Mode < a.Mode
  · rw [if_neg (by omega), if_pos (by omega)] at s0
    rw [loop_done s0, if_neg h1, if_pos h2]
    rfl
  rw [if_neg (by omega), if_neg (by omega)] at s0
  rw [loop_next s0, if_neg h1, if_neg h2]
  by_cases h3 : a.Short < b.Short
  · rw [if_pos h3] at s1'
    rw [loop_done s1', if_pos h3]
    rfl
  by_cases h4 : b.Short < a.Short
  · rw [if_neg h3, if_pos h4] at s1'
    rw [loop_done s1', if_neg h3, if_pos h4]
    rfl
  rw [if_neg h3, if_neg h4] at s1'
  rw [loop_next s1', if_neg h3, if_neg h4]
  by_cases h5 : a.EUI < b.EUI
  · rw [if_pos h5] at s2'
    rw [loop_done s2', if_pos h5]
    rfl
  by_cases h6 : b.EUI < a.EUI
  · rw [if_neg h5, if_pos h6] at s2'
    rw [loop_done s2', if_neg h5, if_pos h6]
    rfl
  rw [if_neg h5, if_neg h6] at s2'
  rw [loop_next s2', loop_done s3, if_neg h5, if_neg h6]
  rfl
def befB (p : S_Peer) (a : S_Addr) (k : Int) : Bool := decide (cmpK p.Src p.Key a k < 0)
theorem before_r {p : S_Peer} (wp : WfP p) {a : S_Addr} (wa : AdrWf a) (ma : -9223372036854775808 ≤ a.Mode ∧ a.Mode ≤ 9223372036854775807) (k : Int) : F_ref06_before p a k = some (befB p a k) := by
  unfold F_ref06_before befB cmpK
  rw [adr_cmpr wp.adr wp.mode wa ma, Option.bind_some]
  generalize lexC (keyA p.Src) (keyA a) = c
  by_cases h1 : c < 0
  · rw [decT h1, if_pos (by omega), decT h1]; rfl
  · rw [decF h1]
    by_cases h2 : c = 0
    · rw [bT h2, if_neg (by simpa using h2)]
      unfold cmp1
      by_cases h3 : p.Key < k
      · rw [if_pos h3, decT h3]; rfl
      · rw [if_neg h3, decF h3]
        split <;> rfl
    · rw [bF h2, if_pos h2, decF h1]; rfl
end
end Go.Proofs.Ytpngoffbogingaa
