/-
  Written by cc3.py: what the Go functions compute, as plain functions, and that they do.
-/
import Derived.Test.YtohfnlkjdjmipaaCe1
namespace Go.Proofs.Ytohfnlkjdjmipaa
open Go.RowKit
attribute [local irreducible] TS go TD goD

/-- multihop/frame.validData -/
noncomputable def F_frame_validData (a0 : S_Frame) : Option (Bool) :=
  (F_address_Valid a0.Dst).bind fun v1 =>
  bif v1 then
    bif (a0.Dst.Mode == 0) then
      some (false)
    else
      (F_address_Valid a0.Src).bind fun v4 =>
      bif v4 then
        bif (a0.Src.Mode == 0) then
          some (false)
        else
          (F_address_IsBroadcast a0.Src).bind fun v7 =>
          bif v7 then
            some (false)
          else
            bif a0.AckRequest then
              (F_address_IsBroadcast a0.Dst).bind fun v10 =>
              bif v10 then
                some (false)
              else
                bif a0.Secure then
                  bif ((List.length a0.MIC : Int) != 4) then
                    some (false)
                  else
                    (F_frame_length a0).bind fun v14 =>
                    some ((decide (v14 ≤ 127)))
                else
                  bif (a0.Counter != 0) then
                    some (false)
                  else
                    bif (a0.Key != 0) then
                      some (false)
                    else
                      bif ((List.length a0.MIC : Int) != 0) then
                        some (false)
                      else
                        (F_frame_length a0).bind fun v18 =>
                        some ((decide (v18 ≤ 127)))
            else
              bif a0.Secure then
                bif ((List.length a0.MIC : Int) != 4) then
                  some (false)
                else
                  (F_frame_length a0).bind fun v21 =>
                  some ((decide (v21 ≤ 127)))
              else
                bif (a0.Counter != 0) then
                  some (false)
                else
                  bif (a0.Key != 0) then
                    some (false)
                  else
                    bif ((List.length a0.MIC : Int) != 0) then
                      some (false)
                    else
                      (F_frame_length a0).bind fun v25 =>
                      some ((decide (v25 ≤ 127)))
      else
        some (false)
  else
    some (false)
set_option maxRecDepth 100000 in
set_option maxHeartbeats 40000000 in
theorem ok_frame_validData (a0 : S_Frame) (r : Bool) (h : F_frame_validData a0 = some r) : Con Try.prog 47 [.agg (S_Frame.cs a0)] [] (.c (.lit (.bool (r)))) [] := by
  unfold F_frame_validData at h
  refine con_of [] [] 67 Try.func47 rfl rfl (by kernel_rfl) (fun K => ?_)
  refine TS_go 10 ?_
  replace h := bindO h
  obtain ⟨v1, hv1, h⟩ := h
  refine TS_call [] (ok_address_Valid a0.Dst v1 hv1) (by kernel_rfl) (by kernel_rfl) ?_
  refine TS_go 2 ?_
  replace h := condO h
  rcases h with ⟨hb2, h⟩ | ⟨hb2, h⟩
  · subst hb2
    refine TS_go 6 ?_
    replace h := condO h
    rcases h with ⟨hb3, h⟩ | ⟨hb3, h⟩
    · refine TS_know 11 (b := true) hb3 (by kernel_rfl) (by kernel_rfl) ?_
      refine TS_know 12 (b := true) hb3 (by kernel_rfl) (by kernel_rfl) ?_
      refine TS_know 13 (b := true) hb3 (by kernel_rfl) (by kernel_rfl) ?_
      refine TS_go 12 ?_
      refine TS_T (by kernel_rfl) rfl ?_
      refine TS_go 6 ?_
      have ret := Option.some.inj h
      subst ret
      exact TS_ret (by kernel_rfl) (by kernel_rfl) (by kernel_rfl)
    · refine TS_know 11 (b := false) hb3 (by kernel_rfl) (by kernel_rfl) ?_
      refine TS_know 12 (b := false) hb3 (by kernel_rfl) (by kernel_rfl) ?_
      refine TS_know 13 (b := false) hb3 (by kernel_rfl) (by kernel_rfl) ?_
      refine TS_go 2 ?_
      replace h := bindO h
      obtain ⟨v4, hv4, h⟩ := h
      refine TS_call [] (ok_address_Valid a0.Src v4 hv4) (by kernel_rfl) (by kernel_rfl) ?_
      refine TS_go 3 ?_
      replace h := condO h
      rcases h with ⟨hb5, h⟩ | ⟨hb5, h⟩
      · subst hb5
        refine TS_go 6 ?_
        replace h := condO h
        rcases h with ⟨hb6, h⟩ | ⟨hb6, h⟩
        · refine TS_know 23 (b := true) hb6 (by kernel_rfl) (by kernel_rfl) ?_
          refine TS_know 24 (b := true) hb6 (by kernel_rfl) (by kernel_rfl) ?_
          refine TS_T (by kernel_rfl) rfl ?_
          refine TS_go 6 ?_
          have ret := Option.some.inj h
          subst ret
          exact TS_ret (by kernel_rfl) (by kernel_rfl) (by kernel_rfl)
        · refine TS_know 23 (b := false) hb6 (by kernel_rfl) (by kernel_rfl) ?_
          refine TS_know 24 (b := false) hb6 (by kernel_rfl) (by kernel_rfl) ?_
          refine TS_F (by kernel_rfl) rfl ?_
          refine TS_go 6 ?_
          replace h := bindO h
          obtain ⟨v7, hv7, h⟩ := h
          refine TS_call [] (ok_address_IsBroadcast a0.Src v7 hv7) (by kernel_rfl) (by kernel_rfl) ?_
          refine TS_go 1 ?_
          replace h := condO h
          rcases h with ⟨hb8, h⟩ | ⟨hb8, h⟩
          · subst hb8
            refine TS_go 9 ?_
            refine TS_T (by kernel_rfl) rfl ?_
            refine TS_go 6 ?_
            have ret := Option.some.inj h
            subst ret
            exact TS_ret (by kernel_rfl) (by kernel_rfl) (by kernel_rfl)
          · subst hb8
            refine TS_go 3 ?_
            replace h := condO h
            rcases h with ⟨hb9, h⟩ | ⟨hb9, h⟩
            · refine TS_know 30 (b := true) hb9 (by kernel_rfl) (by kernel_rfl) ?_
              refine TS_know 31 (b := true) hb9 (by kernel_rfl) (by kernel_rfl) ?_
              refine TS_go 2 ?_
              replace h := bindO h
              obtain ⟨v10, hv10, h⟩ := h
              refine TS_call [] (ok_address_IsBroadcast a0.Dst v10 hv10) (by kernel_rfl) (by kernel_rfl) ?_
              refine TS_go 3 ?_
              replace h := condO h
              rcases h with ⟨hb11, h⟩ | ⟨hb11, h⟩
              · subst hb11
                refine TS_T (by kernel_rfl) rfl ?_
                refine TS_go 6 ?_
                have ret := Option.some.inj h
                subst ret
                exact TS_ret (by kernel_rfl) (by kernel_rfl) (by kernel_rfl)
              · subst hb11
                refine TS_F (by kernel_rfl) rfl ?_
                refine TS_go 7 ?_
                replace h := condO h
                rcases h with ⟨hb12, h⟩ | ⟨hb12, h⟩
                · refine TS_know 38 (b := true) hb12 (by kernel_rfl) (by kernel_rfl) ?_
                  refine TS_know 39 (b := true) hb12 (by kernel_rfl) (by kernel_rfl) ?_
                  refine TS_go 6 ?_
                  replace h := condO h
                  rcases h with ⟨hb13, h⟩ | ⟨hb13, h⟩
                  · refine TS_know 43 (b := true) hb13 (by kernel_rfl) (by kernel_rfl) ?_
                    refine TS_know 44 (b := true) hb13 (by kernel_rfl) (by kernel_rfl) ?_
                    refine TS_T (by kernel_rfl) rfl ?_
                    refine TS_go 6 ?_
                    have ret := Option.some.inj h
                    subst ret
                    exact TS_ret (by kernel_rfl) (by kernel_rfl) (by kernel_rfl)
                  · refine TS_know 43 (b := false) hb13 (by kernel_rfl) (by kernel_rfl) ?_
                    refine TS_know 44 (b := false) hb13 (by kernel_rfl) (by kernel_rfl) ?_
                    refine TS_F (by kernel_rfl) rfl ?_
                    refine TS_go 6 ?_
                    refine TS_know 46 (b := true) hb12 (by kernel_rfl) (by kernel_rfl) ?_
                    refine TS_go 18 ?_
                    refine TS_F (by kernel_rfl) rfl ?_
                    refine TS_go 4 ?_
                    replace h := bindO h
                    obtain ⟨v14, hv14, h⟩ := h
                    refine TS_call [] (ok_frame_length a0 v14 hv14) (by kernel_rfl) (by kernel_rfl) ?_
                    refine TS_go 4 ?_
                    have ret := Option.some.inj h
                    subst ret
                    exact TS_ret (by kernel_rfl) (by kernel_rfl) (by kernel_rfl)
                · refine TS_know 38 (b := false) hb12 (by kernel_rfl) (by kernel_rfl) ?_
                  refine TS_know 39 (b := false) hb12 (by kernel_rfl) (by kernel_rfl) ?_
                  refine TS_go 6 ?_
                  refine TS_F (by kernel_rfl) rfl ?_
                  refine TS_go 6 ?_
                  refine TS_know 46 (b := false) hb12 (by kernel_rfl) (by kernel_rfl) ?_
                  refine TS_go 6 ?_
                  replace h := condO h
                  rcases h with ⟨hb15, h⟩ | ⟨hb15, h⟩
                  · refine TS_know 51 (b := true) hb15 (by kernel_rfl) (by kernel_rfl) ?_
                    refine TS_know 52 (b := true) hb15 (by kernel_rfl) (by kernel_rfl) ?_
                    refine TS_go 12 ?_
                    refine TS_T (by kernel_rfl) rfl ?_
                    refine TS_go 6 ?_
                    have ret := Option.some.inj h
                    subst ret
                    exact TS_ret (by kernel_rfl) (by kernel_rfl) (by kernel_rfl)
                  · refine TS_know 51 (b := false) hb15 (by kernel_rfl) (by kernel_rfl) ?_
                    refine TS_know 52 (b := false) hb15 (by kernel_rfl) (by kernel_rfl) ?_
                    refine TS_go 5 ?_
                    replace h := condO h
                    rcases h with ⟨hb16, h⟩ | ⟨hb16, h⟩
                    · refine TS_know 55 (b := true) hb16 (by kernel_rfl) (by kernel_rfl) ?_
                      refine TS_know 56 (b := true) hb16 (by kernel_rfl) (by kernel_rfl) ?_
                      refine TS_know 57 (b := true) hb16 (by kernel_rfl) (by kernel_rfl) ?_
                      refine TS_go 7 ?_
                      refine TS_T (by kernel_rfl) rfl ?_
                      refine TS_go 6 ?_
                      have ret := Option.some.inj h
                      subst ret
                      exact TS_ret (by kernel_rfl) (by kernel_rfl) (by kernel_rfl)
                    · refine TS_know 55 (b := false) hb16 (by kernel_rfl) (by kernel_rfl) ?_
                      refine TS_know 56 (b := false) hb16 (by kernel_rfl) (by kernel_rfl) ?_
                      refine TS_know 57 (b := false) hb16 (by kernel_rfl) (by kernel_rfl) ?_
                      refine TS_go 7 ?_
                      replace h := condO h
                      rcases h with ⟨hb17, h⟩ | ⟨hb17, h⟩
                      · refine TS_know 61 (b := true) hb17 (by kernel_rfl) (by kernel_rfl) ?_
                        refine TS_know 62 (b := true) hb17 (by kernel_rfl) (by kernel_rfl) ?_
                        refine TS_know 63 (b := true) hb17 (by kernel_rfl) (by kernel_rfl) ?_
                        refine TS_T (by kernel_rfl) rfl ?_
                        refine TS_go 6 ?_
                        have ret := Option.some.inj h
                        subst ret
                        exact TS_ret (by kernel_rfl) (by kernel_rfl) (by kernel_rfl)
                      · refine TS_know 61 (b := false) hb17 (by kernel_rfl) (by kernel_rfl) ?_
                        refine TS_know 62 (b := false) hb17 (by kernel_rfl) (by kernel_rfl) ?_
                        refine TS_know 63 (b := false) hb17 (by kernel_rfl) (by kernel_rfl) ?_
                        refine TS_F (by kernel_rfl) rfl ?_
                        refine TS_go 4 ?_
                        replace h := bindO h
                        obtain ⟨v18, hv18, h⟩ := h
                        refine TS_call [] (ok_frame_length a0 v18 hv18) (by kernel_rfl) (by kernel_rfl) ?_
                        refine TS_go 4 ?_
                        have ret := Option.some.inj h
                        subst ret
                        exact TS_ret (by kernel_rfl) (by kernel_rfl) (by kernel_rfl)
            · refine TS_know 30 (b := false) hb9 (by kernel_rfl) (by kernel_rfl) ?_
              refine TS_know 31 (b := false) hb9 (by kernel_rfl) (by kernel_rfl) ?_
              refine TS_go 6 ?_
              refine TS_F (by kernel_rfl) rfl ?_
              refine TS_go 7 ?_
              replace h := condO h
              rcases h with ⟨hb19, h⟩ | ⟨hb19, h⟩
              · refine TS_know 38 (b := true) hb19 (by kernel_rfl) (by kernel_rfl) ?_
                refine TS_know 39 (b := true) hb19 (by kernel_rfl) (by kernel_rfl) ?_
                refine TS_go 6 ?_
                replace h := condO h
                rcases h with ⟨hb20, h⟩ | ⟨hb20, h⟩
                · refine TS_know 43 (b := true) hb20 (by kernel_rfl) (by kernel_rfl) ?_
                  refine TS_know 44 (b := true) hb20 (by kernel_rfl) (by kernel_rfl) ?_
                  refine TS_T (by kernel_rfl) rfl ?_
                  refine TS_go 6 ?_
                  have ret := Option.some.inj h
                  subst ret
                  exact TS_ret (by kernel_rfl) (by kernel_rfl) (by kernel_rfl)
                · refine TS_know 43 (b := false) hb20 (by kernel_rfl) (by kernel_rfl) ?_
                  refine TS_know 44 (b := false) hb20 (by kernel_rfl) (by kernel_rfl) ?_
                  refine TS_F (by kernel_rfl) rfl ?_
                  refine TS_go 6 ?_
                  refine TS_know 46 (b := true) hb19 (by kernel_rfl) (by kernel_rfl) ?_
                  refine TS_go 18 ?_
                  refine TS_F (by kernel_rfl) rfl ?_
                  refine TS_go 4 ?_
                  replace h := bindO h
                  obtain ⟨v21, hv21, h⟩ := h
                  refine TS_call [] (ok_frame_length a0 v21 hv21) (by kernel_rfl) (by kernel_rfl) ?_
                  refine TS_go 4 ?_
                  have ret := Option.some.inj h
                  subst ret
                  exact TS_ret (by kernel_rfl) (by kernel_rfl) (by kernel_rfl)
              · refine TS_know 38 (b := false) hb19 (by kernel_rfl) (by kernel_rfl) ?_
                refine TS_know 39 (b := false) hb19 (by kernel_rfl) (by kernel_rfl) ?_
                refine TS_go 6 ?_
                refine TS_F (by kernel_rfl) rfl ?_
                refine TS_go 6 ?_
                refine TS_know 46 (b := false) hb19 (by kernel_rfl) (by kernel_rfl) ?_
                refine TS_go 6 ?_
                replace h := condO h
                rcases h with ⟨hb22, h⟩ | ⟨hb22, h⟩
                · refine TS_know 51 (b := true) hb22 (by kernel_rfl) (by kernel_rfl) ?_
                  refine TS_know 52 (b := true) hb22 (by kernel_rfl) (by kernel_rfl) ?_
                  refine TS_go 12 ?_
                  refine TS_T (by kernel_rfl) rfl ?_
                  refine TS_go 6 ?_
                  have ret := Option.some.inj h
                  subst ret
                  exact TS_ret (by kernel_rfl) (by kernel_rfl) (by kernel_rfl)
                · refine TS_know 51 (b := false) hb22 (by kernel_rfl) (by kernel_rfl) ?_
                  refine TS_know 52 (b := false) hb22 (by kernel_rfl) (by kernel_rfl) ?_
                  refine TS_go 5 ?_
                  replace h := condO h
                  rcases h with ⟨hb23, h⟩ | ⟨hb23, h⟩
                  · refine TS_know 55 (b := true) hb23 (by kernel_rfl) (by kernel_rfl) ?_
                    refine TS_know 56 (b := true) hb23 (by kernel_rfl) (by kernel_rfl) ?_
                    refine TS_know 57 (b := true) hb23 (by kernel_rfl) (by kernel_rfl) ?_
                    refine TS_go 7 ?_
                    refine TS_T (by kernel_rfl) rfl ?_
                    refine TS_go 6 ?_
                    have ret := Option.some.inj h
                    subst ret
                    exact TS_ret (by kernel_rfl) (by kernel_rfl) (by kernel_rfl)
                  · refine TS_know 55 (b := false) hb23 (by kernel_rfl) (by kernel_rfl) ?_
                    refine TS_know 56 (b := false) hb23 (by kernel_rfl) (by kernel_rfl) ?_
                    refine TS_know 57 (b := false) hb23 (by kernel_rfl) (by kernel_rfl) ?_
                    refine TS_go 7 ?_
                    replace h := condO h
                    rcases h with ⟨hb24, h⟩ | ⟨hb24, h⟩
                    · refine TS_know 61 (b := true) hb24 (by kernel_rfl) (by kernel_rfl) ?_
                      refine TS_know 62 (b := true) hb24 (by kernel_rfl) (by kernel_rfl) ?_
                      refine TS_know 63 (b := true) hb24 (by kernel_rfl) (by kernel_rfl) ?_
                      refine TS_T (by kernel_rfl) rfl ?_
                      refine TS_go 6 ?_
                      have ret := Option.some.inj h
                      subst ret
                      exact TS_ret (by kernel_rfl) (by kernel_rfl) (by kernel_rfl)
                    · refine TS_know 61 (b := false) hb24 (by kernel_rfl) (by kernel_rfl) ?_
                      refine TS_know 62 (b := false) hb24 (by kernel_rfl) (by kernel_rfl) ?_
                      refine TS_know 63 (b := false) hb24 (by kernel_rfl) (by kernel_rfl) ?_
                      refine TS_F (by kernel_rfl) rfl ?_
                      refine TS_go 4 ?_
                      replace h := bindO h
                      obtain ⟨v25, hv25, h⟩ := h
                      refine TS_call [] (ok_frame_length a0 v25 hv25) (by kernel_rfl) (by kernel_rfl) ?_
                      refine TS_go 4 ?_
                      have ret := Option.some.inj h
                      subst ret
                      exact TS_ret (by kernel_rfl) (by kernel_rfl) (by kernel_rfl)
      · subst hb5
        refine TS_go 6 ?_
        refine TS_T (by kernel_rfl) rfl ?_
        refine TS_go 6 ?_
        have ret := Option.some.inj h
        subst ret
        exact TS_ret (by kernel_rfl) (by kernel_rfl) (by kernel_rfl)
  · subst hb2
    refine TS_go 18 ?_
    refine TS_T (by kernel_rfl) rfl ?_
    refine TS_go 6 ?_
    have ret := Option.some.inj h
    subst ret
    exact TS_ret (by kernel_rfl) (by kernel_rfl) (by kernel_rfl)

/-- multihop/frame.Valid -/
noncomputable def F_frame_Valid_j1 (a0 : S_Frame) (v3 : Bool) : Option (Bool) :=
  bif v3 then
    (F_frame_validData a0).bind fun v5 =>
    some (v5)
  else
    some (false)
noncomputable def F_frame_Valid (a0 : S_Frame) : Option (Bool) :=
  bif (a0.Kind == 2) then
    (F_frame_validAck a0).bind fun v2 =>
    some (v2)
  else
    bif (a0.Kind == 1) then
      (F_frame_Valid_j1 a0) true
    else
      (F_frame_Valid_j1 a0) (a0.Kind == 3)
set_option maxRecDepth 100000 in
set_option maxHeartbeats 40000000 in
theorem ok_frame_Valid (a0 : S_Frame) (r : Bool) (h : F_frame_Valid a0 = some r) : Con Try.prog 23 [.agg (S_Frame.cs a0)] [] (.c (.lit (.bool (r)))) [] := by
  unfold F_frame_Valid at h
  refine con_of [] [] 14 Try.func23 rfl rfl (by kernel_rfl) (fun K => ?_)
  refine TS_go 17 ?_
  replace h := condO h
  rcases h with ⟨hb1, h⟩ | ⟨hb1, h⟩
  · refine TS_know 6 (b := true) hb1 (by kernel_rfl) (by kernel_rfl) ?_
    refine TS_know 5 (b := true) hb1 (by kernel_rfl) (by kernel_rfl) ?_
    refine TS_T (by kernel_rfl) rfl ?_
    refine TS_go 3 ?_
    replace h := bindO h
    obtain ⟨v2, hv2, h⟩ := h
    refine TS_call [] (ok_frame_validAck a0 v2 hv2) (by kernel_rfl) (by kernel_rfl) ?_
    refine TS_go 5 ?_
    have ret := Option.some.inj h
    subst ret
    exact TS_ret (by kernel_rfl) (by kernel_rfl) (by kernel_rfl)
  · refine TS_know 6 (b := false) hb1 (by kernel_rfl) (by kernel_rfl) ?_
    refine TS_know 5 (b := false) hb1 (by kernel_rfl) (by kernel_rfl) ?_
    refine TS_F (by kernel_rfl) rfl ?_
    refine TS_cut ⟨[(1, []), (4, [])], [(1, (1, []))]⟩ (.mk [.code (codeAt [1, 0, 1, 0, 1, 1] (bodyOf Try.f23)), .blk 0, .code (codeAt [1, 1] (bodyOf Try.f23))] .normal ⟨[(1, .c (.box 1 0)), (4, .c (.lit (.int .i64 (a0.Kind))))], [(1, .box [.lit (.int .i64 (a0.Kind)), .lit (.bool (a0.AckRequest)), .lit (.bool (a0.Pending)), .lit (.bool (a0.Secure)), .lit (.int .u8 (a0.Seq)), .lit (.int .u16 (a0.Pan)), .lit (.int .i64 (a0.Dst.Mode)), .lit (.int .u16 (a0.Dst.Short)), .lit (.int .u64 (a0.Dst.EUI)), .lit (.int .i64 (a0.Src.Mode)), .lit (.int .u16 (a0.Src.Short)), .lit (.int .u64 (a0.Src.EUI)), .lit (.int .u32 (a0.Counter)), .lit (.int .u8 (a0.Key)), .slc 1 0 (List.length a0.Payload) (List.map (ecI .u8) a0.Payload), .slc 1 0 (List.length a0.MIC) (List.map (ecI .u8) a0.MIC)])]⟩) (by kernel_rfl) (by kernel_rfl) ?_
    refine TS_joinB ⟨[(1, [])], [(1, (1, []))]⟩ (fun (v3 : Bool) => [(9, .c (.lit (.bool (v3))))]) (fun (v3 : Bool) => []) (F_frame_Valid_j1 a0) r ?_ ?_
    · clear h
      intro v3 h
      unfold F_frame_Valid_j1 at h
      replace h := condO h
      rcases h with ⟨hb4, h⟩ | ⟨hb4, h⟩
      · subst hb4
        refine TS_T (by kernel_rfl) rfl ?_
        refine TS_go 3 ?_
        replace h := bindO h
        obtain ⟨v5, hv5, h⟩ := h
        refine TS_call [] (ok_frame_validData a0 v5 hv5) (by kernel_rfl) (by kernel_rfl) ?_
        refine TS_go 5 ?_
        have ret := Option.some.inj h
        subst ret
        exact TS_ret (by kernel_rfl) (by kernel_rfl) (by kernel_rfl)
      · subst hb4
        refine TS_F (by kernel_rfl) rfl ?_
        refine TS_go 7 ?_
        have ret := Option.some.inj h
        subst ret
        exact TS_ret (by kernel_rfl) (by kernel_rfl) (by kernel_rfl)
    · refine TS_go 5 ?_
      replace h := condO h
      rcases h with ⟨hb6, h⟩ | ⟨hb6, h⟩
      · refine TS_know 10 (b := true) hb6 (by kernel_rfl) (by kernel_rfl) ?_
        refine TS_know 9 (b := true) hb6 (by kernel_rfl) (by kernel_rfl) ?_
        refine TS_T (by kernel_rfl) rfl ?_
        refine TS_go 1 ?_
        exact TS_meet true ⟨[(1, []), (9, [])], [(1, (1, []))]⟩ h (by kernel_rfl) (by kernel_rfl)
      · refine TS_know 10 (b := false) hb6 (by kernel_rfl) (by kernel_rfl) ?_
        refine TS_know 9 (b := false) hb6 (by kernel_rfl) (by kernel_rfl) ?_
        refine TS_F (by kernel_rfl) rfl ?_
        refine TS_go 4 ?_
        exact TS_meet (a0.Kind == 3) ⟨[(1, []), (9, [])], [(1, (1, []))]⟩ h (by kernel_rfl) (by kernel_rfl)

/-- multihop/frame.flag -/
noncomputable def F_frame_flag (a0 : Bool) (a1 : Int) : Option (Int) :=
  bif a0 then
    some (a1)
  else
    some (0)
set_option maxRecDepth 100000 in
set_option maxHeartbeats 40000000 in
theorem ok_frame_flag (a0 : Bool) (a1 : Int) (r : Int) (h : F_frame_flag a0 a1 = some r) : Con Try.prog 43 [.c (.lit (.bool (a0))), .c (.lit (.int .u8 (a1)))] [] (.c (.lit (.int .u8 (r)))) [] := by
  unfold F_frame_flag at h
  refine con_of [] [] 7 Try.func43 rfl rfl (by kernel_rfl) (fun K => ?_)
  refine TS_go 9 ?_
  replace h := condO h
  rcases h with ⟨hb1, h⟩ | ⟨hb1, h⟩
  · subst hb1
    refine TS_T (by kernel_rfl) rfl ?_
    refine TS_go 7 ?_
    have ret := Option.some.inj h
    subst ret
    exact TS_ret (by kernel_rfl) (by kernel_rfl) (by kernel_rfl)
  · subst hb1
    refine TS_F (by kernel_rfl) rfl ?_
    refine TS_go 6 ?_
    have ret := Option.some.inj h
    subst ret
    exact TS_ret (by kernel_rfl) (by kernel_rfl) (by kernel_rfl)

/-- multihop/octets.Append -/
noncomputable def F_octets_Append_l2 (v1 : Int) (a0 : List Int) (a1 : Int) (s3 : Int × (List Int)) : Option ((Int × (List Int)) ⊕ ((List Int))) :=
  bif (decide (s3.1 < v1)) then
    bif decide (0 ≤ (IntKind.wrap .i64 (8 * (IntKind.wrap .i64 ((IntKind.wrap .i64 (v1 - 1)) - s3.1))))) then
      (idx (Cut.app .whole s3.2) (IntKind.wrap .i64 ((List.length a0 : Int) + s3.1))).bind fun _e8 =>
      (s3.2[(0 + Int.toNat (IntKind.wrap .i64 ((List.length a0 : Int) + s3.1)))]?).bind fun _e9 =>
      some (Sum.inl (IntKind.wrap .i64 (s3.1 + 1), (List.set s3.2 (0 + Int.toNat (IntKind.wrap .i64 ((List.length a0 : Int) + s3.1))) (IntKind.wrap .u8 (ishr .u64 a1 (IntKind.wrap .i64 (8 * (IntKind.wrap .i64 ((IntKind.wrap .i64 (v1 - 1)) - s3.1)))))))))
    else none
  else
    some (Sum.inr s3.2)
noncomputable def F_octets_Append_j1 (a0 : List Int) (a1 : Int) (v1 : Int) : Option ((List Int)) :=
  (mkO 1 (IntKind.wrap .i64 ((List.length a0 : Int) + v1)) (IntKind.wrap .i64 ((List.length a0 : Int) + v1))).bind fun n2 =>
  (loopO (F_octets_Append_l2 v1 a0 a1) (0, (cpL (List.replicate n2 (0 : Int)) 0 (List.length (Cut.app .whole (List.replicate n2 (0 : Int)))) (Cut.app .whole a0)))).bind fun b4 =>
  some (b4)
noncomputable def F_octets_Append (a0 : List Int) (a1 : Int) (a2 : Int) : Option ((List Int)) :=
  bif (decide (a2 < 0)) then
    (F_octets_Append_j1 a0 a1) 0
  else
    bif (decide (a2 > 8)) then
      (F_octets_Append_j1 a0 a1) 0
    else
      (F_octets_Append_j1 a0 a1) a2
set_option maxRecDepth 100000 in
set_option maxHeartbeats 40000000 in
theorem okT_octets_Append (a0 : List Int) (a1 : Int) (a2 : Int) (r : (List Int)) (h : F_octets_Append a0 a1 a2 = some r) : Con Try.prog 44 [.c (eS 1 (ecI .u8) (a0)), .c (.lit (.int .u64 (a1))), .c (.lit (.int .i64 (a2)))] [] (.c (.slc 1 900002 (List.length r) (List.map (ecI .u8) r))) [(900000, .spare 5 1 (List.length r))] := by
  unfold F_octets_Append at h
  refine con_of [] [(900000, [])] 43 Try.func44 rfl rfl (by kernel_rfl) (fun K => ?_)
  refine TS_go 4 ?_
  refine TS_cut ⟨[(0, []), (1, []), (2, [])], []⟩ (.mk [.code (codeAt [1] (bodyOf Try.f44))] .normal ⟨[(0, .c (.slc 1 0 (List.length a0) (List.map (ecI .u8) a0))), (1, .c (.lit (.int .u64 (a1)))), (2, .c (.lit (.int .i64 (a2))))], []⟩) (by kernel_rfl) (by kernel_rfl) ?_
  refine TS_joinB ⟨[(0, []), (1, []), (2, [])], []⟩ (fun (v1 : Int) => [(2, .c (.lit (.int .i64 (v1))))]) (fun (v1 : Int) => []) (F_octets_Append_j1 a0 a1) r ?_ ?_
  · clear h
    intro v1 h
    unfold F_octets_Append_j1 at h
    refine TS_go 6 ?_
    replace h := bindO h
    obtain ⟨n2, hn2, h⟩ := h
    refine TS_makeR 19 5 1 (ecI .u8) (0 : Int) [] (cs := [.lit (.int .u8 (0))]) (l := IntKind.wrap .i64 ((List.length a0 : Int) + v1)) (c := IntKind.wrap .i64 ((List.length a0 : Int) + v1)) hn2 (by kernel_rfl) (by kernel_rfl) (by kernel_rfl) ?_
    refine TS_go 6 ?_
    refine TS_cpR 19 5 1 (List.length (List.replicate n2 (0 : Int))) 0 (ecI .u8) (fun _ => by kernel_rfl) (l := (List.replicate n2 (0 : Int))) (l2 := a0) .whole .whole (by kernel_rfl) (by kernel_rfl) ?_
    refine TS_go 8 ?_
    refine TS_cut ⟨[(0, []), (1, []), (2, []), (7, []), (23, []), (24, [])], [(19, (19, []))]⟩ (.mk [.code (codeAt [1, 1, 1, 1, 0, 1, 0] (bodyOf Try.f44)), .blk 0, .code (codeAt [1, 1, 1, 1, 1] (bodyOf Try.f44))] .normal ⟨[(0, .c (.slc 1 0 (List.length a0) (List.map (ecI .u8) a0))), (1, .c (.lit (.int .u64 (a1)))), (2, .c (.lit (.int .i64 (v1)))), (7, .c (.own 19)), (23, .c (.lit (.int .i64 (v1)))), (24, .c (.lit (.int .i64 (0))))], [(19, .row 5 1 (List.length (cpL (List.replicate n2 (0 : Int)) 0 (List.length (Cut.app .whole (List.replicate n2 (0 : Int)))) (Cut.app .whole a0))) (List.map (ecI .u8) (cpL (List.replicate n2 (0 : Int)) 0 (List.length (Cut.app .whole (List.replicate n2 (0 : Int)))) (Cut.app .whole a0))))]⟩) (by kernel_rfl) (by kernel_rfl) ?_
    replace h := bindO h
    obtain ⟨y5, hl2, hK2⟩ := h
    refine TS_loopB (F_octets_Append_l2 v1 a0 a1) ⟨[(0, []), (1, []), (2, []), (7, []), (23, []), (24, [])], [(19, (19, []))]⟩ (fun (s3 : Int × (List Int)) => [(24, .c (.lit (.int .i64 (s3.1))))]) (fun (s3 : Int × (List Int)) => [(19, .row 5 1 (List.length s3.2) (List.map (ecI .u8) s3.2))]) (0, (cpL (List.replicate n2 (0 : Int)) 0 (List.length (Cut.app .whole (List.replicate n2 (0 : Int)))) (Cut.app .whole a0))) y5 (.exit 0) (fun (b : (List Int)) => b) ⟨[(7, [])], [(19, (19, []))]⟩ (fun (b4 : (List Int)) => []) (fun (b4 : (List Int)) => [(19, .row 5 1 (List.length b4) (List.map (ecI .u8) b4))]) hl2 (by kernel_rfl) (by kernel_rfl) ?_ ?_
    · intro s3 x h hy2
      unfold F_octets_Append_l2 at h
      refine TS_go 5 ?_
      replace h := condO h
      rcases h with ⟨hb6, h⟩ | ⟨hb6, h⟩
      · refine TS_know 25 (b := true) hb6 (by kernel_rfl) (by kernel_rfl) ?_
        refine TS_T (by kernel_rfl) rfl ?_
        refine TS_go 20 ?_
        replace h := chkO h
        obtain ⟨hc7, h⟩ := h
        refine TS_num (op := .shr) (k := .u64) (k' := .i64) (m := a1) (i := IntKind.wrap .i64 (8 * (IntKind.wrap .i64 ((IntKind.wrap .i64 (v1 - 1)) - s3.1)))) (of_decide_eq_true hc7) rfl (by simp) (by kernel_rfl) (by kernel_rfl) ?_
        refine TS_go 1 ?_
        replace h := bindO h
        obtain ⟨_e8, he8, h⟩ := h
        refine TS_idxR 19 1 0 (ecI .u8) .whole he8 (by kernel_rfl) (by kernel_rfl) ?_
        replace h := bindO h
        obtain ⟨_e9, he9, h⟩ := h
        refine TS_stE 19 5 1 (List.length s3.2) (0 + Int.toNat (IntKind.wrap .i64 ((List.length a0 : Int) + s3.1))) 0 (ecI .u8) (ds := [.lit (.int .u8 (IntKind.wrap .u8 (ishr .u64 a1 (IntKind.wrap .i64 (8 * (IntKind.wrap .i64 ((IntKind.wrap .i64 (v1 - 1)) - s3.1)))))))]) (IntKind.wrap .u8 (ishr .u64 a1 (IntKind.wrap .i64 (8 * (IntKind.wrap .i64 ((IntKind.wrap .i64 (v1 - 1)) - s3.1)))))) he9 (by kernel_rfl) (by kernel_rfl) (by kernel_rfl) (by kernel_rfl) ?_
        refine TS_go 6 ?_
        have ret := Option.some.inj h
        subst ret
        exact TS_againB _ ⟨[(0, []), (1, []), (2, []), (7, []), (23, []), (24, [])], [(19, (19, []))]⟩ rfl (by kernel_rfl) (by kernel_rfl)
      · refine TS_know 25 (b := false) hb6 (by kernel_rfl) (by kernel_rfl) ?_
        refine TS_F (by kernel_rfl) rfl ?_
        refine TS_go 2 ?_
        have ret := Option.some.inj h
        subst ret
        exact TS_brkB s3.2 ⟨[(7, [])], [(19, (19, []))]⟩ rfl (by kernel_rfl) (by kernel_rfl) (by kernel_rfl)
    · intro b4 hb
      subst y5
      have h := hK2
      refine TS_go 6 ?_
      refine TS_settle 19 (by kernel_rfl) ?_
      refine TS_fitU ⟨[(6, [])], [(19, (900000, []))]⟩ (by kernel_rfl) ?_
      refine TS_go 1 ?_
      have ret := Option.some.inj h
      subst ret
      exact TS_ret (by kernel_rfl) (by kernel_rfl) (by kernel_rfl)
  · refine TS_go 5 ?_
    replace h := condO h
    rcases h with ⟨hb11, h⟩ | ⟨hb11, h⟩
    · refine TS_know 10 (b := true) hb11 (by kernel_rfl) (by kernel_rfl) ?_
      refine TS_know 11 (b := true) hb11 (by kernel_rfl) (by kernel_rfl) ?_
      refine TS_go 4 ?_
      refine TS_T (by kernel_rfl) rfl ?_
      refine TS_go 3 ?_
      exact TS_meet 0 ⟨[(0, []), (1, []), (2, [])], []⟩ h (by kernel_rfl) (by kernel_rfl)
    · refine TS_know 10 (b := false) hb11 (by kernel_rfl) (by kernel_rfl) ?_
      refine TS_know 11 (b := false) hb11 (by kernel_rfl) (by kernel_rfl) ?_
      refine TS_go 4 ?_
      replace h := condO h
      rcases h with ⟨hb12, h⟩ | ⟨hb12, h⟩
      · refine TS_know 13 (b := true) hb12 (by kernel_rfl) (by kernel_rfl) ?_
        refine TS_know 14 (b := true) hb12 (by kernel_rfl) (by kernel_rfl) ?_
        refine TS_T (by kernel_rfl) rfl ?_
        refine TS_go 3 ?_
        exact TS_meet 0 ⟨[(0, []), (1, []), (2, [])], []⟩ h (by kernel_rfl) (by kernel_rfl)
      · refine TS_know 13 (b := false) hb12 (by kernel_rfl) (by kernel_rfl) ?_
        refine TS_know 14 (b := false) hb12 (by kernel_rfl) (by kernel_rfl) ?_
        refine TS_F (by kernel_rfl) rfl ?_
        refine TS_go 1 ?_
        exact TS_meet a2 ⟨[(0, []), (1, []), (2, [])], []⟩ h (by kernel_rfl) (by kernel_rfl)
theorem ok_octets_Append (a0 : List Int) (a1 : Int) (a2 : Int) (r : (List Int)) (h : F_octets_Append a0 a1 a2 = some r) : Con Try.prog 44 [.c (eS 1 (ecI .u8) (a0)), .c (.lit (.int .u64 (a1))), .c (.lit (.int .i64 (a2)))] [] (.c (eS 1 (ecI .u8) (r))) [] :=
  con_drop [[2]] [] (okT_octets_Append a0 a1 a2 r h) (by kernel_rfl) (by kernel_rfl) (by kernel_rfl)

/-- multihop/frame.appendAddr -/
noncomputable def F_frame_appendAddr (a0 : List Int) (a1 : S_Addr) : Option ((List Int)) :=
  bif (a1.Mode == 2) then
    (F_octets_Append a0 (IntKind.wrap .u64 a1.Short) 2).bind fun v2 =>
    some (v2)
  else
    (F_octets_Append a0 a1.EUI 8).bind fun v3 =>
    some (v3)
set_option maxRecDepth 100000 in
set_option maxHeartbeats 40000000 in
theorem okT_frame_appendAddr (a0 : List Int) (a1 : S_Addr) (r : (List Int)) (h : F_frame_appendAddr a0 a1 = some r) : Con Try.prog 45 [.c (eS 1 (ecI .u8) (a0)), .agg (S_Addr.cs a1)] [] (.c (.slc 1 900002 (List.length r) (List.map (ecI .u8) r))) [(900000, .spare 5 1 (List.length r))] := by
  unfold F_frame_appendAddr at h
  refine con_of [] [(900000, [])] 17 Try.func45 rfl rfl (by kernel_rfl) (fun K => ?_)
  refine TS_go 12 ?_
  replace h := condO h
  rcases h with ⟨hb1, h⟩ | ⟨hb1, h⟩
  · refine TS_know 7 (b := true) hb1 (by kernel_rfl) (by kernel_rfl) ?_
    refine TS_T (by kernel_rfl) rfl ?_
    refine TS_go 6 ?_
    replace h := bindO h
    obtain ⟨v2, hv2, h⟩ := h
    refine TS_con [] [(12, 900000)] none (okT_octets_Append a0 (IntKind.wrap .u64 a1.Short) 2 v2 hv2) (by kernel_rfl) (by kernel_rfl) (by kernel_rfl) ?_
    refine TS_go 2 ?_
    refine TS_fitU ⟨[(4, [])], [(12, (900000, []))]⟩ (by kernel_rfl) ?_
    refine TS_go 2 ?_
    have ret := Option.some.inj h
    subst ret
    exact TS_ret (by kernel_rfl) (by kernel_rfl) (by kernel_rfl)
  · refine TS_know 7 (b := false) hb1 (by kernel_rfl) (by kernel_rfl) ?_
    refine TS_F (by kernel_rfl) rfl ?_
    refine TS_go 6 ?_
    replace h := bindO h
    obtain ⟨v3, hv3, h⟩ := h
    refine TS_con [] [(16, 900000)] none (okT_octets_Append a0 a1.EUI 8 v3 hv3) (by kernel_rfl) (by kernel_rfl) (by kernel_rfl) ?_
    refine TS_go 2 ?_
    refine TS_fitU ⟨[(4, [])], [(16, (900000, []))]⟩ (by kernel_rfl) ?_
    refine TS_go 1 ?_
    have ret := Option.some.inj h
    subst ret
    exact TS_ret (by kernel_rfl) (by kernel_rfl) (by kernel_rfl)
theorem ok_frame_appendAddr (a0 : List Int) (a1 : S_Addr) (r : (List Int)) (h : F_frame_appendAddr a0 a1 = some r) : Con Try.prog 45 [.c (eS 1 (ecI .u8) (a0)), .agg (S_Addr.cs a1)] [] (.c (eS 1 (ecI .u8) (r))) [] :=
  con_drop [[2]] [] (okT_frame_appendAddr a0 a1 r h) (by kernel_rfl) (by kernel_rfl) (by kernel_rfl)

/-- multihop/frame.Header -/
noncomputable def F_frame_Header_j3 (v1 : S_Frame) (v6 : (List Int)) : Option ((List Int)) :=
  (appO 1 v6 (Cut.app .whole v1.Payload)).bind fun l7 =>
  some (l7)
noncomputable def F_frame_Header_j2 (v1 : S_Frame) (v5 : (List Int)) : Option ((List Int)) :=
  bif v1.Secure then
    (F_octets_Append v5 (IntKind.wrap .u64 v1.Counter) 4).bind fun v9 =>
    (appO 1 v9 (Cut.app .whole ([v1.Key] : List Int))).bind fun l10 =>
    (F_frame_Header_j3 v1) l10
  else
    (F_frame_Header_j3 v1) v5
noncomputable def F_frame_Header_j1  (v1 : S_Frame) : Option ((List Int)) :=
  (F_frame_flag v1.AckRequest 32).bind fun v2 =>
  (F_frame_flag v1.Pending 16).bind fun v3 =>
  (F_frame_flag v1.Secure 8).bind fun v4 =>
  bif (v1.Kind != 2) then
    (F_octets_Append ([ior .u8 (ior .u8 (ior .u8 (ishl .u8 (IntKind.wrap .u8 v1.Kind) 6) v2) v3) v4, ior .u8 (ishl .u8 (IntKind.wrap .u8 v1.Dst.Mode) 6) (ishl .u8 (IntKind.wrap .u8 v1.Src.Mode) 4), v1.Seq] : List Int) (IntKind.wrap .u64 v1.Pan) 2).bind fun v12 =>
    (F_frame_appendAddr v12 v1.Dst).bind fun v13 =>
    (F_frame_appendAddr v13 v1.Src).bind fun v14 =>
    (F_frame_Header_j2 v1) v14
  else
    (F_frame_Header_j2 v1) ([ior .u8 (ior .u8 (ior .u8 (ishl .u8 (IntKind.wrap .u8 v1.Kind) 6) v2) v3) v4, ior .u8 (ishl .u8 (IntKind.wrap .u8 v1.Dst.Mode) 6) (ishl .u8 (IntKind.wrap .u8 v1.Src.Mode) 4), v1.Seq] : List Int)
noncomputable def F_frame_Header (a0 : S_Frame) : Option ((List Int)) :=
  (F_frame_Valid a0).bind fun v15 =>
  bif v15 then
    (F_frame_Header_j1) a0
  else
    (mkO 1 4 4).bind fun n17 =>
    (F_frame_Valid (S_Frame.mk a0.Kind a0.AckRequest a0.Pending a0.Secure a0.Seq a0.Pan a0.Dst a0.Src a0.Counter a0.Key a0.Payload (List.replicate n17 (0 : Int)))).bind fun v18 =>
    bif v18 then
      (F_frame_Header_j1) (S_Frame.mk a0.Kind a0.AckRequest a0.Pending a0.Secure a0.Seq a0.Pan a0.Dst a0.Src a0.Counter a0.Key a0.Payload (List.replicate n17 (0 : Int)))
    else
      some (([] : List Int))
set_option maxRecDepth 100000 in
set_option maxHeartbeats 40000000 in
theorem okT_frame_Header (a0 : S_Frame) (r : (List Int)) (h : F_frame_Header a0 = some r) : Con Try.prog 21 [.agg (S_Frame.cs a0)] [] (.c (.slc 1 900002 (List.length r) (List.map (ecI .u8) r))) [(900000, .spare 5 1 (List.length r))] := by
  unfold F_frame_Header at h
  refine con_of [] [(900000, [])] 76 Try.func21 rfl rfl (by kernel_rfl) (fun K => ?_)
  refine TS_go 5 ?_
  refine TS_cut ⟨[(1, [])], [(1, (1, []))]⟩ (.mk [.code (codeAt [1] (bodyOf Try.f21))] .normal ⟨[(1, .c (.box 1 0))], [(1, .box [.lit (.int .i64 (a0.Kind)), .lit (.bool (a0.AckRequest)), .lit (.bool (a0.Pending)), .lit (.bool (a0.Secure)), .lit (.int .u8 (a0.Seq)), .lit (.int .u16 (a0.Pan)), .lit (.int .i64 (a0.Dst.Mode)), .lit (.int .u16 (a0.Dst.Short)), .lit (.int .u64 (a0.Dst.EUI)), .lit (.int .i64 (a0.Src.Mode)), .lit (.int .u16 (a0.Src.Short)), .lit (.int .u64 (a0.Src.EUI)), .lit (.int .u32 (a0.Counter)), .lit (.int .u8 (a0.Key)), .slc 1 0 (List.length a0.Payload) (List.map (ecI .u8) a0.Payload), .slc 1 0 (List.length a0.MIC) (List.map (ecI .u8) a0.MIC)])]⟩) (by kernel_rfl) (by kernel_rfl) ?_
  refine TS_joinB ⟨[(1, [])], [(1, (1, []))]⟩ (fun (v1 : S_Frame) => []) (fun (v1 : S_Frame) => [(1, .box (S_Frame.cs v1))]) (F_frame_Header_j1) r ?_ ?_
  · clear h
    intro v1 h
    unfold F_frame_Header_j1 at h
    refine TS_go 1 ?_
    refine TS_draw (by kernel_rfl) ?_
    refine TD_go 6 ?_
    replace h := bindO h
    obtain ⟨v2, hv2, h⟩ := h
    refine TD_call [] (ok_frame_flag v1.AckRequest 32 v2 hv2) (by kernel_rfl) (by kernel_rfl) ?_
    refine TD_go 3 ?_
    replace h := bindO h
    obtain ⟨v3, hv3, h⟩ := h
    refine TD_call [] (ok_frame_flag v1.Pending 16 v3 hv3) (by kernel_rfl) (by kernel_rfl) ?_
    refine TD_go 3 ?_
    replace h := bindO h
    obtain ⟨v4, hv4, h⟩ := h
    refine TD_call [] (ok_frame_flag v1.Secure 8 v4 hv4) (by kernel_rfl) (by kernel_rfl) ?_
    refine TD_go 2 ?_
    refine TD_end (by kernel_rfl) ?_
    refine TS_go 16 ?_
    refine TS_litNT 43 5 1 (ecI .u8) [] ([ior .u8 (ior .u8 (ior .u8 (ishl .u8 (IntKind.wrap .u8 v1.Kind) 6) v2) v3) v4, ior .u8 (ishl .u8 (IntKind.wrap .u8 v1.Dst.Mode) 6) (ishl .u8 (IntKind.wrap .u8 v1.Src.Mode) 4), v1.Seq] : List Int) (by kernel_rfl) (by kernel_rfl) ?_
    refine TS_go 2 ?_
    refine TS_cut ⟨[(1, []), (4, [])], [(1, (1, [])), (43, (43, []))]⟩ (.mk [.code (codeAt [1, 1, 1, 1] (bodyOf Try.f21))] .normal ⟨[(1, .c (.box 1 0)), (4, .c (.slc 1 45 (List.length ([ior .u8 (ior .u8 (ior .u8 (ishl .u8 (IntKind.wrap .u8 v1.Kind) 6) v2) v3) v4, ior .u8 (ishl .u8 (IntKind.wrap .u8 v1.Dst.Mode) 6) (ishl .u8 (IntKind.wrap .u8 v1.Src.Mode) 4), v1.Seq] : List Int)) (List.map (ecI .u8) ([ior .u8 (ior .u8 (ior .u8 (ishl .u8 (IntKind.wrap .u8 v1.Kind) 6) v2) v3) v4, ior .u8 (ishl .u8 (IntKind.wrap .u8 v1.Dst.Mode) 6) (ishl .u8 (IntKind.wrap .u8 v1.Src.Mode) 4), v1.Seq] : List Int))))], [(1, .box [.lit (.int .i64 (v1.Kind)), .lit (.bool (v1.AckRequest)), .lit (.bool (v1.Pending)), .lit (.bool (v1.Secure)), .lit (.int .u8 (v1.Seq)), .lit (.int .u16 (v1.Pan)), .lit (.int .i64 (v1.Dst.Mode)), .lit (.int .u16 (v1.Dst.Short)), .lit (.int .u64 (v1.Dst.EUI)), .lit (.int .i64 (v1.Src.Mode)), .lit (.int .u16 (v1.Src.Short)), .lit (.int .u64 (v1.Src.EUI)), .lit (.int .u32 (v1.Counter)), .lit (.int .u8 (v1.Key)), .slc 1 0 (List.length v1.Payload) (List.map (ecI .u8) v1.Payload), .slc 1 0 (List.length v1.MIC) (List.map (ecI .u8) v1.MIC)]), (43, .spare 5 1 (List.length ([ior .u8 (ior .u8 (ior .u8 (ishl .u8 (IntKind.wrap .u8 v1.Kind) 6) v2) v3) v4, ior .u8 (ishl .u8 (IntKind.wrap .u8 v1.Dst.Mode) 6) (ishl .u8 (IntKind.wrap .u8 v1.Src.Mode) 4), v1.Seq] : List Int)))]⟩) (by kernel_rfl) (by kernel_rfl) ?_
    refine TS_joinB ⟨[(1, []), (4, [])], [(1, (1, [])), (43, (43, []))]⟩ (fun (v5 : (List Int)) => [(4, .c (.slc 1 45 (List.length v5) (List.map (ecI .u8) v5)))]) (fun (v5 : (List Int)) => [(43, .spare 5 1 (List.length v5))]) (F_frame_Header_j2 v1) r ?_ ?_
    · clear h
      intro v5 h
      unfold F_frame_Header_j2 at h
      refine TS_cut ⟨[(1, []), (4, [])], [(1, (1, [])), (43, (43, []))]⟩ (.mk [.code (codeAt [1, 1, 1, 1, 1] (bodyOf Try.f21))] .normal ⟨[(1, .c (.box 1 0)), (4, .c (.slc 1 45 (List.length v5) (List.map (ecI .u8) v5)))], [(1, .box [.lit (.int .i64 (v1.Kind)), .lit (.bool (v1.AckRequest)), .lit (.bool (v1.Pending)), .lit (.bool (v1.Secure)), .lit (.int .u8 (v1.Seq)), .lit (.int .u16 (v1.Pan)), .lit (.int .i64 (v1.Dst.Mode)), .lit (.int .u16 (v1.Dst.Short)), .lit (.int .u64 (v1.Dst.EUI)), .lit (.int .i64 (v1.Src.Mode)), .lit (.int .u16 (v1.Src.Short)), .lit (.int .u64 (v1.Src.EUI)), .lit (.int .u32 (v1.Counter)), .lit (.int .u8 (v1.Key)), .slc 1 0 (List.length v1.Payload) (List.map (ecI .u8) v1.Payload), .slc 1 0 (List.length v1.MIC) (List.map (ecI .u8) v1.MIC)]), (43, .spare 5 1 (List.length v5))]⟩) (by kernel_rfl) (by kernel_rfl) ?_
      refine TS_joinB ⟨[(1, []), (4, [])], [(1, (1, [])), (43, (43, []))]⟩ (fun (v6 : (List Int)) => [(4, .c (.slc 1 45 (List.length v6) (List.map (ecI .u8) v6)))]) (fun (v6 : (List Int)) => [(43, .spare 5 1 (List.length v6))]) (F_frame_Header_j3 v1) r ?_ ?_
      · clear h
        intro v6 h
        unfold F_frame_Header_j3 at h
        refine TS_go 5 ?_
        replace h := bindO h
        obtain ⟨_l7, hl7, h⟩ := h
        refine TS_appT (d := 43) (e := 5) (sz := 1) (N := List.length v6) (ecI .u8) (fun _ => by kernel_rfl) (l1 := v6) (l2 := v1.Payload) (c := .whole) hl7 (by kernel_rfl) (by kernel_rfl) ?_
        refine TS_go 2 ?_
        refine TS_fitU ⟨[(2, [])], [(43, (900000, []))]⟩ (by kernel_rfl) ?_
        refine TS_go 1 ?_
        have ret := Option.some.inj h
        subst ret
        exact TS_ret (by kernel_rfl) (by kernel_rfl) (by kernel_rfl)
      · refine TS_go 5 ?_
        replace h := condO h
        rcases h with ⟨hb8, h⟩ | ⟨hb8, h⟩
        · refine TS_know 61 (b := true) hb8 (by kernel_rfl) (by kernel_rfl) ?_
          refine TS_T (by kernel_rfl) rfl ?_
          refine TS_go 6 ?_
          replace h := bindO h
          obtain ⟨v9, hv9, h⟩ := h
          refine TS_con [[2]] [(66, 900000)] none (okT_octets_Append v5 (IntKind.wrap .u64 v1.Counter) 4 v9 hv9) (by kernel_rfl) (by kernel_rfl) (by kernel_rfl) ?_
          refine TS_go 6 ?_
          refine TS_litNT 70 5 1 (ecI .u8) [] ([v1.Key] : List Int) (by kernel_rfl) (by kernel_rfl) ?_
          replace h := bindO h
          obtain ⟨l10, hl10, h⟩ := h
          refine TS_appT (d := 66) (e := 5) (sz := 1) (N := List.length v9) (ecI .u8) (fun _ => by kernel_rfl) (l1 := v9) (l2 := ([v1.Key] : List Int)) (c := .whole) hl10 (by kernel_rfl) (by kernel_rfl) ?_
          refine TS_go 2 ?_
          exact TS_meet l10 ⟨[(1, []), (4, [])], [(1, (1, [])), (66, (43, []))]⟩ h (by kernel_rfl) (by kernel_rfl)
        · refine TS_know 61 (b := false) hb8 (by kernel_rfl) (by kernel_rfl) ?_
          refine TS_F (by kernel_rfl) rfl ?_
          refine TS_go 1 ?_
          exact TS_meet v5 ⟨[(1, []), (4, [])], [(1, (1, [])), (43, (43, []))]⟩ h (by kernel_rfl) (by kernel_rfl)
    · refine TS_go 6 ?_
      replace h := condO h
      rcases h with ⟨hb11, h⟩ | ⟨hb11, h⟩
      · refine TS_know 46 (b := true) hb11 (by kernel_rfl) (by kernel_rfl) ?_
        refine TS_T (by kernel_rfl) rfl ?_
        refine TS_go 6 ?_
        replace h := bindO h
        obtain ⟨v12, hv12, h⟩ := h
        refine TS_con [[2]] [(51, 900000)] none (okT_octets_Append ([ior .u8 (ior .u8 (ior .u8 (ishl .u8 (IntKind.wrap .u8 v1.Kind) 6) v2) v3) v4, ior .u8 (ishl .u8 (IntKind.wrap .u8 v1.Dst.Mode) 6) (ishl .u8 (IntKind.wrap .u8 v1.Src.Mode) 4), v1.Seq] : List Int) (IntKind.wrap .u64 v1.Pan) 2 v12 hv12) (by kernel_rfl) (by kernel_rfl) (by kernel_rfl) ?_
        refine TS_go 7 ?_
        replace h := bindO h
        obtain ⟨v13, hv13, h⟩ := h
        refine TS_con [[2]] [(55, 900000)] none (okT_frame_appendAddr v12 v1.Dst v13 hv13) (by kernel_rfl) (by kernel_rfl) (by kernel_rfl) ?_
        refine TS_go 6 ?_
        replace h := bindO h
        obtain ⟨v14, hv14, h⟩ := h
        refine TS_con [[2]] [(59, 900000)] none (okT_frame_appendAddr v13 v1.Src v14 hv14) (by kernel_rfl) (by kernel_rfl) (by kernel_rfl) ?_
        refine TS_go 2 ?_
        exact TS_meet v14 ⟨[(1, []), (4, [])], [(1, (1, [])), (59, (43, []))]⟩ h (by kernel_rfl) (by kernel_rfl)
      · refine TS_know 46 (b := false) hb11 (by kernel_rfl) (by kernel_rfl) ?_
        refine TS_F (by kernel_rfl) rfl ?_
        refine TS_go 1 ?_
        exact TS_meet ([ior .u8 (ior .u8 (ior .u8 (ishl .u8 (IntKind.wrap .u8 v1.Kind) 6) v2) v3) v4, ior .u8 (ishl .u8 (IntKind.wrap .u8 v1.Dst.Mode) 6) (ishl .u8 (IntKind.wrap .u8 v1.Src.Mode) 4), v1.Seq] : List Int) ⟨[(1, []), (4, [])], [(1, (1, [])), (43, (43, []))]⟩ h (by kernel_rfl) (by kernel_rfl)
  · refine TS_go 3 ?_
    replace h := bindO h
    obtain ⟨v15, hv15, h⟩ := h
    refine TS_call [] (ok_frame_Valid a0 v15 hv15) (by kernel_rfl) (by kernel_rfl) ?_
    refine TS_go 2 ?_
    replace h := condO h
    rcases h with ⟨hb16, h⟩ | ⟨hb16, h⟩
    · subst hb16
      refine TS_F (by kernel_rfl) rfl ?_
      refine TS_go 1 ?_
      exact TS_meet a0 ⟨[(1, [])], [(1, (1, []))]⟩ h (by kernel_rfl) (by kernel_rfl)
    · subst hb16
      refine TS_T (by kernel_rfl) rfl ?_
      refine TS_go 2 ?_
      replace h := bindO h
      obtain ⟨n17, hn17, h⟩ := h
      refine TS_makeT 8 5 1 (ecI .u8) (0 : Int) [] (cs := [.lit (.int .u8 (0))]) (l := 4) (c := 4) hn17 (by kernel_rfl) (by kernel_rfl) (by kernel_rfl) ?_
      refine TS_go 6 ?_
      replace h := bindO h
      obtain ⟨v18, hv18, h⟩ := h
      refine TS_call [[0, 0, 0, 0, 0, 0, 0, 0, 0, 0, 0, 0, 0, 0, 2, 2]] (ok_frame_Valid (S_Frame.mk a0.Kind a0.AckRequest a0.Pending a0.Secure a0.Seq a0.Pan a0.Dst a0.Src a0.Counter a0.Key a0.Payload (List.replicate n17 (0 : Int))) v18 hv18) (by kernel_rfl) (by kernel_rfl) ?_
      refine TS_go 2 ?_
      replace h := condO h
      rcases h with ⟨hb19, h⟩ | ⟨hb19, h⟩
      · subst hb19
        refine TS_F (by kernel_rfl) rfl ?_
        refine TS_go 1 ?_
        exact TS_meet (S_Frame.mk a0.Kind a0.AckRequest a0.Pending a0.Secure a0.Seq a0.Pan a0.Dst a0.Src a0.Counter a0.Key a0.Payload (List.replicate n17 (0 : Int))) ⟨[(1, [])], [(1, (1, [0, 0, 0, 0, 0, 0, 0, 0, 0, 0, 0, 0, 0, 0, 0, 2]))]⟩ h (by kernel_rfl) (by kernel_rfl)
      · subst hb19
        refine TS_T (by kernel_rfl) rfl ?_
        refine TS_go 4 ?_
        refine TS_nilT 2 600000 5 1 (by kernel_rfl) ?_
        refine TS_fitU ⟨[(2, [])], [(600000, (900000, []))]⟩ (by kernel_rfl) ?_
        refine TS_go 1 ?_
        refine TS_outJ (by kernel_rfl) ?_
        have ret := Option.some.inj h
        subst ret
        exact TS_ret (by kernel_rfl) (by kernel_rfl) (by kernel_rfl)
theorem ok_frame_Header (a0 : S_Frame) (r : (List Int)) (h : F_frame_Header a0 = some r) : Con Try.prog 21 [.agg (S_Frame.cs a0)] [] (.c (eS 1 (ecI .u8) (r))) [] :=
  con_drop [[2]] [] (okT_frame_Header a0 r h) (by kernel_rfl) (by kernel_rfl) (by kernel_rfl)

/-- multihop/checksum.Extend -/
noncomputable def F_checksum_Extend_j3 (s6 : Int × Int) (v10 : Int) : Option ((Int × Int) ⊕ (Int)) :=
  some (Sum.inl (v10, IntKind.wrap .i64 (s6.2 + 1)))
noncomputable def F_checksum_Extend_l2  (s6 : Int × Int) : Option ((Int × Int) ⊕ (Int)) :=
  bif (decide (s6.2 < 8)) then
    bif ((iand .u16 s6.1 1) == 1) then
      (F_checksum_Extend_j3 s6) (ixor .u16 (ishr .u16 s6.1 1) 33800)
    else
      (F_checksum_Extend_j3 s6) (ishr .u16 s6.1 1)
  else
    some (Sum.inr s6.1)
noncomputable def F_checksum_Extend_l1 (a1 : List Int) (s1 : Int × Int) : Option ((Int × Int) ⊕ (Int)) :=
  bif (decide (s1.2 < (List.length a1 : Int))) then
    (idx a1 s1.2).bind fun e5 =>
    (loopO (F_checksum_Extend_l2) (ixor .u16 s1.1 (IntKind.wrap .u16 e5), 0)).bind fun b7 =>
    some (Sum.inl (b7, IntKind.wrap .i64 (s1.2 + 1)))
  else
    some (Sum.inr s1.1)
noncomputable def F_checksum_Extend (a0 : Int) (a1 : List Int) : Option (Int) :=
  (loopO (F_checksum_Extend_l1 a1) (a0, 0)).bind fun b2 =>
  some (b2)
set_option maxRecDepth 100000 in
set_option maxHeartbeats 40000000 in
theorem ok_checksum_Extend (a0 : Int) (a1 : List Int) (r : Int) (h : F_checksum_Extend a0 a1 = some r) : Con Try.prog 73 [.c (.lit (.int .u16 (a0))), .c (eS 1 (ecI .u8) (a1))] [] (.c (.lit (.int .u16 (r)))) [] := by
  unfold F_checksum_Extend at h
  refine con_of [] [] 31 Try.func73 rfl rfl (by kernel_rfl) (fun K => ?_)
  refine TS_go 12 ?_
  refine TS_cut ⟨[(0, []), (8, []), (9, []), (10, [])], []⟩ (.mk [.code (codeAt [1, 0, 1, 0] (bodyOf Try.f73)), .blk 0, .code (codeAt [1, 1] (bodyOf Try.f73))] .normal ⟨[(0, .c (.lit (.int .u16 (a0)))), (8, .c (.slc 1 0 (List.length a1) (List.map (ecI .u8) a1))), (9, .c (.lit (.int .i64 ((List.length a1 : Int))))), (10, .c (.lit (.int .i64 (0))))], []⟩) (by kernel_rfl) (by kernel_rfl) ?_
  replace h := bindO h
  obtain ⟨y3, hl1, hK1⟩ := h
  refine TS_loopB (F_checksum_Extend_l1 a1) ⟨[(0, []), (8, []), (9, []), (10, [])], []⟩ (fun (s1 : Int × Int) => [(0, .c (.lit (.int .u16 (s1.1)))), (10, .c (.lit (.int .i64 (s1.2))))]) (fun (s1 : Int × Int) => []) (a0, 0) y3 (.exit 0) (fun (b : Int) => b) ⟨[(0, [])], []⟩ (fun (b2 : Int) => [(0, .c (.lit (.int .u16 (b2))))]) (fun (b2 : Int) => []) hl1 (by kernel_rfl) (by kernel_rfl) ?_ ?_
  · intro s1 x h hy1
    unfold F_checksum_Extend_l1 at h
    refine TS_go 5 ?_
    replace h := condO h
    rcases h with ⟨hb4, h⟩ | ⟨hb4, h⟩
    · refine TS_know 11 (b := true) hb4 (by kernel_rfl) (by kernel_rfl) ?_
      refine TS_T (by kernel_rfl) rfl ?_
      refine TS_go 5 ?_
      replace h := bindO h
      obtain ⟨e5, he5, h⟩ := h
      refine TS_idx (ecI .u8) he5 (by kernel_rfl) (by kernel_rfl) ?_
      refine TS_go 16 ?_
      refine TS_cut ⟨[(0, []), (8, []), (9, []), (10, []), (18, [])], []⟩ (.mk [.code (codeAt [1, 0, 1, 0, 0, 1, 1, 0, 0, 1, 1, 1, 0] (bodyOf Try.f73)), .blk 2, .blk 1, .code (codeAt [1, 0, 1, 0, 0, 1, 1, 1] (bodyOf Try.f73))] .normal ⟨[(0, .c (.lit (.int .u16 (ixor .u16 s1.1 (IntKind.wrap .u16 e5))))), (8, .c (.slc 1 0 (List.length a1) (List.map (ecI .u8) a1))), (9, .c (.lit (.int .i64 ((List.length a1 : Int))))), (10, .c (.lit (.int .i64 (s1.2)))), (18, .c (.lit (.int .i64 (0))))], []⟩) (by kernel_rfl) (by kernel_rfl) ?_
      replace h := bindO h
      obtain ⟨y8, hl2, hK2⟩ := h
      refine TS_loopB (F_checksum_Extend_l2) ⟨[(0, []), (8, []), (9, []), (10, []), (18, [])], []⟩ (fun (s6 : Int × Int) => [(0, .c (.lit (.int .u16 (s6.1)))), (18, .c (.lit (.int .i64 (s6.2))))]) (fun (s6 : Int × Int) => []) (ixor .u16 s1.1 (IntKind.wrap .u16 e5), 0) y8 (.exit 2) (fun (b : Int) => b) ⟨[(0, []), (8, []), (9, []), (10, [])], []⟩ (fun (b7 : Int) => [(0, .c (.lit (.int .u16 (b7))))]) (fun (b7 : Int) => []) hl2 (by kernel_rfl) (by kernel_rfl) ?_ ?_
      · intro s6 x h hy2
        unfold F_checksum_Extend_l2 at h
        refine TS_go 5 ?_
        replace h := condO h
        rcases h with ⟨hb9, h⟩ | ⟨hb9, h⟩
        · refine TS_know 19 (b := true) hb9 (by kernel_rfl) (by kernel_rfl) ?_
          refine TS_T (by kernel_rfl) rfl ?_
          refine TS_go 1 ?_
          refine TS_cut ⟨[(0, []), (8, []), (9, []), (10, []), (18, [])], []⟩ (.mk [.code (codeAt [1, 0, 1, 0, 0, 1, 1, 0, 0, 1, 1, 1, 0, 0, 1, 1] (bodyOf Try.f73))] .normal ⟨[(0, .c (.lit (.int .u16 (s6.1)))), (8, .c (.slc 1 0 (List.length a1) (List.map (ecI .u8) a1))), (9, .c (.lit (.int .i64 ((List.length a1 : Int))))), (10, .c (.lit (.int .i64 (s1.2)))), (18, .c (.lit (.int .i64 (s6.2))))], []⟩) (by kernel_rfl) (by kernel_rfl) ?_
          refine TS_joinB ⟨[(0, []), (8, []), (9, []), (10, []), (18, [])], []⟩ (fun (v10 : Int) => [(0, .c (.lit (.int .u16 (v10))))]) (fun (v10 : Int) => []) (F_checksum_Extend_j3 s6) x ?_ ?_
          · clear h
            intro v10 h
            unfold F_checksum_Extend_j3 at h
            refine TS_go 4 ?_
            have ret := Option.some.inj h
            subst ret
            exact TS_againB _ ⟨[(0, []), (8, []), (9, []), (10, []), (18, [])], []⟩ rfl (by kernel_rfl) (by kernel_rfl)
          · refine TS_go 18 ?_
            replace h := condO h
            rcases h with ⟨hb11, h⟩ | ⟨hb11, h⟩
            · refine TS_know 25 (b := true) hb11 (by kernel_rfl) (by kernel_rfl) ?_
              refine TS_T (by kernel_rfl) rfl ?_
              refine TS_go 6 ?_
              exact TS_meet (ixor .u16 (ishr .u16 s6.1 1) 33800) ⟨[(0, []), (8, []), (9, []), (10, []), (18, [])], []⟩ h (by kernel_rfl) (by kernel_rfl)
            · refine TS_know 25 (b := false) hb11 (by kernel_rfl) (by kernel_rfl) ?_
              refine TS_F (by kernel_rfl) rfl ?_
              refine TS_go 2 ?_
              exact TS_meet (ishr .u16 s6.1 1) ⟨[(0, []), (8, []), (9, []), (10, []), (18, [])], []⟩ h (by kernel_rfl) (by kernel_rfl)
        · refine TS_know 19 (b := false) hb9 (by kernel_rfl) (by kernel_rfl) ?_
          refine TS_F (by kernel_rfl) rfl ?_
          refine TS_go 2 ?_
          have ret := Option.some.inj h
          subst ret
          exact TS_brkB s6.1 ⟨[(0, []), (8, []), (9, []), (10, [])], []⟩ rfl (by kernel_rfl) (by kernel_rfl) (by kernel_rfl)
      · intro b7 hb
        subst y8
        have h := hK2
        refine TS_go 6 ?_
        have ret := Option.some.inj h
        subst ret
        exact TS_againB _ ⟨[(0, []), (8, []), (9, []), (10, [])], []⟩ rfl (by kernel_rfl) (by kernel_rfl)
    · refine TS_know 11 (b := false) hb4 (by kernel_rfl) (by kernel_rfl) ?_
      refine TS_F (by kernel_rfl) rfl ?_
      refine TS_go 2 ?_
      have ret := Option.some.inj h
      subst ret
      exact TS_brkB s1.1 ⟨[(0, [])], []⟩ rfl (by kernel_rfl) (by kernel_rfl) (by kernel_rfl)
  · intro b2 hb
    subst y3
    have h := hK1
    refine TS_go 7 ?_
    have ret := Option.some.inj h
    subst ret
    exact TS_ret (by kernel_rfl) (by kernel_rfl) (by kernel_rfl)

/-- multihop/checksum.CRC -/
noncomputable def F_checksum_CRC (a0 : List Int) : Option (Int) :=
  (F_checksum_Extend 0 a0).bind fun v1 =>
  some (v1)
set_option maxRecDepth 100000 in
set_option maxHeartbeats 40000000 in
theorem ok_checksum_CRC (a0 : List Int) (r : Int) (h : F_checksum_CRC a0 = some r) : Con Try.prog 64 [.c (eS 1 (ecI .u8) (a0))] [] (.c (.lit (.int .u16 (r)))) [] := by
  unfold F_checksum_CRC at h
  refine con_of [] [] 5 Try.func64 rfl rfl (by kernel_rfl) (fun K => ?_)
  refine TS_go 7 ?_
  replace h := bindO h
  obtain ⟨v1, hv1, h⟩ := h
  refine TS_call [] (ok_checksum_Extend 0 a0 v1 hv1) (by kernel_rfl) (by kernel_rfl) ?_
  refine TS_go 3 ?_
  have ret := Option.some.inj h
  subst ret
  exact TS_ret (by kernel_rfl) (by kernel_rfl) (by kernel_rfl)

/-- multihop/checksum.Append -/
noncomputable def F_checksum_Append (a0 : List Int) : Option ((List Int)) :=
  (F_checksum_CRC a0).bind fun v1 =>
  (mkO 1 0 (IntKind.wrap .i64 ((List.length a0 : Int) + 2))).bind fun n2 =>
  (appO 1 (List.replicate n2 (0 : Int)) (Cut.app .whole a0)).bind fun l3 =>
  (appO 1 l3 (Cut.app .whole ([IntKind.wrap .u8 v1, IntKind.wrap .u8 (ishr .u16 v1 8)] : List Int))).bind fun l4 =>
  some (l4)
set_option maxRecDepth 100000 in
set_option maxHeartbeats 40000000 in
theorem okT_checksum_Append (a0 : List Int) (r : (List Int)) (h : F_checksum_Append a0 = some r) : Con Try.prog 39 [.c (eS 1 (ecI .u8) (a0))] [] (.c (.slc 1 900002 (List.length r) (List.map (ecI .u8) r))) [(900000, .spare 5 1 (List.length r))] := by
  unfold F_checksum_Append at h
  refine con_of [] [(900000, [])] 22 Try.func39 rfl rfl (by kernel_rfl) (fun K => ?_)
  refine TS_go 7 ?_
  replace h := bindO h
  obtain ⟨v1, hv1, h⟩ := h
  refine TS_call [] (ok_checksum_CRC a0 v1 hv1) (by kernel_rfl) (by kernel_rfl) ?_
  refine TS_go 7 ?_
  replace h := bindO h
  obtain ⟨n2, hn2, h⟩ := h
  refine TS_makeT 10 5 1 (ecI .u8) (0 : Int) [] (cs := [.lit (.int .u8 (0))]) (l := 0) (c := IntKind.wrap .i64 ((List.length a0 : Int) + 2)) hn2 (by kernel_rfl) (by kernel_rfl) (by kernel_rfl) ?_
  refine TS_go 6 ?_
  replace h := bindO h
  obtain ⟨l3, hl3, h⟩ := h
  refine TS_appT (d := 10) (e := 5) (sz := 1) (N := List.length (List.replicate n2 (0 : Int))) (ecI .u8) (fun _ => by kernel_rfl) (l1 := (List.replicate n2 (0 : Int))) (l2 := a0) (c := .whole) hl3 (by kernel_rfl) (by kernel_rfl) ?_
  refine TS_go 10 ?_
  refine TS_litNT 20 5 1 (ecI .u8) [] ([IntKind.wrap .u8 v1, IntKind.wrap .u8 (ishr .u16 v1 8)] : List Int) (by kernel_rfl) (by kernel_rfl) ?_
  replace h := bindO h
  obtain ⟨_l4, hl4, h⟩ := h
  refine TS_appT (d := 10) (e := 5) (sz := 1) (N := List.length l3) (ecI .u8) (fun _ => by kernel_rfl) (l1 := l3) (l2 := ([IntKind.wrap .u8 v1, IntKind.wrap .u8 (ishr .u16 v1 8)] : List Int)) (c := .whole) hl4 (by kernel_rfl) (by kernel_rfl) ?_
  refine TS_go 2 ?_
  refine TS_fitU ⟨[(2, [])], [(10, (900000, []))]⟩ (by kernel_rfl) ?_
  refine TS_go 1 ?_
  have ret := Option.some.inj h
  subst ret
  exact TS_ret (by kernel_rfl) (by kernel_rfl) (by kernel_rfl)
theorem ok_checksum_Append (a0 : List Int) (r : (List Int)) (h : F_checksum_Append a0 = some r) : Con Try.prog 39 [.c (eS 1 (ecI .u8) (a0))] [] (.c (eS 1 (ecI .u8) (r))) [] :=
  con_drop [[2]] [] (okT_checksum_Append a0 r h) (by kernel_rfl) (by kernel_rfl) (by kernel_rfl)

/-- multihop/frame.Encode -/
noncomputable def F_frame_Encode (a0 : S_Frame) : Option ((List Int) × Int) :=
  (F_frame_Valid a0).bind fun v1 =>
  bif v1 then
    (F_frame_Header a0).bind fun v3 =>
    (appO 1 v3 (Cut.app .whole a0.MIC)).bind fun l4 =>
    (F_checksum_Append l4).bind fun v5 =>
    some ((v5, 0))
  else
    some ((([] : List Int), 1))
set_option maxRecDepth 100000 in
set_option maxHeartbeats 40000000 in
theorem okT_frame_Encode (a0 : S_Frame) (r : (List Int) × Int) (h : F_frame_Encode a0 = some r) : Con Try.prog 18 [.agg (S_Frame.cs a0)] [] (.tup [(false, [.slc 1 900002 (List.length r.1) (List.map (ecI .u8) r.1)]), (false, [.lit (.int .i64 (r.2))])]) [(900000, .spare 5 1 (List.length r.1))] := by
  unfold F_frame_Encode at h
  refine con_of [] [(900000, [])] 13 Try.func18 rfl rfl (by kernel_rfl) (fun K => ?_)
  refine TS_go 10 ?_
  replace h := bindO h
  obtain ⟨v1, hv1, h⟩ := h
  refine TS_call [] (ok_frame_Valid a0 v1 hv1) (by kernel_rfl) (by kernel_rfl) ?_
  refine TS_go 2 ?_
  replace h := condO h
  rcases h with ⟨hb2, h⟩ | ⟨hb2, h⟩
  · subst hb2
    refine TS_F (by kernel_rfl) rfl ?_
    refine TS_go 2 ?_
    refine TS_draw (by kernel_rfl) ?_
    refine TD_go 1 ?_
    replace h := bindO h
    obtain ⟨v3, hv3, h⟩ := h
    refine TD_conX (d := 8) (e := 900000) [] (okT_frame_Header a0 v3 hv3) (by kernel_rfl) (by kernel_rfl) ?_
    refine TD_go 2 ?_
    replace h := bindO h
    obtain ⟨l4, hl4, h⟩ := h
    refine TD_appT (d := 8) (e := 5) (sz := 1) (N := List.length v3) (ecI .u8) (fun _ => by kernel_rfl) (l1 := v3) (l2 := a0.MIC) (c := .whole) hl4 (by kernel_rfl) (by kernel_rfl) ?_
    replace h := bindO h
    obtain ⟨v5, hv5, h⟩ := h
    refine TD_conX (d := 12) (e := 900000) [[2]] (okT_checksum_Append l4 v5 hv5) (by kernel_rfl) (by kernel_rfl) ?_
    refine TD_go 2 ?_
    refine TD_end (by kernel_rfl) ?_
    refine TS_fitU ⟨[(2, []), (3, [])], [(12, (900000, []))]⟩ (by kernel_rfl) ?_
    refine TS_go 1 ?_
    have ret := Option.some.inj h
    subst ret
    exact TS_ret (by kernel_rfl) (by kernel_rfl) (by kernel_rfl)
  · subst hb2
    refine TS_T (by kernel_rfl) rfl ?_
    refine TS_go 5 ?_
    refine TS_nilT 2 600000 5 1 (by kernel_rfl) ?_
    refine TS_fitU ⟨[(2, []), (3, [])], [(600000, (900000, []))]⟩ (by kernel_rfl) ?_
    refine TS_go 2 ?_
    have ret := Option.some.inj h
    subst ret
    exact TS_ret (by kernel_rfl) (by kernel_rfl) (by kernel_rfl)
theorem ok_frame_Encode (a0 : S_Frame) (r : (List Int) × Int) (h : F_frame_Encode a0 = some r) : Con Try.prog 18 [.agg (S_Frame.cs a0)] [] (.tup [(false, [eS 1 (ecI .u8) (r.1)]), (false, [.lit (.int .i64 (r.2))])]) [] :=
  con_drop [[2]] [] (okT_frame_Encode a0 r h) (by kernel_rfl) (by kernel_rfl) (by kernel_rfl)

/-- multihop/checksum.Check -/
noncomputable def F_checksum_Check (a0 : List Int) : Option (Bool) :=
  bif (decide ((IntKind.wrap .i64 ((List.length a0 : Int) - 2)) < 0)) then
    some (false)
  else
    (subO a0 0 (IntKind.wrap .i64 ((List.length a0 : Int) - 2))).bind fun l2 =>
    (F_checksum_CRC l2).bind fun v3 =>
    (idx a0 (IntKind.wrap .i64 ((List.length a0 : Int) - 2))).bind fun e4 =>
    bif (e4 == (IntKind.wrap .u8 v3)) then
      (idx a0 (IntKind.wrap .i64 ((IntKind.wrap .i64 ((List.length a0 : Int) - 2)) + 1))).bind fun e6 =>
      some ((e6 == (IntKind.wrap .u8 (ishr .u16 v3 8))))
    else
      some (false)
set_option maxRecDepth 100000 in
set_option maxHeartbeats 40000000 in
theorem ok_checksum_Check (a0 : List Int) (r : Bool) (h : F_checksum_Check a0 = some r) : Con Try.prog 40 [.c (eS 1 (ecI .u8) (a0))] [] (.c (.lit (.bool (r)))) [] := by
  unfold F_checksum_Check at h
  refine con_of [] [] 32 Try.func40 rfl rfl (by kernel_rfl) (fun K => ?_)
  refine TS_go 17 ?_
  replace h := condO h
  rcases h with ⟨hb1, h⟩ | ⟨hb1, h⟩
  · refine TS_know 9 (b := true) hb1 (by kernel_rfl) (by kernel_rfl) ?_
    refine TS_T (by kernel_rfl) rfl ?_
    refine TS_go 6 ?_
    have ret := Option.some.inj h
    subst ret
    exact TS_ret (by kernel_rfl) (by kernel_rfl) (by kernel_rfl)
  · refine TS_know 9 (b := false) hb1 (by kernel_rfl) (by kernel_rfl) ?_
    refine TS_F (by kernel_rfl) rfl ?_
    refine TS_go 5 ?_
    replace h := bindO h
    obtain ⟨l2, hl2, h⟩ := h
    refine TS_sub (ecI .u8) 1 hl2 (by kernel_rfl) (by kernel_rfl) ?_
    replace h := bindO h
    obtain ⟨v3, hv3, h⟩ := h
    refine TS_call [] (ok_checksum_CRC l2 v3 hv3) (by kernel_rfl) (by kernel_rfl) ?_
    refine TS_go 6 ?_
    replace h := bindO h
    obtain ⟨_e4, he4, h⟩ := h
    refine TS_idx (ecI .u8) he4 (by kernel_rfl) (by kernel_rfl) ?_
    refine TS_go 5 ?_
    replace h := condO h
    rcases h with ⟨hb5, h⟩ | ⟨hb5, h⟩
    · refine TS_know 20 (b := true) hb5 (by kernel_rfl) (by kernel_rfl) ?_
      refine TS_know 21 (b := true) hb5 (by kernel_rfl) (by kernel_rfl) ?_
      refine TS_go 3 ?_
      replace h := bindO h
      obtain ⟨_e6, he6, h⟩ := h
      refine TS_idx (ecI .u8) he6 (by kernel_rfl) (by kernel_rfl) ?_
      refine TS_go 9 ?_
      have ret := Option.some.inj h
      subst ret
      exact TS_ret (by kernel_rfl) (by kernel_rfl) (by kernel_rfl)
    · refine TS_know 20 (b := false) hb5 (by kernel_rfl) (by kernel_rfl) ?_
      refine TS_know 21 (b := false) hb5 (by kernel_rfl) (by kernel_rfl) ?_
      refine TS_go 13 ?_
      have ret := Option.some.inj h
      subst ret
      exact TS_ret (by kernel_rfl) (by kernel_rfl) (by kernel_rfl)

/-- multihop/octets.Uint -/
noncomputable def F_octets_Uint_l1 (l5 : List Int) (s6 : Int × Int) : Option ((Int × Int) ⊕ (Int)) :=
  bif (decide (s6.2 < (List.length l5 : Int))) then
    (idx l5 s6.2).bind fun e10 =>
    some (Sum.inl (ior .u64 (ishl .u64 s6.1 8) (IntKind.wrap .u64 e10), IntKind.wrap .i64 (s6.2 + 1)))
  else
    some (Sum.inr s6.1)
noncomputable def F_octets_Uint (a0 : List Int) (a1 : Int) (a2 : Int) : Option (Int × Bool) :=
  bif (decide (a2 < 1)) then
    some ((0, false))
  else
    bif (decide (a2 > 8)) then
      some ((0, false))
    else
      bif (decide (a1 < 0)) then
        some ((0, false))
      else
        bif (decide (a1 > (IntKind.wrap .i64 ((List.length a0 : Int) - a2)))) then
          some ((0, false))
        else
          (subO a0 a1 (IntKind.wrap .i64 (a1 + a2))).bind fun l5 =>
          (loopO (F_octets_Uint_l1 l5) (0, 0)).bind fun b7 =>
          some ((b7, true))
set_option maxRecDepth 100000 in
set_option maxHeartbeats 40000000 in
theorem ok_octets_Uint (a0 : List Int) (a1 : Int) (a2 : Int) (r : Int × Bool) (h : F_octets_Uint a0 a1 a2 = some r) : Con Try.prog 74 [.c (eS 1 (ecI .u8) (a0)), .c (.lit (.int .i64 (a1))), .c (.lit (.int .i64 (a2)))] [] (.tup [(false, [.lit (.int .u64 (r.1))]), (false, [.lit (.bool (r.2))])]) [] := by
  unfold F_octets_Uint at h
  refine con_of [] [] 47 Try.func74 rfl rfl (by kernel_rfl) (fun K => ?_)
  refine TS_go 11 ?_
  replace h := condO h
  rcases h with ⟨hb1, h⟩ | ⟨hb1, h⟩
  · refine TS_know 12 (b := true) hb1 (by kernel_rfl) (by kernel_rfl) ?_
    refine TS_know 13 (b := true) hb1 (by kernel_rfl) (by kernel_rfl) ?_
    refine TS_go 16 ?_
    refine TS_T (by kernel_rfl) rfl ?_
    refine TS_go 7 ?_
    have ret := Option.some.inj h
    subst ret
    exact TS_ret (by kernel_rfl) (by kernel_rfl) (by kernel_rfl)
  · refine TS_know 12 (b := false) hb1 (by kernel_rfl) (by kernel_rfl) ?_
    refine TS_know 13 (b := false) hb1 (by kernel_rfl) (by kernel_rfl) ?_
    refine TS_go 4 ?_
    replace h := condO h
    rcases h with ⟨hb2, h⟩ | ⟨hb2, h⟩
    · refine TS_know 15 (b := true) hb2 (by kernel_rfl) (by kernel_rfl) ?_
      refine TS_know 16 (b := true) hb2 (by kernel_rfl) (by kernel_rfl) ?_
      refine TS_know 17 (b := true) hb2 (by kernel_rfl) (by kernel_rfl) ?_
      refine TS_go 12 ?_
      refine TS_T (by kernel_rfl) rfl ?_
      refine TS_go 7 ?_
      have ret := Option.some.inj h
      subst ret
      exact TS_ret (by kernel_rfl) (by kernel_rfl) (by kernel_rfl)
    · refine TS_know 15 (b := false) hb2 (by kernel_rfl) (by kernel_rfl) ?_
      refine TS_know 16 (b := false) hb2 (by kernel_rfl) (by kernel_rfl) ?_
      refine TS_know 17 (b := false) hb2 (by kernel_rfl) (by kernel_rfl) ?_
      refine TS_go 4 ?_
      replace h := condO h
      rcases h with ⟨hb3, h⟩ | ⟨hb3, h⟩
      · refine TS_know 19 (b := true) hb3 (by kernel_rfl) (by kernel_rfl) ?_
        refine TS_know 20 (b := true) hb3 (by kernel_rfl) (by kernel_rfl) ?_
        refine TS_know 21 (b := true) hb3 (by kernel_rfl) (by kernel_rfl) ?_
        refine TS_go 8 ?_
        refine TS_T (by kernel_rfl) rfl ?_
        refine TS_go 7 ?_
        have ret := Option.some.inj h
        subst ret
        exact TS_ret (by kernel_rfl) (by kernel_rfl) (by kernel_rfl)
      · refine TS_know 19 (b := false) hb3 (by kernel_rfl) (by kernel_rfl) ?_
        refine TS_know 20 (b := false) hb3 (by kernel_rfl) (by kernel_rfl) ?_
        refine TS_know 21 (b := false) hb3 (by kernel_rfl) (by kernel_rfl) ?_
        refine TS_go 8 ?_
        replace h := condO h
        rcases h with ⟨hb4, h⟩ | ⟨hb4, h⟩
        · refine TS_know 27 (b := true) hb4 (by kernel_rfl) (by kernel_rfl) ?_
          refine TS_know 28 (b := true) hb4 (by kernel_rfl) (by kernel_rfl) ?_
          refine TS_T (by kernel_rfl) rfl ?_
          refine TS_go 7 ?_
          have ret := Option.some.inj h
          subst ret
          exact TS_ret (by kernel_rfl) (by kernel_rfl) (by kernel_rfl)
        · refine TS_know 27 (b := false) hb4 (by kernel_rfl) (by kernel_rfl) ?_
          refine TS_know 28 (b := false) hb4 (by kernel_rfl) (by kernel_rfl) ?_
          refine TS_F (by kernel_rfl) rfl ?_
          refine TS_go 13 ?_
          replace h := bindO h
          obtain ⟨l5, hl5, h⟩ := h
          refine TS_sub (ecI .u8) 1 hl5 (by kernel_rfl) (by kernel_rfl) ?_
          refine TS_go 4 ?_
          refine TS_cut ⟨[(8, []), (34, []), (35, []), (36, [])], []⟩ (.mk [.code (codeAt [1, 1, 1, 0, 1, 0] (bodyOf Try.f74)), .blk 0, .code (codeAt [1, 1, 1, 1] (bodyOf Try.f74))] .normal ⟨[(8, .c (.lit (.int .u64 (0)))), (34, .c (.slc 1 0 (List.length l5) (List.map (ecI .u8) l5))), (35, .c (.lit (.int .i64 ((List.length l5 : Int))))), (36, .c (.lit (.int .i64 (0))))], []⟩) (by kernel_rfl) (by kernel_rfl) ?_
          replace h := bindO h
          obtain ⟨y8, hl1, hK1⟩ := h
          refine TS_loopB (F_octets_Uint_l1 l5) ⟨[(8, []), (34, []), (35, []), (36, [])], []⟩ (fun (s6 : Int × Int) => [(8, .c (.lit (.int .u64 (s6.1)))), (36, .c (.lit (.int .i64 (s6.2))))]) (fun (s6 : Int × Int) => []) (0, 0) y8 (.exit 0) (fun (b : Int) => b) ⟨[(8, [])], []⟩ (fun (b7 : Int) => [(8, .c (.lit (.int .u64 (b7))))]) (fun (b7 : Int) => []) hl1 (by kernel_rfl) (by kernel_rfl) ?_ ?_
          · intro s6 x h hy1
            unfold F_octets_Uint_l1 at h
            refine TS_go 5 ?_
            replace h := condO h
            rcases h with ⟨hb9, h⟩ | ⟨hb9, h⟩
            · refine TS_know 37 (b := true) hb9 (by kernel_rfl) (by kernel_rfl) ?_
              refine TS_T (by kernel_rfl) rfl ?_
              refine TS_go 5 ?_
              replace h := bindO h
              obtain ⟨_e10, he10, h⟩ := h
              refine TS_idx (ecI .u8) he10 (by kernel_rfl) (by kernel_rfl) ?_
              refine TS_go 16 ?_
              have ret := Option.some.inj h
              subst ret
              exact TS_againB _ ⟨[(8, []), (34, []), (35, []), (36, [])], []⟩ rfl (by kernel_rfl) (by kernel_rfl)
            · refine TS_know 37 (b := false) hb9 (by kernel_rfl) (by kernel_rfl) ?_
              refine TS_F (by kernel_rfl) rfl ?_
              refine TS_go 2 ?_
              have ret := Option.some.inj h
              subst ret
              exact TS_brkB s6.1 ⟨[(8, [])], []⟩ rfl (by kernel_rfl) (by kernel_rfl) (by kernel_rfl)
          · intro b7 hb
            subst y8
            have h := hK1
            refine TS_go 8 ?_
            have ret := Option.some.inj h
            subst ret
            exact TS_ret (by kernel_rfl) (by kernel_rfl) (by kernel_rfl)

/-- (*multihop/frame.reader).next -/
noncomputable def F_frame_reader_next (a0 : S_frame_reader) (a1 : Int) : Option (Int × S_frame_reader) :=
  (F_octets_Uint a0.b 0 a1).bind fun v1 =>
  bif v1.2 then
    (subO a0.b a1 (List.length a0.b : Int)).bind fun l3 =>
    some ((v1.1, (S_frame_reader.mk l3 a0.bad)))
  else
    some ((0, (S_frame_reader.mk a0.b true)))
set_option maxRecDepth 100000 in
set_option maxHeartbeats 40000000 in
theorem ok_frame_reader_next (a0 : S_frame_reader) (a1 : Int) (r : Int × S_frame_reader) (h : F_frame_reader_next a0 a1 = some r) : Con Try.prog 65 [.c (.box 1000000 0), .c (.lit (.int .i64 (a1)))] [(1000000, .box (S_frame_reader.cs a0))] (.c (.lit (.int .u64 (r.1)))) [(1000000, .box (S_frame_reader.cs r.2))] := by
  unfold F_frame_reader_next at h
  refine con_of [] [(1000000, [2])] 31 Try.func65 rfl rfl (by kernel_rfl) (fun K => ?_)
  refine TS_go 11 ?_
  replace h := bindO h
  obtain ⟨v1, hv1, h⟩ := h
  refine TS_call [] (ok_octets_Uint a0.b 0 a1 v1 hv1) (by kernel_rfl) (by kernel_rfl) ?_
  refine TS_go 12 ?_
  replace h := condO h
  rcases h with ⟨hb2, h⟩ | ⟨hb2, h⟩
  · refine TS_know 15 (b := true) hb2 (by kernel_rfl) (by kernel_rfl) ?_
    refine TS_know 6 (b := true) hb2 (by kernel_rfl) (by kernel_rfl) ?_
    refine TS_know 16 (b := true) hb2 (by kernel_rfl) (by kernel_rfl) ?_
    refine TS_know 17 (b := false) (notF hb2) (by kernel_rfl) (by kernel_rfl) ?_
    refine TS_F (by kernel_rfl) rfl ?_
    refine TS_go 9 ?_
    replace h := bindO h
    obtain ⟨_l3, hl3, h⟩ := h
    refine TS_sub (ecI .u8) 1 hl3 (by kernel_rfl) (by kernel_rfl) ?_
    refine TS_go 10 ?_
    have ret := Option.some.inj h
    subst ret
    exact TS_ret (by kernel_rfl) (by kernel_rfl) (by kernel_rfl)
  · refine TS_know 15 (b := false) hb2 (by kernel_rfl) (by kernel_rfl) ?_
    refine TS_know 6 (b := false) hb2 (by kernel_rfl) (by kernel_rfl) ?_
    refine TS_know 16 (b := false) hb2 (by kernel_rfl) (by kernel_rfl) ?_
    refine TS_know 17 (b := true) (notT hb2) (by kernel_rfl) (by kernel_rfl) ?_
    refine TS_T (by kernel_rfl) rfl ?_
    refine TS_go 13 ?_
    have ret := Option.some.inj h
    subst ret
    exact TS_ret (by kernel_rfl) (by kernel_rfl) (by kernel_rfl)

/-- (*multihop/frame.reader).addr -/
noncomputable def F_frame_reader_addr_j1  (v1 : S_frame_reader × S_Addr) : Option (S_Addr × S_frame_reader) :=
  some ((v1.2, v1.1))
noncomputable def F_frame_reader_addr (a0 : S_frame_reader) (a1 : Int) : Option (S_Addr × S_frame_reader) :=
  bif (a1 == 2) then
    (F_frame_reader_next a0 2).bind fun v3 =>
    (F_frame_reader_addr_j1) (v3.2, (S_Addr.mk a1 (IntKind.wrap .u16 v3.1) 0))
  else
    bif (a1 == 3) then
      (F_frame_reader_next a0 8).bind fun v5 =>
      (F_frame_reader_addr_j1) (v5.2, (S_Addr.mk a1 0 v5.1))
    else
      (F_frame_reader_addr_j1) (a0, (S_Addr.mk a1 0 0))
set_option maxRecDepth 100000 in
set_option maxHeartbeats 40000000 in
theorem ok_frame_reader_addr (a0 : S_frame_reader) (a1 : Int) (r : S_Addr × S_frame_reader) (h : F_frame_reader_addr a0 a1 = some r) : Con Try.prog 66 [.c (.box 1000000 0), .c (.lit (.int .i64 (a1)))] [(1000000, .box (S_frame_reader.cs a0))] (.agg (S_Addr.cs r.1)) [(1000000, .box (S_frame_reader.cs r.2))] := by
  unfold F_frame_reader_addr at h
  refine con_of [] [(1000000, [2])] 21 Try.func66 rfl rfl (by kernel_rfl) (fun K => ?_)
  refine TS_go 11 ?_
  refine TS_cut ⟨[(0, []), (1, []), (4, []), (5, [])], [(1000000, (1000000, [])), (4, (4, [])), (5, (5, []))]⟩ (.mk [.code (codeAt [1, 1] (bodyOf Try.f66))] .normal ⟨[(0, .c (.box 1000000 0)), (1, .c (.lit (.int .i64 (a1)))), (4, .c (.box 4 0)), (5, .c (.box 5 0))], [(1000000, .box [.slc 1 0 (List.length a0.b) (List.map (ecI .u8) a0.b), .lit (.bool (a0.bad))]), (4, .box [.lit (.int .i64 (0)), .lit (.int .u16 (0)), .lit (.int .u64 (0))]), (5, .box [.lit (.int .i64 (a1)), .lit (.int .u16 (0)), .lit (.int .u64 (0))])]⟩) (by kernel_rfl) (by kernel_rfl) ?_
  refine TS_joinB ⟨[(4, []), (5, [])], [(1000000, (1000000, [])), (4, (4, [])), (5, (5, []))]⟩ (fun (v1 : S_frame_reader × S_Addr) => []) (fun (v1 : S_frame_reader × S_Addr) => [(1000000, .box (S_frame_reader.cs v1.1)), (5, .box (S_Addr.cs v1.2))]) (F_frame_reader_addr_j1) r ?_ ?_
  · clear h
    intro v1 h
    unfold F_frame_reader_addr_j1 at h
    refine TS_go 6 ?_
    have ret := Option.some.inj h
    subst ret
    exact TS_ret (by kernel_rfl) (by kernel_rfl) (by kernel_rfl)
  · refine TS_go 10 ?_
    replace h := condO h
    rcases h with ⟨hb2, h⟩ | ⟨hb2, h⟩
    · refine TS_know 10 (b := true) hb2 (by kernel_rfl) (by kernel_rfl) ?_
      refine TS_know 9 (b := true) hb2 (by kernel_rfl) (by kernel_rfl) ?_
      refine TS_T (by kernel_rfl) rfl ?_
      refine TS_go 2 ?_
      replace h := bindO h
      obtain ⟨v3, hv3, h⟩ := h
      refine TS_con [] [] (some (1000000, 0)) (ok_frame_reader_next a0 2 v3 hv3) (by kernel_rfl) (by kernel_rfl) (by kernel_rfl) ?_
      refine TS_go 5 ?_
      exact TS_meet (v3.2, (S_Addr.mk a1 (IntKind.wrap .u16 v3.1) 0)) ⟨[(4, []), (5, [])], [(1000000, (1000000, [])), (4, (4, [])), (5, (5, []))]⟩ h (by kernel_rfl) (by kernel_rfl)
    · refine TS_know 10 (b := false) hb2 (by kernel_rfl) (by kernel_rfl) ?_
      refine TS_know 9 (b := false) hb2 (by kernel_rfl) (by kernel_rfl) ?_
      refine TS_F (by kernel_rfl) rfl ?_
      refine TS_go 5 ?_
      replace h := condO h
      rcases h with ⟨hb4, h⟩ | ⟨hb4, h⟩
      · refine TS_know 16 (b := true) hb4 (by kernel_rfl) (by kernel_rfl) ?_
        refine TS_know 15 (b := true) hb4 (by kernel_rfl) (by kernel_rfl) ?_
        refine TS_T (by kernel_rfl) rfl ?_
        refine TS_go 2 ?_
        replace h := bindO h
        obtain ⟨v5, hv5, h⟩ := h
        refine TS_con [] [] (some (1000000, 0)) (ok_frame_reader_next a0 8 v5 hv5) (by kernel_rfl) (by kernel_rfl) (by kernel_rfl) ?_
        refine TS_go 4 ?_
        exact TS_meet (v5.2, (S_Addr.mk a1 0 v5.1)) ⟨[(4, []), (5, [])], [(1000000, (1000000, [])), (4, (4, [])), (5, (5, []))]⟩ h (by kernel_rfl) (by kernel_rfl)
      · refine TS_know 16 (b := false) hb4 (by kernel_rfl) (by kernel_rfl) ?_
        refine TS_know 15 (b := false) hb4 (by kernel_rfl) (by kernel_rfl) ?_
        refine TS_F (by kernel_rfl) rfl ?_
        refine TS_go 2 ?_
        exact TS_meet (a0, (S_Addr.mk a1 0 0)) ⟨[(4, []), (5, [])], [(1000000, (1000000, [])), (4, (4, [])), (5, (5, []))]⟩ h (by kernel_rfl) (by kernel_rfl)

/-- multihop/frame.parse -/
noncomputable def F_frame_parse_j3 (v5 : S_frame_reader × S_Frame) (v7 : Int) : Option (S_Frame × Bool) :=
  (subO v5.1.b 0 v7).bind fun l8 =>
  (appO 1 ([] : List Int) (Cut.app .whole l8)).bind fun l9 =>
  (subO v5.1.b v7 (List.length v5.1.b : Int)).bind fun l10 =>
  (appO 1 ([] : List Int) (Cut.app .whole l10)).bind fun l11 =>
  some (((S_Frame.mk v5.2.Kind v5.2.AckRequest v5.2.Pending v5.2.Secure v5.2.Seq v5.2.Pan v5.2.Dst v5.2.Src v5.2.Counter v5.2.Key l9 l11), true))
noncomputable def F_frame_parse_j2  (v5 : S_frame_reader × S_Frame) : Option (S_Frame × Bool) :=
  bif v5.1.bad then
    some (((S_Frame.mk 0 false false false 0 0 (S_Addr.mk 0 0 0) (S_Addr.mk 0 0 0) 0 0 ([] : List Int) ([] : List Int)), false))
  else
    bif v5.2.Secure then
      bif (decide ((IntKind.wrap .i64 ((List.length v5.1.b : Int) - 4)) < 0)) then
        some (((S_Frame.mk 0 false false false 0 0 (S_Addr.mk 0 0 0) (S_Addr.mk 0 0 0) 0 0 ([] : List Int) ([] : List Int)), false))
      else
        (F_frame_parse_j3 v5) (IntKind.wrap .i64 ((List.length v5.1.b : Int) - 4))
    else
      (F_frame_parse_j3 v5) (List.length v5.1.b : Int)
noncomputable def F_frame_parse_j1  (v4 : S_frame_reader × S_Frame) : Option (S_Frame × Bool) :=
  bif v4.2.Secure then
    (F_frame_reader_next v4.1 4).bind fun v15 =>
    (F_frame_reader_next v15.2 1).bind fun v16 =>
    (F_frame_parse_j2) (v16.2, (S_Frame.mk v4.2.Kind v4.2.AckRequest v4.2.Pending v4.2.Secure v4.2.Seq v4.2.Pan v4.2.Dst v4.2.Src (IntKind.wrap .u32 v15.1) (IntKind.wrap .u8 v16.1) v4.2.Payload v4.2.MIC))
  else
    (F_frame_parse_j2) (v4.1, v4.2)
noncomputable def F_frame_parse (a0 : List Int) : Option (S_Frame × Bool) :=
  (F_frame_reader_next (S_frame_reader.mk a0 false) 1).bind fun v1 =>
  (F_frame_reader_next v1.2 1).bind fun v2 =>
  (F_frame_reader_next v2.2 1).bind fun v3 =>
  bif ((IntKind.wrap .i64 (ishr .u8 (IntKind.wrap .u8 v1.1) 6)) != 2) then
    (F_frame_reader_next v3.2 2).bind fun v18 =>
    (F_frame_reader_addr v18.2 (IntKind.wrap .i64 (iand .u8 (ishr .u8 (IntKind.wrap .u8 v2.1) 6) 3))).bind fun v19 =>
    (F_frame_reader_addr v19.2 (IntKind.wrap .i64 (iand .u8 (ishr .u8 (IntKind.wrap .u8 v2.1) 4) 3))).bind fun v20 =>
    (F_frame_parse_j1) (v20.2, (S_Frame.mk (IntKind.wrap .i64 (ishr .u8 (IntKind.wrap .u8 v1.1) 6)) ((iand .u8 (IntKind.wrap .u8 v1.1) 32) != 0) ((iand .u8 (IntKind.wrap .u8 v1.1) 16) != 0) ((iand .u8 (IntKind.wrap .u8 v1.1) 8) != 0) (IntKind.wrap .u8 v3.1) (IntKind.wrap .u16 v18.1) v19.1 v20.1 0 0 ([] : List Int) ([] : List Int)))
  else
    (F_frame_parse_j1) (v3.2, (S_Frame.mk (IntKind.wrap .i64 (ishr .u8 (IntKind.wrap .u8 v1.1) 6)) ((iand .u8 (IntKind.wrap .u8 v1.1) 32) != 0) ((iand .u8 (IntKind.wrap .u8 v1.1) 16) != 0) ((iand .u8 (IntKind.wrap .u8 v1.1) 8) != 0) (IntKind.wrap .u8 v3.1) 0 (S_Addr.mk 0 0 0) (S_Addr.mk 0 0 0) 0 0 ([] : List Int) ([] : List Int)))
set_option maxRecDepth 100000 in
set_option maxHeartbeats 40000000 in
theorem okT_frame_parse (a0 : List Int) (r : S_Frame × Bool) (h : F_frame_parse a0 = some r) : Con Try.prog 41 [.c (eS 1 (ecI .u8) (a0))] [] (.tup [(true, [.lit (.int .i64 (r.1.Kind)), .lit (.bool (r.1.AckRequest)), .lit (.bool (r.1.Pending)), .lit (.bool (r.1.Secure)), .lit (.int .u8 (r.1.Seq)), .lit (.int .u16 (r.1.Pan)), .lit (.int .i64 (r.1.Dst.Mode)), .lit (.int .u16 (r.1.Dst.Short)), .lit (.int .u64 (r.1.Dst.EUI)), .lit (.int .i64 (r.1.Src.Mode)), .lit (.int .u16 (r.1.Src.Short)), .lit (.int .u64 (r.1.Src.EUI)), .lit (.int .u32 (r.1.Counter)), .lit (.int .u8 (r.1.Key)), .slc 1 900016 (List.length r.1.Payload) (List.map (ecI .u8) r.1.Payload), .slc 1 900017 (List.length r.1.MIC) (List.map (ecI .u8) r.1.MIC)]), (false, [.lit (.bool (r.2))])]) [(900014, .spare 5 1 (List.length r.1.Payload)), (900015, .spare 5 1 (List.length r.1.MIC))] := by
  unfold F_frame_parse at h
  refine con_of [] [(900014, []), (900015, [])] 92 Try.func41 rfl rfl (by kernel_rfl) (fun K => ?_)
  refine TS_go 14 ?_
  replace h := bindO h
  obtain ⟨v1, hv1, h⟩ := h
  refine TS_con [] [] (some (4, 0)) (ok_frame_reader_next (S_frame_reader.mk a0 false) 1 v1 hv1) (by kernel_rfl) (by kernel_rfl) (by kernel_rfl) ?_
  refine TS_go 1 ?_
  replace h := bindO h
  obtain ⟨v2, hv2, h⟩ := h
  refine TS_con [] [] (some (4, 0)) (ok_frame_reader_next v1.2 1 v2 hv2) (by kernel_rfl) (by kernel_rfl) (by kernel_rfl) ?_
  refine TS_go 18 ?_
  replace h := bindO h
  obtain ⟨v3, hv3, h⟩ := h
  refine TS_con [] [] (some (4, 0)) (ok_frame_reader_next v2.2 1 v3 hv3) (by kernel_rfl) (by kernel_rfl) (by kernel_rfl) ?_
  refine TS_go 5 ?_
  refine TS_cut ⟨[(2, []), (4, []), (6, []), (7, [])], [(2, (2, [])), (4, (4, [])), (7, (7, []))]⟩ (.mk [.code (codeAt [1, 1, 1, 1] (bodyOf Try.f41))] .normal ⟨[(2, .c (.box 2 0)), (4, .c (.box 4 0)), (6, .c (.lit (.int .u8 (IntKind.wrap .u8 v2.1)))), (7, .c (.box 7 0))], [(2, .box [.lit (.int .i64 (0)), .lit (.bool (false)), .lit (.bool (false)), .lit (.bool (false)), .lit (.int .u8 (0)), .lit (.int .u16 (0)), .lit (.int .i64 (0)), .lit (.int .u16 (0)), .lit (.int .u64 (0)), .lit (.int .i64 (0)), .lit (.int .u16 (0)), .lit (.int .u64 (0)), .lit (.int .u32 (0)), .lit (.int .u8 (0)), .lit (.slice none 0 0), .lit (.slice none 0 0)]), (4, .box [.slc 1 0 (List.length v3.2.b) (List.map (ecI .u8) v3.2.b), .lit (.bool (v3.2.bad))]), (7, .box [.lit (.int .i64 (IntKind.wrap .i64 (ishr .u8 (IntKind.wrap .u8 v1.1) 6))), .lit (.bool (((iand .u8 (IntKind.wrap .u8 v1.1) 32) != 0))), .lit (.bool (((iand .u8 (IntKind.wrap .u8 v1.1) 16) != 0))), .lit (.bool (((iand .u8 (IntKind.wrap .u8 v1.1) 8) != 0))), .lit (.int .u8 (IntKind.wrap .u8 v3.1)), .lit (.int .u16 (0)), .lit (.int .i64 (0)), .lit (.int .u16 (0)), .lit (.int .u64 (0)), .lit (.int .i64 (0)), .lit (.int .u16 (0)), .lit (.int .u64 (0)), .lit (.int .u32 (0)), .lit (.int .u8 (0)), .lit (.slice none 0 0), .lit (.slice none 0 0)])]⟩) (by kernel_rfl) (by kernel_rfl) ?_
  refine TS_joinB ⟨[(2, []), (4, []), (7, [])], [(2, (2, [])), (4, (4, [])), (7, (7, [0, 0, 0, 0, 0, 0, 0, 0, 0, 0, 0, 0, 0, 0, 2, 2]))]⟩ (fun (v4 : S_frame_reader × S_Frame) => []) (fun (v4 : S_frame_reader × S_Frame) => [(4, .box (S_frame_reader.cs v4.1)), (7, .box (S_Frame.cs v4.2))]) (F_frame_parse_j1) r ?_ ?_
  · clear h
    intro v4 h
    unfold F_frame_parse_j1 at h
    refine TS_cut ⟨[(2, []), (4, []), (7, [])], [(2, (2, [])), (4, (4, [])), (7, (7, []))]⟩ (.mk [.code (codeAt [1, 1, 1, 1, 1] (bodyOf Try.f41))] .normal ⟨[(2, .c (.box 2 0)), (4, .c (.box 4 0)), (7, .c (.box 7 0))], [(2, .box [.lit (.int .i64 (0)), .lit (.bool (false)), .lit (.bool (false)), .lit (.bool (false)), .lit (.int .u8 (0)), .lit (.int .u16 (0)), .lit (.int .i64 (0)), .lit (.int .u16 (0)), .lit (.int .u64 (0)), .lit (.int .i64 (0)), .lit (.int .u16 (0)), .lit (.int .u64 (0)), .lit (.int .u32 (0)), .lit (.int .u8 (0)), .lit (.slice none 0 0), .lit (.slice none 0 0)]), (4, .box [.slc 1 0 (List.length v4.1.b) (List.map (ecI .u8) v4.1.b), .lit (.bool (v4.1.bad))]), (7, .box [.lit (.int .i64 (v4.2.Kind)), .lit (.bool (v4.2.AckRequest)), .lit (.bool (v4.2.Pending)), .lit (.bool (v4.2.Secure)), .lit (.int .u8 (v4.2.Seq)), .lit (.int .u16 (v4.2.Pan)), .lit (.int .i64 (v4.2.Dst.Mode)), .lit (.int .u16 (v4.2.Dst.Short)), .lit (.int .u64 (v4.2.Dst.EUI)), .lit (.int .i64 (v4.2.Src.Mode)), .lit (.int .u16 (v4.2.Src.Short)), .lit (.int .u64 (v4.2.Src.EUI)), .lit (.int .u32 (v4.2.Counter)), .lit (.int .u8 (v4.2.Key)), .slc 1 0 (List.length v4.2.Payload) (List.map (ecI .u8) v4.2.Payload), .slc 1 0 (List.length v4.2.MIC) (List.map (ecI .u8) v4.2.MIC)])]⟩) (by kernel_rfl) (by kernel_rfl) ?_
    refine TS_joinB ⟨[(2, []), (4, []), (7, [])], [(2, (2, [])), (4, (4, [])), (7, (7, []))]⟩ (fun (v5 : S_frame_reader × S_Frame) => []) (fun (v5 : S_frame_reader × S_Frame) => [(4, .box (S_frame_reader.cs v5.1)), (7, .box (S_Frame.cs v5.2))]) (F_frame_parse_j2) r ?_ ?_
    · clear h
      intro v5 h
      unfold F_frame_parse_j2 at h
      refine TS_go 6 ?_
      replace h := condO h
      rcases h with ⟨hb6, h⟩ | ⟨hb6, h⟩
      · refine TS_know 67 (b := true) hb6 (by kernel_rfl) (by kernel_rfl) ?_
        refine TS_T (by kernel_rfl) rfl ?_
        refine TS_go 6 ?_
        refine TS_nilB 2 14 600000 5 1 (by kernel_rfl) ?_
        refine TS_nilB 2 15 600001 5 1 (by kernel_rfl) ?_
        refine TS_fitU ⟨[(2, []), (3, [])], [(600000, (900014, [])), (600001, (900015, [])), (2, (2, []))]⟩ (by kernel_rfl) ?_
        refine TS_go 2 ?_
        have ret := Option.some.inj h
        subst ret
        exact TS_ret (by kernel_rfl) (by kernel_rfl) (by kernel_rfl)
      · refine TS_know 67 (b := false) hb6 (by kernel_rfl) (by kernel_rfl) ?_
        refine TS_F (by kernel_rfl) rfl ?_
        refine TS_go 8 ?_
        refine TS_cut ⟨[(2, []), (4, []), (7, []), (10, [])], [(2, (2, [])), (4, (4, [])), (7, (7, []))]⟩ (.mk [.code (codeAt [1, 1, 1, 1, 1, 1, 1, 1] (bodyOf Try.f41))] .normal ⟨[(2, .c (.box 2 0)), (4, .c (.box 4 0)), (7, .c (.box 7 0)), (10, .c (.lit (.int .i64 ((List.length v5.1.b : Int)))))], [(2, .box [.lit (.int .i64 (0)), .lit (.bool (false)), .lit (.bool (false)), .lit (.bool (false)), .lit (.int .u8 (0)), .lit (.int .u16 (0)), .lit (.int .i64 (0)), .lit (.int .u16 (0)), .lit (.int .u64 (0)), .lit (.int .i64 (0)), .lit (.int .u16 (0)), .lit (.int .u64 (0)), .lit (.int .u32 (0)), .lit (.int .u8 (0)), .lit (.slice none 0 0), .lit (.slice none 0 0)]), (4, .box [.slc 1 0 (List.length v5.1.b) (List.map (ecI .u8) v5.1.b), .lit (.bool (v5.1.bad))]), (7, .box [.lit (.int .i64 (v5.2.Kind)), .lit (.bool (v5.2.AckRequest)), .lit (.bool (v5.2.Pending)), .lit (.bool (v5.2.Secure)), .lit (.int .u8 (v5.2.Seq)), .lit (.int .u16 (v5.2.Pan)), .lit (.int .i64 (v5.2.Dst.Mode)), .lit (.int .u16 (v5.2.Dst.Short)), .lit (.int .u64 (v5.2.Dst.EUI)), .lit (.int .i64 (v5.2.Src.Mode)), .lit (.int .u16 (v5.2.Src.Short)), .lit (.int .u64 (v5.2.Src.EUI)), .lit (.int .u32 (v5.2.Counter)), .lit (.int .u8 (v5.2.Key)), .slc 1 0 (List.length v5.2.Payload) (List.map (ecI .u8) v5.2.Payload), .slc 1 0 (List.length v5.2.MIC) (List.map (ecI .u8) v5.2.MIC)])]⟩) (by kernel_rfl) (by kernel_rfl) ?_
        refine TS_joinB ⟨[(2, []), (4, []), (7, []), (10, [])], [(2, (2, [])), (4, (4, [])), (7, (7, []))]⟩ (fun (v7 : Int) => [(10, .c (.lit (.int .i64 (v7))))]) (fun (v7 : Int) => []) (F_frame_parse_j3 v5) r ?_ ?_
        · clear h
          intro v7 h
          unfold F_frame_parse_j3 at h
          refine TS_go 5 ?_
          replace h := bindO h
          obtain ⟨l8, hl8, h⟩ := h
          refine TS_sub (ecI .u8) 1 hl8 (by kernel_rfl) (by kernel_rfl) ?_
          replace h := bindO h
          obtain ⟨_l9, hl9, h⟩ := h
          refine TS_appNT 83 5 1 (ecI .u8) (fun _ => by kernel_rfl) (l2 := l8) .whole hl9 (by kernel_rfl) (by kernel_rfl) ?_
          refine TS_go 8 ?_
          replace h := bindO h
          obtain ⟨l10, hl10, h⟩ := h
          refine TS_sub (ecI .u8) 1 hl10 (by kernel_rfl) (by kernel_rfl) ?_
          replace h := bindO h
          obtain ⟨_l11, hl11, h⟩ := h
          refine TS_appNT 89 5 1 (ecI .u8) (fun _ => by kernel_rfl) (l2 := l10) .whole hl11 (by kernel_rfl) (by kernel_rfl) ?_
          refine TS_go 9 ?_
          refine TS_fitU ⟨[(2, []), (3, [])], [(83, (900014, [])), (89, (900015, [])), (2, (2, []))]⟩ (by kernel_rfl) ?_
          refine TS_go 1 ?_
          have ret := Option.some.inj h
          subst ret
          exact TS_ret (by kernel_rfl) (by kernel_rfl) (by kernel_rfl)
        · refine TS_go 5 ?_
          replace h := condO h
          rcases h with ⟨hb12, h⟩ | ⟨hb12, h⟩
          · refine TS_know 73 (b := true) hb12 (by kernel_rfl) (by kernel_rfl) ?_
            refine TS_T (by kernel_rfl) rfl ?_
            refine TS_go 11 ?_
            replace h := condO h
            rcases h with ⟨hb13, h⟩ | ⟨hb13, h⟩
            · refine TS_know 77 (b := true) hb13 (by kernel_rfl) (by kernel_rfl) ?_
              refine TS_T (by kernel_rfl) rfl ?_
              refine TS_go 6 ?_
              refine TS_nilB 2 14 600000 5 1 (by kernel_rfl) ?_
              refine TS_nilB 2 15 600001 5 1 (by kernel_rfl) ?_
              refine TS_fitU ⟨[(2, []), (3, [])], [(600000, (900014, [])), (600001, (900015, [])), (2, (2, []))]⟩ (by kernel_rfl) ?_
              refine TS_go 1 ?_
              refine TS_outJ (by kernel_rfl) ?_
              have ret := Option.some.inj h
              subst ret
              exact TS_ret (by kernel_rfl) (by kernel_rfl) (by kernel_rfl)
            · refine TS_know 77 (b := false) hb13 (by kernel_rfl) (by kernel_rfl) ?_
              refine TS_F (by kernel_rfl) rfl ?_
              refine TS_go 1 ?_
              exact TS_meet (IntKind.wrap .i64 ((List.length v5.1.b : Int) - 4)) ⟨[(2, []), (4, []), (7, []), (10, [])], [(2, (2, [])), (4, (4, [])), (7, (7, []))]⟩ h (by kernel_rfl) (by kernel_rfl)
          · refine TS_know 73 (b := false) hb12 (by kernel_rfl) (by kernel_rfl) ?_
            refine TS_F (by kernel_rfl) rfl ?_
            refine TS_go 1 ?_
            exact TS_meet (List.length v5.1.b : Int) ⟨[(2, []), (4, []), (7, []), (10, [])], [(2, (2, [])), (4, (4, [])), (7, (7, []))]⟩ h (by kernel_rfl) (by kernel_rfl)
    · refine TS_go 5 ?_
      replace h := condO h
      rcases h with ⟨hb14, h⟩ | ⟨hb14, h⟩
      · refine TS_know 59 (b := true) hb14 (by kernel_rfl) (by kernel_rfl) ?_
        refine TS_T (by kernel_rfl) rfl ?_
        refine TS_go 2 ?_
        replace h := bindO h
        obtain ⟨v15, hv15, h⟩ := h
        refine TS_con [] [] (some (4, 0)) (ok_frame_reader_next v4.1 4 v15 hv15) (by kernel_rfl) (by kernel_rfl) (by kernel_rfl) ?_
        refine TS_go 5 ?_
        replace h := bindO h
        obtain ⟨v16, hv16, h⟩ := h
        refine TS_con [] [] (some (4, 0)) (ok_frame_reader_next v15.2 1 v16 hv16) (by kernel_rfl) (by kernel_rfl) (by kernel_rfl) ?_
        refine TS_go 4 ?_
        exact TS_meet (v16.2, (S_Frame.mk v4.2.Kind v4.2.AckRequest v4.2.Pending v4.2.Secure v4.2.Seq v4.2.Pan v4.2.Dst v4.2.Src (IntKind.wrap .u32 v15.1) (IntKind.wrap .u8 v16.1) v4.2.Payload v4.2.MIC)) ⟨[(2, []), (4, []), (7, [])], [(2, (2, [])), (4, (4, [])), (7, (7, []))]⟩ h (by kernel_rfl) (by kernel_rfl)
      · refine TS_know 59 (b := false) hb14 (by kernel_rfl) (by kernel_rfl) ?_
        refine TS_F (by kernel_rfl) rfl ?_
        refine TS_go 1 ?_
        exact TS_meet (v4.1, v4.2) ⟨[(2, []), (4, []), (7, [])], [(2, (2, [])), (4, (4, [])), (7, (7, []))]⟩ h (by kernel_rfl) (by kernel_rfl)
  · refine TS_go 6 ?_
    replace h := condO h
    rcases h with ⟨hb17, h⟩ | ⟨hb17, h⟩
    · refine TS_know 34 (b := true) hb17 (by kernel_rfl) (by kernel_rfl) ?_
      refine TS_T (by kernel_rfl) rfl ?_
      refine TS_go 2 ?_
      replace h := bindO h
      obtain ⟨v18, hv18, h⟩ := h
      refine TS_con [] [] (some (4, 0)) (ok_frame_reader_next v3.2 2 v18 hv18) (by kernel_rfl) (by kernel_rfl) (by kernel_rfl) ?_
      refine TS_go 14 ?_
      refine TS_cut ⟨[(2, []), (4, []), (6, []), (7, []), (8, []), (38, [])], [(2, (2, [])), (4, (4, [])), (7, (7, [])), (8, (8, []))]⟩ (.mk [.code (codeAt [1, 1, 1, 1, 0, 1, 0, 1, 1, 0, 1, 0] (bodyOf Try.f41)), .blk 0, .code (codeAt [1, 1, 1, 1, 0, 1, 0, 1, 1, 1] (bodyOf Try.f41))] .normal ⟨[(2, .c (.box 2 0)), (4, .c (.box 4 0)), (6, .c (.lit (.int .u8 (IntKind.wrap .u8 v2.1)))), (7, .c (.box 7 0)), (8, .c (.box 8 0)), (38, .c (.lit (.int .i64 (0))))], [(2, .box [.lit (.int .i64 (0)), .lit (.bool (false)), .lit (.bool (false)), .lit (.bool (false)), .lit (.int .u8 (0)), .lit (.int .u16 (0)), .lit (.int .i64 (0)), .lit (.int .u16 (0)), .lit (.int .u64 (0)), .lit (.int .i64 (0)), .lit (.int .u16 (0)), .lit (.int .u64 (0)), .lit (.int .u32 (0)), .lit (.int .u8 (0)), .lit (.slice none 0 0), .lit (.slice none 0 0)]), (4, .box [.slc 1 0 (List.length v18.2.b) (List.map (ecI .u8) v18.2.b), .lit (.bool (v18.2.bad))]), (7, .box [.lit (.int .i64 (IntKind.wrap .i64 (ishr .u8 (IntKind.wrap .u8 v1.1) 6))), .lit (.bool (((iand .u8 (IntKind.wrap .u8 v1.1) 32) != 0))), .lit (.bool (((iand .u8 (IntKind.wrap .u8 v1.1) 16) != 0))), .lit (.bool (((iand .u8 (IntKind.wrap .u8 v1.1) 8) != 0))), .lit (.int .u8 (IntKind.wrap .u8 v3.1)), .lit (.int .u16 (IntKind.wrap .u16 v18.1)), .lit (.int .i64 (0)), .lit (.int .u16 (0)), .lit (.int .u64 (0)), .lit (.int .i64 (0)), .lit (.int .u16 (0)), .lit (.int .u64 (0)), .lit (.int .u32 (0)), .lit (.int .u8 (0)), .lit (.slice none 0 0), .lit (.slice none 0 0)]), (8, .box [.lit (.int .i64 (0)), .lit (.int .u16 (0)), .lit (.int .u64 (0)), .lit (.int .i64 (0)), .lit (.int .u16 (0)), .lit (.int .u64 (0))])]⟩) (by kernel_rfl) (by kernel_rfl) ?_
      refine TS_unr 16 (by kernel_rfl) ?_
      refine TS_go 5 ?_
      refine TS_T (by kernel_rfl) rfl ?_
      refine TS_go 17 ?_
      replace h := bindO h
      obtain ⟨v19, hv19, h⟩ := h
      refine TS_con [] [] (some (4, 0)) (ok_frame_reader_addr v18.2 (IntKind.wrap .i64 (iand .u8 (ishr .u8 (IntKind.wrap .u8 v2.1) 6) 3)) v19 hv19) (by kernel_rfl) (by kernel_rfl) (by kernel_rfl) ?_
      refine TS_go 8 ?_
      refine TS_unrN (by kernel_rfl) (by kernel_rfl) ?_
      refine TS_go 5 ?_
      refine TS_T (by kernel_rfl) rfl ?_
      refine TS_go 17 ?_
      replace h := bindO h
      obtain ⟨v20, hv20, h⟩ := h
      refine TS_con [] [] (some (4, 0)) (ok_frame_reader_addr v19.2 (IntKind.wrap .i64 (iand .u8 (ishr .u8 (IntKind.wrap .u8 v2.1) 4) 3)) v20 hv20) (by kernel_rfl) (by kernel_rfl) (by kernel_rfl) ?_
      refine TS_go 8 ?_
      refine TS_unrN (by kernel_rfl) (by kernel_rfl) ?_
      refine TS_go 5 ?_
      refine TS_F (by kernel_rfl) rfl ?_
      refine TS_go 2 ?_
      refine TS_unrX (by kernel_rfl) ?_
      refine TS_go 1 ?_
      refine TS_draw (by kernel_rfl) ?_
      refine TD_go 8 ?_
      refine TD_end (by kernel_rfl) ?_
      exact TS_meet (v20.2, (S_Frame.mk (IntKind.wrap .i64 (ishr .u8 (IntKind.wrap .u8 v1.1) 6)) ((iand .u8 (IntKind.wrap .u8 v1.1) 32) != 0) ((iand .u8 (IntKind.wrap .u8 v1.1) 16) != 0) ((iand .u8 (IntKind.wrap .u8 v1.1) 8) != 0) (IntKind.wrap .u8 v3.1) (IntKind.wrap .u16 v18.1) v19.1 v20.1 0 0 ([] : List Int) ([] : List Int))) ⟨[(2, []), (4, []), (7, [])], [(2, (2, [])), (4, (4, [])), (7, (7, [0, 0, 0, 0, 0, 0, 0, 0, 0, 0, 0, 0, 0, 0, 2, 2]))]⟩ h (by kernel_rfl) (by kernel_rfl)
    · refine TS_know 34 (b := false) hb17 (by kernel_rfl) (by kernel_rfl) ?_
      refine TS_F (by kernel_rfl) rfl ?_
      refine TS_go 1 ?_
      exact TS_meet (v3.2, (S_Frame.mk (IntKind.wrap .i64 (ishr .u8 (IntKind.wrap .u8 v1.1) 6)) ((iand .u8 (IntKind.wrap .u8 v1.1) 32) != 0) ((iand .u8 (IntKind.wrap .u8 v1.1) 16) != 0) ((iand .u8 (IntKind.wrap .u8 v1.1) 8) != 0) (IntKind.wrap .u8 v3.1) 0 (S_Addr.mk 0 0 0) (S_Addr.mk 0 0 0) 0 0 ([] : List Int) ([] : List Int))) ⟨[(2, []), (4, []), (7, [])], [(2, (2, [])), (4, (4, [])), (7, (7, [0, 0, 0, 0, 0, 0, 0, 0, 0, 0, 0, 0, 0, 0, 2, 2]))]⟩ h (by kernel_rfl) (by kernel_rfl)
theorem ok_frame_parse (a0 : List Int) (r : S_Frame × Bool) (h : F_frame_parse a0 = some r) : Con Try.prog 41 [.c (eS 1 (ecI .u8) (a0))] [] (.tup [(true, S_Frame.cs r.1), (false, [.lit (.bool (r.2))])]) [] :=
  con_drop [[0, 0, 0, 0, 0, 0, 0, 0, 0, 0, 0, 0, 0, 0, 2, 2]] [] (okT_frame_parse a0 r h) (by kernel_rfl) (by kernel_rfl) (by kernel_rfl)

/-- bytes.Equal -/
noncomputable def F_bytes_Equal (a0 : List Int) (a1 : List Int) : Option (Bool) :=
  some (((u8L (Cut.app .whole a0)) == (u8L (Cut.app .whole a1))))
set_option maxRecDepth 100000 in
set_option maxHeartbeats 40000000 in
theorem ok_bytes_Equal (a0 : List Int) (a1 : List Int) (r : Bool) (h : F_bytes_Equal a0 a1 = some r) : Con Try.prog 42 [.c (eS 1 (ecI .u8) (a0)), .c (eS 1 (ecI .u8) (a1))] [] (.c (.lit (.bool (r)))) [] := by
  unfold F_bytes_Equal at h
  refine con_of [] [] 10 Try.func42 rfl rfl (by kernel_rfl) (fun K => ?_)
  refine TS_go 7 ?_
  refine TS_b2s a0 .whole (by kernel_rfl) (by kernel_rfl) ?_
  refine TS_go 1 ?_
  refine TS_b2s a1 .whole (by kernel_rfl) (by kernel_rfl) ?_
  refine TS_str .eql (u8L (Cut.app .whole a0)) (u8L (Cut.app .whole a1)) rfl (by kernel_rfl) (by kernel_rfl) ?_
  refine TS_go 3 ?_
  have ret := Option.some.inj h
  subst ret
  exact TS_ret (by kernel_rfl) (by kernel_rfl) (by kernel_rfl)

/-- multihop/frame.Decode -/
noncomputable def F_frame_Decode (a0 : List Int) : Option (S_Frame × Int) :=
  bif (decide ((List.length a0 : Int) > 127)) then
    some (((S_Frame.mk 0 false false false 0 0 (S_Addr.mk 0 0 0) (S_Addr.mk 0 0 0) 0 0 ([] : List Int) ([] : List Int)), 3))
  else
    bif (decide ((List.length a0 : Int) < 5)) then
      some (((S_Frame.mk 0 false false false 0 0 (S_Addr.mk 0 0 0) (S_Addr.mk 0 0 0) 0 0 ([] : List Int) ([] : List Int)), 4))
    else
      (F_checksum_Check a0).bind fun v3 =>
      bif v3 then
        (subO a0 0 (IntKind.wrap .i64 ((List.length a0 : Int) - 2))).bind fun l5 =>
        (F_frame_parse l5).bind fun v6 =>
        bif v6.2 then
          (F_frame_Encode v6.1).bind fun v8 =>
          bif (v8.2 != 0) then
            some (((S_Frame.mk 0 false false false 0 0 (S_Addr.mk 0 0 0) (S_Addr.mk 0 0 0) 0 0 ([] : List Int) ([] : List Int)), 5))
          else
            (F_bytes_Equal v8.1 a0).bind fun v10 =>
            bif v10 then
              some ((v6.1, 0))
            else
              some (((S_Frame.mk 0 false false false 0 0 (S_Addr.mk 0 0 0) (S_Addr.mk 0 0 0) 0 0 ([] : List Int) ([] : List Int)), 5))
        else
          some (((S_Frame.mk 0 false false false 0 0 (S_Addr.mk 0 0 0) (S_Addr.mk 0 0 0) 0 0 ([] : List Int) ([] : List Int)), 5))
      else
        some (((S_Frame.mk 0 false false false 0 0 (S_Addr.mk 0 0 0) (S_Addr.mk 0 0 0) 0 0 ([] : List Int) ([] : List Int)), 6))
set_option maxRecDepth 100000 in
set_option maxHeartbeats 40000000 in
theorem okT_frame_Decode (a0 : List Int) (r : S_Frame × Int) (h : F_frame_Decode a0 = some r) : Con Try.prog 19 [.c (eS 1 (ecI .u8) (a0))] [] (.tup [(true, [.lit (.int .i64 (r.1.Kind)), .lit (.bool (r.1.AckRequest)), .lit (.bool (r.1.Pending)), .lit (.bool (r.1.Secure)), .lit (.int .u8 (r.1.Seq)), .lit (.int .u16 (r.1.Pan)), .lit (.int .i64 (r.1.Dst.Mode)), .lit (.int .u16 (r.1.Dst.Short)), .lit (.int .u64 (r.1.Dst.EUI)), .lit (.int .i64 (r.1.Src.Mode)), .lit (.int .u16 (r.1.Src.Short)), .lit (.int .u64 (r.1.Src.EUI)), .lit (.int .u32 (r.1.Counter)), .lit (.int .u8 (r.1.Key)), .slc 1 900016 (List.length r.1.Payload) (List.map (ecI .u8) r.1.Payload), .slc 1 900017 (List.length r.1.MIC) (List.map (ecI .u8) r.1.MIC)]), (false, [.lit (.int .i64 (r.2))])]) [(900014, .spare 5 1 (List.length r.1.Payload)), (900015, .spare 5 1 (List.length r.1.MIC))] := by
  unfold F_frame_Decode at h
  refine con_of [] [(900014, []), (900015, [])] 50 Try.func19 rfl rfl (by kernel_rfl) (fun K => ?_)
  refine TS_go 14 ?_
  replace h := condO h
  rcases h with ⟨hb1, h⟩ | ⟨hb1, h⟩
  · refine TS_know 11 (b := true) hb1 (by kernel_rfl) (by kernel_rfl) ?_
    refine TS_know 8 (b := true) hb1 (by kernel_rfl) (by kernel_rfl) ?_
    refine TS_T (by kernel_rfl) rfl ?_
    refine TS_go 6 ?_
    refine TS_nilB 2 14 600000 5 1 (by kernel_rfl) ?_
    refine TS_nilB 2 15 600001 5 1 (by kernel_rfl) ?_
    refine TS_fitU ⟨[(2, []), (3, [])], [(600000, (900014, [])), (600001, (900015, [])), (2, (2, []))]⟩ (by kernel_rfl) ?_
    refine TS_go 3 ?_
    have ret := Option.some.inj h
    subst ret
    exact TS_ret (by kernel_rfl) (by kernel_rfl) (by kernel_rfl)
  · refine TS_know 11 (b := false) hb1 (by kernel_rfl) (by kernel_rfl) ?_
    refine TS_know 8 (b := false) hb1 (by kernel_rfl) (by kernel_rfl) ?_
    refine TS_F (by kernel_rfl) rfl ?_
    refine TS_go 7 ?_
    replace h := condO h
    rcases h with ⟨hb2, h⟩ | ⟨hb2, h⟩
    · refine TS_know 16 (b := true) hb2 (by kernel_rfl) (by kernel_rfl) ?_
      refine TS_know 13 (b := true) hb2 (by kernel_rfl) (by kernel_rfl) ?_
      refine TS_T (by kernel_rfl) rfl ?_
      refine TS_go 6 ?_
      refine TS_nilB 2 14 600000 5 1 (by kernel_rfl) ?_
      refine TS_nilB 2 15 600001 5 1 (by kernel_rfl) ?_
      refine TS_fitU ⟨[(2, []), (3, [])], [(600000, (900014, [])), (600001, (900015, [])), (2, (2, []))]⟩ (by kernel_rfl) ?_
      refine TS_go 3 ?_
      have ret := Option.some.inj h
      subst ret
      exact TS_ret (by kernel_rfl) (by kernel_rfl) (by kernel_rfl)
    · refine TS_know 16 (b := false) hb2 (by kernel_rfl) (by kernel_rfl) ?_
      refine TS_know 13 (b := false) hb2 (by kernel_rfl) (by kernel_rfl) ?_
      refine TS_F (by kernel_rfl) rfl ?_
      refine TS_go 3 ?_
      replace h := bindO h
      obtain ⟨v3, hv3, h⟩ := h
      refine TS_call [] (ok_checksum_Check a0 v3 hv3) (by kernel_rfl) (by kernel_rfl) ?_
      refine TS_go 3 ?_
      replace h := condO h
      rcases h with ⟨hb4, h⟩ | ⟨hb4, h⟩
      · subst hb4
        refine TS_F (by kernel_rfl) rfl ?_
        refine TS_go 8 ?_
        replace h := bindO h
        obtain ⟨l5, hl5, h⟩ := h
        refine TS_sub (ecI .u8) 1 hl5 (by kernel_rfl) (by kernel_rfl) ?_
        replace h := bindO h
        obtain ⟨v6, hv6, h⟩ := h
        refine TS_con [] [(29, 900014), (600000, 900015)] none (okT_frame_parse l5 v6 hv6) (by kernel_rfl) (by kernel_rfl) (by kernel_rfl) ?_
        refine TS_go 13 ?_
        replace h := condO h
        rcases h with ⟨hb7, h⟩ | ⟨hb7, h⟩
        · refine TS_know 31 (b := true) hb7 (by kernel_rfl) (by kernel_rfl) ?_
          refine TS_know 5 (b := true) hb7 (by kernel_rfl) (by kernel_rfl) ?_
          refine TS_know 32 (b := true) hb7 (by kernel_rfl) (by kernel_rfl) ?_
          refine TS_know 33 (b := false) (notF hb7) (by kernel_rfl) (by kernel_rfl) ?_
          refine TS_F (by kernel_rfl) rfl ?_
          refine TS_go 4 ?_
          replace h := bindO h
          obtain ⟨v8, hv8, h⟩ := h
          refine TS_con [[0, 0, 0, 0, 0, 0, 0, 0, 0, 0, 0, 0, 0, 0, 2, 2]] [(37, 900000)] none (okT_frame_Encode v6.1 v8 hv8) (by kernel_rfl) (by kernel_rfl) (by kernel_rfl) ?_
          refine TS_go 12 ?_
          replace h := condO h
          rcases h with ⟨hb9, h⟩ | ⟨hb9, h⟩
          · refine TS_know 41 (b := true) hb9 (by kernel_rfl) (by kernel_rfl) ?_
            refine TS_know 42 (b := true) hb9 (by kernel_rfl) (by kernel_rfl) ?_
            refine TS_go 6 ?_
            refine TS_T (by kernel_rfl) rfl ?_
            refine TS_go 6 ?_
            refine TS_nilB 2 14 600001 5 1 (by kernel_rfl) ?_
            refine TS_nilB 2 15 600002 5 1 (by kernel_rfl) ?_
            refine TS_fitU ⟨[(2, []), (3, [])], [(600001, (900014, [])), (600002, (900015, [])), (2, (2, []))]⟩ (by kernel_rfl) ?_
            refine TS_go 2 ?_
            have ret := Option.some.inj h
            subst ret
            exact TS_ret (by kernel_rfl) (by kernel_rfl) (by kernel_rfl)
          · refine TS_know 41 (b := false) hb9 (by kernel_rfl) (by kernel_rfl) ?_
            refine TS_know 42 (b := false) hb9 (by kernel_rfl) (by kernel_rfl) ?_
            refine TS_go 2 ?_
            replace h := bindO h
            obtain ⟨v10, hv10, h⟩ := h
            refine TS_call [[2]] (ok_bytes_Equal v8.1 a0 v10 hv10) (by kernel_rfl) (by kernel_rfl) ?_
            refine TS_go 3 ?_
            replace h := condO h
            rcases h with ⟨hb11, h⟩ | ⟨hb11, h⟩
            · subst hb11
              refine TS_F (by kernel_rfl) rfl ?_
              refine TS_go 7 ?_
              refine TS_fitU ⟨[(2, []), (3, [])], [(29, (900014, [])), (600000, (900015, [])), (2, (2, []))]⟩ (by kernel_rfl) ?_
              refine TS_go 1 ?_
              have ret := Option.some.inj h
              subst ret
              exact TS_ret (by kernel_rfl) (by kernel_rfl) (by kernel_rfl)
            · subst hb11
              refine TS_T (by kernel_rfl) rfl ?_
              refine TS_go 6 ?_
              refine TS_nilB 2 14 600001 5 1 (by kernel_rfl) ?_
              refine TS_nilB 2 15 600002 5 1 (by kernel_rfl) ?_
              refine TS_fitU ⟨[(2, []), (3, [])], [(600001, (900014, [])), (600002, (900015, [])), (2, (2, []))]⟩ (by kernel_rfl) ?_
              refine TS_go 2 ?_
              have ret := Option.some.inj h
              subst ret
              exact TS_ret (by kernel_rfl) (by kernel_rfl) (by kernel_rfl)
        · refine TS_know 31 (b := false) hb7 (by kernel_rfl) (by kernel_rfl) ?_
          refine TS_know 5 (b := false) hb7 (by kernel_rfl) (by kernel_rfl) ?_
          refine TS_know 32 (b := false) hb7 (by kernel_rfl) (by kernel_rfl) ?_
          refine TS_know 33 (b := true) (notT hb7) (by kernel_rfl) (by kernel_rfl) ?_
          refine TS_T (by kernel_rfl) rfl ?_
          refine TS_go 6 ?_
          refine TS_nilB 2 14 600001 5 1 (by kernel_rfl) ?_
          refine TS_nilB 2 15 600002 5 1 (by kernel_rfl) ?_
          refine TS_fitU ⟨[(2, []), (3, [])], [(600001, (900014, [])), (600002, (900015, [])), (2, (2, []))]⟩ (by kernel_rfl) ?_
          refine TS_go 2 ?_
          have ret := Option.some.inj h
          subst ret
          exact TS_ret (by kernel_rfl) (by kernel_rfl) (by kernel_rfl)
      · subst hb4
        refine TS_T (by kernel_rfl) rfl ?_
        refine TS_go 6 ?_
        refine TS_nilB 2 14 600000 5 1 (by kernel_rfl) ?_
        refine TS_nilB 2 15 600001 5 1 (by kernel_rfl) ?_
        refine TS_fitU ⟨[(2, []), (3, [])], [(600000, (900014, [])), (600001, (900015, [])), (2, (2, []))]⟩ (by kernel_rfl) ?_
        refine TS_go 3 ?_
        have ret := Option.some.inj h
        subst ret
        exact TS_ret (by kernel_rfl) (by kernel_rfl) (by kernel_rfl)
theorem ok_frame_Decode (a0 : List Int) (r : S_Frame × Int) (h : F_frame_Decode a0 = some r) : Con Try.prog 19 [.c (eS 1 (ecI .u8) (a0))] [] (.tup [(true, S_Frame.cs r.1), (false, [.lit (.int .i64 (r.2))])]) [] :=
  con_drop [[0, 0, 0, 0, 0, 0, 0, 0, 0, 0, 0, 0, 0, 0, 2, 2]] [] (okT_frame_Decode a0 r h) (by kernel_rfl) (by kernel_rfl) (by kernel_rfl)

/-- multihop/multihoplaw05.known -/
noncomputable def F_law05_known  : Option (Bool) :=
  (F_frame_Encode (S_Frame.mk 2 false false false 7 0 (S_Addr.mk 0 0 0) (S_Addr.mk 0 0 0) 0 0 ([] : List Int) ([] : List Int))).bind fun v1 =>
  (F_frame_Decode v1.1).bind fun v2 =>
  bif (v1.2 == 0) then
    bif (v2.2 == 0) then
      bif ((List.length v1.1 : Int) == 5) then
        some ((v2.1.Seq == 7))
      else
        some (false)
    else
      some (false)
  else
    some (false)
set_option maxRecDepth 100000 in
set_option maxHeartbeats 40000000 in
theorem ok_law05_known  (r : Bool) (h : F_law05_known  = some r) : Con Try.prog 14 [] [] (.c (.lit (.bool (r)))) [] := by
  unfold F_law05_known at h
  refine con_of [] [] 31 Try.func14 rfl rfl (by kernel_rfl) (fun K => ?_)
  refine TS_go 7 ?_
  replace h := bindO h
  obtain ⟨v1, hv1, h⟩ := h
  refine TS_con [[0, 0, 0, 0, 0, 0, 0, 0, 0, 0, 0, 0, 0, 0, 2, 2]] [(7, 900000)] none (okT_frame_Encode (S_Frame.mk 2 false false false 7 0 (S_Addr.mk 0 0 0) (S_Addr.mk 0 0 0) 0 0 ([] : List Int) ([] : List Int)) v1 hv1) (by kernel_rfl) (by kernel_rfl) (by kernel_rfl) ?_
  refine TS_go 9 ?_
  replace h := bindO h
  obtain ⟨v2, hv2, h⟩ := h
  refine TS_con [[2]] [(12, 900014), (600000, 900015)] none (okT_frame_Decode v1.1 v2 hv2) (by kernel_rfl) (by kernel_rfl) (by kernel_rfl) ?_
  refine TS_go 12 ?_
  replace h := condO h
  rcases h with ⟨hb3, h⟩ | ⟨hb3, h⟩
  · refine TS_know 16 (b := true) hb3 (by kernel_rfl) (by kernel_rfl) ?_
    refine TS_know 17 (b := true) hb3 (by kernel_rfl) (by kernel_rfl) ?_
    refine TS_go 4 ?_
    replace h := condO h
    rcases h with ⟨hb4, h⟩ | ⟨hb4, h⟩
    · refine TS_know 19 (b := true) hb4 (by kernel_rfl) (by kernel_rfl) ?_
      refine TS_know 20 (b := true) hb4 (by kernel_rfl) (by kernel_rfl) ?_
      refine TS_know 21 (b := true) hb4 (by kernel_rfl) (by kernel_rfl) ?_
      refine TS_go 5 ?_
      replace h := condO h
      rcases h with ⟨hb5, h⟩ | ⟨hb5, h⟩
      · refine TS_know 24 (b := true) hb5 (by kernel_rfl) (by kernel_rfl) ?_
        refine TS_know 25 (b := true) hb5 (by kernel_rfl) (by kernel_rfl) ?_
        refine TS_know 26 (b := true) hb5 (by kernel_rfl) (by kernel_rfl) ?_
        refine TS_go 7 ?_
        have ret := Option.some.inj h
        subst ret
        exact TS_ret (by kernel_rfl) (by kernel_rfl) (by kernel_rfl)
      · refine TS_know 24 (b := false) hb5 (by kernel_rfl) (by kernel_rfl) ?_
        refine TS_know 25 (b := false) hb5 (by kernel_rfl) (by kernel_rfl) ?_
        refine TS_know 26 (b := false) hb5 (by kernel_rfl) (by kernel_rfl) ?_
        refine TS_go 7 ?_
        have ret := Option.some.inj h
        subst ret
        exact TS_ret (by kernel_rfl) (by kernel_rfl) (by kernel_rfl)
    · refine TS_know 19 (b := false) hb4 (by kernel_rfl) (by kernel_rfl) ?_
      refine TS_know 20 (b := false) hb4 (by kernel_rfl) (by kernel_rfl) ?_
      refine TS_know 21 (b := false) hb4 (by kernel_rfl) (by kernel_rfl) ?_
      refine TS_go 12 ?_
      have ret := Option.some.inj h
      subst ret
      exact TS_ret (by kernel_rfl) (by kernel_rfl) (by kernel_rfl)
  · refine TS_know 16 (b := false) hb3 (by kernel_rfl) (by kernel_rfl) ?_
    refine TS_know 17 (b := false) hb3 (by kernel_rfl) (by kernel_rfl) ?_
    refine TS_go 16 ?_
    have ret := Option.some.inj h
    subst ret
    exact TS_ret (by kernel_rfl) (by kernel_rfl) (by kernel_rfl)

/-- multihop/multihopref02.Check -/
noncomputable def F_ref02_Check (a0 : List Int) : Option (Bool) :=
  bif (decide ((IntKind.wrap .i64 ((List.length a0 : Int) - 2)) < 0)) then
    some (false)
  else
    (subO a0 0 (IntKind.wrap .i64 ((List.length a0 : Int) - 2))).bind fun l2 =>
    (F_ref02_CRC l2).bind fun v3 =>
    (idx a0 (IntKind.wrap .i64 ((List.length a0 : Int) - 2))).bind fun e4 =>
    bif (e4 == (IntKind.wrap .u8 v3)) then
      (idx a0 (IntKind.wrap .i64 ((IntKind.wrap .i64 ((List.length a0 : Int) - 2)) + 1))).bind fun e6 =>
      some ((e6 == (IntKind.wrap .u8 (ishr .u16 v3 8))))
    else
      some (false)
set_option maxRecDepth 100000 in
set_option maxHeartbeats 40000000 in
theorem ok_ref02_Check (a0 : List Int) (r : Bool) (h : F_ref02_Check a0 = some r) : Con Try.prog 61 [.c (eS 1 (ecI .u8) (a0))] [] (.c (.lit (.bool (r)))) [] := by
  unfold F_ref02_Check at h
  refine con_of [] [] 32 Try.func61 rfl rfl (by kernel_rfl) (fun K => ?_)
  refine TS_go 17 ?_
  replace h := condO h
  rcases h with ⟨hb1, h⟩ | ⟨hb1, h⟩
  · refine TS_know 9 (b := true) hb1 (by kernel_rfl) (by kernel_rfl) ?_
    refine TS_T (by kernel_rfl) rfl ?_
    refine TS_go 6 ?_
    have ret := Option.some.inj h
    subst ret
    exact TS_ret (by kernel_rfl) (by kernel_rfl) (by kernel_rfl)
  · refine TS_know 9 (b := false) hb1 (by kernel_rfl) (by kernel_rfl) ?_
    refine TS_F (by kernel_rfl) rfl ?_
    refine TS_go 5 ?_
    replace h := bindO h
    obtain ⟨l2, hl2, h⟩ := h
    refine TS_sub (ecI .u8) 1 hl2 (by kernel_rfl) (by kernel_rfl) ?_
    replace h := bindO h
    obtain ⟨v3, hv3, h⟩ := h
    refine TS_call [] (ok_ref02_CRC l2 v3 hv3) (by kernel_rfl) (by kernel_rfl) ?_
    refine TS_go 6 ?_
    replace h := bindO h
    obtain ⟨_e4, he4, h⟩ := h
    refine TS_idx (ecI .u8) he4 (by kernel_rfl) (by kernel_rfl) ?_
    refine TS_go 5 ?_
    replace h := condO h
    rcases h with ⟨hb5, h⟩ | ⟨hb5, h⟩
    · refine TS_know 20 (b := true) hb5 (by kernel_rfl) (by kernel_rfl) ?_
      refine TS_know 21 (b := true) hb5 (by kernel_rfl) (by kernel_rfl) ?_
      refine TS_go 3 ?_
      replace h := bindO h
      obtain ⟨_e6, he6, h⟩ := h
      refine TS_idx (ecI .u8) he6 (by kernel_rfl) (by kernel_rfl) ?_
      refine TS_go 9 ?_
      have ret := Option.some.inj h
      subst ret
      exact TS_ret (by kernel_rfl) (by kernel_rfl) (by kernel_rfl)
    · refine TS_know 20 (b := false) hb5 (by kernel_rfl) (by kernel_rfl) ?_
      refine TS_know 21 (b := false) hb5 (by kernel_rfl) (by kernel_rfl) ?_
      refine TS_go 13 ?_
      have ret := Option.some.inj h
      subst ret
      exact TS_ret (by kernel_rfl) (by kernel_rfl) (by kernel_rfl)

/-- multihop/multihopref01.Uint -/
noncomputable def F_ref01_Uint_l1 (a2 : Int) (a0 : List Int) (a1 : Int) (s6 : Int × Int) : Option ((Int × Int) ⊕ (Int)) :=
  bif (decide (s6.2 < a2)) then
    (idx a0 (IntKind.wrap .i64 (a1 + s6.2))).bind fun e10 =>
    some (Sum.inl (IntKind.wrap .u64 ((ishl .u64 s6.1 8) + (IntKind.wrap .u64 e10)), IntKind.wrap .i64 (s6.2 + 1)))
  else
    some (Sum.inr s6.1)
noncomputable def F_ref01_Uint (a0 : List Int) (a1 : Int) (a2 : Int) : Option (Int × Bool) :=
  bif (decide (a2 < 1)) then
    some ((0, false))
  else
    bif (decide (a2 > 8)) then
      some ((0, false))
    else
      bif (decide (a1 < 0)) then
        some ((0, false))
      else
        bif (decide (a1 > (List.length a0 : Int))) then
          some ((0, false))
        else
          bif (decide (a2 > (IntKind.wrap .i64 ((List.length a0 : Int) - a1)))) then
            some ((0, false))
          else
            (loopO (F_ref01_Uint_l1 a2 a0 a1) (0, 0)).bind fun b7 =>
            some ((b7, true))
set_option maxRecDepth 100000 in
set_option maxHeartbeats 40000000 in
theorem ok_ref01_Uint (a0 : List Int) (a1 : Int) (a2 : Int) (r : Int × Bool) (h : F_ref01_Uint a0 a1 a2 = some r) : Con Try.prog 71 [.c (eS 1 (ecI .u8) (a0)), .c (.lit (.int .i64 (a1))), .c (.lit (.int .i64 (a2)))] [] (.tup [(false, [.lit (.int .u64 (r.1))]), (false, [.lit (.bool (r.2))])]) [] := by
  unfold F_ref01_Uint at h
  refine con_of [] [] 50 Try.func71 rfl rfl (by kernel_rfl) (fun K => ?_)
  refine TS_go 11 ?_
  replace h := condO h
  rcases h with ⟨hb1, h⟩ | ⟨hb1, h⟩
  · refine TS_know 11 (b := true) hb1 (by kernel_rfl) (by kernel_rfl) ?_
    refine TS_know 12 (b := true) hb1 (by kernel_rfl) (by kernel_rfl) ?_
    refine TS_go 22 ?_
    refine TS_T (by kernel_rfl) rfl ?_
    refine TS_go 7 ?_
    have ret := Option.some.inj h
    subst ret
    exact TS_ret (by kernel_rfl) (by kernel_rfl) (by kernel_rfl)
  · refine TS_know 11 (b := false) hb1 (by kernel_rfl) (by kernel_rfl) ?_
    refine TS_know 12 (b := false) hb1 (by kernel_rfl) (by kernel_rfl) ?_
    refine TS_go 4 ?_
    replace h := condO h
    rcases h with ⟨hb2, h⟩ | ⟨hb2, h⟩
    · refine TS_know 14 (b := true) hb2 (by kernel_rfl) (by kernel_rfl) ?_
      refine TS_know 15 (b := true) hb2 (by kernel_rfl) (by kernel_rfl) ?_
      refine TS_know 16 (b := true) hb2 (by kernel_rfl) (by kernel_rfl) ?_
      refine TS_go 18 ?_
      refine TS_T (by kernel_rfl) rfl ?_
      refine TS_go 7 ?_
      have ret := Option.some.inj h
      subst ret
      exact TS_ret (by kernel_rfl) (by kernel_rfl) (by kernel_rfl)
    · refine TS_know 14 (b := false) hb2 (by kernel_rfl) (by kernel_rfl) ?_
      refine TS_know 15 (b := false) hb2 (by kernel_rfl) (by kernel_rfl) ?_
      refine TS_know 16 (b := false) hb2 (by kernel_rfl) (by kernel_rfl) ?_
      refine TS_go 4 ?_
      replace h := condO h
      rcases h with ⟨hb3, h⟩ | ⟨hb3, h⟩
      · refine TS_know 18 (b := true) hb3 (by kernel_rfl) (by kernel_rfl) ?_
        refine TS_know 19 (b := true) hb3 (by kernel_rfl) (by kernel_rfl) ?_
        refine TS_know 20 (b := true) hb3 (by kernel_rfl) (by kernel_rfl) ?_
        refine TS_go 14 ?_
        refine TS_T (by kernel_rfl) rfl ?_
        refine TS_go 7 ?_
        have ret := Option.some.inj h
        subst ret
        exact TS_ret (by kernel_rfl) (by kernel_rfl) (by kernel_rfl)
      · refine TS_know 18 (b := false) hb3 (by kernel_rfl) (by kernel_rfl) ?_
        refine TS_know 19 (b := false) hb3 (by kernel_rfl) (by kernel_rfl) ?_
        refine TS_know 20 (b := false) hb3 (by kernel_rfl) (by kernel_rfl) ?_
        refine TS_go 6 ?_
        replace h := condO h
        rcases h with ⟨hb4, h⟩ | ⟨hb4, h⟩
        · refine TS_know 24 (b := true) hb4 (by kernel_rfl) (by kernel_rfl) ?_
          refine TS_know 25 (b := true) hb4 (by kernel_rfl) (by kernel_rfl) ?_
          refine TS_know 26 (b := true) hb4 (by kernel_rfl) (by kernel_rfl) ?_
          refine TS_go 8 ?_
          refine TS_T (by kernel_rfl) rfl ?_
          refine TS_go 7 ?_
          have ret := Option.some.inj h
          subst ret
          exact TS_ret (by kernel_rfl) (by kernel_rfl) (by kernel_rfl)
        · refine TS_know 24 (b := false) hb4 (by kernel_rfl) (by kernel_rfl) ?_
          refine TS_know 25 (b := false) hb4 (by kernel_rfl) (by kernel_rfl) ?_
          refine TS_know 26 (b := false) hb4 (by kernel_rfl) (by kernel_rfl) ?_
          refine TS_go 8 ?_
          replace h := condO h
          rcases h with ⟨hb5, h⟩ | ⟨hb5, h⟩
          · refine TS_know 32 (b := true) hb5 (by kernel_rfl) (by kernel_rfl) ?_
            refine TS_know 33 (b := true) hb5 (by kernel_rfl) (by kernel_rfl) ?_
            refine TS_T (by kernel_rfl) rfl ?_
            refine TS_go 7 ?_
            have ret := Option.some.inj h
            subst ret
            exact TS_ret (by kernel_rfl) (by kernel_rfl) (by kernel_rfl)
          · refine TS_know 32 (b := false) hb5 (by kernel_rfl) (by kernel_rfl) ?_
            refine TS_know 33 (b := false) hb5 (by kernel_rfl) (by kernel_rfl) ?_
            refine TS_F (by kernel_rfl) rfl ?_
            refine TS_go 11 ?_
            refine TS_cut ⟨[(0, []), (1, []), (2, []), (8, []), (9, [])], []⟩ (.mk [.code (codeAt [1, 1, 1, 0, 1, 0] (bodyOf Try.f71)), .blk 0, .code (codeAt [1, 1, 1, 1] (bodyOf Try.f71))] .normal ⟨[(0, .c (.slc 1 0 (List.length a0) (List.map (ecI .u8) a0))), (1, .c (.lit (.int .i64 (a1)))), (2, .c (.lit (.int .i64 (a2)))), (8, .c (.lit (.int .u64 (0)))), (9, .c (.lit (.int .i64 (0))))], []⟩) (by kernel_rfl) (by kernel_rfl) ?_
            replace h := bindO h
            obtain ⟨y8, hl1, hK1⟩ := h
            refine TS_loopB (F_ref01_Uint_l1 a2 a0 a1) ⟨[(0, []), (1, []), (2, []), (8, []), (9, [])], []⟩ (fun (s6 : Int × Int) => [(8, .c (.lit (.int .u64 (s6.1)))), (9, .c (.lit (.int .i64 (s6.2))))]) (fun (s6 : Int × Int) => []) (0, 0) y8 (.exit 0) (fun (b : Int) => b) ⟨[(8, [])], []⟩ (fun (b7 : Int) => [(8, .c (.lit (.int .u64 (b7))))]) (fun (b7 : Int) => []) hl1 (by kernel_rfl) (by kernel_rfl) ?_ ?_
            · intro s6 x h hy1
              unfold F_ref01_Uint_l1 at h
              refine TS_go 7 ?_
              replace h := condO h
              rcases h with ⟨hb9, h⟩ | ⟨hb9, h⟩
              · refine TS_know 36 (b := true) hb9 (by kernel_rfl) (by kernel_rfl) ?_
                refine TS_T (by kernel_rfl) rfl ?_
                refine TS_go 10 ?_
                replace h := bindO h
                obtain ⟨_e10, he10, h⟩ := h
                refine TS_idx (ecI .u8) he10 (by kernel_rfl) (by kernel_rfl) ?_
                refine TS_go 11 ?_
                have ret := Option.some.inj h
                subst ret
                exact TS_againB _ ⟨[(0, []), (1, []), (2, []), (8, []), (9, [])], []⟩ rfl (by kernel_rfl) (by kernel_rfl)
              · refine TS_know 36 (b := false) hb9 (by kernel_rfl) (by kernel_rfl) ?_
                refine TS_F (by kernel_rfl) rfl ?_
                refine TS_go 2 ?_
                have ret := Option.some.inj h
                subst ret
                exact TS_brkB s6.1 ⟨[(8, [])], []⟩ rfl (by kernel_rfl) (by kernel_rfl) (by kernel_rfl)
            · intro b7 hb
              subst y8
              have h := hK1
              refine TS_go 8 ?_
              have ret := Option.some.inj h
              subst ret
              exact TS_ret (by kernel_rfl) (by kernel_rfl) (by kernel_rfl)

/-- multihop/multihopref05.read -/
noncomputable def F_ref05_read (a0 : List Int) (a1 : Int) (a2 : Int) : Option (S_Addr × Int × Bool) :=
  bif (a2 == 0) then
    some (((S_Addr.mk a2 0 0), a1, true))
  else
    bif (a2 == 2) then
      (F_ref01_Uint a0 a1 2).bind fun v3 =>
      some (((S_Addr.mk a2 (IntKind.wrap .u16 v3.1) 0), IntKind.wrap .i64 (a1 + 2), v3.2))
    else
      bif (a2 == 3) then
        (F_ref01_Uint a0 a1 8).bind fun v5 =>
        some (((S_Addr.mk a2 0 v5.1), IntKind.wrap .i64 (a1 + 8), v5.2))
      else
        some (((S_Addr.mk a2 0 0), a1, false))
set_option maxRecDepth 100000 in
set_option maxHeartbeats 40000000 in
theorem ok_ref05_read (a0 : List Int) (a1 : Int) (a2 : Int) (r : S_Addr × Int × Bool) (h : F_ref05_read a0 a1 a2 = some r) : Con Try.prog 72 [.c (eS 1 (ecI .u8) (a0)), .c (.lit (.int .i64 (a1))), .c (.lit (.int .i64 (a2)))] [] (.tup [(true, S_Addr.cs r.1), (false, [.lit (.int .i64 (r.2.1))]), (false, [.lit (.bool (r.2.2))])]) [] := by
  unfold F_ref05_read at h
  refine con_of [] [] 52 Try.func72 rfl rfl (by kernel_rfl) (fun K => ?_)
  refine TS_go 24 ?_
  replace h := condO h
  rcases h with ⟨hb1, h⟩ | ⟨hb1, h⟩
  · refine TS_know 18 (b := true) hb1 (by kernel_rfl) (by kernel_rfl) ?_
    refine TS_know 17 (b := true) hb1 (by kernel_rfl) (by kernel_rfl) ?_
    refine TS_T (by kernel_rfl) rfl ?_
    refine TS_go 11 ?_
    have ret := Option.some.inj h
    subst ret
    exact TS_ret (by kernel_rfl) (by kernel_rfl) (by kernel_rfl)
  · refine TS_know 18 (b := false) hb1 (by kernel_rfl) (by kernel_rfl) ?_
    refine TS_know 17 (b := false) hb1 (by kernel_rfl) (by kernel_rfl) ?_
    refine TS_F (by kernel_rfl) rfl ?_
    refine TS_go 5 ?_
    replace h := condO h
    rcases h with ⟨hb2, h⟩ | ⟨hb2, h⟩
    · refine TS_know 22 (b := true) hb2 (by kernel_rfl) (by kernel_rfl) ?_
      refine TS_know 21 (b := true) hb2 (by kernel_rfl) (by kernel_rfl) ?_
      refine TS_T (by kernel_rfl) rfl ?_
      refine TS_go 4 ?_
      replace h := bindO h
      obtain ⟨v3, hv3, h⟩ := h
      refine TS_call [] (ok_ref01_Uint a0 a1 2 v3 hv3) (by kernel_rfl) (by kernel_rfl) ?_
      refine TS_go 26 ?_
      have ret := Option.some.inj h
      subst ret
      exact TS_ret (by kernel_rfl) (by kernel_rfl) (by kernel_rfl)
    · refine TS_know 22 (b := false) hb2 (by kernel_rfl) (by kernel_rfl) ?_
      refine TS_know 21 (b := false) hb2 (by kernel_rfl) (by kernel_rfl) ?_
      refine TS_F (by kernel_rfl) rfl ?_
      refine TS_go 5 ?_
      replace h := condO h
      rcases h with ⟨hb4, h⟩ | ⟨hb4, h⟩
      · refine TS_know 37 (b := true) hb4 (by kernel_rfl) (by kernel_rfl) ?_
        refine TS_know 36 (b := true) hb4 (by kernel_rfl) (by kernel_rfl) ?_
        refine TS_T (by kernel_rfl) rfl ?_
        refine TS_go 4 ?_
        replace h := bindO h
        obtain ⟨v5, hv5, h⟩ := h
        refine TS_call [] (ok_ref01_Uint a0 a1 8 v5 hv5) (by kernel_rfl) (by kernel_rfl) ?_
        refine TS_go 25 ?_
        have ret := Option.some.inj h
        subst ret
        exact TS_ret (by kernel_rfl) (by kernel_rfl) (by kernel_rfl)
      · refine TS_know 37 (b := false) hb4 (by kernel_rfl) (by kernel_rfl) ?_
        refine TS_know 36 (b := false) hb4 (by kernel_rfl) (by kernel_rfl) ?_
        refine TS_F (by kernel_rfl) rfl ?_
        refine TS_go 11 ?_
        have ret := Option.some.inj h
        subst ret
        exact TS_ret (by kernel_rfl) (by kernel_rfl) (by kernel_rfl)

/-- multihop/multihopref05.parse -/
noncomputable def F_ref05_parse_j2 (l1 : List Int) (v10 : Int × Int × S_Frame) : Option (S_Frame × Bool) :=
  (subO l1 v10.1 v10.2.1).bind fun l11 =>
  (appO 1 ([] : List Int) (Cut.app .whole l11)).bind fun l12 =>
  (subO l1 v10.2.1 (List.length l1 : Int)).bind fun l13 =>
  (appO 1 ([] : List Int) (Cut.app .whole l13)).bind fun l14 =>
  some (((S_Frame.mk v10.2.2.Kind v10.2.2.AckRequest v10.2.2.Pending v10.2.2.Secure v10.2.2.Seq v10.2.2.Pan v10.2.2.Dst v10.2.2.Src v10.2.2.Counter v10.2.2.Key l12 l14), true))
noncomputable def F_ref05_parse_j1 (l1 : List Int) (v7 : Int × Bool × Bool × S_Frame) : Option (S_Frame × Bool) :=
  bif v7.2.1 then
    bif v7.2.2.1 then
      bif v7.2.2.2.Secure then
        (F_ref01_Uint l1 v7.1 4).bind fun v16 =>
        (F_ref01_Uint l1 (IntKind.wrap .i64 (v7.1 + 4)) 1).bind fun v17 =>
        bif v16.2 then
          bif v17.2 then
            bif (decide ((IntKind.wrap .i64 ((List.length l1 : Int) - 4)) < (IntKind.wrap .i64 (v7.1 + 5)))) then
              some ((v7.2.2.2, false))
            else
              (F_ref05_parse_j2 l1) (IntKind.wrap .i64 (v7.1 + 5), IntKind.wrap .i64 ((List.length l1 : Int) - 4), (S_Frame.mk v7.2.2.2.Kind v7.2.2.2.AckRequest v7.2.2.2.Pending v7.2.2.2.Secure v7.2.2.2.Seq v7.2.2.2.Pan v7.2.2.2.Dst v7.2.2.2.Src (IntKind.wrap .u32 v16.1) (IntKind.wrap .u8 v17.1) v7.2.2.2.Payload v7.2.2.2.MIC))
          else
            some ((v7.2.2.2, false))
        else
          some ((v7.2.2.2, false))
      else
        (F_ref05_parse_j2 l1) (v7.1, (List.length l1 : Int), v7.2.2.2)
    else
      some ((v7.2.2.2, false))
  else
    some ((v7.2.2.2, false))
noncomputable def F_ref05_parse (a0 : List Int) : Option (S_Frame × Bool) :=
  (subO a0 0 (IntKind.wrap .i64 ((List.length a0 : Int) - 2))).bind fun l1 =>
  (idx l1 0).bind fun e2 =>
  (idx l1 0).bind fun e3 =>
  (idx l1 0).bind fun e4 =>
  (idx l1 0).bind fun e5 =>
  (idx l1 2).bind fun e6 =>
  bif ((iquo .i64 (IntKind.wrap .i64 e2) 64) != 2) then
    (F_ref01_Uint l1 3 2).bind fun v22 =>
    (idx l1 1).bind fun e23 =>
    (F_ref05_read l1 (IntKind.wrap .i64 (3 + 2)) (iquo .i64 (IntKind.wrap .i64 e23) 64)).bind fun v24 =>
    (idx l1 1).bind fun e25 =>
    (F_ref05_read l1 v24.2.1 (Int.tmod (iquo .i64 (IntKind.wrap .i64 e25) 16) 4)).bind fun v26 =>
    bif v24.2.2 then
      (F_ref05_parse_j1 l1) (v26.2.1, v22.2, v26.2.2, (S_Frame.mk (iquo .i64 (IntKind.wrap .i64 e2) 64) ((iand .u8 e3 32) != 0) ((iand .u8 e4 16) != 0) ((iand .u8 e5 8) != 0) e6 (IntKind.wrap .u16 v22.1) v24.1 v26.1 0 0 ([] : List Int) ([] : List Int)))
    else
      (F_ref05_parse_j1 l1) (v26.2.1, false, v26.2.2, (S_Frame.mk (iquo .i64 (IntKind.wrap .i64 e2) 64) ((iand .u8 e3 32) != 0) ((iand .u8 e4 16) != 0) ((iand .u8 e5 8) != 0) e6 (IntKind.wrap .u16 v22.1) v24.1 v26.1 0 0 ([] : List Int) ([] : List Int)))
  else
    (F_ref05_parse_j1 l1) (3, true, true, (S_Frame.mk (iquo .i64 (IntKind.wrap .i64 e2) 64) ((iand .u8 e3 32) != 0) ((iand .u8 e4 16) != 0) ((iand .u8 e5 8) != 0) e6 0 (S_Addr.mk 0 0 0) (S_Addr.mk 0 0 0) 0 0 ([] : List Int) ([] : List Int)))
set_option maxRecDepth 100000 in
set_option maxHeartbeats 40000000 in
theorem ok_ref05_parse (a0 : List Int) (r : S_Frame × Bool) (h : F_ref05_parse a0 = some r) : Con Try.prog 62 [.c (eS 1 (ecI .u8) (a0))] [] (.tup [(true, S_Frame.cs r.1), (false, [.lit (.bool (r.2))])]) [] := by
  unfold F_ref05_parse at h
  refine con_of [[0, 0, 0, 0, 0, 0, 0, 0, 0, 0, 0, 0, 0, 0, 2, 2]] [] 150 Try.func62 rfl rfl (by kernel_rfl) (fun K => ?_)
  refine TS_go 11 ?_
  replace h := bindO h
  obtain ⟨l1, hl1, h⟩ := h
  refine TS_sub (ecI .u8) 1 hl1 (by kernel_rfl) (by kernel_rfl) ?_
  refine TS_go 3 ?_
  refine TS_draw (by kernel_rfl) ?_
  refine TD_go 1 ?_
  replace h := bindO h
  obtain ⟨e2, he2, h⟩ := h
  refine TD_idx (ecI .u8) he2 (by kernel_rfl) (by kernel_rfl) ?_
  refine TD_go 4 ?_
  replace h := bindO h
  obtain ⟨e3, he3, h⟩ := h
  refine TD_idx (ecI .u8) he3 (by kernel_rfl) (by kernel_rfl) ?_
  refine TD_go 4 ?_
  replace h := bindO h
  obtain ⟨e4, he4, h⟩ := h
  refine TD_idx (ecI .u8) he4 (by kernel_rfl) (by kernel_rfl) ?_
  refine TD_go 4 ?_
  replace h := bindO h
  obtain ⟨e5, he5, h⟩ := h
  refine TD_idx (ecI .u8) he5 (by kernel_rfl) (by kernel_rfl) ?_
  refine TD_go 4 ?_
  replace h := bindO h
  obtain ⟨e6, he6, h⟩ := h
  refine TD_idx (ecI .u8) he6 (by kernel_rfl) (by kernel_rfl) ?_
  refine TD_go 4 ?_
  refine TD_end (by kernel_rfl) ?_
  refine TS_go 9 ?_
  refine TS_cut ⟨[(0, []), (2, []), (4, []), (5, []), (6, []), (7, [])], [(2, (2, [])), (4, (4, []))]⟩ (.mk [.code (codeAt [1, 1, 1, 1, 1] (bodyOf Try.f62))] .normal ⟨[(0, .c (.slc 1 0 (List.length l1) (List.map (ecI .u8) l1))), (2, .c (.box 2 0)), (4, .c (.box 4 0)), (5, .c (.lit (.int .i64 (3)))), (6, .c (.lit (.bool (true)))), (7, .c (.lit (.bool (true))))], [(2, .box [.lit (.int .i64 (0)), .lit (.bool (false)), .lit (.bool (false)), .lit (.bool (false)), .lit (.int .u8 (0)), .lit (.int .u16 (0)), .lit (.int .i64 (0)), .lit (.int .u16 (0)), .lit (.int .u64 (0)), .lit (.int .i64 (0)), .lit (.int .u16 (0)), .lit (.int .u64 (0)), .lit (.int .u32 (0)), .lit (.int .u8 (0)), .lit (.slice none 0 0), .lit (.slice none 0 0)]), (4, .box [.lit (.int .i64 (iquo .i64 (IntKind.wrap .i64 e2) 64)), .lit (.bool (((iand .u8 e3 32) != 0))), .lit (.bool (((iand .u8 e4 16) != 0))), .lit (.bool (((iand .u8 e5 8) != 0))), .lit (.int .u8 (e6)), .lit (.int .u16 (0)), .lit (.int .i64 (0)), .lit (.int .u16 (0)), .lit (.int .u64 (0)), .lit (.int .i64 (0)), .lit (.int .u16 (0)), .lit (.int .u64 (0)), .lit (.int .u32 (0)), .lit (.int .u8 (0)), .lit (.slice none 0 0), .lit (.slice none 0 0)])]⟩) (by kernel_rfl) (by kernel_rfl) ?_
  refine TS_joinB ⟨[(0, []), (2, []), (4, []), (5, []), (6, []), (7, [])], [(2, (2, [])), (4, (4, [0, 0, 0, 0, 0, 0, 0, 0, 0, 0, 0, 0, 0, 0, 2, 2]))]⟩ (fun (v7 : Int × Bool × Bool × S_Frame) => [(5, .c (.lit (.int .i64 (v7.1)))), (6, .c (.lit (.bool (v7.2.1)))), (7, .c (.lit (.bool (v7.2.2.1))))]) (fun (v7 : Int × Bool × Bool × S_Frame) => [(4, .box (S_Frame.cs v7.2.2.2))]) (F_ref05_parse_j1 l1) r ?_ ?_
  · clear h
    intro v7 h
    unfold F_ref05_parse_j1 at h
    refine TS_go 6 ?_
    replace h := condO h
    rcases h with ⟨hb8, h⟩ | ⟨hb8, h⟩
    · refine TS_know 6 (b := true) hb8 (by kernel_rfl) (by kernel_rfl) ?_
      refine TS_know 88 (b := true) hb8 (by kernel_rfl) (by kernel_rfl) ?_
      refine TS_know 89 (b := false) (notF hb8) (by kernel_rfl) (by kernel_rfl) ?_
      refine TS_know 90 (b := false) (notF hb8) (by kernel_rfl) (by kernel_rfl) ?_
      refine TS_go 4 ?_
      replace h := condO h
      rcases h with ⟨hb9, h⟩ | ⟨hb9, h⟩
      · refine TS_know 7 (b := true) hb9 (by kernel_rfl) (by kernel_rfl) ?_
        refine TS_know 91 (b := true) hb9 (by kernel_rfl) (by kernel_rfl) ?_
        refine TS_know 92 (b := false) (notF hb9) (by kernel_rfl) (by kernel_rfl) ?_
        refine TS_know 93 (b := false) (notF hb9) (by kernel_rfl) (by kernel_rfl) ?_
        refine TS_F (by kernel_rfl) rfl ?_
        refine TS_go 7 ?_
        refine TS_cut ⟨[(0, []), (2, []), (4, []), (5, []), (10, [])], [(2, (2, [])), (4, (4, []))]⟩ (.mk [.code (codeAt [1, 1, 1, 1, 1, 1, 1, 1] (bodyOf Try.f62))] .normal ⟨[(0, .c (.slc 1 0 (List.length l1) (List.map (ecI .u8) l1))), (2, .c (.box 2 0)), (4, .c (.box 4 0)), (5, .c (.lit (.int .i64 (v7.1)))), (10, .c (.lit (.int .i64 ((List.length l1 : Int)))))], [(2, .box [.lit (.int .i64 (0)), .lit (.bool (false)), .lit (.bool (false)), .lit (.bool (false)), .lit (.int .u8 (0)), .lit (.int .u16 (0)), .lit (.int .i64 (0)), .lit (.int .u16 (0)), .lit (.int .u64 (0)), .lit (.int .i64 (0)), .lit (.int .u16 (0)), .lit (.int .u64 (0)), .lit (.int .u32 (0)), .lit (.int .u8 (0)), .lit (.slice none 0 0), .lit (.slice none 0 0)]), (4, .box [.lit (.int .i64 (v7.2.2.2.Kind)), .lit (.bool (v7.2.2.2.AckRequest)), .lit (.bool (v7.2.2.2.Pending)), .lit (.bool (v7.2.2.2.Secure)), .lit (.int .u8 (v7.2.2.2.Seq)), .lit (.int .u16 (v7.2.2.2.Pan)), .lit (.int .i64 (v7.2.2.2.Dst.Mode)), .lit (.int .u16 (v7.2.2.2.Dst.Short)), .lit (.int .u64 (v7.2.2.2.Dst.EUI)), .lit (.int .i64 (v7.2.2.2.Src.Mode)), .lit (.int .u16 (v7.2.2.2.Src.Short)), .lit (.int .u64 (v7.2.2.2.Src.EUI)), .lit (.int .u32 (v7.2.2.2.Counter)), .lit (.int .u8 (v7.2.2.2.Key)), .slc 1 0 (List.length v7.2.2.2.Payload) (List.map (ecI .u8) v7.2.2.2.Payload), .slc 1 0 (List.length v7.2.2.2.MIC) (List.map (ecI .u8) v7.2.2.2.MIC)])]⟩) (by kernel_rfl) (by kernel_rfl) ?_
        refine TS_joinB ⟨[(0, []), (2, []), (4, []), (5, []), (10, [])], [(2, (2, [])), (4, (4, []))]⟩ (fun (v10 : Int × Int × S_Frame) => [(5, .c (.lit (.int .i64 (v10.1)))), (10, .c (.lit (.int .i64 (v10.2.1))))]) (fun (v10 : Int × Int × S_Frame) => [(4, .box (S_Frame.cs v10.2.2))]) (F_ref05_parse_j2 l1) r ?_ ?_
        · clear h
          intro v10 h
          unfold F_ref05_parse_j2 at h
          refine TS_go 2 ?_
          refine TS_litNT 136 5 1 (ecI .u8) [] ([] : List Int) (by kernel_rfl) (by kernel_rfl) ?_
          refine TS_go 3 ?_
          replace h := bindO h
          obtain ⟨l11, hl11, h⟩ := h
          refine TS_sub (ecI .u8) 1 hl11 (by kernel_rfl) (by kernel_rfl) ?_
          replace h := bindO h
          obtain ⟨_l12, hl12, h⟩ := h
          refine TS_appT (d := 136) (e := 5) (sz := 1) (N := List.length ([] : List Int)) (ecI .u8) (fun _ => by kernel_rfl) (l1 := ([] : List Int)) (l2 := l11) (c := .whole) hl12 (by kernel_rfl) (by kernel_rfl) ?_
          refine TS_go 5 ?_
          refine TS_litNT 143 5 1 (ecI .u8) [] ([] : List Int) (by kernel_rfl) (by kernel_rfl) ?_
          refine TS_go 2 ?_
          replace h := bindO h
          obtain ⟨l13, hl13, h⟩ := h
          refine TS_sub (ecI .u8) 1 hl13 (by kernel_rfl) (by kernel_rfl) ?_
          replace h := bindO h
          obtain ⟨_l14, hl14, h⟩ := h
          refine TS_appT (d := 143) (e := 5) (sz := 1) (N := List.length ([] : List Int)) (ecI .u8) (fun _ => by kernel_rfl) (l1 := ([] : List Int)) (l2 := l13) (c := .whole) hl14 (by kernel_rfl) (by kernel_rfl) ?_
          refine TS_go 10 ?_
          have ret := Option.some.inj h
          subst ret
          exact TS_ret (by kernel_rfl) (by kernel_rfl) (by kernel_rfl)
        · refine TS_go 5 ?_
          replace h := condO h
          rcases h with ⟨hb15, h⟩ | ⟨hb15, h⟩
          · refine TS_know 98 (b := true) hb15 (by kernel_rfl) (by kernel_rfl) ?_
            refine TS_T (by kernel_rfl) rfl ?_
            refine TS_go 4 ?_
            replace h := bindO h
            obtain ⟨v16, hv16, h⟩ := h
            refine TS_call [] (ok_ref01_Uint l1 v7.1 4 v16 hv16) (by kernel_rfl) (by kernel_rfl) ?_
            refine TS_go 11 ?_
            replace h := bindO h
            obtain ⟨v17, hv17, h⟩ := h
            refine TS_call [] (ok_ref01_Uint l1 (IntKind.wrap .i64 (v7.1 + 4)) 1 v17 hv17) (by kernel_rfl) (by kernel_rfl) ?_
            refine TS_go 12 ?_
            replace h := condO h
            rcases h with ⟨hb18, h⟩ | ⟨hb18, h⟩
            · refine TS_know 104 (b := true) hb18 (by kernel_rfl) (by kernel_rfl) ?_
              refine TS_know 12 (b := true) hb18 (by kernel_rfl) (by kernel_rfl) ?_
              refine TS_know 112 (b := true) hb18 (by kernel_rfl) (by kernel_rfl) ?_
              refine TS_know 113 (b := false) (notF hb18) (by kernel_rfl) (by kernel_rfl) ?_
              refine TS_know 114 (b := false) (notF hb18) (by kernel_rfl) (by kernel_rfl) ?_
              refine TS_go 4 ?_
              replace h := condO h
              rcases h with ⟨hb19, h⟩ | ⟨hb19, h⟩
              · refine TS_know 111 (b := true) hb19 (by kernel_rfl) (by kernel_rfl) ?_
                refine TS_know 14 (b := true) hb19 (by kernel_rfl) (by kernel_rfl) ?_
                refine TS_know 115 (b := true) hb19 (by kernel_rfl) (by kernel_rfl) ?_
                refine TS_know 116 (b := false) (notF hb19) (by kernel_rfl) (by kernel_rfl) ?_
                refine TS_know 117 (b := false) (notF hb19) (by kernel_rfl) (by kernel_rfl) ?_
                refine TS_know 118 (b := false) (notF hb19) (by kernel_rfl) (by kernel_rfl) ?_
                refine TS_go 7 ?_
                replace h := condO h
                rcases h with ⟨hb20, h⟩ | ⟨hb20, h⟩
                · refine TS_know 123 (b := true) hb20 (by kernel_rfl) (by kernel_rfl) ?_
                  refine TS_know 124 (b := true) hb20 (by kernel_rfl) (by kernel_rfl) ?_
                  refine TS_T (by kernel_rfl) rfl ?_
                  refine TS_go 8 ?_
                  refine TS_outJ (by kernel_rfl) ?_
                  have ret := Option.some.inj h
                  subst ret
                  exact TS_ret (by kernel_rfl) (by kernel_rfl) (by kernel_rfl)
                · refine TS_know 123 (b := false) hb20 (by kernel_rfl) (by kernel_rfl) ?_
                  refine TS_know 124 (b := false) hb20 (by kernel_rfl) (by kernel_rfl) ?_
                  refine TS_F (by kernel_rfl) rfl ?_
                  refine TS_go 20 ?_
                  exact TS_meet (IntKind.wrap .i64 (v7.1 + 5), IntKind.wrap .i64 ((List.length l1 : Int) - 4), (S_Frame.mk v7.2.2.2.Kind v7.2.2.2.AckRequest v7.2.2.2.Pending v7.2.2.2.Secure v7.2.2.2.Seq v7.2.2.2.Pan v7.2.2.2.Dst v7.2.2.2.Src (IntKind.wrap .u32 v16.1) (IntKind.wrap .u8 v17.1) v7.2.2.2.Payload v7.2.2.2.MIC)) ⟨[(0, []), (2, []), (4, []), (5, []), (10, [])], [(2, (2, [])), (4, (4, []))]⟩ h (by kernel_rfl) (by kernel_rfl)
              · refine TS_know 111 (b := false) hb19 (by kernel_rfl) (by kernel_rfl) ?_
                refine TS_know 14 (b := false) hb19 (by kernel_rfl) (by kernel_rfl) ?_
                refine TS_know 115 (b := false) hb19 (by kernel_rfl) (by kernel_rfl) ?_
                refine TS_know 116 (b := true) (notT hb19) (by kernel_rfl) (by kernel_rfl) ?_
                refine TS_know 117 (b := true) (notT hb19) (by kernel_rfl) (by kernel_rfl) ?_
                refine TS_know 118 (b := true) (notT hb19) (by kernel_rfl) (by kernel_rfl) ?_
                refine TS_go 7 ?_
                refine TS_T (by kernel_rfl) rfl ?_
                refine TS_go 8 ?_
                refine TS_outJ (by kernel_rfl) ?_
                have ret := Option.some.inj h
                subst ret
                exact TS_ret (by kernel_rfl) (by kernel_rfl) (by kernel_rfl)
            · refine TS_know 104 (b := false) hb18 (by kernel_rfl) (by kernel_rfl) ?_
              refine TS_know 12 (b := false) hb18 (by kernel_rfl) (by kernel_rfl) ?_
              refine TS_know 112 (b := false) hb18 (by kernel_rfl) (by kernel_rfl) ?_
              refine TS_know 113 (b := true) (notT hb18) (by kernel_rfl) (by kernel_rfl) ?_
              refine TS_know 114 (b := true) (notT hb18) (by kernel_rfl) (by kernel_rfl) ?_
              refine TS_go 11 ?_
              refine TS_T (by kernel_rfl) rfl ?_
              refine TS_go 8 ?_
              refine TS_outJ (by kernel_rfl) ?_
              have ret := Option.some.inj h
              subst ret
              exact TS_ret (by kernel_rfl) (by kernel_rfl) (by kernel_rfl)
          · refine TS_know 98 (b := false) hb15 (by kernel_rfl) (by kernel_rfl) ?_
            refine TS_F (by kernel_rfl) rfl ?_
            refine TS_go 1 ?_
            exact TS_meet (v7.1, (List.length l1 : Int), v7.2.2.2) ⟨[(0, []), (2, []), (4, []), (5, []), (10, [])], [(2, (2, [])), (4, (4, []))]⟩ h (by kernel_rfl) (by kernel_rfl)
      · refine TS_know 7 (b := false) hb9 (by kernel_rfl) (by kernel_rfl) ?_
        refine TS_know 91 (b := false) hb9 (by kernel_rfl) (by kernel_rfl) ?_
        refine TS_know 92 (b := true) (notT hb9) (by kernel_rfl) (by kernel_rfl) ?_
        refine TS_know 93 (b := true) (notT hb9) (by kernel_rfl) (by kernel_rfl) ?_
        refine TS_T (by kernel_rfl) rfl ?_
        refine TS_go 8 ?_
        have ret := Option.some.inj h
        subst ret
        exact TS_ret (by kernel_rfl) (by kernel_rfl) (by kernel_rfl)
    · refine TS_know 6 (b := false) hb8 (by kernel_rfl) (by kernel_rfl) ?_
      refine TS_know 88 (b := false) hb8 (by kernel_rfl) (by kernel_rfl) ?_
      refine TS_know 89 (b := true) (notT hb8) (by kernel_rfl) (by kernel_rfl) ?_
      refine TS_know 90 (b := true) (notT hb8) (by kernel_rfl) (by kernel_rfl) ?_
      refine TS_go 4 ?_
      refine TS_T (by kernel_rfl) rfl ?_
      refine TS_go 8 ?_
      have ret := Option.some.inj h
      subst ret
      exact TS_ret (by kernel_rfl) (by kernel_rfl) (by kernel_rfl)
  · refine TS_go 6 ?_
    replace h := condO h
    rcases h with ⟨hb21, h⟩ | ⟨hb21, h⟩
    · refine TS_know 46 (b := true) hb21 (by kernel_rfl) (by kernel_rfl) ?_
      refine TS_T (by kernel_rfl) rfl ?_
      refine TS_go 4 ?_
      replace h := bindO h
      obtain ⟨v22, hv22, h⟩ := h
      refine TS_call [] (ok_ref01_Uint l1 3 2 v22 hv22) (by kernel_rfl) (by kernel_rfl) ?_
      refine TS_go 19 ?_
      replace h := bindO h
      obtain ⟨e23, he23, h⟩ := h
      refine TS_idx (ecI .u8) he23 (by kernel_rfl) (by kernel_rfl) ?_
      refine TS_go 3 ?_
      replace h := bindO h
      obtain ⟨v24, hv24, h⟩ := h
      refine TS_call [] (ok_ref05_read l1 (IntKind.wrap .i64 (3 + 2)) (iquo .i64 (IntKind.wrap .i64 e23) 64) v24 hv24) (by kernel_rfl) (by kernel_rfl) ?_
      refine TS_go 14 ?_
      replace h := bindO h
      obtain ⟨e25, he25, h⟩ := h
      refine TS_idx (ecI .u8) he25 (by kernel_rfl) (by kernel_rfl) ?_
      refine TS_go 4 ?_
      replace h := bindO h
      obtain ⟨v26, hv26, h⟩ := h
      refine TS_call [] (ok_ref05_read l1 v24.2.1 (Int.tmod (iquo .i64 (IntKind.wrap .i64 e25) 16) 4) v26 hv26) (by kernel_rfl) (by kernel_rfl) ?_
      refine TS_go 12 ?_
      replace h := condO h
      rcases h with ⟨hb27, h⟩ | ⟨hb27, h⟩
      · refine TS_know 6 (b := true) hb27 (by kernel_rfl) (by kernel_rfl) ?_
        refine TS_know 68 (b := true) hb27 (by kernel_rfl) (by kernel_rfl) ?_
        refine TS_know 84 (b := true) hb27 (by kernel_rfl) (by kernel_rfl) ?_
        refine TS_know 85 (b := true) hb27 (by kernel_rfl) (by kernel_rfl) ?_
        refine TS_go 4 ?_
        exact TS_meet (v26.2.1, v22.2, v26.2.2, (S_Frame.mk (iquo .i64 (IntKind.wrap .i64 e2) 64) ((iand .u8 e3 32) != 0) ((iand .u8 e4 16) != 0) ((iand .u8 e5 8) != 0) e6 (IntKind.wrap .u16 v22.1) v24.1 v26.1 0 0 ([] : List Int) ([] : List Int))) ⟨[(0, []), (2, []), (4, []), (5, []), (6, []), (7, [])], [(2, (2, [])), (4, (4, [0, 0, 0, 0, 0, 0, 0, 0, 0, 0, 0, 0, 0, 0, 2, 2]))]⟩ h (by kernel_rfl) (by kernel_rfl)
      · refine TS_know 6 (b := false) hb27 (by kernel_rfl) (by kernel_rfl) ?_
        refine TS_know 68 (b := false) hb27 (by kernel_rfl) (by kernel_rfl) ?_
        refine TS_know 84 (b := false) hb27 (by kernel_rfl) (by kernel_rfl) ?_
        refine TS_know 85 (b := false) hb27 (by kernel_rfl) (by kernel_rfl) ?_
        refine TS_go 4 ?_
        exact TS_meet (v26.2.1, false, v26.2.2, (S_Frame.mk (iquo .i64 (IntKind.wrap .i64 e2) 64) ((iand .u8 e3 32) != 0) ((iand .u8 e4 16) != 0) ((iand .u8 e5 8) != 0) e6 (IntKind.wrap .u16 v22.1) v24.1 v26.1 0 0 ([] : List Int) ([] : List Int))) ⟨[(0, []), (2, []), (4, []), (5, []), (6, []), (7, [])], [(2, (2, [])), (4, (4, [0, 0, 0, 0, 0, 0, 0, 0, 0, 0, 0, 0, 0, 0, 2, 2]))]⟩ h (by kernel_rfl) (by kernel_rfl)
    · refine TS_know 46 (b := false) hb21 (by kernel_rfl) (by kernel_rfl) ?_
      refine TS_F (by kernel_rfl) rfl ?_
      refine TS_go 1 ?_
      exact TS_meet (3, true, true, (S_Frame.mk (iquo .i64 (IntKind.wrap .i64 e2) 64) ((iand .u8 e3 32) != 0) ((iand .u8 e4 16) != 0) ((iand .u8 e5 8) != 0) e6 0 (S_Addr.mk 0 0 0) (S_Addr.mk 0 0 0) 0 0 ([] : List Int) ([] : List Int))) ⟨[(0, []), (2, []), (4, []), (5, []), (6, []), (7, [])], [(2, (2, [])), (4, (4, [0, 0, 0, 0, 0, 0, 0, 0, 0, 0, 0, 0, 0, 0, 2, 2]))]⟩ h (by kernel_rfl) (by kernel_rfl)

/-- multihop/multihopref01.Same -/
noncomputable def F_ref01_Same_l1 (a0 : List Int) (a1 : List Int) (s2 : Int) : Option ((Int) ⊕ ((Unit) ⊕ (Bool))) :=
  bif (decide (s2 < (List.length a0 : Int))) then
    (idx a0 s2).bind fun e6 =>
    (idx a1 s2).bind fun e7 =>
    bif (e6 != e7) then
      some (Sum.inr (Sum.inr false))
    else
      some (Sum.inl (IntKind.wrap .i64 (s2 + 1)))
  else
    some (Sum.inr (Sum.inl ()))
noncomputable def F_ref01_Same (a0 : List Int) (a1 : List Int) : Option (Bool) :=
  bif ((List.length a0 : Int) != (List.length a1 : Int)) then
    some (false)
  else
    (loopO (F_ref01_Same_l1 a0 a1) 0).bind (Sum.elim (fun b3 =>
      some (true)
    ) (fun w9 => some w9))
set_option maxRecDepth 100000 in
set_option maxHeartbeats 40000000 in
theorem ok_ref01_Same (a0 : List Int) (a1 : List Int) (r : Bool) (h : F_ref01_Same a0 a1 = some r) : Con Try.prog 20 [.c (eS 1 (ecI .u8) (a0)), .c (eS 1 (ecI .u8) (a1))] [] (.c (.lit (.bool (r)))) [] := by
  unfold F_ref01_Same at h
  refine con_of [] [] 26 Try.func20 rfl rfl (by kernel_rfl) (fun K => ?_)
  refine TS_go 13 ?_
  replace h := condO h
  rcases h with ⟨hb1, h⟩ | ⟨hb1, h⟩
  · refine TS_know 10 (b := true) hb1 (by kernel_rfl) (by kernel_rfl) ?_
    refine TS_T (by kernel_rfl) rfl ?_
    refine TS_go 6 ?_
    have ret := Option.some.inj h
    subst ret
    exact TS_ret (by kernel_rfl) (by kernel_rfl) (by kernel_rfl)
  · refine TS_know 10 (b := false) hb1 (by kernel_rfl) (by kernel_rfl) ?_
    refine TS_F (by kernel_rfl) rfl ?_
    refine TS_go 7 ?_
    refine TS_cut ⟨[(0, []), (1, []), (5, [])], []⟩ (.mk [.code (codeAt [1, 1, 0, 1, 0] (bodyOf Try.f20)), .blk 0, .code (codeAt [1, 1, 1] (bodyOf Try.f20))] .normal ⟨[(0, .c (.slc 1 0 (List.length a0) (List.map (ecI .u8) a0))), (1, .c (.slc 1 0 (List.length a1) (List.map (ecI .u8) a1))), (5, .c (.lit (.int .i64 (0))))], []⟩) (by kernel_rfl) (by kernel_rfl) ?_
    replace h := bindO h
    obtain ⟨y4, hl1, hK1⟩ := h
    refine TS_loopB (F_ref01_Same_l1 a0 a1) ⟨[(0, []), (1, []), (5, [])], []⟩ (fun (s2 : Int) => [(5, .c (.lit (.int .i64 (s2))))]) (fun (s2 : Int) => []) 0 y4 (.exit 0) (fun (b : Unit) => (Sum.inl b : (Unit) ⊕ (Bool))) ⟨[], []⟩ (fun (b3 : Unit) => []) (fun (b3 : Unit) => []) hl1 (by kernel_rfl) (by kernel_rfl) ?_ ?_
    · intro s2 x h hy1
      unfold F_ref01_Same_l1 at h
      refine TS_go 8 ?_
      replace h := condO h
      rcases h with ⟨hb5, h⟩ | ⟨hb5, h⟩
      · refine TS_know 14 (b := true) hb5 (by kernel_rfl) (by kernel_rfl) ?_
        refine TS_T (by kernel_rfl) rfl ?_
        refine TS_go 4 ?_
        refine TS_draw (by kernel_rfl) ?_
        refine TD_go 2 ?_
        replace h := bindO h
        obtain ⟨_e6, he6, h⟩ := h
        refine TD_idx (ecI .u8) he6 (by kernel_rfl) (by kernel_rfl) ?_
        refine TD_go 3 ?_
        replace h := bindO h
        obtain ⟨_e7, he7, h⟩ := h
        refine TD_idx (ecI .u8) he7 (by kernel_rfl) (by kernel_rfl) ?_
        refine TD_go 2 ?_
        refine TD_end (by kernel_rfl) ?_
        replace h := condO h
        rcases h with ⟨hb8, h⟩ | ⟨hb8, h⟩
        · refine TS_know 25 (b := true) hb8 (by kernel_rfl) (by kernel_rfl) ?_
          refine TS_T (by kernel_rfl) rfl ?_
          refine TS_go 7 ?_
          have ret := Option.some.inj h
          subst ret
          have hy1q := hy1 _ rfl
          subst hy1q
          replace h := (elimR hK1)
          refine TS_retB rfl (by kernel_rfl) ?_
          refine TS_go 2 ?_
          have ret := Option.some.inj h
          subst ret
          exact TS_ret (by kernel_rfl) (by kernel_rfl) (by kernel_rfl)
        · refine TS_know 25 (b := false) hb8 (by kernel_rfl) (by kernel_rfl) ?_
          refine TS_F (by kernel_rfl) rfl ?_
          refine TS_go 7 ?_
          have ret := Option.some.inj h
          subst ret
          exact TS_againB _ ⟨[(0, []), (1, []), (5, [])], []⟩ rfl (by kernel_rfl) (by kernel_rfl)
      · refine TS_know 14 (b := false) hb5 (by kernel_rfl) (by kernel_rfl) ?_
        refine TS_F (by kernel_rfl) rfl ?_
        refine TS_go 2 ?_
        have ret := Option.some.inj h
        subst ret
        exact TS_brkB () ⟨[], []⟩ rfl (by kernel_rfl) (by kernel_rfl) (by kernel_rfl)
    · intro b3 hb
      subst y4
      have h := elimL hK1
      refine TS_go 6 ?_
      have ret := Option.some.inj h
      subst ret
      exact TS_ret (by kernel_rfl) (by kernel_rfl) (by kernel_rfl)

end Go.Proofs.Ytohfnlkjdjmipaa
