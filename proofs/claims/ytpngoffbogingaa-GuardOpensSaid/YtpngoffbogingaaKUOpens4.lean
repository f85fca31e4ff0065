/-
  Part 4 of what the proof of this law rests on.
-/
import Derived.Test.YtpngoffbogingaaKUOpens3
namespace Go.Proofs.Ytpngoffbogingaa
section
open Go.RowKit
attribute [local irreducible] TS go TD goD

/-- multihop/multihopref05.Valid -/
noncomputable def F_ref05_Valid_j1 (a0 : S_Frame) (v10 : Bool) : Option (Bool) :=
  bif v10 then
    (F_ref04_Some a0.Dst).bind fun v12 =>
    bif v12 then
      (F_ref04_One a0.Src).bind fun v14 =>
      bif v14 then
        bif a0.AckRequest then
          (F_ref04_IsBroadcast a0.Dst).bind fun v17 =>
          bif v17 then
            some (false)
          else
            bif a0.Secure then
              bif ((List.length a0.MIC : Int) != 4) then
                some (false)
              else
                (F_ref05_header a0).bind fun v21 =>
                some ((decide ((IntKind.wrap .i64 ((IntKind.wrap .i64 ((List.length v21 : Int) + (List.length a0.MIC : Int))) + 2)) ≤ 127)))
            else
              bif (a0.Counter != 0) then
                some (false)
              else
                bif (a0.Key != 0) then
                  some (false)
                else
                  bif ((List.length a0.MIC : Int) != 0) then
                    some (false)
                  else
                    (F_ref05_header a0).bind fun v25 =>
                    some ((decide ((IntKind.wrap .i64 ((IntKind.wrap .i64 ((List.length v25 : Int) + (List.length a0.MIC : Int))) + 2)) ≤ 127)))
        else
          bif a0.Secure then
            bif ((List.length a0.MIC : Int) != 4) then
              some (false)
            else
              (F_ref05_header a0).bind fun v28 =>
              some ((decide ((IntKind.wrap .i64 ((IntKind.wrap .i64 ((List.length v28 : Int) + (List.length a0.MIC : Int))) + 2)) ≤ 127)))
          else
            bif (a0.Counter != 0) then
              some (false)
            else
              bif (a0.Key != 0) then
                some (false)
              else
                bif ((List.length a0.MIC : Int) != 0) then
                  some (false)
                else
                  (F_ref05_header a0).bind fun v32 =>
                  some ((decide ((IntKind.wrap .i64 ((IntKind.wrap .i64 ((List.length v32 : Int) + (List.length a0.MIC : Int))) + 2)) ≤ 127)))
      else
        some (false)
    else
      some (false)
  else
    some (false)
noncomputable def F_ref05_Valid (a0 : S_Frame) : Option (Bool) :=
  bif (a0.Kind == 2) then
    bif a0.AckRequest then
      some (false)
    else
      bif a0.Secure then
        some (false)
      else
        bif (a0.Pan == 0) then
          bif (a0.Counter == 0) then
            bif (a0.Key == 0) then
              bif (S_Addr.eqb a0.Dst (S_Addr.mk 0 0 0)) then
                bif (S_Addr.eqb a0.Src (S_Addr.mk 0 0 0)) then
                  bif ((List.length a0.Payload : Int) == 0) then
                    some (((List.length a0.MIC : Int) == 0))
                  else
                    some (false)
                else
                  some (false)
              else
                some (false)
            else
              some (false)
          else
            some (false)
        else
          some (false)
  else
    bif (a0.Kind == 1) then
      (F_ref05_Valid_j1 a0) true
    else
      (F_ref05_Valid_j1 a0) (a0.Kind == 3)
set_option maxRecDepth 100000 in
set_option maxHeartbeats 40000000 in
theorem ok_ref05_Valid (a0 : S_Frame) (r : Bool) (h : F_ref05_Valid a0 = some r) : Con Try.prog 47 [.agg (S_Frame.cs a0)] [] (.c (.lit (.bool (r)))) [] := by
  unfold F_ref05_Valid at h
  refine con_of [] [] 114 Try.func47 rfl rfl (by kernel_rfl) (fun K => ?_)
  refine TS_go 17 ?_
  replace h := condO h
  rcases h with ⟨hb1, h⟩ | ⟨hb1, h⟩
  · refine TS_know 6 (b := true) hb1 (by kernel_rfl) (by kernel_rfl) ?_
    refine TS_know 5 (b := true) hb1 (by kernel_rfl) (by kernel_rfl) ?_
    refine TS_T (by kernel_rfl) rfl ?_
    refine TS_go 6 ?_
    replace h := condO h
    rcases h with ⟨hb2, h⟩ | ⟨hb2, h⟩
    · refine TS_know 8 (b := true) hb2 (by kernel_rfl) (by kernel_rfl) ?_
      refine TS_know 9 (b := false) (notF hb2) (by kernel_rfl) (by kernel_rfl) ?_
      refine TS_know 10 (b := false) (notF hb2) (by kernel_rfl) (by kernel_rfl) ?_
      refine TS_go 48 ?_
      have ret := Option.some.inj h
      subst ret
      exact TS_ret (by kernel_rfl) (by kernel_rfl) (by kernel_rfl)
    · refine TS_know 8 (b := false) hb2 (by kernel_rfl) (by kernel_rfl) ?_
      refine TS_know 9 (b := true) (notT hb2) (by kernel_rfl) (by kernel_rfl) ?_
      refine TS_know 10 (b := true) (notT hb2) (by kernel_rfl) (by kernel_rfl) ?_
      refine TS_go 5 ?_
      replace h := condO h
      rcases h with ⟨hb3, h⟩ | ⟨hb3, h⟩
      · refine TS_know 12 (b := true) hb3 (by kernel_rfl) (by kernel_rfl) ?_
        refine TS_know 13 (b := false) (notF hb3) (by kernel_rfl) (by kernel_rfl) ?_
        refine TS_know 14 (b := false) (notF hb3) (by kernel_rfl) (by kernel_rfl) ?_
        refine TS_know 15 (b := false) (notF hb3) (by kernel_rfl) (by kernel_rfl) ?_
        refine TS_go 43 ?_
        have ret := Option.some.inj h
        subst ret
        exact TS_ret (by kernel_rfl) (by kernel_rfl) (by kernel_rfl)
      · refine TS_know 12 (b := false) hb3 (by kernel_rfl) (by kernel_rfl) ?_
        refine TS_know 13 (b := true) (notT hb3) (by kernel_rfl) (by kernel_rfl) ?_
        refine TS_know 14 (b := true) (notT hb3) (by kernel_rfl) (by kernel_rfl) ?_
        refine TS_know 15 (b := true) (notT hb3) (by kernel_rfl) (by kernel_rfl) ?_
        refine TS_go 5 ?_
        replace h := condO h
        rcases h with ⟨hb4, h⟩ | ⟨hb4, h⟩
        · refine TS_know 18 (b := true) hb4 (by kernel_rfl) (by kernel_rfl) ?_
          refine TS_know 19 (b := true) hb4 (by kernel_rfl) (by kernel_rfl) ?_
          refine TS_know 20 (b := true) hb4 (by kernel_rfl) (by kernel_rfl) ?_
          refine TS_go 5 ?_
          replace h := condO h
          rcases h with ⟨hb5, h⟩ | ⟨hb5, h⟩
          · refine TS_know 23 (b := true) hb5 (by kernel_rfl) (by kernel_rfl) ?_
            refine TS_know 24 (b := true) hb5 (by kernel_rfl) (by kernel_rfl) ?_
            refine TS_know 25 (b := true) hb5 (by kernel_rfl) (by kernel_rfl) ?_
            refine TS_go 5 ?_
            replace h := condO h
            rcases h with ⟨hb6, h⟩ | ⟨hb6, h⟩
            · refine TS_know 28 (b := true) hb6 (by kernel_rfl) (by kernel_rfl) ?_
              refine TS_know 29 (b := true) hb6 (by kernel_rfl) (by kernel_rfl) ?_
              refine TS_know 30 (b := true) hb6 (by kernel_rfl) (by kernel_rfl) ?_
              refine TS_go 6 ?_
              replace h := condO h
              rcases h with ⟨hb7, h⟩ | ⟨hb7, h⟩
              · refine TS_know 34 (b := true) hb7 (by kernel_rfl) (by kernel_rfl) ?_
                refine TS_know 35 (b := true) hb7 (by kernel_rfl) (by kernel_rfl) ?_
                refine TS_know 36 (b := true) hb7 (by kernel_rfl) (by kernel_rfl) ?_
                refine TS_go 6 ?_
                replace h := condO h
                rcases h with ⟨hb8, h⟩ | ⟨hb8, h⟩
                · refine TS_know 40 (b := true) hb8 (by kernel_rfl) (by kernel_rfl) ?_
                  refine TS_know 41 (b := true) hb8 (by kernel_rfl) (by kernel_rfl) ?_
                  refine TS_know 42 (b := true) hb8 (by kernel_rfl) (by kernel_rfl) ?_
                  refine TS_go 6 ?_
                  replace h := condO h
                  rcases h with ⟨hb9, h⟩ | ⟨hb9, h⟩
                  · refine TS_know 46 (b := true) hb9 (by kernel_rfl) (by kernel_rfl) ?_
                    refine TS_know 47 (b := true) hb9 (by kernel_rfl) (by kernel_rfl) ?_
                    refine TS_know 48 (b := true) hb9 (by kernel_rfl) (by kernel_rfl) ?_
                    refine TS_go 10 ?_
                    have ret := Option.some.inj h
                    subst ret
                    exact TS_ret (by kernel_rfl) (by kernel_rfl) (by kernel_rfl)
                  · refine TS_know 46 (b := false) hb9 (by kernel_rfl) (by kernel_rfl) ?_
                    refine TS_know 47 (b := false) hb9 (by kernel_rfl) (by kernel_rfl) ?_
                    refine TS_know 48 (b := false) hb9 (by kernel_rfl) (by kernel_rfl) ?_
                    refine TS_go 10 ?_
                    have ret := Option.some.inj h
                    subst ret
                    exact TS_ret (by kernel_rfl) (by kernel_rfl) (by kernel_rfl)
                · refine TS_know 40 (b := false) hb8 (by kernel_rfl) (by kernel_rfl) ?_
                  refine TS_know 41 (b := false) hb8 (by kernel_rfl) (by kernel_rfl) ?_
                  refine TS_know 42 (b := false) hb8 (by kernel_rfl) (by kernel_rfl) ?_
                  refine TS_go 16 ?_
                  have ret := Option.some.inj h
                  subst ret
                  exact TS_ret (by kernel_rfl) (by kernel_rfl) (by kernel_rfl)
              · refine TS_know 34 (b := false) hb7 (by kernel_rfl) (by kernel_rfl) ?_
                refine TS_know 35 (b := false) hb7 (by kernel_rfl) (by kernel_rfl) ?_
                refine TS_know 36 (b := false) hb7 (by kernel_rfl) (by kernel_rfl) ?_
                refine TS_go 22 ?_
                have ret := Option.some.inj h
                subst ret
                exact TS_ret (by kernel_rfl) (by kernel_rfl) (by kernel_rfl)
            · refine TS_know 28 (b := false) hb6 (by kernel_rfl) (by kernel_rfl) ?_
              refine TS_know 29 (b := false) hb6 (by kernel_rfl) (by kernel_rfl) ?_
              refine TS_know 30 (b := false) hb6 (by kernel_rfl) (by kernel_rfl) ?_
              refine TS_go 28 ?_
              have ret := Option.some.inj h
              subst ret
              exact TS_ret (by kernel_rfl) (by kernel_rfl) (by kernel_rfl)
          · refine TS_know 23 (b := false) hb5 (by kernel_rfl) (by kernel_rfl) ?_
            refine TS_know 24 (b := false) hb5 (by kernel_rfl) (by kernel_rfl) ?_
            refine TS_know 25 (b := false) hb5 (by kernel_rfl) (by kernel_rfl) ?_
            refine TS_go 33 ?_
            have ret := Option.some.inj h
            subst ret
            exact TS_ret (by kernel_rfl) (by kernel_rfl) (by kernel_rfl)
        · refine TS_know 18 (b := false) hb4 (by kernel_rfl) (by kernel_rfl) ?_
          refine TS_know 19 (b := false) hb4 (by kernel_rfl) (by kernel_rfl) ?_
          refine TS_know 20 (b := false) hb4 (by kernel_rfl) (by kernel_rfl) ?_
          refine TS_go 38 ?_
          have ret := Option.some.inj h
          subst ret
          exact TS_ret (by kernel_rfl) (by kernel_rfl) (by kernel_rfl)
  · refine TS_know 6 (b := false) hb1 (by kernel_rfl) (by kernel_rfl) ?_
    refine TS_know 5 (b := false) hb1 (by kernel_rfl) (by kernel_rfl) ?_
    refine TS_F (by kernel_rfl) rfl ?_
    refine TS_cut ⟨[(1, []), (4, [])], [(1, (1, []))]⟩ (.mk [.code (codeAt [1, 0, 1, 0, 1, 1] (bodyOf Try.f47)), .blk 0, .code (codeAt [1, 1] (bodyOf Try.f47))] .normal ⟨[(1, .c (.box 1 0)), (4, .c (.lit (.int .i64 (a0.Kind))))], [(1, .box [.lit (.int .i64 (a0.Kind)), .lit (.bool (a0.AckRequest)), .lit (.bool (a0.Pending)), .lit (.bool (a0.Secure)), .lit (.int .u8 (a0.Seq)), .lit (.int .u16 (a0.Pan)), .lit (.int .i64 (a0.Dst.Mode)), .lit (.int .u16 (a0.Dst.Short)), .lit (.int .u64 (a0.Dst.EUI)), .lit (.int .i64 (a0.Src.Mode)), .lit (.int .u16 (a0.Src.Short)), .lit (.int .u64 (a0.Src.EUI)), .lit (.int .u32 (a0.Counter)), .lit (.int .u8 (a0.Key)), .slc 1 0 (List.length a0.Payload) (List.map (ecI .u8) a0.Payload), .slc 1 0 (List.length a0.MIC) (List.map (ecI .u8) a0.MIC)])]⟩) (by kernel_rfl) (by kernel_rfl) ?_
    refine TS_joinB ⟨[(1, [])], [(1, (1, []))]⟩ (fun (v10 : Bool) => [(54, .c (.lit (.bool (v10))))]) (fun (v10 : Bool) => []) (F_ref05_Valid_j1 a0) r ?_ ?_
    · clear h
      intro v10 h
      unfold F_ref05_Valid_j1 at h
      replace h := condO h
      rcases h with ⟨hb11, h⟩ | ⟨hb11, h⟩
      · subst hb11
        refine TS_T (by kernel_rfl) rfl ?_
        refine TS_go 7 ?_
        replace h := bindO h
        obtain ⟨v12, hv12, h⟩ := h
        refine TS_call [] (ok_ref04_Some a0.Dst v12 hv12) (by kernel_rfl) (by kernel_rfl) ?_
        refine TS_go 2 ?_
        replace h := condO h
        rcases h with ⟨hb13, h⟩ | ⟨hb13, h⟩
        · subst hb13
          refine TS_go 2 ?_
          replace h := bindO h
          obtain ⟨v14, hv14, h⟩ := h
          refine TS_call [] (ok_ref04_One a0.Src v14 hv14) (by kernel_rfl) (by kernel_rfl) ?_
          refine TS_go 3 ?_
          replace h := condO h
          rcases h with ⟨hb15, h⟩ | ⟨hb15, h⟩
          · subst hb15
            refine TS_go 3 ?_
            replace h := condO h
            rcases h with ⟨hb16, h⟩ | ⟨hb16, h⟩
            · refine TS_know 69 (b := true) hb16 (by kernel_rfl) (by kernel_rfl) ?_
              refine TS_know 70 (b := true) hb16 (by kernel_rfl) (by kernel_rfl) ?_
              refine TS_go 2 ?_
              replace h := bindO h
              obtain ⟨v17, hv17, h⟩ := h
              refine TS_call [] (ok_ref04_IsBroadcast a0.Dst v17 hv17) (by kernel_rfl) (by kernel_rfl) ?_
              refine TS_go 3 ?_
              replace h := condO h
              rcases h with ⟨hb18, h⟩ | ⟨hb18, h⟩
              · subst hb18
                refine TS_T (by kernel_rfl) rfl ?_
                refine TS_go 6 ?_
                have ret := Option.some.inj h
                subst ret
                exact TS_ret (by kernel_rfl) (by kernel_rfl) (by kernel_rfl)
              · subst hb18
                refine TS_F (by kernel_rfl) rfl ?_
                refine TS_go 7 ?_
                replace h := condO h
                rcases h with ⟨hb19, h⟩ | ⟨hb19, h⟩
                · refine TS_know 77 (b := true) hb19 (by kernel_rfl) (by kernel_rfl) ?_
                  refine TS_know 78 (b := true) hb19 (by kernel_rfl) (by kernel_rfl) ?_
                  refine TS_go 6 ?_
                  replace h := condO h
                  rcases h with ⟨hb20, h⟩ | ⟨hb20, h⟩
                  · refine TS_know 82 (b := true) hb20 (by kernel_rfl) (by kernel_rfl) ?_
                    refine TS_know 83 (b := true) hb20 (by kernel_rfl) (by kernel_rfl) ?_
                    refine TS_know 84 (b := true) hb20 (by kernel_rfl) (by kernel_rfl) ?_
                    refine TS_go 21 ?_
                    refine TS_T (by kernel_rfl) rfl ?_
                    refine TS_go 6 ?_
                    have ret := Option.some.inj h
                    subst ret
                    exact TS_ret (by kernel_rfl) (by kernel_rfl) (by kernel_rfl)
                  · refine TS_know 82 (b := false) hb20 (by kernel_rfl) (by kernel_rfl) ?_
                    refine TS_know 83 (b := false) hb20 (by kernel_rfl) (by kernel_rfl) ?_
                    refine TS_know 84 (b := false) hb20 (by kernel_rfl) (by kernel_rfl) ?_
                    refine TS_go 2 ?_
                    refine TS_know 86 (b := true) hb19 (by kernel_rfl) (by kernel_rfl) ?_
                    refine TS_go 19 ?_
                    refine TS_F (by kernel_rfl) rfl ?_
                    refine TS_go 2 ?_
                    refine TS_draw (by kernel_rfl) ?_
                    refine TD_go 1 ?_
                    replace h := bindO h
                    obtain ⟨v21, hv21, h⟩ := h
                    refine TD_conX (d := 106) (e := 900000) [] (okT_ref05_header a0 v21 hv21) (by kernel_rfl) (by kernel_rfl) ?_
                    refine TD_go 8 ?_
                    refine TD_end (by kernel_rfl) ?_
                    refine TS_go 1 ?_
                    have ret := Option.some.inj h
                    subst ret
                    exact TS_ret (by kernel_rfl) (by kernel_rfl) (by kernel_rfl)
                · refine TS_know 77 (b := false) hb19 (by kernel_rfl) (by kernel_rfl) ?_
                  refine TS_know 78 (b := false) hb19 (by kernel_rfl) (by kernel_rfl) ?_
                  refine TS_go 8 ?_
                  refine TS_know 86 (b := false) hb19 (by kernel_rfl) (by kernel_rfl) ?_
                  refine TS_go 6 ?_
                  replace h := condO h
                  rcases h with ⟨hb22, h⟩ | ⟨hb22, h⟩
                  · refine TS_know 91 (b := true) hb22 (by kernel_rfl) (by kernel_rfl) ?_
                    refine TS_know 92 (b := true) hb22 (by kernel_rfl) (by kernel_rfl) ?_
                    refine TS_go 13 ?_
                    refine TS_T (by kernel_rfl) rfl ?_
                    refine TS_go 6 ?_
                    have ret := Option.some.inj h
                    subst ret
                    exact TS_ret (by kernel_rfl) (by kernel_rfl) (by kernel_rfl)
                  · refine TS_know 91 (b := false) hb22 (by kernel_rfl) (by kernel_rfl) ?_
                    refine TS_know 92 (b := false) hb22 (by kernel_rfl) (by kernel_rfl) ?_
                    refine TS_go 5 ?_
                    replace h := condO h
                    rcases h with ⟨hb23, h⟩ | ⟨hb23, h⟩
                    · refine TS_know 95 (b := true) hb23 (by kernel_rfl) (by kernel_rfl) ?_
                      refine TS_know 96 (b := true) hb23 (by kernel_rfl) (by kernel_rfl) ?_
                      refine TS_know 97 (b := true) hb23 (by kernel_rfl) (by kernel_rfl) ?_
                      refine TS_go 8 ?_
                      refine TS_T (by kernel_rfl) rfl ?_
                      refine TS_go 6 ?_
                      have ret := Option.some.inj h
                      subst ret
                      exact TS_ret (by kernel_rfl) (by kernel_rfl) (by kernel_rfl)
                    · refine TS_know 95 (b := false) hb23 (by kernel_rfl) (by kernel_rfl) ?_
                      refine TS_know 96 (b := false) hb23 (by kernel_rfl) (by kernel_rfl) ?_
                      refine TS_know 97 (b := false) hb23 (by kernel_rfl) (by kernel_rfl) ?_
                      refine TS_go 8 ?_
                      replace h := condO h
                      rcases h with ⟨hb24, h⟩ | ⟨hb24, h⟩
                      · refine TS_know 101 (b := true) hb24 (by kernel_rfl) (by kernel_rfl) ?_
                        refine TS_know 102 (b := true) hb24 (by kernel_rfl) (by kernel_rfl) ?_
                        refine TS_know 103 (b := true) hb24 (by kernel_rfl) (by kernel_rfl) ?_
                        refine TS_know 104 (b := true) hb24 (by kernel_rfl) (by kernel_rfl) ?_
                        refine TS_T (by kernel_rfl) rfl ?_
                        refine TS_go 6 ?_
                        have ret := Option.some.inj h
                        subst ret
                        exact TS_ret (by kernel_rfl) (by kernel_rfl) (by kernel_rfl)
                      · refine TS_know 101 (b := false) hb24 (by kernel_rfl) (by kernel_rfl) ?_
                        refine TS_know 102 (b := false) hb24 (by kernel_rfl) (by kernel_rfl) ?_
                        refine TS_know 103 (b := false) hb24 (by kernel_rfl) (by kernel_rfl) ?_
                        refine TS_know 104 (b := false) hb24 (by kernel_rfl) (by kernel_rfl) ?_
                        refine TS_F (by kernel_rfl) rfl ?_
                        refine TS_go 2 ?_
                        refine TS_draw (by kernel_rfl) ?_
                        refine TD_go 1 ?_
                        replace h := bindO h
                        obtain ⟨v25, hv25, h⟩ := h
                        refine TD_conX (d := 106) (e := 900000) [] (okT_ref05_header a0 v25 hv25) (by kernel_rfl) (by kernel_rfl) ?_
                        refine TD_go 8 ?_
                        refine TD_end (by kernel_rfl) ?_
                        refine TS_go 1 ?_
                        have ret := Option.some.inj h
                        subst ret
                        exact TS_ret (by kernel_rfl) (by kernel_rfl) (by kernel_rfl)
            · refine TS_know 69 (b := false) hb16 (by kernel_rfl) (by kernel_rfl) ?_
              refine TS_know 70 (b := false) hb16 (by kernel_rfl) (by kernel_rfl) ?_
              refine TS_go 6 ?_
              refine TS_F (by kernel_rfl) rfl ?_
              refine TS_go 7 ?_
              replace h := condO h
              rcases h with ⟨hb26, h⟩ | ⟨hb26, h⟩
              · refine TS_know 77 (b := true) hb26 (by kernel_rfl) (by kernel_rfl) ?_
                refine TS_know 78 (b := true) hb26 (by kernel_rfl) (by kernel_rfl) ?_
                refine TS_go 6 ?_
                replace h := condO h
                rcases h with ⟨hb27, h⟩ | ⟨hb27, h⟩
                · refine TS_know 82 (b := true) hb27 (by kernel_rfl) (by kernel_rfl) ?_
                  refine TS_know 83 (b := true) hb27 (by kernel_rfl) (by kernel_rfl) ?_
                  refine TS_know 84 (b := true) hb27 (by kernel_rfl) (by kernel_rfl) ?_
                  refine TS_go 21 ?_
                  refine TS_T (by kernel_rfl) rfl ?_
                  refine TS_go 6 ?_
                  have ret := Option.some.inj h
                  subst ret
                  exact TS_ret (by kernel_rfl) (by kernel_rfl) (by kernel_rfl)
                · refine TS_know 82 (b := false) hb27 (by kernel_rfl) (by kernel_rfl) ?_
                  refine TS_know 83 (b := false) hb27 (by kernel_rfl) (by kernel_rfl) ?_
                  refine TS_know 84 (b := false) hb27 (by kernel_rfl) (by kernel_rfl) ?_
                  refine TS_go 2 ?_
                  refine TS_know 86 (b := true) hb26 (by kernel_rfl) (by kernel_rfl) ?_
                  refine TS_go 19 ?_
                  refine TS_F (by kernel_rfl) rfl ?_
                  refine TS_go 2 ?_
                  refine TS_draw (by kernel_rfl) ?_
                  refine TD_go 1 ?_
                  replace h := bindO h
                  obtain ⟨v28, hv28, h⟩ := h
                  refine TD_conX (d := 106) (e := 900000) [] (okT_ref05_header a0 v28 hv28) (by kernel_rfl) (by kernel_rfl) ?_
                  refine TD_go 8 ?_
                  refine TD_end (by kernel_rfl) ?_
                  refine TS_go 1 ?_
                  have ret := Option.some.inj h
                  subst ret
                  exact TS_ret (by kernel_rfl) (by kernel_rfl) (by kernel_rfl)
              · refine TS_know 77 (b := false) hb26 (by kernel_rfl) (by kernel_rfl) ?_
                refine TS_know 78 (b := false) hb26 (by kernel_rfl) (by kernel_rfl) ?_
                refine TS_go 8 ?_
                refine TS_know 86 (b := false) hb26 (by kernel_rfl) (by kernel_rfl) ?_
                refine TS_go 6 ?_
                replace h := condO h
                rcases h with ⟨hb29, h⟩ | ⟨hb29, h⟩
                · refine TS_know 91 (b := true) hb29 (by kernel_rfl) (by kernel_rfl) ?_
                  refine TS_know 92 (b := true) hb29 (by kernel_rfl) (by kernel_rfl) ?_
                  refine TS_go 13 ?_
                  refine TS_T (by kernel_rfl) rfl ?_
                  refine TS_go 6 ?_
                  have ret := Option.some.inj h
                  subst ret
                  exact TS_ret (by kernel_rfl) (by kernel_rfl) (by kernel_rfl)
                · refine TS_know 91 (b := false) hb29 (by kernel_rfl) (by kernel_rfl) ?_
                  refine TS_know 92 (b := false) hb29 (by kernel_rfl) (by kernel_rfl) ?_
                  refine TS_go 5 ?_
                  replace h := condO h
                  rcases h with ⟨hb30, h⟩ | ⟨hb30, h⟩
                  · refine TS_know 95 (b := true) hb30 (by kernel_rfl) (by kernel_rfl) ?_
                    refine TS_know 96 (b := true) hb30 (by kernel_rfl) (by kernel_rfl) ?_
                    refine TS_know 97 (b := true) hb30 (by kernel_rfl) (by kernel_rfl) ?_
                    refine TS_go 8 ?_
                    refine TS_T (by kernel_rfl) rfl ?_
                    refine TS_go 6 ?_
                    have ret := Option.some.inj h
                    subst ret
                    exact TS_ret (by kernel_rfl) (by kernel_rfl) (by kernel_rfl)
                  · refine TS_know 95 (b := false) hb30 (by kernel_rfl) (by kernel_rfl) ?_
                    refine TS_know 96 (b := false) hb30 (by kernel_rfl) (by kernel_rfl) ?_
                    refine TS_know 97 (b := false) hb30 (by kernel_rfl) (by kernel_rfl) ?_
                    refine TS_go 8 ?_
                    replace h := condO h
                    rcases h with ⟨hb31, h⟩ | ⟨hb31, h⟩
                    · refine TS_know 101 (b := true) hb31 (by kernel_rfl) (by kernel_rfl) ?_
                      refine TS_know 102 (b := true) hb31 (by kernel_rfl) (by kernel_rfl) ?_
                      refine TS_know 103 (b := true) hb31 (by kernel_rfl) (by kernel_rfl) ?_
                      refine TS_know 104 (b := true) hb31 (by kernel_rfl) (by kernel_rfl) ?_
                      refine TS_T (by kernel_rfl) rfl ?_
                      refine TS_go 6 ?_
                      have ret := Option.some.inj h
                      subst ret
                      exact TS_ret (by kernel_rfl) (by kernel_rfl) (by kernel_rfl)
                    · refine TS_know 101 (b := false) hb31 (by kernel_rfl) (by kernel_rfl) ?_
                      refine TS_know 102 (b := false) hb31 (by kernel_rfl) (by kernel_rfl) ?_
                      refine TS_know 103 (b := false) hb31 (by kernel_rfl) (by kernel_rfl) ?_
                      refine TS_know 104 (b := false) hb31 (by kernel_rfl) (by kernel_rfl) ?_
                      refine TS_F (by kernel_rfl) rfl ?_
                      refine TS_go 2 ?_
                      refine TS_draw (by kernel_rfl) ?_
                      refine TD_go 1 ?_
                      replace h := bindO h
                      obtain ⟨v32, hv32, h⟩ := h
                      refine TD_conX (d := 106) (e := 900000) [] (okT_ref05_header a0 v32 hv32) (by kernel_rfl) (by kernel_rfl) ?_
                      refine TD_go 8 ?_
                      refine TD_end (by kernel_rfl) ?_
                      refine TS_go 1 ?_
                      have ret := Option.some.inj h
                      subst ret
                      exact TS_ret (by kernel_rfl) (by kernel_rfl) (by kernel_rfl)
          · subst hb15
            refine TS_go 9 ?_
            refine TS_T (by kernel_rfl) rfl ?_
            refine TS_go 6 ?_
            have ret := Option.some.inj h
            subst ret
            exact TS_ret (by kernel_rfl) (by kernel_rfl) (by kernel_rfl)
        · subst hb13
          refine TS_go 15 ?_
          refine TS_T (by kernel_rfl) rfl ?_
          refine TS_go 6 ?_
          have ret := Option.some.inj h
          subst ret
          exact TS_ret (by kernel_rfl) (by kernel_rfl) (by kernel_rfl)
      · subst hb11
        refine TS_F (by kernel_rfl) rfl ?_
        refine TS_go 7 ?_
        have ret := Option.some.inj h
        subst ret
        exact TS_ret (by kernel_rfl) (by kernel_rfl) (by kernel_rfl)
    · refine TS_go 5 ?_
      replace h := condO h
      rcases h with ⟨hb33, h⟩ | ⟨hb33, h⟩
      · refine TS_know 55 (b := true) hb33 (by kernel_rfl) (by kernel_rfl) ?_
        refine TS_know 54 (b := true) hb33 (by kernel_rfl) (by kernel_rfl) ?_
        refine TS_T (by kernel_rfl) rfl ?_
        refine TS_go 1 ?_
        exact TS_meet true ⟨[(1, []), (54, [])], [(1, (1, []))]⟩ h (by kernel_rfl) (by kernel_rfl)
      · refine TS_know 55 (b := false) hb33 (by kernel_rfl) (by kernel_rfl) ?_
        refine TS_know 54 (b := false) hb33 (by kernel_rfl) (by kernel_rfl) ?_
        refine TS_F (by kernel_rfl) rfl ?_
        refine TS_go 4 ?_
        exact TS_meet (a0.Kind == 3) ⟨[(1, []), (54, [])], [(1, (1, []))]⟩ h (by kernel_rfl) (by kernel_rfl)

/-- multihop/multihopref05.Header -/
noncomputable def F_ref05_Header_j1  (v1 : S_Frame) : Option ((List Int)) :=
  (F_ref05_header v1).bind fun v2 =>
  some (v2)
noncomputable def F_ref05_Header (a0 : S_Frame) : Option ((List Int)) :=
  (F_ref05_Valid a0).bind fun v3 =>
  bif v3 then
    (F_ref05_Header_j1) a0
  else
    (mkO 1 4 4).bind fun n5 =>
    (F_ref05_Valid (S_Frame.mk a0.Kind a0.AckRequest a0.Pending a0.Secure a0.Seq a0.Pan a0.Dst a0.Src a0.Counter a0.Key a0.Payload (List.replicate n5 (0 : Int)))).bind fun v6 =>
    bif v6 then
      (F_ref05_Header_j1) (S_Frame.mk a0.Kind a0.AckRequest a0.Pending a0.Secure a0.Seq a0.Pan a0.Dst a0.Src a0.Counter a0.Key a0.Payload (List.replicate n5 (0 : Int)))
    else
      some (([] : List Int))
set_option maxRecDepth 100000 in
set_option maxHeartbeats 40000000 in
theorem okT_ref05_Header (a0 : S_Frame) (r : (List Int)) (h : F_ref05_Header a0 = some r) : Con Try.prog 50 [.agg (S_Frame.cs a0)] [] (.c (.slc 1 900002 (List.length r) (List.map (ecI .u8) r))) [(900000, .spare 5 1 (List.length r))] := by
  unfold F_ref05_Header at h
  refine con_of [] [(900000, [])] 13 Try.func50 rfl rfl (by kernel_rfl) (fun K => ?_)
  refine TS_go 5 ?_
  refine TS_cut ⟨[(1, [])], [(1, (1, []))]⟩ (.mk [.code (codeAt [1] (bodyOf Try.f50))] .normal ⟨[(1, .c (.box 1 0))], [(1, .box [.lit (.int .i64 (a0.Kind)), .lit (.bool (a0.AckRequest)), .lit (.bool (a0.Pending)), .lit (.bool (a0.Secure)), .lit (.int .u8 (a0.Seq)), .lit (.int .u16 (a0.Pan)), .lit (.int .i64 (a0.Dst.Mode)), .lit (.int .u16 (a0.Dst.Short)), .lit (.int .u64 (a0.Dst.EUI)), .lit (.int .i64 (a0.Src.Mode)), .lit (.int .u16 (a0.Src.Short)), .lit (.int .u64 (a0.Src.EUI)), .lit (.int .u32 (a0.Counter)), .lit (.int .u8 (a0.Key)), .slc 1 0 (List.length a0.Payload) (List.map (ecI .u8) a0.Payload), .slc 1 0 (List.length a0.MIC) (List.map (ecI .u8) a0.MIC)])]⟩) (by kernel_rfl) (by kernel_rfl) ?_
  refine TS_joinB ⟨[(1, [])], [(1, (1, []))]⟩ (fun (v1 : S_Frame) => []) (fun (v1 : S_Frame) => [(1, .box (S_Frame.cs v1))]) (F_ref05_Header_j1) r ?_ ?_
  · clear h
    intro v1 h
    unfold F_ref05_Header_j1 at h
    refine TS_go 3 ?_
    replace h := bindO h
    obtain ⟨v2, hv2, h⟩ := h
    refine TS_con [] [(12, 900000)] none (okT_ref05_header v1 v2 hv2) (by kernel_rfl) (by kernel_rfl) (by kernel_rfl) ?_
    refine TS_go 2 ?_
    refine TS_fitU ⟨[(2, [])], [(12, (900000, []))]⟩ (by kernel_rfl) ?_
    refine TS_go 1 ?_
    have ret := Option.some.inj h
    subst ret
    exact TS_ret (by kernel_rfl) (by kernel_rfl) (by kernel_rfl)
  · refine TS_go 3 ?_
    replace h := bindO h
    obtain ⟨v3, hv3, h⟩ := h
    refine TS_call [] (ok_ref05_Valid a0 v3 hv3) (by kernel_rfl) (by kernel_rfl) ?_
    refine TS_go 2 ?_
    replace h := condO h
    rcases h with ⟨hb4, h⟩ | ⟨hb4, h⟩
    · subst hb4
      refine TS_F (by kernel_rfl) rfl ?_
      refine TS_go 1 ?_
      exact TS_meet a0 ⟨[(1, [])], [(1, (1, []))]⟩ h (by kernel_rfl) (by kernel_rfl)
    · subst hb4
      refine TS_T (by kernel_rfl) rfl ?_
      refine TS_go 2 ?_
      replace h := bindO h
      obtain ⟨n5, hn5, h⟩ := h
      refine TS_makeT 6 5 1 (ecI .u8) (0 : Int) [] (cs := [.lit (.int .u8 (0))]) (l := 4) (c := 4) hn5 (by kernel_rfl) (by kernel_rfl) (by kernel_rfl) ?_
      refine TS_go 6 ?_
      replace h := bindO h
      obtain ⟨v6, hv6, h⟩ := h
      refine TS_call [[0, 0, 0, 0, 0, 0, 0, 0, 0, 0, 0, 0, 0, 0, 2, 2]] (ok_ref05_Valid (S_Frame.mk a0.Kind a0.AckRequest a0.Pending a0.Secure a0.Seq a0.Pan a0.Dst a0.Src a0.Counter a0.Key a0.Payload (List.replicate n5 (0 : Int))) v6 hv6) (by kernel_rfl) (by kernel_rfl) ?_
      refine TS_go 2 ?_
      replace h := condO h
      rcases h with ⟨hb7, h⟩ | ⟨hb7, h⟩
      · subst hb7
        refine TS_F (by kernel_rfl) rfl ?_
        refine TS_go 1 ?_
        exact TS_meet (S_Frame.mk a0.Kind a0.AckRequest a0.Pending a0.Secure a0.Seq a0.Pan a0.Dst a0.Src a0.Counter a0.Key a0.Payload (List.replicate n5 (0 : Int))) ⟨[(1, [])], [(1, (1, [0, 0, 0, 0, 0, 0, 0, 0, 0, 0, 0, 0, 0, 0, 0, 2]))]⟩ h (by kernel_rfl) (by kernel_rfl)
      · subst hb7
        refine TS_T (by kernel_rfl) rfl ?_
        refine TS_go 4 ?_
        refine TS_nilT 2 600000 5 1 (by kernel_rfl) ?_
        refine TS_fitU ⟨[(2, [])], [(600000, (900000, []))]⟩ (by kernel_rfl) ?_
        refine TS_go 1 ?_
        refine TS_outJ (by kernel_rfl) ?_
        have ret := Option.some.inj h
        subst ret
        exact TS_ret (by kernel_rfl) (by kernel_rfl) (by kernel_rfl)
/-- multihop/multihopref03.number -/
noncomputable def F_ref03_number_l1 (a0 : List Int) (s1 : Int × Int) : Option ((Int × Int) ⊕ (Int)) :=
  bif (decide (s1.2 ≥ 0)) then
    (idx a0 s1.2).bind fun e5 =>
    some (Sum.inl (IntKind.wrap .u64 ((ishl .u64 s1.1 8) + (IntKind.wrap .u64 e5)), IntKind.wrap .i64 (s1.2 - 1)))
  else
    some (Sum.inr s1.1)
noncomputable def F_ref03_number (a0 : List Int) : Option (Int) :=
  (loopO (F_ref03_number_l1 a0) (0, IntKind.wrap .i64 ((List.length a0 : Int) - 1))).bind fun b2 =>
  some (b2)
set_option maxRecDepth 100000 in
set_option maxHeartbeats 40000000 in
theorem ok_ref03_number (a0 : List Int) (r : Int) (h : F_ref03_number a0 = some r) : Con Try.prog 96 [.c (eS 1 (ecI .u8) (a0))] [] (.c (.lit (.int .u64 (r)))) [] := by
  unfold F_ref03_number at h
  refine con_of [] [] 21 Try.func96 rfl rfl (by kernel_rfl) (fun K => ?_)
  refine TS_go 17 ?_
  refine TS_cut ⟨[(0, []), (3, []), (4, [])], []⟩ (.mk [.code (codeAt [1, 1, 0, 1, 0] (bodyOf Try.f96)), .blk 0, .code (codeAt [1, 1, 1] (bodyOf Try.f96))] .normal ⟨[(0, .c (.slc 1 0 (List.length a0) (List.map (ecI .u8) a0))), (3, .c (.lit (.int .u64 (0)))), (4, .c (.lit (.int .i64 (IntKind.wrap .i64 ((List.length a0 : Int) - 1)))))], []⟩) (by kernel_rfl) (by kernel_rfl) ?_
  replace h := bindO h
  obtain ⟨y3, hl1, hK1⟩ := h
  refine TS_loopB (F_ref03_number_l1 a0) ⟨[(0, []), (3, []), (4, [])], []⟩ (fun (s1 : Int × Int) => [(3, .c (.lit (.int .u64 (s1.1)))), (4, .c (.lit (.int .i64 (s1.2))))]) (fun (s1 : Int × Int) => []) (0, IntKind.wrap .i64 ((List.length a0 : Int) - 1)) y3 (.exit 0) (fun (b : Int) => b) ⟨[(3, [])], []⟩ (fun (b2 : Int) => [(3, .c (.lit (.int .u64 (b2))))]) (fun (b2 : Int) => []) hl1 (by kernel_rfl) (by kernel_rfl) ?_ ?_
  · intro s1 x h hy1
    unfold F_ref03_number_l1 at h
    refine TS_go 6 ?_
    replace h := condO h
    rcases h with ⟨hb4, h⟩ | ⟨hb4, h⟩
    · refine TS_know 9 (b := true) hb4 (by kernel_rfl) (by kernel_rfl) ?_
      refine TS_T (by kernel_rfl) rfl ?_
      refine TS_go 8 ?_
      replace h := bindO h
      obtain ⟨_e5, he5, h⟩ := h
      refine TS_idx (ecI .u8) he5 (by kernel_rfl) (by kernel_rfl) ?_
      refine TS_go 11 ?_
      have ret := Option.some.inj h
      subst ret
      exact TS_againB _ ⟨[(0, []), (3, []), (4, [])], []⟩ rfl (by kernel_rfl) (by kernel_rfl)
    · refine TS_know 9 (b := false) hb4 (by kernel_rfl) (by kernel_rfl) ?_
      refine TS_F (by kernel_rfl) rfl ?_
      refine TS_go 2 ?_
      have ret := Option.some.inj h
      subst ret
      exact TS_brkB s1.1 ⟨[(3, [])], []⟩ rfl (by kernel_rfl) (by kernel_rfl) (by kernel_rfl)
  · intro b2 hb
    subst y3
    have h := hK1
    refine TS_go 7 ?_
    have ret := Option.some.inj h
    subst ret
    exact TS_ret (by kernel_rfl) (by kernel_rfl) (by kernel_rfl)

/-- multihop/multihopref03.rot -/
noncomputable def F_ref03_rot (a0 : Int) (a1 : Int) : Option (Int) :=
  bif decide (0 ≤ a1) then
    bif decide (0 ≤ (IntKind.wrap .u64 (64 - a1))) then
      some (ior .u64 (ishl .u64 a0 a1) (ishr .u64 a0 (IntKind.wrap .u64 (64 - a1))))
    else none
  else none
set_option maxRecDepth 100000 in
set_option maxHeartbeats 40000000 in
theorem ok_ref03_rot (a0 : Int) (a1 : Int) (r : Int) (h : F_ref03_rot a0 a1 = some r) : Con Try.prog 104 [.c (.lit (.int .u64 (a0))), .c (.lit (.int .u64 (a1)))] [] (.c (.lit (.int .u64 (r)))) [] := by
  unfold F_ref03_rot at h
  refine con_of [] [] 13 Try.func104 rfl rfl (by kernel_rfl) (fun K => ?_)
  refine TS_go 8 ?_
  replace h := chkO h
  obtain ⟨hc1, h⟩ := h
  refine TS_num (op := .shl) (k := .u64) (k' := .u64) (m := a0) (i := a1) (of_decide_eq_true hc1) rfl (by simp) (by kernel_rfl) (by kernel_rfl) ?_
  refine TS_go 3 ?_
  replace h := chkO h
  obtain ⟨hc2, h⟩ := h
  refine TS_num (op := .shr) (k := .u64) (k' := .u64) (m := a0) (i := IntKind.wrap .u64 (64 - a1)) (of_decide_eq_true hc2) rfl (by simp) (by kernel_rfl) (by kernel_rfl) ?_
  refine TS_go 4 ?_
  have ret := Option.some.inj h
  subst ret
  exact TS_ret (by kernel_rfl) (by kernel_rfl) (by kernel_rfl)

/-- (multihop/multihopref03.state).round -/
noncomputable def F_ref03_state_round (a0 : S_multihopref03_state) : Option (S_multihopref03_state) :=
  (F_ref03_rot a0.b 13).bind fun v1 =>
  (F_ref03_rot (IntKind.wrap .u64 (a0.a + a0.b)) 32).bind fun v2 =>
  (F_ref03_rot a0.d 16).bind fun v3 =>
  (F_ref03_rot (ixor .u64 v3 (IntKind.wrap .u64 (a0.c + a0.d))) 21).bind fun v4 =>
  (F_ref03_rot (ixor .u64 v1 (IntKind.wrap .u64 (a0.a + a0.b))) 17).bind fun v5 =>
  (F_ref03_rot (IntKind.wrap .u64 ((IntKind.wrap .u64 (a0.c + a0.d)) + (ixor .u64 v1 (IntKind.wrap .u64 (a0.a + a0.b))))) 32).bind fun v6 =>
  some ((S_multihopref03_state.mk (IntKind.wrap .u64 (v2 + (ixor .u64 v3 (IntKind.wrap .u64 (a0.c + a0.d))))) (ixor .u64 v5 (IntKind.wrap .u64 ((IntKind.wrap .u64 (a0.c + a0.d)) + (ixor .u64 v1 (IntKind.wrap .u64 (a0.a + a0.b)))))) v6 (ixor .u64 v4 (IntKind.wrap .u64 (v2 + (ixor .u64 v3 (IntKind.wrap .u64 (a0.c + a0.d))))))))
set_option maxRecDepth 100000 in
set_option maxHeartbeats 40000000 in
theorem ok_ref03_state_round (a0 : S_multihopref03_state) (r : S_multihopref03_state) (h : F_ref03_state_round a0 = some r) : Con Try.prog 98 [.agg (S_multihopref03_state.cs a0)] [] (.agg (S_multihopref03_state.cs r)) [] := by
  unfold F_ref03_state_round at h
  refine con_of [] [] 76 Try.func98 rfl rfl (by kernel_rfl) (fun K => ?_)
  refine TS_go 19 ?_
  replace h := bindO h
  obtain ⟨v1, hv1, h⟩ := h
  refine TS_call [] (ok_ref03_rot a0.b 13 v1 hv1) (by kernel_rfl) (by kernel_rfl) ?_
  refine TS_go 17 ?_
  replace h := bindO h
  obtain ⟨v2, hv2, h⟩ := h
  refine TS_call [] (ok_ref03_rot (IntKind.wrap .u64 (a0.a + a0.b)) 32 v2 hv2) (by kernel_rfl) (by kernel_rfl) ?_
  refine TS_go 17 ?_
  replace h := bindO h
  obtain ⟨v3, hv3, h⟩ := h
  refine TS_call [] (ok_ref03_rot a0.d 16 v3 hv3) (by kernel_rfl) (by kernel_rfl) ?_
  refine TS_go 27 ?_
  replace h := bindO h
  obtain ⟨v4, hv4, h⟩ := h
  refine TS_call [] (ok_ref03_rot (ixor .u64 v3 (IntKind.wrap .u64 (a0.c + a0.d))) 21 v4 hv4) (by kernel_rfl) (by kernel_rfl) ?_
  refine TS_go 27 ?_
  replace h := bindO h
  obtain ⟨v5, hv5, h⟩ := h
  refine TS_call [] (ok_ref03_rot (ixor .u64 v1 (IntKind.wrap .u64 (a0.a + a0.b))) 17 v5 hv5) (by kernel_rfl) (by kernel_rfl) ?_
  refine TS_go 17 ?_
  replace h := bindO h
  obtain ⟨v6, hv6, h⟩ := h
  refine TS_call [] (ok_ref03_rot (IntKind.wrap .u64 ((IntKind.wrap .u64 (a0.c + a0.d)) + (ixor .u64 v1 (IntKind.wrap .u64 (a0.a + a0.b))))) 32 v6 hv6) (by kernel_rfl) (by kernel_rfl) ?_
  refine TS_go 9 ?_
  have ret := Option.some.inj h
  subst ret
  exact TS_ret (by kernel_rfl) (by kernel_rfl) (by kernel_rfl)

/-- (multihop/multihopref03.state).word -/
noncomputable def F_ref03_state_word (a0 : S_multihopref03_state) (a1 : Int) : Option (S_multihopref03_state) :=
  (F_ref03_state_round (S_multihopref03_state.mk a0.a a0.b a0.c (ixor .u64 a0.d a1))).bind fun v1 =>
  (F_ref03_state_round v1).bind fun v2 =>
  some ((S_multihopref03_state.mk (ixor .u64 v2.a a1) v2.b v2.c v2.d))
set_option maxRecDepth 100000 in
set_option maxHeartbeats 40000000 in
theorem ok_ref03_state_word (a0 : S_multihopref03_state) (a1 : Int) (r : S_multihopref03_state) (h : F_ref03_state_word a0 a1 = some r) : Con Try.prog 97 [.agg (S_multihopref03_state.cs a0), .c (.lit (.int .u64 (a1)))] [] (.agg (S_multihopref03_state.cs r)) [] := by
  unfold F_ref03_state_word at h
  refine con_of [] [] 19 Try.func97 rfl rfl (by kernel_rfl) (fun K => ?_)
  refine TS_go 17 ?_
  replace h := bindO h
  obtain ⟨v1, hv1, h⟩ := h
  refine TS_call [] (ok_ref03_state_round (S_multihopref03_state.mk a0.a a0.b a0.c (ixor .u64 a0.d a1)) v1 hv1) (by kernel_rfl) (by kernel_rfl) ?_
  replace h := bindO h
  obtain ⟨v2, hv2, h⟩ := h
  refine TS_call [] (ok_ref03_state_round v1 v2 hv2) (by kernel_rfl) (by kernel_rfl) ?_
  refine TS_go 17 ?_
  have ret := Option.some.inj h
  subst ret
  exact TS_ret (by kernel_rfl) (by kernel_rfl) (by kernel_rfl)

/-- multihop/multihopref03.Sum -/
noncomputable def F_ref03_Sum_l1 (a1 : List Int) (s3 : Int × S_multihopref03_state) : Option ((Int × S_multihopref03_state) ⊕ (Int × S_multihopref03_state)) :=
  bif (decide ((IntKind.wrap .i64 (s3.1 + 8)) ≤ (List.length a1 : Int))) then
    (subO a1 s3.1 (IntKind.wrap .i64 (s3.1 + 8))).bind fun l7 =>
    (F_ref03_number l7).bind fun v8 =>
    (F_ref03_state_word s3.2 v8).bind fun v9 =>
    some (Sum.inl (IntKind.wrap .i64 (s3.1 + 8), v9))
  else
    some (Sum.inr (s3.1, s3.2))
noncomputable def F_ref03_Sum (a0 : List Int) (a1 : List Int) : Option (Int) :=
  (F_ref03_number (arrL 8 a0)).bind fun v1 =>
  (F_ref03_number ([(a0.getD 8 0), (a0.getD 9 0), (a0.getD 10 0), (a0.getD 11 0), (a0.getD 12 0), (a0.getD 13 0), (a0.getD 14 0), (a0.getD 15 0)] : List Int)).bind fun v2 =>
  (loopO (F_ref03_Sum_l1 a1) (0, (S_multihopref03_state.mk (ixor .u64 v1 8317987319222330741) (ixor .u64 v2 7237128888997146477) (ixor .u64 v1 7816392313619706465) (ixor .u64 v2 8387220255154660723)))).bind fun b4 =>
  (subO a1 b4.1 (List.length a1 : Int)).bind fun l11 =>
  (F_ref03_number l11).bind fun v12 =>
  (F_ref03_state_word b4.2 (IntKind.wrap .u64 (v12 + (ishl .u64 (IntKind.wrap .u64 (Int.tmod (List.length a1 : Int) 256)) 56)))).bind fun v13 =>
  (F_ref03_state_round (S_multihopref03_state.mk v13.a v13.b (ixor .u64 v13.c 255) v13.d)).bind fun v14 =>
  (F_ref03_state_round v14).bind fun v15 =>
  (F_ref03_state_round v15).bind fun v16 =>
  (F_ref03_state_round v16).bind fun v17 =>
  some (ixor .u64 (ixor .u64 (ixor .u64 v17.a v17.b) v17.c) v17.d)
set_option maxRecDepth 100000 in
set_option maxHeartbeats 40000000 in
theorem ok_ref03_Sum (a0 : List Int) (a1 : List Int) (r : Int) (h : F_ref03_Sum a0 a1 = some r) : Con Try.prog 82 [.agg (arrS .u8 16 a0), .c (eS 1 (ecI .u8) (a1))] [] (.c (.lit (.int .u64 (r)))) [] := by
  unfold F_ref03_Sum at h
  refine con_of [] [] 69 Try.func82 rfl rfl (by kernel_rfl) (fun K => ?_)
  refine TS_go 6 ?_
  refine TS_draw (by kernel_rfl) ?_
  refine TD_win 2 0 16 (a := 0) (b := 8) (by decide) (by decide) (by kernel_rfl) (by kernel_rfl) ?_
  replace h := bindO h
  obtain ⟨v1, hv1, h⟩ := h
  refine TD_callF [] (ok_ref03_number (arrL 8 a0) v1 hv1) (by kernel_rfl) (by kernel_rfl) ?_
  refine TD_win 2 0 16 (a := 8) (b := 16) (by decide) (by decide) (by kernel_rfl) (by kernel_rfl) ?_
  replace h := bindO h
  obtain ⟨v2, hv2, h⟩ := h
  refine TD_callF [] (ok_ref03_number ([(a0.getD 8 0), (a0.getD 9 0), (a0.getD 10 0), (a0.getD 11 0), (a0.getD 12 0), (a0.getD 13 0), (a0.getD 14 0), (a0.getD 15 0)] : List Int) v2 hv2) (by kernel_rfl) (by kernel_rfl) ?_
  refine TD_go 2 ?_
  refine TD_end (by kernel_rfl) ?_
  refine TS_go 20 ?_
  refine TS_cut ⟨[(1, []), (7, []), (8, [])], [(7, (7, []))]⟩ (.mk [.code (codeAt [1, 1, 1, 1, 0, 0] (bodyOf Try.f82)), .blk 0, .code (codeAt [1, 1, 1, 1, 1] (bodyOf Try.f82))] .normal ⟨[(1, .c (.slc 1 0 (List.length a1) (List.map (ecI .u8) a1))), (7, .c (.box 7 0)), (8, .c (.lit (.int .i64 (0))))], [(7, .box [.lit (.int .u64 (ixor .u64 v1 8317987319222330741)), .lit (.int .u64 (ixor .u64 v2 7237128888997146477)), .lit (.int .u64 (ixor .u64 v1 7816392313619706465)), .lit (.int .u64 (ixor .u64 v2 8387220255154660723))])]⟩) (by kernel_rfl) (by kernel_rfl) ?_
  replace h := bindO h
  obtain ⟨y5, hl1, hK1⟩ := h
  refine TS_loopB (F_ref03_Sum_l1 a1) ⟨[(1, []), (7, []), (8, [])], [(7, (7, []))]⟩ (fun (s3 : Int × S_multihopref03_state) => [(8, .c (.lit (.int .i64 (s3.1))))]) (fun (s3 : Int × S_multihopref03_state) => [(7, .box (S_multihopref03_state.cs s3.2))]) (0, (S_multihopref03_state.mk (ixor .u64 v1 8317987319222330741) (ixor .u64 v2 7237128888997146477) (ixor .u64 v1 7816392313619706465) (ixor .u64 v2 8387220255154660723))) y5 (.exit 0) (fun (b : Int × S_multihopref03_state) => b) ⟨[(1, []), (7, []), (8, [])], [(7, (7, []))]⟩ (fun (b4 : Int × S_multihopref03_state) => [(8, .c (.lit (.int .i64 (b4.1))))]) (fun (b4 : Int × S_multihopref03_state) => [(7, .box (S_multihopref03_state.cs b4.2))]) hl1 (by kernel_rfl) (by kernel_rfl) ?_ ?_
  · intro s3 x h hy1
    unfold F_ref03_Sum_l1 at h
    refine TS_go 9 ?_
    replace h := condO h
    rcases h with ⟨hb6, h⟩ | ⟨hb6, h⟩
    · refine TS_know 26 (b := true) hb6 (by kernel_rfl) (by kernel_rfl) ?_
      refine TS_T (by kernel_rfl) rfl ?_
      refine TS_go 3 ?_
      refine TS_draw (by kernel_rfl) ?_
      refine TD_go 5 ?_
      replace h := bindO h
      obtain ⟨l7, hl7, h⟩ := h
      refine TD_sub (ecI .u8) 1 hl7 (by kernel_rfl) (by kernel_rfl) ?_
      replace h := bindO h
      obtain ⟨v8, hv8, h⟩ := h
      refine TD_call [] (ok_ref03_number l7 v8 hv8) (by kernel_rfl) (by kernel_rfl) ?_
      replace h := bindO h
      obtain ⟨v9, hv9, h⟩ := h
      refine TD_call [] (ok_ref03_state_word s3.2 v8 v9 hv9) (by kernel_rfl) (by kernel_rfl) ?_
      refine TD_go 1 ?_
      refine TD_end (by kernel_rfl) ?_
      refine TS_go 6 ?_
      have ret := Option.some.inj h
      subst ret
      exact TS_againB _ ⟨[(1, []), (7, []), (8, [])], [(7, (7, []))]⟩ rfl (by kernel_rfl) (by kernel_rfl)
    · refine TS_know 26 (b := false) hb6 (by kernel_rfl) (by kernel_rfl) ?_
      refine TS_F (by kernel_rfl) rfl ?_
      refine TS_go 2 ?_
      have ret := Option.some.inj h
      subst ret
      exact TS_brkB (s3.1, s3.2) ⟨[(1, []), (7, []), (8, [])], [(7, (7, []))]⟩ rfl (by kernel_rfl) (by kernel_rfl) (by kernel_rfl)
  · intro b4 hb
    subst y5
    have h := hK1
    refine TS_go 2 ?_
    refine TS_draw (by kernel_rfl) ?_
    refine TD_go 3 ?_
    replace h := bindO h
    obtain ⟨l11, hl11, h⟩ := h
    refine TD_sub (ecI .u8) 1 hl11 (by kernel_rfl) (by kernel_rfl) ?_
    replace h := bindO h
    obtain ⟨v12, hv12, h⟩ := h
    refine TD_call [] (ok_ref03_number l11 v12 hv12) (by kernel_rfl) (by kernel_rfl) ?_
    refine TD_go 6 ?_
    replace h := bindO h
    obtain ⟨v13, hv13, h⟩ := h
    refine TD_call [] (ok_ref03_state_word b4.2 (IntKind.wrap .u64 (v12 + (ishl .u64 (IntKind.wrap .u64 (Int.tmod (List.length a1 : Int) 256)) 56))) v13 hv13) (by kernel_rfl) (by kernel_rfl) ?_
    refine TD_go 1 ?_
    refine TD_end (by kernel_rfl) ?_
    refine TS_go 11 ?_
    replace h := bindO h
    obtain ⟨v14, hv14, h⟩ := h
    refine TS_call [] (ok_ref03_state_round (S_multihopref03_state.mk v13.a v13.b (ixor .u64 v13.c 255) v13.d) v14 hv14) (by kernel_rfl) (by kernel_rfl) ?_
    replace h := bindO h
    obtain ⟨v15, hv15, h⟩ := h
    refine TS_call [] (ok_ref03_state_round v14 v15 hv15) (by kernel_rfl) (by kernel_rfl) ?_
    replace h := bindO h
    obtain ⟨v16, hv16, h⟩ := h
    refine TS_call [] (ok_ref03_state_round v15 v16 hv16) (by kernel_rfl) (by kernel_rfl) ?_
    replace h := bindO h
    obtain ⟨v17, hv17, h⟩ := h
    refine TS_call [] (ok_ref03_state_round v16 v17 hv17) (by kernel_rfl) (by kernel_rfl) ?_
    refine TS_go 18 ?_
    have ret := Option.some.inj h
    subst ret
    exact TS_ret (by kernel_rfl) (by kernel_rfl) (by kernel_rfl)

/-- multihop/multihopref03.Tag -/
noncomputable def F_ref03_Tag_l1 (a2 : Int) (s4 : Int × (List Int) × Int) : Option ((Int × (List Int) × Int) ⊕ ((List Int))) :=
  bif (decide (s4.2.2 < a2)) then
    (appO 1 s4.2.1 (Cut.app .whole ([IntKind.wrap .u8 s4.1] : List Int))).bind fun l8 =>
    some (Sum.inl (ishr .u64 s4.1 8, l8, IntKind.wrap .i64 (s4.2.2 + 1)))
  else
    some (Sum.inr s4.2.1)
noncomputable def F_ref03_Tag (a0 : List Int) (a1 : List Int) (a2 : Int) : Option ((List Int) × Bool) :=
  bif (decide (a2 < 1)) then
    some ((([] : List Int), false))
  else
    bif (decide (a2 > 8)) then
      some ((([] : List Int), false))
    else
      (F_ref03_Sum a0 a1).bind fun v3 =>
      (loopO (F_ref03_Tag_l1 a2) (v3, ([] : List Int), 0)).bind fun b5 =>
      some ((b5, true))
set_option maxRecDepth 100000 in
set_option maxHeartbeats 40000000 in
theorem okT_ref03_Tag (a0 : List Int) (a1 : List Int) (a2 : Int) (r : (List Int) × Bool) (h : F_ref03_Tag a0 a1 a2 = some r) : Con Try.prog 59 [.agg (arrS .u8 16 a0), .c (eS 1 (ecI .u8) (a1)), .c (.lit (.int .i64 (a2)))] [] (.tup [(false, [.slc 1 900002 (List.length r.1) (List.map (ecI .u8) r.1)]), (false, [.lit (.bool (r.2))])]) [(900000, .spare 5 1 (List.length r.1))] := by
  unfold F_ref03_Tag at h
  refine con_of [] [(900000, [])] 33 Try.func59 rfl rfl (by kernel_rfl) (fun K => ?_)
  refine TS_go 12 ?_
  replace h := condO h
  rcases h with ⟨hb1, h⟩ | ⟨hb1, h⟩
  · refine TS_know 12 (b := true) hb1 (by kernel_rfl) (by kernel_rfl) ?_
    refine TS_know 13 (b := true) hb1 (by kernel_rfl) (by kernel_rfl) ?_
    refine TS_go 4 ?_
    refine TS_T (by kernel_rfl) rfl ?_
    refine TS_go 5 ?_
    refine TS_nilT 6 600000 5 1 (by kernel_rfl) ?_
    refine TS_fitU ⟨[(6, []), (7, [])], [(600000, (900000, []))]⟩ (by kernel_rfl) ?_
    refine TS_go 2 ?_
    have ret := Option.some.inj h
    subst ret
    exact TS_ret (by kernel_rfl) (by kernel_rfl) (by kernel_rfl)
  · refine TS_know 12 (b := false) hb1 (by kernel_rfl) (by kernel_rfl) ?_
    refine TS_know 13 (b := false) hb1 (by kernel_rfl) (by kernel_rfl) ?_
    refine TS_go 4 ?_
    replace h := condO h
    rcases h with ⟨hb2, h⟩ | ⟨hb2, h⟩
    · refine TS_know 15 (b := true) hb2 (by kernel_rfl) (by kernel_rfl) ?_
      refine TS_know 16 (b := true) hb2 (by kernel_rfl) (by kernel_rfl) ?_
      refine TS_T (by kernel_rfl) rfl ?_
      refine TS_go 5 ?_
      refine TS_nilT 6 600000 5 1 (by kernel_rfl) ?_
      refine TS_fitU ⟨[(6, []), (7, [])], [(600000, (900000, []))]⟩ (by kernel_rfl) ?_
      refine TS_go 2 ?_
      have ret := Option.some.inj h
      subst ret
      exact TS_ret (by kernel_rfl) (by kernel_rfl) (by kernel_rfl)
    · refine TS_know 15 (b := false) hb2 (by kernel_rfl) (by kernel_rfl) ?_
      refine TS_know 16 (b := false) hb2 (by kernel_rfl) (by kernel_rfl) ?_
      refine TS_F (by kernel_rfl) rfl ?_
      refine TS_go 5 ?_
      replace h := bindO h
      obtain ⟨v3, hv3, h⟩ := h
      refine TS_call [] (ok_ref03_Sum a0 a1 v3 hv3) (by kernel_rfl) (by kernel_rfl) ?_
      refine TS_go 12 ?_
      refine TS_nilT 9 600000 5 1 (by kernel_rfl) ?_
      refine TS_cut ⟨[(2, []), (8, []), (9, []), (10, [])], [(600000, (600000, []))]⟩ (.mk [.code (codeAt [1, 1, 1, 1, 0, 1, 0] (bodyOf Try.f59)), .blk 0, .code (codeAt [1, 1, 1, 1, 1] (bodyOf Try.f59))] .normal ⟨[(2, .c (.lit (.int .i64 (a2)))), (8, .c (.lit (.int .u64 (v3)))), (9, .c (.slc 1 600002 (List.length ([] : List Int)) (List.map (ecI .u8) ([] : List Int)))), (10, .c (.lit (.int .i64 (0))))], [(600000, .spare 5 1 (List.length ([] : List Int)))]⟩) (by kernel_rfl) (by kernel_rfl) ?_
      replace h := bindO h
      obtain ⟨y6, hl1, hK1⟩ := h
      refine TS_loopB (F_ref03_Tag_l1 a2) ⟨[(2, []), (8, []), (9, []), (10, [])], [(600000, (600000, []))]⟩ (fun (s4 : Int × (List Int) × Int) => [(8, .c (.lit (.int .u64 (s4.1)))), (9, .c (.slc 1 600002 (List.length s4.2.1) (List.map (ecI .u8) s4.2.1))), (10, .c (.lit (.int .i64 (s4.2.2))))]) (fun (s4 : Int × (List Int) × Int) => [(600000, .spare 5 1 (List.length s4.2.1))]) (v3, ([] : List Int), 0) y6 (.exit 0) (fun (b : (List Int)) => b) ⟨[(9, [])], [(600000, (600000, []))]⟩ (fun (b5 : (List Int)) => [(9, .c (.slc 1 600002 (List.length b5) (List.map (ecI .u8) b5)))]) (fun (b5 : (List Int)) => [(600000, .spare 5 1 (List.length b5))]) hl1 (by kernel_rfl) (by kernel_rfl) ?_ ?_
      · intro s4 x h hy1
        unfold F_ref03_Tag_l1 at h
        refine TS_go 7 ?_
        replace h := condO h
        rcases h with ⟨hb7, h⟩ | ⟨hb7, h⟩
        · refine TS_know 22 (b := true) hb7 (by kernel_rfl) (by kernel_rfl) ?_
          refine TS_T (by kernel_rfl) rfl ?_
          refine TS_go 8 ?_
          refine TS_litNT 28 5 1 (ecI .u8) [] ([IntKind.wrap .u8 s4.1] : List Int) (by kernel_rfl) (by kernel_rfl) ?_
          replace h := bindO h
          obtain ⟨_l8, hl8, h⟩ := h
          refine TS_appT (d := 600000) (e := 5) (sz := 1) (N := List.length s4.2.1) (ecI .u8) (fun _ => by kernel_rfl) (l1 := s4.2.1) (l2 := ([IntKind.wrap .u8 s4.1] : List Int)) (c := .whole) hl8 (by kernel_rfl) (by kernel_rfl) ?_
          refine TS_go 13 ?_
          have ret := Option.some.inj h
          subst ret
          exact TS_againB _ ⟨[(2, []), (8, []), (9, []), (10, [])], [(600000, (600000, []))]⟩ rfl (by kernel_rfl) (by kernel_rfl)
        · refine TS_know 22 (b := false) hb7 (by kernel_rfl) (by kernel_rfl) ?_
          refine TS_F (by kernel_rfl) rfl ?_
          refine TS_go 2 ?_
          have ret := Option.some.inj h
          subst ret
          exact TS_brkB s4.2.1 ⟨[(9, [])], [(600000, (600000, []))]⟩ rfl (by kernel_rfl) (by kernel_rfl) (by kernel_rfl)
      · intro b5 hb
        subst y6
        have h := hK1
        refine TS_go 7 ?_
        refine TS_fitU ⟨[(6, []), (7, [])], [(600000, (900000, []))]⟩ (by kernel_rfl) ?_
        refine TS_go 1 ?_
        have ret := Option.some.inj h
        subst ret
        exact TS_ret (by kernel_rfl) (by kernel_rfl) (by kernel_rfl)
/-- multihop/multihopref06.copied -/
noncomputable def F_ref06_copied (a0 : S_Guard) : Option (S_Guard) :=
  (appO 17 ([] : List S_LinkKey) (Cut.app .whole a0.Keys)).bind fun l1 =>
  (appO 40 ([] : List S_Peer) (Cut.app .whole a0.Peers)).bind fun l2 =>
  some ((S_Guard.mk l1 a0.Counter a0.Reserved a0.Nonce l2))
set_option maxRecDepth 100000 in
set_option maxHeartbeats 40000000 in
theorem okT_ref06_copied (a0 : S_Guard) (r : S_Guard) (h : F_ref06_copied a0 = some r) : Con Try.prog 51 [.agg (S_Guard.cs a0)] [] (.agg [.slc 17 900002 (List.length r.Keys) (List.map S_LinkKey.cs r.Keys), .lit (.int .u32 (r.Counter)), .lit (.int .u32 (r.Reserved)), .lit (.int .u32 (r.Nonce)), .slc 6 900006 (List.length r.Peers) (List.map S_Peer.cs r.Peers)]) [(900000, .spare 69 17 (List.length r.Keys)), (900004, .spare 79 6 (List.length r.Peers))] := by
  unfold F_ref06_copied at h
  refine con_of [] [(900000, []), (900004, [])] 14 Try.func51 rfl rfl (by kernel_rfl) (fun K => ?_)
  refine TS_go 7 ?_
  refine TS_litNT 3 69 17 S_LinkKey.cs [] ([] : List S_LinkKey) (by kernel_rfl) (by kernel_rfl) ?_
  refine TS_go 2 ?_
  replace h := bindO h
  obtain ⟨l1, hl1, h⟩ := h
  refine TS_appT (d := 3) (e := 69) (sz := 17) (N := List.length ([] : List S_LinkKey)) S_LinkKey.cs (fun _ => by kernel_rfl) (l1 := ([] : List S_LinkKey)) (l2 := a0.Keys) (c := .whole) hl1 (by kernel_rfl) (by kernel_rfl) ?_
  refine TS_go 5 ?_
  refine TS_litNT 8 79 6 S_Peer.cs [] ([] : List S_Peer) (by kernel_rfl) (by kernel_rfl) ?_
  refine TS_go 2 ?_
  replace h := bindO h
  obtain ⟨l2, hl2, h⟩ := h
  refine TS_appT (d := 8) (e := 79) (sz := 6) (N := List.length ([] : List S_Peer)) S_Peer.cs (fun _ => by kernel_rfl) (l1 := ([] : List S_Peer)) (l2 := a0.Peers) (c := .whole) hl2 (by kernel_rfl) (by kernel_rfl) ?_
  refine TS_go 8 ?_
  refine TS_fitU ⟨[(2, [])], [(3, (900000, [])), (8, (900004, [])), (2, (2, []))]⟩ (by kernel_rfl) ?_
  refine TS_go 1 ?_
  have ret := Option.some.inj h
  subst ret
  exact TS_ret (by kernel_rfl) (by kernel_rfl) (by kernel_rfl)
/-- multihop/multihopref06.Seal -/
noncomputable def F_ref06_Seal (a0 : S_Guard) (a1 : S_Frame) (a2 : Int) : Option (S_Guard × S_Frame × Int) :=
  (F_ref06_Valid a0).bind fun v1 =>
  bif v1 then
    (F_ref05_Valid a1).bind fun v3 =>
    bif v3 then
      bif (a1.Kind == 2) then
        some (((S_Guard.mk ([] : List S_LinkKey) 0 0 0 ([] : List S_Peer)), (S_Frame.mk 0 false false false 0 0 (S_Addr.mk 0 0 0) (S_Addr.mk 0 0 0) 0 0 ([] : List Int) ([] : List Int)), 1))
      else
        bif a1.Secure then
          some (((S_Guard.mk ([] : List S_LinkKey) 0 0 0 ([] : List S_Peer)), (S_Frame.mk 0 false false false 0 0 (S_Addr.mk 0 0 0) (S_Addr.mk 0 0 0) 0 0 ([] : List Int) ([] : List Int)), 1))
        else
          (F_ref06_key a0 a2).bind fun v7 =>
          bif v7.2 then
            bif (a0.Counter == a0.Reserved) then
              some (((S_Guard.mk ([] : List S_LinkKey) 0 0 0 ([] : List S_Peer)), (S_Frame.mk 0 false false false 0 0 (S_Addr.mk 0 0 0) (S_Addr.mk 0 0 0) 0 0 ([] : List Int) ([] : List Int)), 11))
            else
              (appO 1 ([] : List Int) (Cut.app .whole a1.Payload)).bind fun l10 =>
              (mkO 1 4 4).bind fun n11 =>
              (F_ref05_Valid (S_Frame.mk a1.Kind a1.AckRequest a1.Pending true a1.Seq a1.Pan a1.Dst a1.Src a0.Counter a2 l10 (List.replicate n11 (0 : Int)))).bind fun v12 =>
              bif v12 then
                (F_ref05_Header (S_Frame.mk a1.Kind a1.AckRequest a1.Pending true a1.Seq a1.Pan a1.Dst a1.Src a0.Counter a2 l10 (List.replicate n11 (0 : Int)))).bind fun v14 =>
                (F_ref03_Tag v7.1 v14 4).bind fun v15 =>
                (F_ref06_copied a0).bind fun v16 =>
                some (((S_Guard.mk v16.Keys (IntKind.wrap .u32 (v16.Counter + 1)) v16.Reserved v16.Nonce v16.Peers), (S_Frame.mk a1.Kind a1.AckRequest a1.Pending true a1.Seq a1.Pan a1.Dst a1.Src a0.Counter a2 l10 v15.1), 0))
              else
                some (((S_Guard.mk ([] : List S_LinkKey) 0 0 0 ([] : List S_Peer)), (S_Frame.mk 0 false false false 0 0 (S_Addr.mk 0 0 0) (S_Addr.mk 0 0 0) 0 0 ([] : List Int) ([] : List Int)), 3))
          else
            some (((S_Guard.mk ([] : List S_LinkKey) 0 0 0 ([] : List S_Peer)), (S_Frame.mk 0 false false false 0 0 (S_Addr.mk 0 0 0) (S_Addr.mk 0 0 0) 0 0 ([] : List Int) ([] : List Int)), 9))
    else
      some (((S_Guard.mk ([] : List S_LinkKey) 0 0 0 ([] : List S_Peer)), (S_Frame.mk 0 false false false 0 0 (S_Addr.mk 0 0 0) (S_Addr.mk 0 0 0) 0 0 ([] : List Int) ([] : List Int)), 1))
  else
    some (((S_Guard.mk ([] : List S_LinkKey) 0 0 0 ([] : List S_Peer)), (S_Frame.mk 0 false false false 0 0 (S_Addr.mk 0 0 0) (S_Addr.mk 0 0 0) 0 0 ([] : List Int) ([] : List Int)), 1))
set_option maxRecDepth 100000 in
set_option maxHeartbeats 40000000 in
theorem okT_ref06_Seal (a0 : S_Guard) (a1 : S_Frame) (a2 : Int) (r : S_Guard × S_Frame × Int) (h : F_ref06_Seal a0 a1 a2 = some r) : Con Try.prog 21 [.agg (S_Guard.cs a0), .agg (S_Frame.cs a1), .c (.lit (.int .u8 (a2)))] [] (.tup [(true, [.slc 17 900002 (List.length r.1.Keys) (List.map S_LinkKey.cs r.1.Keys), .lit (.int .u32 (r.1.Counter)), .lit (.int .u32 (r.1.Reserved)), .lit (.int .u32 (r.1.Nonce)), .slc 6 900006 (List.length r.1.Peers) (List.map S_Peer.cs r.1.Peers)]), (true, [.lit (.int .i64 (r.2.1.Kind)), .lit (.bool (r.2.1.AckRequest)), .lit (.bool (r.2.1.Pending)), .lit (.bool (r.2.1.Secure)), .lit (.int .u8 (r.2.1.Seq)), .lit (.int .u16 (r.2.1.Pan)), .lit (.int .i64 (r.2.1.Dst.Mode)), .lit (.int .u16 (r.2.1.Dst.Short)), .lit (.int .u64 (r.2.1.Dst.EUI)), .lit (.int .i64 (r.2.1.Src.Mode)), .lit (.int .u16 (r.2.1.Src.Short)), .lit (.int .u64 (r.2.1.Src.EUI)), .lit (.int .u32 (r.2.1.Counter)), .lit (.int .u8 (r.2.1.Key)), .slc 1 900080 (List.length r.2.1.Payload) (List.map (ecI .u8) r.2.1.Payload), .slc 1 900081 (List.length r.2.1.MIC) (List.map (ecI .u8) r.2.1.MIC)]), (false, [.lit (.int .i64 (r.2.2))])]) [(900000, .spare 69 17 (List.length r.1.Keys)), (900004, .spare 79 6 (List.length r.1.Peers)), (900078, .spare 5 1 (List.length r.2.1.Payload)), (900079, .spare 5 1 (List.length r.2.1.MIC))] := by
  unfold F_ref06_Seal at h
  refine con_of [] [(900000, []), (900004, []), (900078, []), (900079, [])] 81 Try.func21 rfl rfl (by kernel_rfl) (fun K => ?_)
  refine TS_go 12 ?_
  replace h := bindO h
  obtain ⟨v1, hv1, h⟩ := h
  refine TS_call [] (ok_ref06_Valid a0 v1 hv1) (by kernel_rfl) (by kernel_rfl) ?_
  refine TS_go 2 ?_
  replace h := condO h
  rcases h with ⟨hb2, h⟩ | ⟨hb2, h⟩
  · subst hb2
    refine TS_go 1 ?_
    replace h := bindO h
    obtain ⟨v3, hv3, h⟩ := h
    refine TS_call [] (ok_ref05_Valid a1 v3 hv3) (by kernel_rfl) (by kernel_rfl) ?_
    refine TS_go 3 ?_
    replace h := condO h
    rcases h with ⟨hb4, h⟩ | ⟨hb4, h⟩
    · subst hb4
      refine TS_go 5 ?_
      replace h := condO h
      rcases h with ⟨hb5, h⟩ | ⟨hb5, h⟩
      · refine TS_know 22 (b := true) hb5 (by kernel_rfl) (by kernel_rfl) ?_
        refine TS_know 23 (b := true) hb5 (by kernel_rfl) (by kernel_rfl) ?_
        refine TS_know 24 (b := true) hb5 (by kernel_rfl) (by kernel_rfl) ?_
        refine TS_go 4 ?_
        refine TS_T (by kernel_rfl) rfl ?_
        refine TS_go 8 ?_
        refine TS_nilB 6 0 600000 69 17 (by kernel_rfl) ?_
        refine TS_nilB 6 4 600001 79 6 (by kernel_rfl) ?_
        refine TS_nilB 7 14 600002 5 1 (by kernel_rfl) ?_
        refine TS_nilB 7 15 600003 5 1 (by kernel_rfl) ?_
        refine TS_fitU ⟨[(6, []), (7, []), (8, [])], [(600000, (900000, [])), (600001, (900004, [])), (600002, (900078, [])), (600003, (900079, [])), (6, (6, [])), (7, (7, []))]⟩ (by kernel_rfl) ?_
        refine TS_go 2 ?_
        have ret := Option.some.inj h
        subst ret
        exact TS_ret (by kernel_rfl) (by kernel_rfl) (by kernel_rfl)
      · refine TS_know 22 (b := false) hb5 (by kernel_rfl) (by kernel_rfl) ?_
        refine TS_know 23 (b := false) hb5 (by kernel_rfl) (by kernel_rfl) ?_
        refine TS_know 24 (b := false) hb5 (by kernel_rfl) (by kernel_rfl) ?_
        refine TS_go 4 ?_
        replace h := condO h
        rcases h with ⟨hb6, h⟩ | ⟨hb6, h⟩
        · refine TS_know 26 (b := true) hb6 (by kernel_rfl) (by kernel_rfl) ?_
          refine TS_know 27 (b := true) hb6 (by kernel_rfl) (by kernel_rfl) ?_
          refine TS_T (by kernel_rfl) rfl ?_
          refine TS_go 8 ?_
          refine TS_nilB 6 0 600000 69 17 (by kernel_rfl) ?_
          refine TS_nilB 6 4 600001 79 6 (by kernel_rfl) ?_
          refine TS_nilB 7 14 600002 5 1 (by kernel_rfl) ?_
          refine TS_nilB 7 15 600003 5 1 (by kernel_rfl) ?_
          refine TS_fitU ⟨[(6, []), (7, []), (8, [])], [(600000, (900000, [])), (600001, (900004, [])), (600002, (900078, [])), (600003, (900079, [])), (6, (6, [])), (7, (7, []))]⟩ (by kernel_rfl) ?_
          refine TS_go 2 ?_
          have ret := Option.some.inj h
          subst ret
          exact TS_ret (by kernel_rfl) (by kernel_rfl) (by kernel_rfl)
        · refine TS_know 26 (b := false) hb6 (by kernel_rfl) (by kernel_rfl) ?_
          refine TS_know 27 (b := false) hb6 (by kernel_rfl) (by kernel_rfl) ?_
          refine TS_F (by kernel_rfl) rfl ?_
          refine TS_go 5 ?_
          replace h := bindO h
          obtain ⟨v7, hv7, h⟩ := h
          refine TS_call [] (ok_ref06_key a0 a2 v7 hv7) (by kernel_rfl) (by kernel_rfl) ?_
          refine TS_go 13 ?_
          replace h := condO h
          rcases h with ⟨hb8, h⟩ | ⟨hb8, h⟩
          · refine TS_know 35 (b := true) hb8 (by kernel_rfl) (by kernel_rfl) ?_
            refine TS_know 10 (b := true) hb8 (by kernel_rfl) (by kernel_rfl) ?_
            refine TS_know 36 (b := true) hb8 (by kernel_rfl) (by kernel_rfl) ?_
            refine TS_know 37 (b := false) (notF hb8) (by kernel_rfl) (by kernel_rfl) ?_
            refine TS_F (by kernel_rfl) rfl ?_
            refine TS_go 10 ?_
            replace h := condO h
            rcases h with ⟨hb9, h⟩ | ⟨hb9, h⟩
            · refine TS_know 44 (b := true) hb9 (by kernel_rfl) (by kernel_rfl) ?_
              refine TS_T (by kernel_rfl) rfl ?_
              refine TS_go 8 ?_
              refine TS_nilB 6 0 600000 69 17 (by kernel_rfl) ?_
              refine TS_nilB 6 4 600001 79 6 (by kernel_rfl) ?_
              refine TS_nilB 7 14 600002 5 1 (by kernel_rfl) ?_
              refine TS_nilB 7 15 600003 5 1 (by kernel_rfl) ?_
              refine TS_fitU ⟨[(6, []), (7, []), (8, [])], [(600000, (900000, [])), (600001, (900004, [])), (600002, (900078, [])), (600003, (900079, [])), (6, (6, [])), (7, (7, []))]⟩ (by kernel_rfl) ?_
              refine TS_go 2 ?_
              have ret := Option.some.inj h
              subst ret
              exact TS_ret (by kernel_rfl) (by kernel_rfl) (by kernel_rfl)
            · refine TS_know 44 (b := false) hb9 (by kernel_rfl) (by kernel_rfl) ?_
              refine TS_F (by kernel_rfl) rfl ?_
              refine TS_go 3 ?_
              refine TS_litNT 47 5 1 (ecI .u8) [] ([] : List Int) (by kernel_rfl) (by kernel_rfl) ?_
              refine TS_go 2 ?_
              replace h := bindO h
              obtain ⟨l10, hl10, h⟩ := h
              refine TS_appT (d := 47) (e := 5) (sz := 1) (N := List.length ([] : List Int)) (ecI .u8) (fun _ => by kernel_rfl) (l1 := ([] : List Int)) (l2 := a1.Payload) (c := .whole) hl10 (by kernel_rfl) (by kernel_rfl) ?_
              refine TS_go 4 ?_
              refine TS_draw (by kernel_rfl) ?_
              refine TD_go 3 ?_
              replace h := bindO h
              obtain ⟨n11, hn11, h⟩ := h
              refine TD_makeT 55 5 1 (ecI .u8) (0 : Int) [] (cs := [.lit (.int .u8 (0))]) (l := 4) (c := 4) hn11 (by kernel_rfl) (by kernel_rfl) (by kernel_rfl) ?_
              refine TD_go 8 ?_
              refine TD_end (by kernel_rfl) ?_
              refine TS_go 4 ?_
              replace h := bindO h
              obtain ⟨v12, hv12, h⟩ := h
              refine TS_call [[0, 0, 0, 0, 0, 0, 0, 0, 0, 0, 0, 0, 0, 0, 2, 2]] (ok_ref05_Valid (S_Frame.mk a1.Kind a1.AckRequest a1.Pending true a1.Seq a1.Pan a1.Dst a1.Src a0.Counter a2 l10 (List.replicate n11 (0 : Int))) v12 hv12) (by kernel_rfl) (by kernel_rfl) ?_
              refine TS_go 2 ?_
              replace h := condO h
              rcases h with ⟨hb13, h⟩ | ⟨hb13, h⟩
              · subst hb13
                refine TS_F (by kernel_rfl) rfl ?_
                refine TS_go 2 ?_
                refine TS_draw (by kernel_rfl) ?_
                refine TD_go 2 ?_
                replace h := bindO h
                obtain ⟨v14, hv14, h⟩ := h
                refine TD_conX (d := 68) (e := 900000) [[0, 0, 0, 0, 0, 0, 0, 0, 0, 0, 0, 0, 0, 0, 2, 2]] (okT_ref05_Header (S_Frame.mk a1.Kind a1.AckRequest a1.Pending true a1.Seq a1.Pan a1.Dst a1.Src a0.Counter a2 l10 (List.replicate n11 (0 : Int))) v14 hv14) (by kernel_rfl) (by kernel_rfl) ?_
                replace h := bindO h
                obtain ⟨v15, hv15, h⟩ := h
                refine TD_conX (d := 69) (e := 900000) [[], [2]] (okT_ref03_Tag v7.1 v14 4 v15 hv15) (by kernel_rfl) (by kernel_rfl) ?_
                refine TD_go 5 ?_
                refine TD_end (by kernel_rfl) ?_
                refine TS_go 3 ?_
                replace h := bindO h
                obtain ⟨v16, hv16, h⟩ := h
                refine TS_con [] [(74, 900000), (600000, 900004)] none (okT_ref06_copied a0 v16 hv16) (by kernel_rfl) (by kernel_rfl) (by kernel_rfl) ?_
                refine TS_go 11 ?_
                refine TS_draw (by kernel_rfl) ?_
                refine TD_go 5 ?_
                refine TD_end (by kernel_rfl) ?_
                refine TS_fitU ⟨[(6, []), (7, []), (8, [])], [(74, (900000, [])), (600000, (900004, [])), (47, (900078, [])), (69, (900079, [])), (6, (6, [])), (7, (7, []))]⟩ (by kernel_rfl) ?_
                refine TS_go 1 ?_
                have ret := Option.some.inj h
                subst ret
                exact TS_ret (by kernel_rfl) (by kernel_rfl) (by kernel_rfl)
              · subst hb13
                refine TS_T (by kernel_rfl) rfl ?_
                refine TS_go 8 ?_
                refine TS_nilB 6 0 600000 69 17 (by kernel_rfl) ?_
                refine TS_nilB 6 4 600001 79 6 (by kernel_rfl) ?_
                refine TS_nilB 7 14 600002 5 1 (by kernel_rfl) ?_
                refine TS_nilB 7 15 600003 5 1 (by kernel_rfl) ?_
                refine TS_fitU ⟨[(6, []), (7, []), (8, [])], [(600000, (900000, [])), (600001, (900004, [])), (600002, (900078, [])), (600003, (900079, [])), (6, (6, [])), (7, (7, []))]⟩ (by kernel_rfl) ?_
                refine TS_go 2 ?_
                have ret := Option.some.inj h
                subst ret
                exact TS_ret (by kernel_rfl) (by kernel_rfl) (by kernel_rfl)
          · refine TS_know 35 (b := false) hb8 (by kernel_rfl) (by kernel_rfl) ?_
            refine TS_know 10 (b := false) hb8 (by kernel_rfl) (by kernel_rfl) ?_
            refine TS_know 36 (b := false) hb8 (by kernel_rfl) (by kernel_rfl) ?_
            refine TS_know 37 (b := true) (notT hb8) (by kernel_rfl) (by kernel_rfl) ?_
            refine TS_T (by kernel_rfl) rfl ?_
            refine TS_go 8 ?_
            refine TS_nilB 6 0 600000 69 17 (by kernel_rfl) ?_
            refine TS_nilB 6 4 600001 79 6 (by kernel_rfl) ?_
            refine TS_nilB 7 14 600002 5 1 (by kernel_rfl) ?_
            refine TS_nilB 7 15 600003 5 1 (by kernel_rfl) ?_
            refine TS_fitU ⟨[(6, []), (7, []), (8, [])], [(600000, (900000, [])), (600001, (900004, [])), (600002, (900078, [])), (600003, (900079, [])), (6, (6, [])), (7, (7, []))]⟩ (by kernel_rfl) ?_
            refine TS_go 2 ?_
            have ret := Option.some.inj h
            subst ret
            exact TS_ret (by kernel_rfl) (by kernel_rfl) (by kernel_rfl)
    · subst hb4
      refine TS_go 9 ?_
      refine TS_T (by kernel_rfl) rfl ?_
      refine TS_go 8 ?_
      refine TS_nilB 6 0 600000 69 17 (by kernel_rfl) ?_
      refine TS_nilB 6 4 600001 79 6 (by kernel_rfl) ?_
      refine TS_nilB 7 14 600002 5 1 (by kernel_rfl) ?_
      refine TS_nilB 7 15 600003 5 1 (by kernel_rfl) ?_
      refine TS_fitU ⟨[(6, []), (7, []), (8, [])], [(600000, (900000, [])), (600001, (900004, [])), (600002, (900078, [])), (600003, (900079, [])), (6, (6, [])), (7, (7, []))]⟩ (by kernel_rfl) ?_
      refine TS_go 2 ?_
      have ret := Option.some.inj h
      subst ret
      exact TS_ret (by kernel_rfl) (by kernel_rfl) (by kernel_rfl)
  · subst hb2
    refine TS_go 14 ?_
    refine TS_T (by kernel_rfl) rfl ?_
    refine TS_go 8 ?_
    refine TS_nilB 6 0 600000 69 17 (by kernel_rfl) ?_
    refine TS_nilB 6 4 600001 79 6 (by kernel_rfl) ?_
    refine TS_nilB 7 14 600002 5 1 (by kernel_rfl) ?_
    refine TS_nilB 7 15 600003 5 1 (by kernel_rfl) ?_
    refine TS_fitU ⟨[(6, []), (7, []), (8, [])], [(600000, (900000, [])), (600001, (900004, [])), (600002, (900078, [])), (600003, (900079, [])), (6, (6, [])), (7, (7, []))]⟩ (by kernel_rfl) ?_
    refine TS_go 2 ?_
    have ret := Option.some.inj h
    subst ret
    exact TS_ret (by kernel_rfl) (by kernel_rfl) (by kernel_rfl)
theorem ok_ref06_Seal (a0 : S_Guard) (a1 : S_Frame) (a2 : Int) (r : S_Guard × S_Frame × Int) (h : F_ref06_Seal a0 a1 a2 = some r) : Con Try.prog 21 [.agg (S_Guard.cs a0), .agg (S_Frame.cs a1), .c (.lit (.int .u8 (a2)))] [] (.tup [(true, S_Guard.cs r.1), (true, S_Frame.cs r.2.1), (false, [.lit (.int .i64 (r.2.2))])]) [] :=
  con_drop [[18, 0, 0, 0, 7], [0, 0, 0, 0, 0, 0, 0, 0, 0, 0, 0, 0, 0, 0, 2, 2]] [] (okT_ref06_Seal a0 a1 a2 r h) (by kernel_rfl) (by kernel_rfl) (by kernel_rfl)

/-- (*multihop/multihopmade.Tape).Sealed -/
noncomputable def F_made_Tape_Sealed_l3  (s5 : Int × S_Guard) : Option ((Int × S_Guard) ⊕ (S_Guard)) :=
  bif (decide (s5.1 < 3)) then
    (F_made_Key s5.1).bind fun v9 =>
    (appO 17 s5.2.Keys (Cut.app .whole ([(S_LinkKey.mk (IntKind.wrap .u8 s5.1) v9)] : List S_LinkKey))).bind fun l10 =>
    some (Sum.inl (IntKind.wrap .i64 (s5.1 + 1), (S_Guard.mk l10 s5.2.Counter s5.2.Reserved s5.2.Nonce s5.2.Peers)))
  else
    some (Sum.inr s5.2)
noncomputable def F_made_Tape_Sealed_j2  (v3 : S_multihopmade_Tape × S_Frame) : Option (S_Frame × S_multihopmade_Tape) :=
  (F_made_Tape_Next v3.1 70).bind fun v4 =>
  (loopO (F_made_Tape_Sealed_l3) (0, (S_Guard.mk ([] : List S_LinkKey) (IntKind.wrap .u32 v4.1) 1000 0 ([] : List S_Peer)))).bind fun b6 =>
  (F_made_Tape_Next v4.2 3).bind fun v12 =>
  (F_ref06_Seal b6 v3.2 (IntKind.wrap .u8 v12.1)).bind fun v13 =>
  some ((v13.2.1, v12.2))
noncomputable def F_made_Tape_Sealed_j1 (a1 : S_Guard) (v2 : S_multihopmade_Tape × S_Frame) : Option (S_Frame × S_multihopmade_Tape) :=
  (F_made_Tape_Bool v2.1 3).bind fun v14 =>
  bif v14.1 then
    (F_made_Tape_Next v14.2 5).bind fun v16 =>
    (F_ref06_Challenge (S_Guard.mk ([] : List S_LinkKey) 0 0 (IntKind.wrap .u32 (a1.Nonce + (IntKind.wrap .u32 (iquo .i64 v16.1 4)))) ([] : List S_Peer))).bind fun v17 =>
    (F_ref06_Respond v17).bind fun v18 =>
    (F_made_Tape_Sealed_j2) (v16.2, (S_Frame.mk 3 v2.2.AckRequest v2.2.Pending v2.2.Secure v2.2.Seq v2.2.Pan v2.2.Dst v2.2.Src v2.2.Counter v2.2.Key v18.1 v2.2.MIC))
  else
    (F_made_Tape_Sealed_j2) (v14.2, v2.2)
noncomputable def F_made_Tape_Sealed (a0 : S_multihopmade_Tape) (a1 : S_Guard) : Option (S_Frame × S_multihopmade_Tape) :=
  (F_made_Tape_Frame a0 8).bind fun v1 =>
  (F_made_Tape_Next v1.2 3).bind fun v19 =>
  bif (decide (v19.1 > 0)) then
    (F_made_Tape_Next v19.2 5).bind fun v21 =>
    (F_made_Tape_Sealed_j1 a1) (v21.2, (S_Frame.mk v1.1.Kind v1.1.AckRequest v1.1.Pending v1.1.Secure v1.1.Seq v1.1.Pan v1.1.Dst (S_Addr.mk 2 (IntKind.wrap .u16 v21.1) 0) v1.1.Counter v1.1.Key v1.1.Payload v1.1.MIC))
  else
    (F_made_Tape_Sealed_j1 a1) (v19.2, v1.1)
set_option maxRecDepth 100000 in
set_option maxHeartbeats 40000000 in
theorem ok_made_Tape_Sealed (a0 : S_multihopmade_Tape) (a1 : S_Guard) (r : S_Frame × S_multihopmade_Tape) (h : F_made_Tape_Sealed a0 a1 = some r) : Con Try.prog 12 [.c (.box 1000000 0), .agg (S_Guard.cs a1)] [(1000000, .box (S_multihopmade_Tape.cs a0))] (.agg (S_Frame.cs r.1)) [(1000000, .box (S_multihopmade_Tape.cs r.2))] := by
  unfold F_made_Tape_Sealed at h
  refine con_of [[0, 0, 0, 0, 0, 0, 0, 0, 0, 0, 0, 0, 0, 0, 2, 2]] [(1000000, [2])] 70 Try.func12 rfl rfl (by kernel_rfl) (fun K => ?_)
  refine TS_go 8 ?_
  replace h := bindO h
  obtain ⟨v1, hv1, h⟩ := h
  refine TS_con [] [(14, 900014)] (some (1000000, 0)) (okT_made_Tape_Frame a0 8 v1 hv1) (by kernel_rfl) (by kernel_rfl) (by kernel_rfl) ?_
  refine TS_go 3 ?_
  refine TS_cut ⟨[(0, []), (3, []), (4, []), (5, [])], [(1000000, (1000000, [])), (3, (3, [])), (4, (4, [])), (14, (14, [])), (5, (5, []))]⟩ (.mk [.code (codeAt [1, 1] (bodyOf Try.f12))] .normal ⟨[(0, .c (.box 1000000 0)), (3, .c (.box 3 0)), (4, .c (.box 4 0)), (5, .c (.box 5 0))], [(1000000, .box [.slc 1 0 (List.length v1.2.l) (List.map (ecI .i64) v1.2.l), .lit (.int .i64 (v1.2.at_))]), (3, .box [.slc 17 0 (List.length a1.Keys) (List.map S_LinkKey.cs a1.Keys), .lit (.int .u32 (a1.Counter)), .lit (.int .u32 (a1.Reserved)), .lit (.int .u32 (a1.Nonce)), .slc 6 0 (List.length a1.Peers) (List.map S_Peer.cs a1.Peers)]), (4, .box [.lit (.int .i64 (0)), .lit (.bool (false)), .lit (.bool (false)), .lit (.bool (false)), .lit (.int .u8 (0)), .lit (.int .u16 (0)), .lit (.int .i64 (0)), .lit (.int .u16 (0)), .lit (.int .u64 (0)), .lit (.int .i64 (0)), .lit (.int .u16 (0)), .lit (.int .u64 (0)), .lit (.int .u32 (0)), .lit (.int .u8 (0)), .lit (.slice none 0 0), .lit (.slice none 0 0)]), (14, .spare 5 1 (List.length v1.1.Payload)), (5, .box [.lit (.int .i64 (v1.1.Kind)), .lit (.bool (v1.1.AckRequest)), .lit (.bool (v1.1.Pending)), .lit (.bool (v1.1.Secure)), .lit (.int .u8 (v1.1.Seq)), .lit (.int .u16 (v1.1.Pan)), .lit (.int .i64 (v1.1.Dst.Mode)), .lit (.int .u16 (v1.1.Dst.Short)), .lit (.int .u64 (v1.1.Dst.EUI)), .lit (.int .i64 (v1.1.Src.Mode)), .lit (.int .u16 (v1.1.Src.Short)), .lit (.int .u64 (v1.1.Src.EUI)), .lit (.int .u32 (v1.1.Counter)), .lit (.int .u8 (v1.1.Key)), .slc 1 16 (List.length v1.1.Payload) (List.map (ecI .u8) v1.1.Payload), .slc 1 0 (List.length v1.1.MIC) (List.map (ecI .u8) v1.1.MIC)])]⟩) (by kernel_rfl) (by kernel_rfl) ?_
  refine TS_joinB ⟨[(0, []), (3, []), (4, []), (5, [])], [(1000000, (1000000, [])), (3, (3, [])), (4, (4, [])), (5, (5, [])), (14, (14, []))]⟩ (fun (v2 : S_multihopmade_Tape × S_Frame) => []) (fun (v2 : S_multihopmade_Tape × S_Frame) => [(1000000, .box (S_multihopmade_Tape.cs v2.1)), (5, .box [.lit (.int .i64 (v2.2.Kind)), .lit (.bool (v2.2.AckRequest)), .lit (.bool (v2.2.Pending)), .lit (.bool (v2.2.Secure)), .lit (.int .u8 (v2.2.Seq)), .lit (.int .u16 (v2.2.Pan)), .lit (.int .i64 (v2.2.Dst.Mode)), .lit (.int .u16 (v2.2.Dst.Short)), .lit (.int .u64 (v2.2.Dst.EUI)), .lit (.int .i64 (v2.2.Src.Mode)), .lit (.int .u16 (v2.2.Src.Short)), .lit (.int .u64 (v2.2.Src.EUI)), .lit (.int .u32 (v2.2.Counter)), .lit (.int .u8 (v2.2.Key)), .slc 1 16 (List.length v2.2.Payload) (List.map (ecI .u8) v2.2.Payload), .slc 1 0 (List.length v2.2.MIC) (List.map (ecI .u8) v2.2.MIC)]), (14, .spare 5 1 (List.length v2.2.Payload))]) (F_made_Tape_Sealed_j1 a1) r ?_ ?_
  · clear h
    intro v2 h
    unfold F_made_Tape_Sealed_j1 at h
    refine TS_cut ⟨[(0, []), (3, []), (4, []), (5, [])], [(1000000, (1000000, [])), (3, (3, [])), (4, (4, [])), (5, (5, [])), (14, (14, []))]⟩ (.mk [.code (codeAt [1, 1, 1] (bodyOf Try.f12))] .normal ⟨[(0, .c (.box 1000000 0)), (3, .c (.box 3 0)), (4, .c (.box 4 0)), (5, .c (.box 5 0))], [(1000000, .box [.slc 1 0 (List.length v2.1.l) (List.map (ecI .i64) v2.1.l), .lit (.int .i64 (v2.1.at_))]), (3, .box [.slc 17 0 (List.length a1.Keys) (List.map S_LinkKey.cs a1.Keys), .lit (.int .u32 (a1.Counter)), .lit (.int .u32 (a1.Reserved)), .lit (.int .u32 (a1.Nonce)), .slc 6 0 (List.length a1.Peers) (List.map S_Peer.cs a1.Peers)]), (4, .box [.lit (.int .i64 (0)), .lit (.bool (false)), .lit (.bool (false)), .lit (.bool (false)), .lit (.int .u8 (0)), .lit (.int .u16 (0)), .lit (.int .i64 (0)), .lit (.int .u16 (0)), .lit (.int .u64 (0)), .lit (.int .i64 (0)), .lit (.int .u16 (0)), .lit (.int .u64 (0)), .lit (.int .u32 (0)), .lit (.int .u8 (0)), .lit (.slice none 0 0), .lit (.slice none 0 0)]), (5, .box [.lit (.int .i64 (v2.2.Kind)), .lit (.bool (v2.2.AckRequest)), .lit (.bool (v2.2.Pending)), .lit (.bool (v2.2.Secure)), .lit (.int .u8 (v2.2.Seq)), .lit (.int .u16 (v2.2.Pan)), .lit (.int .i64 (v2.2.Dst.Mode)), .lit (.int .u16 (v2.2.Dst.Short)), .lit (.int .u64 (v2.2.Dst.EUI)), .lit (.int .i64 (v2.2.Src.Mode)), .lit (.int .u16 (v2.2.Src.Short)), .lit (.int .u64 (v2.2.Src.EUI)), .lit (.int .u32 (v2.2.Counter)), .lit (.int .u8 (v2.2.Key)), .slc 1 16 (List.length v2.2.Payload) (List.map (ecI .u8) v2.2.Payload), .slc 1 0 (List.length v2.2.MIC) (List.map (ecI .u8) v2.2.MIC)]), (14, .spare 5 1 (List.length v2.2.Payload))]⟩) (by kernel_rfl) (by kernel_rfl) ?_
    refine TS_joinB ⟨[(0, []), (4, []), (5, [])], [(1000000, (1000000, [])), (4, (4, [])), (5, (5, [])), (14, (14, []))]⟩ (fun (v3 : S_multihopmade_Tape × S_Frame) => []) (fun (v3 : S_multihopmade_Tape × S_Frame) => [(1000000, .box (S_multihopmade_Tape.cs v3.1)), (5, .box [.lit (.int .i64 (v3.2.Kind)), .lit (.bool (v3.2.AckRequest)), .lit (.bool (v3.2.Pending)), .lit (.bool (v3.2.Secure)), .lit (.int .u8 (v3.2.Seq)), .lit (.int .u16 (v3.2.Pan)), .lit (.int .i64 (v3.2.Dst.Mode)), .lit (.int .u16 (v3.2.Dst.Short)), .lit (.int .u64 (v3.2.Dst.EUI)), .lit (.int .i64 (v3.2.Src.Mode)), .lit (.int .u16 (v3.2.Src.Short)), .lit (.int .u64 (v3.2.Src.EUI)), .lit (.int .u32 (v3.2.Counter)), .lit (.int .u8 (v3.2.Key)), .slc 1 16 (List.length v3.2.Payload) (List.map (ecI .u8) v3.2.Payload), .slc 1 0 (List.length v3.2.MIC) (List.map (ecI .u8) v3.2.MIC)]), (14, .spare 5 1 (List.length v3.2.Payload))]) (F_made_Tape_Sealed_j2) r ?_ ?_
    · clear h
      intro v3 h
      unfold F_made_Tape_Sealed_j2 at h
      refine TS_go 3 ?_
      replace h := bindO h
      obtain ⟨v4, hv4, h⟩ := h
      refine TS_con [] [] (some (1000000, 0)) (ok_made_Tape_Next v3.1 70 v4 hv4) (by kernel_rfl) (by kernel_rfl) (by kernel_rfl) ?_
      refine TS_go 11 ?_
      refine TS_nilB 8 0 600000 69 17 (by kernel_rfl) ?_
      refine TS_cut ⟨[(0, []), (4, []), (5, []), (8, []), (9, [])], [(1000000, (1000000, [])), (4, (4, [])), (5, (5, [])), (14, (14, [])), (8, (8, [])), (600000, (600000, []))]⟩ (.mk [.code (codeAt [1, 1, 1, 1, 1, 0, 1, 0] (bodyOf Try.f12)), .blk 0, .code (codeAt [1, 1, 1, 1, 1, 1] (bodyOf Try.f12))] .normal ⟨[(0, .c (.box 1000000 0)), (4, .c (.box 4 0)), (5, .c (.box 5 0)), (8, .c (.box 8 0)), (9, .c (.lit (.int .i64 (0))))], [(1000000, .box [.slc 1 0 (List.length v4.2.l) (List.map (ecI .i64) v4.2.l), .lit (.int .i64 (v4.2.at_))]), (4, .box [.lit (.int .i64 (0)), .lit (.bool (false)), .lit (.bool (false)), .lit (.bool (false)), .lit (.int .u8 (0)), .lit (.int .u16 (0)), .lit (.int .i64 (0)), .lit (.int .u16 (0)), .lit (.int .u64 (0)), .lit (.int .i64 (0)), .lit (.int .u16 (0)), .lit (.int .u64 (0)), .lit (.int .u32 (0)), .lit (.int .u8 (0)), .lit (.slice none 0 0), .lit (.slice none 0 0)]), (5, .box [.lit (.int .i64 (v3.2.Kind)), .lit (.bool (v3.2.AckRequest)), .lit (.bool (v3.2.Pending)), .lit (.bool (v3.2.Secure)), .lit (.int .u8 (v3.2.Seq)), .lit (.int .u16 (v3.2.Pan)), .lit (.int .i64 (v3.2.Dst.Mode)), .lit (.int .u16 (v3.2.Dst.Short)), .lit (.int .u64 (v3.2.Dst.EUI)), .lit (.int .i64 (v3.2.Src.Mode)), .lit (.int .u16 (v3.2.Src.Short)), .lit (.int .u64 (v3.2.Src.EUI)), .lit (.int .u32 (v3.2.Counter)), .lit (.int .u8 (v3.2.Key)), .slc 1 16 (List.length v3.2.Payload) (List.map (ecI .u8) v3.2.Payload), .slc 1 0 (List.length v3.2.MIC) (List.map (ecI .u8) v3.2.MIC)]), (14, .spare 5 1 (List.length v3.2.Payload)), (8, .box [.slc 17 600002 (List.length ([] : List S_LinkKey)) (List.map S_LinkKey.cs ([] : List S_LinkKey)), .lit (.int .u32 (IntKind.wrap .u32 v4.1)), .lit (.int .u32 (1000)), .lit (.int .u32 (0)), .lit (.slice none 0 0)]), (600000, .spare 69 17 (List.length ([] : List S_LinkKey)))]⟩) (by kernel_rfl) (by kernel_rfl) ?_
      replace h := bindO h
      obtain ⟨y7, hl3, hK3⟩ := h
      refine TS_loopB (F_made_Tape_Sealed_l3) ⟨[(0, []), (4, []), (5, []), (8, []), (9, [])], [(1000000, (1000000, [])), (4, (4, [])), (5, (5, [])), (8, (8, [0, 0, 0, 0, 7])), (14, (14, [])), (600000, (600000, []))]⟩ (fun (s5 : Int × S_Guard) => [(9, .c (.lit (.int .i64 (s5.1))))]) (fun (s5 : Int × S_Guard) => [(8, .box [.slc 17 600002 (List.length s5.2.Keys) (List.map S_LinkKey.cs s5.2.Keys), .lit (.int .u32 (s5.2.Counter)), .lit (.int .u32 (s5.2.Reserved)), .lit (.int .u32 (s5.2.Nonce)), .slc 6 0 (List.length s5.2.Peers) (List.map S_Peer.cs s5.2.Peers)]), (600000, .spare 69 17 (List.length s5.2.Keys))]) (0, (S_Guard.mk ([] : List S_LinkKey) (IntKind.wrap .u32 v4.1) 1000 0 ([] : List S_Peer))) y7 (.exit 0) (fun (b : S_Guard) => b) ⟨[(0, []), (4, []), (5, []), (8, [])], [(1000000, (1000000, [])), (4, (4, [])), (5, (5, [])), (8, (8, [0, 0, 0, 0, 7])), (14, (14, [])), (600000, (600000, []))]⟩ (fun (b6 : S_Guard) => []) (fun (b6 : S_Guard) => [(8, .box [.slc 17 600002 (List.length b6.Keys) (List.map S_LinkKey.cs b6.Keys), .lit (.int .u32 (b6.Counter)), .lit (.int .u32 (b6.Reserved)), .lit (.int .u32 (b6.Nonce)), .slc 6 0 (List.length b6.Peers) (List.map S_Peer.cs b6.Peers)]), (600000, .spare 69 17 (List.length b6.Keys))]) hl3 (by kernel_rfl) (by kernel_rfl) ?_ ?_
      · intro s5 x h hy3
        unfold F_made_Tape_Sealed_l3 at h
        refine TS_go 6 ?_
        replace h := condO h
        rcases h with ⟨hb8, h⟩ | ⟨hb8, h⟩
        · refine TS_know 46 (b := true) hb8 (by kernel_rfl) (by kernel_rfl) ?_
          refine TS_T (by kernel_rfl) rfl ?_
          refine TS_go 3 ?_
          refine TS_draw (by kernel_rfl) ?_
          refine TD_go 5 ?_
          replace h := bindO h
          obtain ⟨v9, hv9, h⟩ := h
          refine TD_call [] (ok_made_Key s5.1 v9 hv9) (by kernel_rfl) (by kernel_rfl) ?_
          refine TD_go 1 ?_
          refine TD_litNT 56 69 17 S_LinkKey.cs [] ([(S_LinkKey.mk (IntKind.wrap .u8 s5.1) v9)] : List S_LinkKey) (by kernel_rfl) (by kernel_rfl) ?_
          replace h := bindO h
          obtain ⟨_l10, hl10, h⟩ := h
          refine TD_appT (d := 600000) (e := 69) (sz := 17) (N := List.length s5.2.Keys) S_LinkKey.cs (fun _ => by kernel_rfl) (l1 := s5.2.Keys) (l2 := ([(S_LinkKey.mk (IntKind.wrap .u8 s5.1) v9)] : List S_LinkKey)) (c := .whole) hl10 (by kernel_rfl) (by kernel_rfl) ?_
          refine TD_go 2 ?_
          refine TD_end (by kernel_rfl) ?_
          refine TS_go 6 ?_
          have ret := Option.some.inj h
          subst ret
          exact TS_againB _ ⟨[(0, []), (4, []), (5, []), (8, []), (9, [])], [(1000000, (1000000, [])), (4, (4, [])), (5, (5, [])), (8, (8, [])), (14, (14, [])), (600000, (600000, []))]⟩ rfl (by kernel_rfl) (by kernel_rfl)
        · refine TS_know 46 (b := false) hb8 (by kernel_rfl) (by kernel_rfl) ?_
          refine TS_F (by kernel_rfl) rfl ?_
          refine TS_go 2 ?_
          have ret := Option.some.inj h
          subst ret
          exact TS_brkB s5.2 ⟨[(0, []), (4, []), (5, []), (8, [])], [(1000000, (1000000, [])), (4, (4, [])), (5, (5, [])), (8, (8, [])), (14, (14, [])), (600000, (600000, []))]⟩ rfl (by kernel_rfl) (by kernel_rfl) (by kernel_rfl)
      · intro b6 hb
        subst y7
        have h := hK3
        refine TS_go 2 ?_
        refine TS_draw (by kernel_rfl) ?_
        refine TD_go 3 ?_
        replace h := bindO h
        obtain ⟨v12, hv12, h⟩ := h
        refine TD_con (_h := []) (_h' := []) [] 1000000 0 [.slc 1 0 (List.length v4.2.l) (List.map (ecI .i64) v4.2.l), .lit (.int .i64 (v4.2.at_))] _ _ (ok_made_Tape_Next v4.2 3 v12 hv12) (by kernel_rfl) (by kernel_rfl) (by kernel_rfl) (by kernel_rfl) ?_
        refine TD_go 1 ?_
        replace h := bindO h
        obtain ⟨v13, hv13, h⟩ := h
        refine TD_call [[18, 0, 0, 0, 7], [0, 0, 0, 0, 0, 0, 0, 0, 0, 0, 0, 0, 0, 0, 2, 2]] (ok_ref06_Seal b6 v3.2 (IntKind.wrap .u8 v12.1) v13 hv13) (by kernel_rfl) (by kernel_rfl) ?_
        refine TD_go 9 ?_
        refine TD_end (by kernel_rfl) ?_
        refine TS_go 6 ?_
        have ret := Option.some.inj h
        subst ret
        exact TS_ret (by kernel_rfl) (by kernel_rfl) (by kernel_rfl)
    · refine TS_go 3 ?_
      replace h := bindO h
      obtain ⟨v14, hv14, h⟩ := h
      refine TS_con [] [] (some (1000000, 0)) (ok_made_Tape_Bool v2.1 3 v14 hv14) (by kernel_rfl) (by kernel_rfl) (by kernel_rfl) ?_
      refine TS_go 1 ?_
      replace h := condO h
      rcases h with ⟨hb15, h⟩ | ⟨hb15, h⟩
      · refine TS_know 24 (b := true) hb15 (by kernel_rfl) (by kernel_rfl) ?_
        refine TS_T (by kernel_rfl) rfl ?_
        refine TS_go 6 ?_
        refine TS_draw (by kernel_rfl) ?_
        refine TD_go 3 ?_
        replace h := bindO h
        obtain ⟨v16, hv16, h⟩ := h
        refine TD_con (_h := []) (_h' := []) [] 1000000 0 [.slc 1 0 (List.length v14.2.l) (List.map (ecI .i64) v14.2.l), .lit (.int .i64 (v14.2.at_))] _ _ (ok_made_Tape_Next v14.2 5 v16 hv16) (by kernel_rfl) (by kernel_rfl) (by kernel_rfl) (by kernel_rfl) ?_
        refine TD_go 4 ?_
        replace h := bindO h
        obtain ⟨v17, hv17, h⟩ := h
        refine TD_conX (d := 35) (e := 900000) [[18, 0, 0, 0, 7]] (okT_ref06_Challenge (S_Guard.mk ([] : List S_LinkKey) 0 0 (IntKind.wrap .u32 (a1.Nonce + (IntKind.wrap .u32 (iquo .i64 v16.1 4)))) ([] : List S_Peer)) v17 hv17) (by kernel_rfl) (by kernel_rfl) ?_
        replace h := bindO h
        obtain ⟨v18, hv18, h⟩ := h
        refine TD_conX (d := 36) (e := 900000) [[2]] (okT_ref06_Respond v17 v18 hv18) (by kernel_rfl) (by kernel_rfl) ?_
        refine TD_go 5 ?_
        refine TD_end (by kernel_rfl) ?_
        refine TS_go 5 ?_
        exact TS_meet (v16.2, (S_Frame.mk 3 v2.2.AckRequest v2.2.Pending v2.2.Secure v2.2.Seq v2.2.Pan v2.2.Dst v2.2.Src v2.2.Counter v2.2.Key v18.1 v2.2.MIC)) ⟨[(0, []), (4, []), (5, [])], [(1000000, (1000000, [])), (4, (4, [])), (5, (5, [])), (36, (14, []))]⟩ h (by kernel_rfl) (by kernel_rfl)
      · refine TS_know 24 (b := false) hb15 (by kernel_rfl) (by kernel_rfl) ?_
        refine TS_F (by kernel_rfl) rfl ?_
        refine TS_go 1 ?_
        exact TS_meet (v14.2, v2.2) ⟨[(0, []), (4, []), (5, [])], [(1000000, (1000000, [])), (4, (4, [])), (5, (5, [])), (14, (14, []))]⟩ h (by kernel_rfl) (by kernel_rfl)
  · refine TS_go 3 ?_
    replace h := bindO h
    obtain ⟨v19, hv19, h⟩ := h
    refine TS_con [] [] (some (1000000, 0)) (ok_made_Tape_Next v1.2 3 v19 hv19) (by kernel_rfl) (by kernel_rfl) (by kernel_rfl) ?_
    refine TS_go 2 ?_
    replace h := condO h
    rcases h with ⟨hb20, h⟩ | ⟨hb20, h⟩
    · refine TS_know 17 (b := true) hb20 (by kernel_rfl) (by kernel_rfl) ?_
      refine TS_T (by kernel_rfl) rfl ?_
      refine TS_go 2 ?_
      replace h := bindO h
      obtain ⟨v21, hv21, h⟩ := h
      refine TS_con [] [] (some (1000000, 0)) (ok_made_Tape_Next v19.2 5 v21 hv21) (by kernel_rfl) (by kernel_rfl) (by kernel_rfl) ?_
      refine TS_go 5 ?_
      exact TS_meet (v21.2, (S_Frame.mk v1.1.Kind v1.1.AckRequest v1.1.Pending v1.1.Secure v1.1.Seq v1.1.Pan v1.1.Dst (S_Addr.mk 2 (IntKind.wrap .u16 v21.1) 0) v1.1.Counter v1.1.Key v1.1.Payload v1.1.MIC)) ⟨[(0, []), (3, []), (4, []), (5, [])], [(1000000, (1000000, [])), (3, (3, [])), (4, (4, [])), (5, (5, [])), (14, (14, []))]⟩ h (by kernel_rfl) (by kernel_rfl)
    · refine TS_know 17 (b := false) hb20 (by kernel_rfl) (by kernel_rfl) ?_
      refine TS_F (by kernel_rfl) rfl ?_
      refine TS_go 1 ?_
      exact TS_meet (v19.2, v1.1) ⟨[(0, []), (3, []), (4, []), (5, [])], [(1000000, (1000000, [])), (3, (3, [])), (4, (4, [])), (5, (5, [])), (14, (14, []))]⟩ h (by kernel_rfl) (by kernel_rfl)

/-- multihop/multihopmade.Mod -/
noncomputable def F_made_Mod_j1  (v2 : Int) : Option (Int) :=
  some (v2)
noncomputable def F_made_Mod (a0 : Int) (a1 : Int) : Option (Int) :=
  bif decide (a1 ≠ 0) then
    bif (decide ((Int.tmod a0 a1) < 0)) then
      (F_made_Mod_j1) (IntKind.wrap .i64 ((Int.tmod a0 a1) + a1))
    else
      (F_made_Mod_j1) (Int.tmod a0 a1)
  else none
set_option maxRecDepth 100000 in
set_option maxHeartbeats 40000000 in
theorem ok_made_Mod (a0 : Int) (a1 : Int) (r : Int) (h : F_made_Mod a0 a1 = some r) : Con Try.prog 13 [.c (.lit (.int .i64 (a0))), .c (.lit (.int .i64 (a1)))] [] (.c (.lit (.int .i64 (r)))) [] := by
  unfold F_made_Mod at h
  refine con_of [] [] 14 Try.func13 rfl rfl (by kernel_rfl) (fun K => ?_)
  refine TS_go 8 ?_
  replace h := chkO h
  obtain ⟨hc1, h⟩ := h
  refine TS_num (op := .rem) (k := .i64) (k' := .i64) (m := a0) (i := a1) (of_decide_eq_true hc1) rfl (by simp) (by kernel_rfl) (by kernel_rfl) ?_
  refine TS_go 2 ?_
  refine TS_cut ⟨[(0, []), (1, [])], []⟩ (.mk [.code (codeAt [1, 1] (bodyOf Try.f13))] .normal ⟨[(0, .c (.lit (.int .i64 (Int.tmod a0 a1)))), (1, .c (.lit (.int .i64 (a1))))], []⟩) (by kernel_rfl) (by kernel_rfl) ?_
  refine TS_joinB ⟨[(0, [])], []⟩ (fun (v2 : Int) => [(0, .c (.lit (.int .i64 (v2))))]) (fun (v2 : Int) => []) (F_made_Mod_j1) r ?_ ?_
  · clear h
    intro v2 h
    unfold F_made_Mod_j1 at h
    refine TS_go 6 ?_
    have ret := Option.some.inj h
    subst ret
    exact TS_ret (by kernel_rfl) (by kernel_rfl) (by kernel_rfl)
  · refine TS_go 5 ?_
    replace h := condO h
    rcases h with ⟨hb3, h⟩ | ⟨hb3, h⟩
    · refine TS_know 9 (b := true) hb3 (by kernel_rfl) (by kernel_rfl) ?_
      refine TS_T (by kernel_rfl) rfl ?_
      refine TS_go 6 ?_
      exact TS_meet (IntKind.wrap .i64 ((Int.tmod a0 a1) + a1)) ⟨[(0, [])], []⟩ h (by kernel_rfl) (by kernel_rfl)
    · refine TS_know 9 (b := false) hb3 (by kernel_rfl) (by kernel_rfl) ?_
      refine TS_F (by kernel_rfl) rfl ?_
      refine TS_go 1 ?_
      exact TS_meet (Int.tmod a0 a1) ⟨[(0, [])], []⟩ h (by kernel_rfl) (by kernel_rfl)

/-- cmp.isNaN[uint8] -/
noncomputable def F_cmp_isNaN_uint8 (a0 : Int) : Option (Bool) :=
  some ((a0 != a0))
set_option maxRecDepth 100000 in
set_option maxHeartbeats 40000000 in
theorem ok_cmp_isNaN_uint8 (a0 : Int) (r : Bool) (h : F_cmp_isNaN_uint8 a0 = some r) : Con Try.prog 89 [.c (.lit (.int .u8 (a0)))] [] (.c (.lit (.bool (r)))) [] := by
  unfold F_cmp_isNaN_uint8 at h
  refine con_of [] [] 6 Try.func89 rfl rfl (by kernel_rfl) (fun K => ?_)
  refine TS_go 12 ?_
  have ret := Option.some.inj h
  subst ret
  exact TS_ret (by kernel_rfl) (by kernel_rfl) (by kernel_rfl)

/-- cmp.Compare[uint8] -/
noncomputable def F_cmp_Compare_uint8 (a0 : Int) (a1 : Int) : Option (Int) :=
  (F_cmp_isNaN_uint8 a0).bind fun v1 =>
  (F_cmp_isNaN_uint8 a1).bind fun v2 =>
  bif v1 then
    bif v2 then
      some (0)
    else
      some ((-1))
  else
    bif v2 then
      some (1)
    else
      bif (decide (a0 < a1)) then
        some ((-1))
      else
        bif (decide (a0 > a1)) then
          some (1)
        else
          some (0)
set_option maxRecDepth 100000 in
set_option maxHeartbeats 40000000 in
theorem ok_cmp_Compare_uint8 (a0 : Int) (a1 : Int) (r : Int) (h : F_cmp_Compare_uint8 a0 a1 = some r) : Con Try.prog 73 [.c (.lit (.int .u8 (a0))), .c (.lit (.int .u8 (a1)))] [] (.c (.lit (.int .i64 (r)))) [] := by
  unfold F_cmp_Compare_uint8 at h
  refine con_of [] [] 20 Try.func73 rfl rfl (by kernel_rfl) (fun K => ?_)
  refine TS_go 7 ?_
  replace h := bindO h
  obtain ⟨v1, hv1, h⟩ := h
  refine TS_call [] (ok_cmp_isNaN_uint8 a0 v1 hv1) (by kernel_rfl) (by kernel_rfl) ?_
  refine TS_go 5 ?_
  replace h := bindO h
  obtain ⟨v2, hv2, h⟩ := h
  refine TS_call [] (ok_cmp_isNaN_uint8 a1 v2 hv2) (by kernel_rfl) (by kernel_rfl) ?_
  refine TS_go 7 ?_
  replace h := condO h
  rcases h with ⟨hb3, h⟩ | ⟨hb3, h⟩
  · subst hb3
    refine TS_T (by kernel_rfl) rfl ?_
    refine TS_go 5 ?_
    replace h := condO h
    rcases h with ⟨hb4, h⟩ | ⟨hb4, h⟩
    · subst hb4
      refine TS_T (by kernel_rfl) rfl ?_
      refine TS_go 7 ?_
      have ret := Option.some.inj h
      subst ret
      exact TS_ret (by kernel_rfl) (by kernel_rfl) (by kernel_rfl)
    · subst hb4
      refine TS_F (by kernel_rfl) rfl ?_
      refine TS_go 7 ?_
      have ret := Option.some.inj h
      subst ret
      exact TS_ret (by kernel_rfl) (by kernel_rfl) (by kernel_rfl)
  · subst hb3
    refine TS_F (by kernel_rfl) rfl ?_
    refine TS_go 6 ?_
    replace h := condO h
    rcases h with ⟨hb5, h⟩ | ⟨hb5, h⟩
    · subst hb5
      refine TS_T (by kernel_rfl) rfl ?_
      refine TS_go 6 ?_
      have ret := Option.some.inj h
      subst ret
      exact TS_ret (by kernel_rfl) (by kernel_rfl) (by kernel_rfl)
    · subst hb5
      refine TS_F (by kernel_rfl) rfl ?_
      refine TS_go 8 ?_
      replace h := condO h
      rcases h with ⟨hb6, h⟩ | ⟨hb6, h⟩
      · refine TS_know 16 (b := true) hb6 (by kernel_rfl) (by kernel_rfl) ?_
        refine TS_T (by kernel_rfl) rfl ?_
        refine TS_go 6 ?_
        have ret := Option.some.inj h
        subst ret
        exact TS_ret (by kernel_rfl) (by kernel_rfl) (by kernel_rfl)
      · refine TS_know 16 (b := false) hb6 (by kernel_rfl) (by kernel_rfl) ?_
        refine TS_F (by kernel_rfl) rfl ?_
        refine TS_go 8 ?_
        replace h := condO h
        rcases h with ⟨hb7, h⟩ | ⟨hb7, h⟩
        · refine TS_know 19 (b := true) hb7 (by kernel_rfl) (by kernel_rfl) ?_
          refine TS_T (by kernel_rfl) rfl ?_
          refine TS_go 6 ?_
          have ret := Option.some.inj h
          subst ret
          exact TS_ret (by kernel_rfl) (by kernel_rfl) (by kernel_rfl)
        · refine TS_know 19 (b := false) hb7 (by kernel_rfl) (by kernel_rfl) ?_
          refine TS_F (by kernel_rfl) rfl ?_
          refine TS_go 6 ?_
          have ret := Option.some.inj h
          subst ret
          exact TS_ret (by kernel_rfl) (by kernel_rfl) (by kernel_rfl)

/-- multihop/guard.compareKeys -/
noncomputable def F_guard_compareKeys (a0 : S_LinkKey) (a1 : S_LinkKey) : Option (Int) :=
  (F_cmp_Compare_uint8 a0.Index a1.Index).bind fun v1 =>
  some (v1)
set_option maxRecDepth 100000 in
set_option maxHeartbeats 40000000 in
theorem ok_guard_compareKeys (a0 : S_LinkKey) (a1 : S_LinkKey) (r : Int) (h : F_guard_compareKeys a0 a1 = some r) : Con Try.prog 63 [.agg (S_LinkKey.cs a0), .agg (S_LinkKey.cs a1)] [] (.c (.lit (.int .i64 (r)))) [] := by
  unfold F_guard_compareKeys at h
  refine con_of [] [] 10 Try.func63 rfl rfl (by kernel_rfl) (fun K => ?_)
  refine TS_go 12 ?_
  replace h := bindO h
  obtain ⟨v1, hv1, h⟩ := h
  refine TS_call [] (ok_cmp_Compare_uint8 a0.Index a1.Index v1 hv1) (by kernel_rfl) (by kernel_rfl) ?_
  refine TS_go 3 ?_
  have ret := Option.some.inj h
  subst ret
  exact TS_ret (by kernel_rfl) (by kernel_rfl) (by kernel_rfl)

/-- multihop/guard.ascending[multihop/api.LinkKey] -/
noncomputable def F_guard_ascending_api_LinkKey_F631_l1 (a0 : List S_LinkKey) (s1 : Int) : Option ((Int) ⊕ ((Unit) ⊕ (Bool))) :=
  bif (decide (s1 < (List.length a0 : Int))) then
    (idx a0 (IntKind.wrap .i64 (s1 - 1))).bind fun e5 =>
    (idx a0 s1).bind fun e6 =>
    (F_guard_compareKeys e5 e6).bind fun v7 =>
    bif (decide (v7 ≥ 0)) then
      some (Sum.inr (Sum.inr false))
    else
      some (Sum.inl (IntKind.wrap .i64 (s1 + 1)))
  else
    some (Sum.inr (Sum.inl ()))
noncomputable def F_guard_ascending_api_LinkKey_F631 (a0 : List S_LinkKey) : Option (Bool) :=
  (loopO (F_guard_ascending_api_LinkKey_F631_l1 a0) 1).bind (Sum.elim (fun b2 =>
    some (true)
  ) (fun w9 => some w9))
set_option maxRecDepth 100000 in
set_option maxHeartbeats 40000000 in
theorem ok_guard_ascending_api_LinkKey_F631 (a0 : List S_LinkKey) (r : Bool) (h : F_guard_ascending_api_LinkKey_F631 a0 = some r) : Con Try.prog 62 [.c (eS 17 S_LinkKey.cs (a0)), .c (.lit (.func (.func 63) #[] #[]))] [] (.c (.lit (.bool (r)))) [] := by
  unfold F_guard_ascending_api_LinkKey_F631 at h
  refine con_of [] [] 24 Try.func62 rfl rfl (by kernel_rfl) (fun K => ?_)
  refine TS_go 10 ?_
  refine TS_cut ⟨[(0, []), (1, []), (5, [])], []⟩ (.mk [.code (codeAt [1, 0, 1, 0] (bodyOf Try.f62)), .blk 0, .code (codeAt [1, 1] (bodyOf Try.f62))] .normal ⟨[(0, .c (.slc 17 0 (List.length a0) (List.map S_LinkKey.cs a0))), (1, .c (.lit (.func (.func 63) #[] #[]))), (5, .c (.lit (.int .i64 (1))))], []⟩) (by kernel_rfl) (by kernel_rfl) ?_
  replace h := bindO h
  obtain ⟨y3, hl1, hK1⟩ := h
  refine TS_loopB (F_guard_ascending_api_LinkKey_F631_l1 a0) ⟨[(0, []), (1, []), (5, [])], []⟩ (fun (s1 : Int) => [(5, .c (.lit (.int .i64 (s1))))]) (fun (s1 : Int) => []) 1 y3 (.exit 0) (fun (b : Unit) => (Sum.inl b : (Unit) ⊕ (Bool))) ⟨[], []⟩ (fun (b2 : Unit) => []) (fun (b2 : Unit) => []) hl1 (by kernel_rfl) (by kernel_rfl) ?_ ?_
  · intro s1 x h hy1
    unfold F_guard_ascending_api_LinkKey_F631_l1 at h
    refine TS_go 8 ?_
    replace h := condO h
    rcases h with ⟨hb4, h⟩ | ⟨hb4, h⟩
    · refine TS_know 9 (b := true) hb4 (by kernel_rfl) (by kernel_rfl) ?_
      refine TS_T (by kernel_rfl) rfl ?_
      refine TS_go 4 ?_
      refine TS_draw (by kernel_rfl) ?_
      refine TD_go 4 ?_
      replace h := bindO h
      obtain ⟨e5, he5, h⟩ := h
      refine TD_idx S_LinkKey.cs he5 (by kernel_rfl) (by kernel_rfl) ?_
      refine TD_go 3 ?_
      replace h := bindO h
      obtain ⟨e6, he6, h⟩ := h
      refine TD_idx S_LinkKey.cs he6 (by kernel_rfl) (by kernel_rfl) ?_
      refine TD_go 1 ?_
      replace h := bindO h
      obtain ⟨v7, hv7, h⟩ := h
      refine TD_call [] (ok_guard_compareKeys e5 e6 v7 hv7) (by kernel_rfl) (by kernel_rfl) ?_
      refine TD_go 1 ?_
      refine TD_end (by kernel_rfl) ?_
      replace h := condO h
      rcases h with ⟨hb8, h⟩ | ⟨hb8, h⟩
      · refine TS_know 23 (b := true) hb8 (by kernel_rfl) (by kernel_rfl) ?_
        refine TS_T (by kernel_rfl) rfl ?_
        refine TS_go 7 ?_
        have ret := Option.some.inj h
        subst ret
        have hy1q := hy1 _ rfl
        subst hy1q
        replace h := (elimR hK1)
        refine TS_retB rfl (by kernel_rfl) ?_
        refine TS_go 2 ?_
        have ret := Option.some.inj h
        subst ret
        exact TS_ret (by kernel_rfl) (by kernel_rfl) (by kernel_rfl)
      · refine TS_know 23 (b := false) hb8 (by kernel_rfl) (by kernel_rfl) ?_
        refine TS_F (by kernel_rfl) rfl ?_
        refine TS_go 7 ?_
        have ret := Option.some.inj h
        subst ret
        exact TS_againB _ ⟨[(0, []), (1, []), (5, [])], []⟩ rfl (by kernel_rfl) (by kernel_rfl)
    · refine TS_know 9 (b := false) hb4 (by kernel_rfl) (by kernel_rfl) ?_
      refine TS_F (by kernel_rfl) rfl ?_
      refine TS_go 2 ?_
      have ret := Option.some.inj h
      subst ret
      exact TS_brkB () ⟨[], []⟩ rfl (by kernel_rfl) (by kernel_rfl) (by kernel_rfl)
  · intro b2 hb
    subst y3
    have h := elimL hK1
    refine TS_go 6 ?_
    have ret := Option.some.inj h
    subst ret
    exact TS_ret (by kernel_rfl) (by kernel_rfl) (by kernel_rfl)

/-- cmp.isNaN[int] -/
noncomputable def F_cmp_isNaN_int (a0 : Int) : Option (Bool) :=
  some ((a0 != a0))
set_option maxRecDepth 100000 in
set_option maxHeartbeats 40000000 in
theorem ok_cmp_isNaN_int (a0 : Int) (r : Bool) (h : F_cmp_isNaN_int a0 = some r) : Con Try.prog 100 [.c (.lit (.int .i64 (a0)))] [] (.c (.lit (.bool (r)))) [] := by
  unfold F_cmp_isNaN_int at h
  refine con_of [] [] 6 Try.func100 rfl rfl (by kernel_rfl) (fun K => ?_)
  refine TS_go 12 ?_
  have ret := Option.some.inj h
  subst ret
  exact TS_ret (by kernel_rfl) (by kernel_rfl) (by kernel_rfl)

/-- cmp.Compare[int] -/
noncomputable def F_cmp_Compare_int (a0 : Int) (a1 : Int) : Option (Int) :=
  (F_cmp_isNaN_int a0).bind fun v1 =>
  (F_cmp_isNaN_int a1).bind fun v2 =>
  bif v1 then
    bif v2 then
      some (0)
    else
      some ((-1))
  else
    bif v2 then
      some (1)
    else
      bif (decide (a0 < a1)) then
        some ((-1))
      else
        bif (decide (a0 > a1)) then
          some (1)
        else
          some (0)
set_option maxRecDepth 100000 in
set_option maxHeartbeats 40000000 in
theorem ok_cmp_Compare_int (a0 : Int) (a1 : Int) (r : Int) (h : F_cmp_Compare_int a0 a1 = some r) : Con Try.prog 86 [.c (.lit (.int .i64 (a0))), .c (.lit (.int .i64 (a1)))] [] (.c (.lit (.int .i64 (r)))) [] := by
  unfold F_cmp_Compare_int at h
  refine con_of [] [] 20 Try.func86 rfl rfl (by kernel_rfl) (fun K => ?_)
  refine TS_go 7 ?_
  replace h := bindO h
  obtain ⟨v1, hv1, h⟩ := h
  refine TS_call [] (ok_cmp_isNaN_int a0 v1 hv1) (by kernel_rfl) (by kernel_rfl) ?_
  refine TS_go 5 ?_
  replace h := bindO h
  obtain ⟨v2, hv2, h⟩ := h
  refine TS_call [] (ok_cmp_isNaN_int a1 v2 hv2) (by kernel_rfl) (by kernel_rfl) ?_
  refine TS_go 7 ?_
  replace h := condO h
  rcases h with ⟨hb3, h⟩ | ⟨hb3, h⟩
  · subst hb3
    refine TS_T (by kernel_rfl) rfl ?_
    refine TS_go 5 ?_
    replace h := condO h
    rcases h with ⟨hb4, h⟩ | ⟨hb4, h⟩
    · subst hb4
      refine TS_T (by kernel_rfl) rfl ?_
      refine TS_go 7 ?_
      have ret := Option.some.inj h
      subst ret
      exact TS_ret (by kernel_rfl) (by kernel_rfl) (by kernel_rfl)
    · subst hb4
      refine TS_F (by kernel_rfl) rfl ?_
      refine TS_go 7 ?_
      have ret := Option.some.inj h
      subst ret
      exact TS_ret (by kernel_rfl) (by kernel_rfl) (by kernel_rfl)
  · subst hb3
    refine TS_F (by kernel_rfl) rfl ?_
    refine TS_go 6 ?_
    replace h := condO h
    rcases h with ⟨hb5, h⟩ | ⟨hb5, h⟩
    · subst hb5
      refine TS_T (by kernel_rfl) rfl ?_
      refine TS_go 6 ?_
      have ret := Option.some.inj h
      subst ret
      exact TS_ret (by kernel_rfl) (by kernel_rfl) (by kernel_rfl)
    · subst hb5
      refine TS_F (by kernel_rfl) rfl ?_
      refine TS_go 8 ?_
      replace h := condO h
      rcases h with ⟨hb6, h⟩ | ⟨hb6, h⟩
      · refine TS_know 16 (b := true) hb6 (by kernel_rfl) (by kernel_rfl) ?_
        refine TS_T (by kernel_rfl) rfl ?_
        refine TS_go 6 ?_
        have ret := Option.some.inj h
        subst ret
        exact TS_ret (by kernel_rfl) (by kernel_rfl) (by kernel_rfl)
      · refine TS_know 16 (b := false) hb6 (by kernel_rfl) (by kernel_rfl) ?_
        refine TS_F (by kernel_rfl) rfl ?_
        refine TS_go 8 ?_
        replace h := condO h
        rcases h with ⟨hb7, h⟩ | ⟨hb7, h⟩
        · refine TS_know 19 (b := true) hb7 (by kernel_rfl) (by kernel_rfl) ?_
          refine TS_T (by kernel_rfl) rfl ?_
          refine TS_go 6 ?_
          have ret := Option.some.inj h
          subst ret
          exact TS_ret (by kernel_rfl) (by kernel_rfl) (by kernel_rfl)
        · refine TS_know 19 (b := false) hb7 (by kernel_rfl) (by kernel_rfl) ?_
          refine TS_F (by kernel_rfl) rfl ?_
          refine TS_go 6 ?_
          have ret := Option.some.inj h
          subst ret
          exact TS_ret (by kernel_rfl) (by kernel_rfl) (by kernel_rfl)

/-- cmp.isNaN[multihop/api.Short] -/
noncomputable def F_cmp_isNaN_api_Short (a0 : Int) : Option (Bool) :=
  some ((a0 != a0))
set_option maxRecDepth 100000 in
set_option maxHeartbeats 40000000 in
theorem ok_cmp_isNaN_api_Short (a0 : Int) (r : Bool) (h : F_cmp_isNaN_api_Short a0 = some r) : Con Try.prog 101 [.c (.lit (.int .u16 (a0)))] [] (.c (.lit (.bool (r)))) [] := by
  unfold F_cmp_isNaN_api_Short at h
  refine con_of [] [] 6 Try.func101 rfl rfl (by kernel_rfl) (fun K => ?_)
  refine TS_go 12 ?_
  have ret := Option.some.inj h
  subst ret
  exact TS_ret (by kernel_rfl) (by kernel_rfl) (by kernel_rfl)

/-- cmp.Compare[multihop/api.Short] -/
noncomputable def F_cmp_Compare_api_Short (a0 : Int) (a1 : Int) : Option (Int) :=
  (F_cmp_isNaN_api_Short a0).bind fun v1 =>
  (F_cmp_isNaN_api_Short a1).bind fun v2 =>
  bif v1 then
    bif v2 then
      some (0)
    else
      some ((-1))
  else
    bif v2 then
      some (1)
    else
      bif (decide (a0 < a1)) then
        some ((-1))
      else
        bif (decide (a0 > a1)) then
          some (1)
        else
          some (0)
set_option maxRecDepth 100000 in
set_option maxHeartbeats 40000000 in
theorem ok_cmp_Compare_api_Short (a0 : Int) (a1 : Int) (r : Int) (h : F_cmp_Compare_api_Short a0 a1 = some r) : Con Try.prog 87 [.c (.lit (.int .u16 (a0))), .c (.lit (.int .u16 (a1)))] [] (.c (.lit (.int .i64 (r)))) [] := by
  unfold F_cmp_Compare_api_Short at h
  refine con_of [] [] 20 Try.func87 rfl rfl (by kernel_rfl) (fun K => ?_)
  refine TS_go 7 ?_
  replace h := bindO h
  obtain ⟨v1, hv1, h⟩ := h
  refine TS_call [] (ok_cmp_isNaN_api_Short a0 v1 hv1) (by kernel_rfl) (by kernel_rfl) ?_
  refine TS_go 5 ?_
  replace h := bindO h
  obtain ⟨v2, hv2, h⟩ := h
  refine TS_call [] (ok_cmp_isNaN_api_Short a1 v2 hv2) (by kernel_rfl) (by kernel_rfl) ?_
  refine TS_go 7 ?_
  replace h := condO h
  rcases h with ⟨hb3, h⟩ | ⟨hb3, h⟩
  · subst hb3
    refine TS_T (by kernel_rfl) rfl ?_
    refine TS_go 5 ?_
    replace h := condO h
    rcases h with ⟨hb4, h⟩ | ⟨hb4, h⟩
    · subst hb4
      refine TS_T (by kernel_rfl) rfl ?_
      refine TS_go 7 ?_
      have ret := Option.some.inj h
      subst ret
      exact TS_ret (by kernel_rfl) (by kernel_rfl) (by kernel_rfl)
    · subst hb4
      refine TS_F (by kernel_rfl) rfl ?_
      refine TS_go 7 ?_
      have ret := Option.some.inj h
      subst ret
      exact TS_ret (by kernel_rfl) (by kernel_rfl) (by kernel_rfl)
  · subst hb3
    refine TS_F (by kernel_rfl) rfl ?_
    refine TS_go 6 ?_
    replace h := condO h
    rcases h with ⟨hb5, h⟩ | ⟨hb5, h⟩
    · subst hb5
      refine TS_T (by kernel_rfl) rfl ?_
      refine TS_go 6 ?_
      have ret := Option.some.inj h
      subst ret
      exact TS_ret (by kernel_rfl) (by kernel_rfl) (by kernel_rfl)
    · subst hb5
      refine TS_F (by kernel_rfl) rfl ?_
      refine TS_go 8 ?_
      replace h := condO h
      rcases h with ⟨hb6, h⟩ | ⟨hb6, h⟩
      · refine TS_know 16 (b := true) hb6 (by kernel_rfl) (by kernel_rfl) ?_
        refine TS_T (by kernel_rfl) rfl ?_
        refine TS_go 6 ?_
        have ret := Option.some.inj h
        subst ret
        exact TS_ret (by kernel_rfl) (by kernel_rfl) (by kernel_rfl)
      · refine TS_know 16 (b := false) hb6 (by kernel_rfl) (by kernel_rfl) ?_
        refine TS_F (by kernel_rfl) rfl ?_
        refine TS_go 8 ?_
        replace h := condO h
        rcases h with ⟨hb7, h⟩ | ⟨hb7, h⟩
        · refine TS_know 19 (b := true) hb7 (by kernel_rfl) (by kernel_rfl) ?_
          refine TS_T (by kernel_rfl) rfl ?_
          refine TS_go 6 ?_
          have ret := Option.some.inj h
          subst ret
          exact TS_ret (by kernel_rfl) (by kernel_rfl) (by kernel_rfl)
        · refine TS_know 19 (b := false) hb7 (by kernel_rfl) (by kernel_rfl) ?_
          refine TS_F (by kernel_rfl) rfl ?_
          refine TS_go 6 ?_
          have ret := Option.some.inj h
          subst ret
          exact TS_ret (by kernel_rfl) (by kernel_rfl) (by kernel_rfl)

/-- cmp.isNaN[multihop/api.EUI] -/
noncomputable def F_cmp_isNaN_api_EUI (a0 : Int) : Option (Bool) :=
  some ((a0 != a0))
set_option maxRecDepth 100000 in
set_option maxHeartbeats 40000000 in
theorem ok_cmp_isNaN_api_EUI (a0 : Int) (r : Bool) (h : F_cmp_isNaN_api_EUI a0 = some r) : Con Try.prog 102 [.c (.lit (.int .u64 (a0)))] [] (.c (.lit (.bool (r)))) [] := by
  unfold F_cmp_isNaN_api_EUI at h
  refine con_of [] [] 6 Try.func102 rfl rfl (by kernel_rfl) (fun K => ?_)
  refine TS_go 12 ?_
  have ret := Option.some.inj h
  subst ret
  exact TS_ret (by kernel_rfl) (by kernel_rfl) (by kernel_rfl)

/-- cmp.Compare[multihop/api.EUI] -/
noncomputable def F_cmp_Compare_api_EUI (a0 : Int) (a1 : Int) : Option (Int) :=
  (F_cmp_isNaN_api_EUI a0).bind fun v1 =>
  (F_cmp_isNaN_api_EUI a1).bind fun v2 =>
  bif v1 then
    bif v2 then
      some (0)
    else
      some ((-1))
  else
    bif v2 then
      some (1)
    else
      bif (decide (a0 < a1)) then
        some ((-1))
      else
        bif (decide (a0 > a1)) then
          some (1)
        else
          some (0)
set_option maxRecDepth 100000 in
set_option maxHeartbeats 40000000 in
theorem ok_cmp_Compare_api_EUI (a0 : Int) (a1 : Int) (r : Int) (h : F_cmp_Compare_api_EUI a0 a1 = some r) : Con Try.prog 88 [.c (.lit (.int .u64 (a0))), .c (.lit (.int .u64 (a1)))] [] (.c (.lit (.int .i64 (r)))) [] := by
  unfold F_cmp_Compare_api_EUI at h
  refine con_of [] [] 20 Try.func88 rfl rfl (by kernel_rfl) (fun K => ?_)
  refine TS_go 7 ?_
  replace h := bindO h
  obtain ⟨v1, hv1, h⟩ := h
  refine TS_call [] (ok_cmp_isNaN_api_EUI a0 v1 hv1) (by kernel_rfl) (by kernel_rfl) ?_
  refine TS_go 5 ?_
  replace h := bindO h
  obtain ⟨v2, hv2, h⟩ := h
  refine TS_call [] (ok_cmp_isNaN_api_EUI a1 v2 hv2) (by kernel_rfl) (by kernel_rfl) ?_
  refine TS_go 7 ?_
  replace h := condO h
  rcases h with ⟨hb3, h⟩ | ⟨hb3, h⟩
  · subst hb3
    refine TS_T (by kernel_rfl) rfl ?_
    refine TS_go 5 ?_
    replace h := condO h
    rcases h with ⟨hb4, h⟩ | ⟨hb4, h⟩
    · subst hb4
      refine TS_T (by kernel_rfl) rfl ?_
      refine TS_go 7 ?_
      have ret := Option.some.inj h
      subst ret
      exact TS_ret (by kernel_rfl) (by kernel_rfl) (by kernel_rfl)
    · subst hb4
      refine TS_F (by kernel_rfl) rfl ?_
      refine TS_go 7 ?_
      have ret := Option.some.inj h
      subst ret
      exact TS_ret (by kernel_rfl) (by kernel_rfl) (by kernel_rfl)
  · subst hb3
    refine TS_F (by kernel_rfl) rfl ?_
    refine TS_go 6 ?_
    replace h := condO h
    rcases h with ⟨hb5, h⟩ | ⟨hb5, h⟩
    · subst hb5
      refine TS_T (by kernel_rfl) rfl ?_
      refine TS_go 6 ?_
      have ret := Option.some.inj h
      subst ret
      exact TS_ret (by kernel_rfl) (by kernel_rfl) (by kernel_rfl)
    · subst hb5
      refine TS_F (by kernel_rfl) rfl ?_
      refine TS_go 8 ?_
      replace h := condO h
      rcases h with ⟨hb6, h⟩ | ⟨hb6, h⟩
      · refine TS_know 16 (b := true) hb6 (by kernel_rfl) (by kernel_rfl) ?_
        refine TS_T (by kernel_rfl) rfl ?_
        refine TS_go 6 ?_
        have ret := Option.some.inj h
        subst ret
        exact TS_ret (by kernel_rfl) (by kernel_rfl) (by kernel_rfl)
      · refine TS_know 16 (b := false) hb6 (by kernel_rfl) (by kernel_rfl) ?_
        refine TS_F (by kernel_rfl) rfl ?_
        refine TS_go 8 ?_
        replace h := condO h
        rcases h with ⟨hb7, h⟩ | ⟨hb7, h⟩
        · refine TS_know 19 (b := true) hb7 (by kernel_rfl) (by kernel_rfl) ?_
          refine TS_T (by kernel_rfl) rfl ?_
          refine TS_go 6 ?_
          have ret := Option.some.inj h
          subst ret
          exact TS_ret (by kernel_rfl) (by kernel_rfl) (by kernel_rfl)
        · refine TS_know 19 (b := false) hb7 (by kernel_rfl) (by kernel_rfl) ?_
          refine TS_F (by kernel_rfl) rfl ?_
          refine TS_go 6 ?_
          have ret := Option.some.inj h
          subst ret
          exact TS_ret (by kernel_rfl) (by kernel_rfl) (by kernel_rfl)

/-- cmp.Or[int] -/
noncomputable def F_cmp_Or_int_l1 (a0 : List Int) (s1 : Int) : Option ((Int) ⊕ ((Unit) ⊕ (Int))) :=
  bif (decide (s1 < (List.length a0 : Int))) then
    (idx a0 s1).bind fun e5 =>
    bif (e5 != 0) then
      some (Sum.inr (Sum.inr e5))
    else
      some (Sum.inl (IntKind.wrap .i64 (s1 + 1)))
  else
    some (Sum.inr (Sum.inl ()))
noncomputable def F_cmp_Or_int (a0 : List Int) : Option (Int) :=
  (loopO (F_cmp_Or_int_l1 a0) 0).bind (Sum.elim (fun b2 =>
    some (0)
  ) (fun w7 => some w7))
set_option maxRecDepth 100000 in
set_option maxHeartbeats 40000000 in
theorem ok_cmp_Or_int (a0 : List Int) (r : Int) (h : F_cmp_Or_int a0 = some r) : Con Try.prog 71 [.c (eS 1 (ecI .i64) (a0))] [] (.c (.lit (.int .i64 (r)))) [] := by
  unfold F_cmp_Or_int at h
  refine con_of [] [] 18 Try.func71 rfl rfl (by kernel_rfl) (fun K => ?_)
  refine TS_go 16 ?_
  refine TS_cut ⟨[(3, []), (6, []), (7, []), (8, [])], []⟩ (.mk [.code (codeAt [1, 1, 0, 1, 0] (bodyOf Try.f71)), .blk 0, .code (codeAt [1, 1, 1] (bodyOf Try.f71))] .normal ⟨[(3, .c (.lit (.int .i64 (0)))), (6, .c (.slc 1 0 (List.length a0) (List.map (ecI .i64) a0))), (7, .c (.lit (.int .i64 ((List.length a0 : Int))))), (8, .c (.lit (.int .i64 (0))))], []⟩) (by kernel_rfl) (by kernel_rfl) ?_
  replace h := bindO h
  obtain ⟨y3, hl1, hK1⟩ := h
  refine TS_loopB (F_cmp_Or_int_l1 a0) ⟨[(3, []), (6, []), (7, []), (8, [])], []⟩ (fun (s1 : Int) => [(8, .c (.lit (.int .i64 (s1))))]) (fun (s1 : Int) => []) 0 y3 (.exit 0) (fun (b : Unit) => (Sum.inl b : (Unit) ⊕ (Int))) ⟨[(3, [])], []⟩ (fun (b2 : Unit) => []) (fun (b2 : Unit) => []) hl1 (by kernel_rfl) (by kernel_rfl) ?_ ?_
  · intro s1 x h hy1
    unfold F_cmp_Or_int_l1 at h
    refine TS_go 5 ?_
    replace h := condO h
    rcases h with ⟨hb4, h⟩ | ⟨hb4, h⟩
    · refine TS_know 9 (b := true) hb4 (by kernel_rfl) (by kernel_rfl) ?_
      refine TS_T (by kernel_rfl) rfl ?_
      refine TS_go 5 ?_
      replace h := bindO h
      obtain ⟨_e5, he5, h⟩ := h
      refine TS_idx (ecI .i64) he5 (by kernel_rfl) (by kernel_rfl) ?_
      refine TS_go 9 ?_
      replace h := condO h
      rcases h with ⟨hb6, h⟩ | ⟨hb6, h⟩
      · refine TS_know 14 (b := true) hb6 (by kernel_rfl) (by kernel_rfl) ?_
        refine TS_T (by kernel_rfl) rfl ?_
        refine TS_go 8 ?_
        have ret := Option.some.inj h
        subst ret
        have hy1q := hy1 _ rfl
        subst hy1q
        replace h := (elimR hK1)
        refine TS_retB rfl (by kernel_rfl) ?_
        refine TS_go 2 ?_
        have ret := Option.some.inj h
        subst ret
        exact TS_ret (by kernel_rfl) (by kernel_rfl) (by kernel_rfl)
      · refine TS_know 14 (b := false) hb6 (by kernel_rfl) (by kernel_rfl) ?_
        refine TS_F (by kernel_rfl) rfl ?_
        refine TS_go 6 ?_
        have ret := Option.some.inj h
        subst ret
        exact TS_againB _ ⟨[(3, []), (6, []), (7, []), (8, [])], []⟩ rfl (by kernel_rfl) (by kernel_rfl)
    · refine TS_know 9 (b := false) hb4 (by kernel_rfl) (by kernel_rfl) ?_
      refine TS_F (by kernel_rfl) rfl ?_
      refine TS_go 2 ?_
      have ret := Option.some.inj h
      subst ret
      exact TS_brkB () ⟨[(3, [])], []⟩ rfl (by kernel_rfl) (by kernel_rfl) (by kernel_rfl)
  · intro b2 hb
    subst y3
    have h := elimL hK1
    refine TS_go 7 ?_
    have ret := Option.some.inj h
    subst ret
    exact TS_ret (by kernel_rfl) (by kernel_rfl) (by kernel_rfl)

/-- multihop/address.Compare -/
noncomputable def F_address_Compare (a0 : S_Addr) (a1 : S_Addr) : Option (Int) :=
  (F_cmp_Compare_int a0.Mode a1.Mode).bind fun v1 =>
  (F_cmp_Compare_api_Short a0.Short a1.Short).bind fun v2 =>
  (F_cmp_Compare_api_EUI a0.EUI a1.EUI).bind fun v3 =>
  (F_cmp_Or_int ([v1, v2, v3] : List Int)).bind fun v4 =>
  some (v4)
set_option maxRecDepth 100000 in
set_option maxHeartbeats 40000000 in
theorem ok_address_Compare (a0 : S_Addr) (a1 : S_Addr) (r : Int) (h : F_address_Compare a0 a1 = some r) : Con Try.prog 72 [.agg (S_Addr.cs a0), .agg (S_Addr.cs a1)] [] (.c (.lit (.int .i64 (r)))) [] := by
  unfold F_address_Compare at h
  refine con_of [] [] 22 Try.func72 rfl rfl (by kernel_rfl) (fun K => ?_)
  refine TS_go 7 ?_
  refine TS_draw (by kernel_rfl) ?_
  refine TD_go 4 ?_
  replace h := bindO h
  obtain ⟨v1, hv1, h⟩ := h
  refine TD_call [] (ok_cmp_Compare_int a0.Mode a1.Mode v1 hv1) (by kernel_rfl) (by kernel_rfl) ?_
  refine TD_go 4 ?_
  replace h := bindO h
  obtain ⟨v2, hv2, h⟩ := h
  refine TD_call [] (ok_cmp_Compare_api_Short a0.Short a1.Short v2 hv2) (by kernel_rfl) (by kernel_rfl) ?_
  refine TD_go 4 ?_
  replace h := bindO h
  obtain ⟨v3, hv3, h⟩ := h
  refine TD_call [] (ok_cmp_Compare_api_EUI a0.EUI a1.EUI v3 hv3) (by kernel_rfl) (by kernel_rfl) ?_
  refine TD_litNT 20 3 1 (ecI .i64) [] ([v1, v2, v3] : List Int) (by kernel_rfl) (by kernel_rfl) ?_
  replace h := bindO h
  obtain ⟨v4, hv4, h⟩ := h
  refine TD_call [[2]] (ok_cmp_Or_int ([v1, v2, v3] : List Int) v4 hv4) (by kernel_rfl) (by kernel_rfl) ?_
  refine TD_go 1 ?_
  refine TD_end (by kernel_rfl) ?_
  refine TS_go 1 ?_
  have ret := Option.some.inj h
  subst ret
  exact TS_ret (by kernel_rfl) (by kernel_rfl) (by kernel_rfl)

/-- multihop/guard.comparePeers -/
noncomputable def F_guard_comparePeers (a0 : S_Peer) (a1 : S_Peer) : Option (Int) :=
  (F_address_Compare a0.Src a1.Src).bind fun v1 =>
  (F_cmp_Compare_uint8 a0.Key a1.Key).bind fun v2 =>
  (F_cmp_Or_int ([v1, v2] : List Int)).bind fun v3 =>
  some (v3)
set_option maxRecDepth 100000 in
set_option maxHeartbeats 40000000 in
theorem ok_guard_comparePeers (a0 : S_Peer) (a1 : S_Peer) (r : Int) (h : F_guard_comparePeers a0 a1 = some r) : Con Try.prog 41 [.agg (S_Peer.cs a0), .agg (S_Peer.cs a1)] [] (.c (.lit (.int .i64 (r)))) [] := by
  unfold F_guard_comparePeers at h
  refine con_of [] [] 17 Try.func41 rfl rfl (by kernel_rfl) (fun K => ?_)
  refine TS_go 7 ?_
  refine TS_draw (by kernel_rfl) ?_
  refine TD_go 4 ?_
  replace h := bindO h
  obtain ⟨v1, hv1, h⟩ := h
  refine TD_call [] (ok_address_Compare a0.Src a1.Src v1 hv1) (by kernel_rfl) (by kernel_rfl) ?_
  refine TD_go 4 ?_
  replace h := bindO h
  obtain ⟨v2, hv2, h⟩ := h
  refine TD_call [] (ok_cmp_Compare_uint8 a0.Key a1.Key v2 hv2) (by kernel_rfl) (by kernel_rfl) ?_
  refine TD_litNT 15 3 1 (ecI .i64) [] ([v1, v2] : List Int) (by kernel_rfl) (by kernel_rfl) ?_
  replace h := bindO h
  obtain ⟨v3, hv3, h⟩ := h
  refine TD_call [[2]] (ok_cmp_Or_int ([v1, v2] : List Int) v3 hv3) (by kernel_rfl) (by kernel_rfl) ?_
  refine TD_go 1 ?_
  refine TD_end (by kernel_rfl) ?_
  refine TS_go 1 ?_
  have ret := Option.some.inj h
  subst ret
  exact TS_ret (by kernel_rfl) (by kernel_rfl) (by kernel_rfl)

/-- multihop/guard.ascending[multihop/api.Peer] -/
noncomputable def F_guard_ascending_api_Peer_F411_l1 (a0 : List S_Peer) (s1 : Int) : Option ((Int) ⊕ ((Unit) ⊕ (Bool))) :=
  bif (decide (s1 < (List.length a0 : Int))) then
    (idx a0 (IntKind.wrap .i64 (s1 - 1))).bind fun e5 =>
    (idx a0 s1).bind fun e6 =>
    (F_guard_comparePeers e5 e6).bind fun v7 =>
    bif (decide (v7 ≥ 0)) then
      some (Sum.inr (Sum.inr false))
    else
      some (Sum.inl (IntKind.wrap .i64 (s1 + 1)))
  else
    some (Sum.inr (Sum.inl ()))
noncomputable def F_guard_ascending_api_Peer_F411 (a0 : List S_Peer) : Option (Bool) :=
  (loopO (F_guard_ascending_api_Peer_F411_l1 a0) 1).bind (Sum.elim (fun b2 =>
    some (true)
  ) (fun w9 => some w9))
set_option maxRecDepth 100000 in
set_option maxHeartbeats 40000000 in
theorem ok_guard_ascending_api_Peer_F411 (a0 : List S_Peer) (r : Bool) (h : F_guard_ascending_api_Peer_F411 a0 = some r) : Con Try.prog 64 [.c (eS 6 S_Peer.cs (a0)), .c (.lit (.func (.func 41) #[] #[]))] [] (.c (.lit (.bool (r)))) [] := by
  unfold F_guard_ascending_api_Peer_F411 at h
  refine con_of [] [] 24 Try.func64 rfl rfl (by kernel_rfl) (fun K => ?_)
  refine TS_go 10 ?_
  refine TS_cut ⟨[(0, []), (1, []), (5, [])], []⟩ (.mk [.code (codeAt [1, 0, 1, 0] (bodyOf Try.f64)), .blk 0, .code (codeAt [1, 1] (bodyOf Try.f64))] .normal ⟨[(0, .c (.slc 6 0 (List.length a0) (List.map S_Peer.cs a0))), (1, .c (.lit (.func (.func 41) #[] #[]))), (5, .c (.lit (.int .i64 (1))))], []⟩) (by kernel_rfl) (by kernel_rfl) ?_
  replace h := bindO h
  obtain ⟨y3, hl1, hK1⟩ := h
  refine TS_loopB (F_guard_ascending_api_Peer_F411_l1 a0) ⟨[(0, []), (1, []), (5, [])], []⟩ (fun (s1 : Int) => [(5, .c (.lit (.int .i64 (s1))))]) (fun (s1 : Int) => []) 1 y3 (.exit 0) (fun (b : Unit) => (Sum.inl b : (Unit) ⊕ (Bool))) ⟨[], []⟩ (fun (b2 : Unit) => []) (fun (b2 : Unit) => []) hl1 (by kernel_rfl) (by kernel_rfl) ?_ ?_
  · intro s1 x h hy1
    unfold F_guard_ascending_api_Peer_F411_l1 at h
    refine TS_go 8 ?_
    replace h := condO h
    rcases h with ⟨hb4, h⟩ | ⟨hb4, h⟩
    · refine TS_know 9 (b := true) hb4 (by kernel_rfl) (by kernel_rfl) ?_
      refine TS_T (by kernel_rfl) rfl ?_
      refine TS_go 4 ?_
      refine TS_draw (by kernel_rfl) ?_
      refine TD_go 4 ?_
      replace h := bindO h
      obtain ⟨e5, he5, h⟩ := h
      refine TD_idx S_Peer.cs he5 (by kernel_rfl) (by kernel_rfl) ?_
      refine TD_go 3 ?_
      replace h := bindO h
      obtain ⟨e6, he6, h⟩ := h
      refine TD_idx S_Peer.cs he6 (by kernel_rfl) (by kernel_rfl) ?_
      refine TD_go 1 ?_
      replace h := bindO h
      obtain ⟨v7, hv7, h⟩ := h
      refine TD_call [] (ok_guard_comparePeers e5 e6 v7 hv7) (by kernel_rfl) (by kernel_rfl) ?_
      refine TD_go 1 ?_
      refine TD_end (by kernel_rfl) ?_
      replace h := condO h
      rcases h with ⟨hb8, h⟩ | ⟨hb8, h⟩
      · refine TS_know 23 (b := true) hb8 (by kernel_rfl) (by kernel_rfl) ?_
        refine TS_T (by kernel_rfl) rfl ?_
        refine TS_go 7 ?_
        have ret := Option.some.inj h
        subst ret
        have hy1q := hy1 _ rfl
        subst hy1q
        replace h := (elimR hK1)
        refine TS_retB rfl (by kernel_rfl) ?_
        refine TS_go 2 ?_
        have ret := Option.some.inj h
        subst ret
        exact TS_ret (by kernel_rfl) (by kernel_rfl) (by kernel_rfl)
      · refine TS_know 23 (b := false) hb8 (by kernel_rfl) (by kernel_rfl) ?_
        refine TS_F (by kernel_rfl) rfl ?_
        refine TS_go 7 ?_
        have ret := Option.some.inj h
        subst ret
        exact TS_againB _ ⟨[(0, []), (1, []), (5, [])], []⟩ rfl (by kernel_rfl) (by kernel_rfl)
    · refine TS_know 9 (b := false) hb4 (by kernel_rfl) (by kernel_rfl) ?_
      refine TS_F (by kernel_rfl) rfl ?_
      refine TS_go 2 ?_
      have ret := Option.some.inj h
      subst ret
      exact TS_brkB () ⟨[], []⟩ rfl (by kernel_rfl) (by kernel_rfl) (by kernel_rfl)
  · intro b2 hb
    subst y3
    have h := elimL hK1
    refine TS_go 6 ?_
    have ret := Option.some.inj h
    subst ret
    exact TS_ret (by kernel_rfl) (by kernel_rfl) (by kernel_rfl)

/-- multihop/address.Valid -/
noncomputable def F_address_Valid (a0 : S_Addr) : Option (Bool) :=
  bif (a0.Mode == 0) then
    some ((S_Addr.eqb a0 (S_Addr.mk 0 0 0)))
  else
    bif (a0.Mode == 2) then
      some ((a0.EUI == 0))
    else
      bif (a0.Mode == 3) then
        some ((a0.Short == 0))
      else
        some (false)
set_option maxRecDepth 100000 in
set_option maxHeartbeats 40000000 in
theorem ok_address_Valid (a0 : S_Addr) (r : Bool) (h : F_address_Valid a0 = some r) : Con Try.prog 83 [.agg (S_Addr.cs a0)] [] (.c (.lit (.bool (r)))) [] := by
  unfold F_address_Valid at h
  refine con_of [] [] 20 Try.func83 rfl rfl (by kernel_rfl) (fun K => ?_)
  refine TS_go 17 ?_
  replace h := condO h
  rcases h with ⟨hb1, h⟩ | ⟨hb1, h⟩
  · refine TS_know 6 (b := true) hb1 (by kernel_rfl) (by kernel_rfl) ?_
    refine TS_know 5 (b := true) hb1 (by kernel_rfl) (by kernel_rfl) ?_
    refine TS_T (by kernel_rfl) rfl ?_
    refine TS_go 10 ?_
    have ret := Option.some.inj h
    subst ret
    exact TS_ret (by kernel_rfl) (by kernel_rfl) (by kernel_rfl)
  · refine TS_know 6 (b := false) hb1 (by kernel_rfl) (by kernel_rfl) ?_
    refine TS_know 5 (b := false) hb1 (by kernel_rfl) (by kernel_rfl) ?_
    refine TS_F (by kernel_rfl) rfl ?_
    refine TS_go 5 ?_
    replace h := condO h
    rcases h with ⟨hb2, h⟩ | ⟨hb2, h⟩
    · refine TS_know 11 (b := true) hb2 (by kernel_rfl) (by kernel_rfl) ?_
      refine TS_know 10 (b := true) hb2 (by kernel_rfl) (by kernel_rfl) ?_
      refine TS_T (by kernel_rfl) rfl ?_
      refine TS_go 10 ?_
      have ret := Option.some.inj h
      subst ret
      exact TS_ret (by kernel_rfl) (by kernel_rfl) (by kernel_rfl)
    · refine TS_know 11 (b := false) hb2 (by kernel_rfl) (by kernel_rfl) ?_
      refine TS_know 10 (b := false) hb2 (by kernel_rfl) (by kernel_rfl) ?_
      refine TS_F (by kernel_rfl) rfl ?_
      refine TS_go 5 ?_
      replace h := condO h
      rcases h with ⟨hb3, h⟩ | ⟨hb3, h⟩
      · refine TS_know 16 (b := true) hb3 (by kernel_rfl) (by kernel_rfl) ?_
        refine TS_know 15 (b := true) hb3 (by kernel_rfl) (by kernel_rfl) ?_
        refine TS_T (by kernel_rfl) rfl ?_
        refine TS_go 10 ?_
        have ret := Option.some.inj h
        subst ret
        exact TS_ret (by kernel_rfl) (by kernel_rfl) (by kernel_rfl)
      · refine TS_know 16 (b := false) hb3 (by kernel_rfl) (by kernel_rfl) ?_
        refine TS_know 15 (b := false) hb3 (by kernel_rfl) (by kernel_rfl) ?_
        refine TS_F (by kernel_rfl) rfl ?_
        refine TS_go 7 ?_
        have ret := Option.some.inj h
        subst ret
        exact TS_ret (by kernel_rfl) (by kernel_rfl) (by kernel_rfl)

/-- multihop/address.IsBroadcast -/
noncomputable def F_address_IsBroadcast (a0 : S_Addr) : Option (Bool) :=
  some ((S_Addr.eqb a0 (S_Addr.mk 2 65535 0)))
set_option maxRecDepth 100000 in
set_option maxHeartbeats 40000000 in
theorem ok_address_IsBroadcast (a0 : S_Addr) (r : Bool) (h : F_address_IsBroadcast a0 = some r) : Con Try.prog 84 [.agg (S_Addr.cs a0)] [] (.c (.lit (.bool (r)))) [] := by
  unfold F_address_IsBroadcast at h
  refine con_of [] [] 6 Try.func84 rfl rfl (by kernel_rfl) (fun K => ?_)
  refine TS_go 13 ?_
  have ret := Option.some.inj h
  subst ret
  exact TS_ret (by kernel_rfl) (by kernel_rfl) (by kernel_rfl)

/-- multihop/guard.keyOf -/
noncomputable def F_guard_keyOf_l1 (a0 : S_Guard) (a1 : Int) (s1 : Int) : Option ((Int) ⊕ ((Unit) ⊕ ((List Int) × Bool))) :=
  bif (decide (s1 < (List.length a0.Keys : Int))) then
    (idx a0.Keys s1).bind fun e5 =>
    bif (e5.Index == a1) then
      some (Sum.inr (Sum.inr (e5.Key, true)))
    else
      some (Sum.inl (IntKind.wrap .i64 (s1 + 1)))
  else
    some (Sum.inr (Sum.inl ()))
noncomputable def F_guard_keyOf (a0 : S_Guard) (a1 : Int) : Option ((List Int) × Bool) :=
  (loopO (F_guard_keyOf_l1 a0 a1) 0).bind (Sum.elim (fun b2 =>
    some (([0, 0, 0, 0, 0, 0, 0, 0, 0, 0, 0, 0, 0, 0, 0, 0], false))
  ) (fun w7 => some w7))
set_option maxRecDepth 100000 in
set_option maxHeartbeats 40000000 in
theorem ok_guard_keyOf (a0 : S_Guard) (a1 : Int) (r : (List Int) × Bool) (h : F_guard_keyOf a0 a1 = some r) : Con Try.prog 38 [.agg (S_Guard.cs a0), .c (.lit (.int .u8 (a1)))] [] (.tup [(true, arrS .u8 16 r.1), (false, [.lit (.bool (r.2))])]) [] := by
  unfold F_guard_keyOf at h
  refine con_of [] [] 23 Try.func38 rfl rfl (by kernel_rfl) (fun K => ?_)
  refine TS_go 15 ?_
  refine TS_cut ⟨[(1, []), (4, []), (9, []), (10, []), (11, [])], [(4, (4, []))]⟩ (.mk [.code (codeAt [1, 0, 1, 0] (bodyOf Try.f38)), .blk 0, .code (codeAt [1, 1] (bodyOf Try.f38))] .normal ⟨[(1, .c (.lit (.int .u8 (a1)))), (4, .c (.box 4 0)), (9, .c (.slc 17 0 (List.length a0.Keys) (List.map S_LinkKey.cs a0.Keys))), (10, .c (.lit (.int .i64 ((List.length a0.Keys : Int))))), (11, .c (.lit (.int .i64 (0))))], [(4, .box [.lit (.int .u8 (0)), .lit (.int .u8 (0)), .lit (.int .u8 (0)), .lit (.int .u8 (0)), .lit (.int .u8 (0)), .lit (.int .u8 (0)), .lit (.int .u8 (0)), .lit (.int .u8 (0)), .lit (.int .u8 (0)), .lit (.int .u8 (0)), .lit (.int .u8 (0)), .lit (.int .u8 (0)), .lit (.int .u8 (0)), .lit (.int .u8 (0)), .lit (.int .u8 (0)), .lit (.int .u8 (0))])]⟩) (by kernel_rfl) (by kernel_rfl) ?_
  replace h := bindO h
  obtain ⟨y3, hl1, hK1⟩ := h
  refine TS_loopB (F_guard_keyOf_l1 a0 a1) ⟨[(1, []), (4, []), (9, []), (10, []), (11, [])], [(4, (4, []))]⟩ (fun (s1 : Int) => [(11, .c (.lit (.int .i64 (s1))))]) (fun (s1 : Int) => []) 0 y3 (.exit 0) (fun (b : Unit) => (Sum.inl b : (Unit) ⊕ ((List Int) × Bool))) ⟨[(4, [])], [(4, (4, []))]⟩ (fun (b2 : Unit) => []) (fun (b2 : Unit) => []) hl1 (by kernel_rfl) (by kernel_rfl) ?_ ?_
  · intro s1 x h hy1
    unfold F_guard_keyOf_l1 at h
    refine TS_go 5 ?_
    replace h := condO h
    rcases h with ⟨hb4, h⟩ | ⟨hb4, h⟩
    · refine TS_know 12 (b := true) hb4 (by kernel_rfl) (by kernel_rfl) ?_
      refine TS_T (by kernel_rfl) rfl ?_
      refine TS_go 5 ?_
      replace h := bindO h
      obtain ⟨_e5, he5, h⟩ := h
      refine TS_idx S_LinkKey.cs he5 (by kernel_rfl) (by kernel_rfl) ?_
      refine TS_go 11 ?_
      replace h := condO h
      rcases h with ⟨hb6, h⟩ | ⟨hb6, h⟩
      · refine TS_know 18 (b := true) hb6 (by kernel_rfl) (by kernel_rfl) ?_
        refine TS_T (by kernel_rfl) rfl ?_
        refine TS_go 10 ?_
        have ret := Option.some.inj h
        subst ret
        have hy1q := hy1 _ rfl
        subst hy1q
        replace h := (elimR hK1)
        refine TS_retB rfl (by kernel_rfl) ?_
        refine TS_go 2 ?_
        have ret := Option.some.inj h
        subst ret
        exact TS_ret (by kernel_rfl) (by kernel_rfl) (by kernel_rfl)
      · refine TS_know 18 (b := false) hb6 (by kernel_rfl) (by kernel_rfl) ?_
        refine TS_F (by kernel_rfl) rfl ?_
        refine TS_go 6 ?_
        have ret := Option.some.inj h
        subst ret
        exact TS_againB _ ⟨[(1, []), (4, []), (9, []), (10, []), (11, [])], [(4, (4, []))]⟩ rfl (by kernel_rfl) (by kernel_rfl)
    · refine TS_know 12 (b := false) hb4 (by kernel_rfl) (by kernel_rfl) ?_
      refine TS_F (by kernel_rfl) rfl ?_
      refine TS_go 2 ?_
      have ret := Option.some.inj h
      subst ret
      exact TS_brkB () ⟨[(4, [])], [(4, (4, []))]⟩ rfl (by kernel_rfl) (by kernel_rfl) (by kernel_rfl)
  · intro b2 hb
    subst y3
    have h := elimL hK1
    refine TS_go 8 ?_
    have ret := Option.some.inj h
    subst ret
    exact TS_ret (by kernel_rfl) (by kernel_rfl) (by kernel_rfl)

/-- multihop/guard.validPeer -/
noncomputable def F_guard_validPeer (a0 : S_Guard) (a1 : S_Peer) : Option (Bool) :=
  (F_address_Valid a1.Src).bind fun v1 =>
  bif v1 then
    bif (a1.Src.Mode == 0) then
      some (false)
    else
      (F_address_IsBroadcast a1.Src).bind fun v4 =>
      bif v4 then
        some (false)
      else
        (F_guard_keyOf a0 a1.Key).bind fun v6 =>
        bif v6.2 then
          some (((iand .u32 a1.Window 1) == 1))
        else
          some (false)
  else
    some (false)
set_option maxRecDepth 100000 in
set_option maxHeartbeats 40000000 in
theorem ok_guard_validPeer (a0 : S_Guard) (a1 : S_Peer) (r : Bool) (h : F_guard_validPeer a0 a1 = some r) : Con Try.prog 65 [.agg (S_Guard.cs a0), .agg (S_Peer.cs a1)] [] (.c (.lit (.bool (r)))) [] := by
  unfold F_guard_validPeer at h
  refine con_of [] [] 36 Try.func65 rfl rfl (by kernel_rfl) (fun K => ?_)
  refine TS_go 11 ?_
  replace h := bindO h
  obtain ⟨v1, hv1, h⟩ := h
  refine TS_call [] (ok_address_Valid a1.Src v1 hv1) (by kernel_rfl) (by kernel_rfl) ?_
  refine TS_go 2 ?_
  replace h := condO h
  rcases h with ⟨hb2, h⟩ | ⟨hb2, h⟩
  · subst hb2
    refine TS_go 6 ?_
    replace h := condO h
    rcases h with ⟨hb3, h⟩ | ⟨hb3, h⟩
    · refine TS_know 15 (b := true) hb3 (by kernel_rfl) (by kernel_rfl) ?_
      refine TS_know 16 (b := true) hb3 (by kernel_rfl) (by kernel_rfl) ?_
      refine TS_know 17 (b := true) hb3 (by kernel_rfl) (by kernel_rfl) ?_
      refine TS_go 5 ?_
      refine TS_T (by kernel_rfl) rfl ?_
      refine TS_go 6 ?_
      have ret := Option.some.inj h
      subst ret
      exact TS_ret (by kernel_rfl) (by kernel_rfl) (by kernel_rfl)
    · refine TS_know 15 (b := false) hb3 (by kernel_rfl) (by kernel_rfl) ?_
      refine TS_know 16 (b := false) hb3 (by kernel_rfl) (by kernel_rfl) ?_
      refine TS_know 17 (b := false) hb3 (by kernel_rfl) (by kernel_rfl) ?_
      refine TS_go 2 ?_
      replace h := bindO h
      obtain ⟨v4, hv4, h⟩ := h
      refine TS_call [] (ok_address_IsBroadcast a1.Src v4 hv4) (by kernel_rfl) (by kernel_rfl) ?_
      refine TS_go 2 ?_
      replace h := condO h
      rcases h with ⟨hb5, h⟩ | ⟨hb5, h⟩
      · subst hb5
        refine TS_T (by kernel_rfl) rfl ?_
        refine TS_go 6 ?_
        have ret := Option.some.inj h
        subst ret
        exact TS_ret (by kernel_rfl) (by kernel_rfl) (by kernel_rfl)
      · subst hb5
        refine TS_F (by kernel_rfl) rfl ?_
        refine TS_go 6 ?_
        replace h := bindO h
        obtain ⟨v6, hv6, h⟩ := h
        refine TS_call [] (ok_guard_keyOf a0 a1.Key v6 hv6) (by kernel_rfl) (by kernel_rfl) ?_
        refine TS_go 11 ?_
        replace h := condO h
        rcases h with ⟨hb7, h⟩ | ⟨hb7, h⟩
        · refine TS_know 28 (b := true) hb7 (by kernel_rfl) (by kernel_rfl) ?_
          refine TS_know 6 (b := true) hb7 (by kernel_rfl) (by kernel_rfl) ?_
          refine TS_know 29 (b := true) hb7 (by kernel_rfl) (by kernel_rfl) ?_
          refine TS_know 30 (b := true) hb7 (by kernel_rfl) (by kernel_rfl) ?_
          refine TS_go 8 ?_
          have ret := Option.some.inj h
          subst ret
          exact TS_ret (by kernel_rfl) (by kernel_rfl) (by kernel_rfl)
        · refine TS_know 28 (b := false) hb7 (by kernel_rfl) (by kernel_rfl) ?_
          refine TS_know 6 (b := false) hb7 (by kernel_rfl) (by kernel_rfl) ?_
          refine TS_know 29 (b := false) hb7 (by kernel_rfl) (by kernel_rfl) ?_
          refine TS_know 30 (b := false) hb7 (by kernel_rfl) (by kernel_rfl) ?_
          refine TS_go 8 ?_
          have ret := Option.some.inj h
          subst ret
          exact TS_ret (by kernel_rfl) (by kernel_rfl) (by kernel_rfl)
  · subst hb2
    refine TS_go 11 ?_
    refine TS_T (by kernel_rfl) rfl ?_
    refine TS_go 6 ?_
    have ret := Option.some.inj h
    subst ret
    exact TS_ret (by kernel_rfl) (by kernel_rfl) (by kernel_rfl)

/-- multihop/guard.Valid -/
noncomputable def F_guard_Valid_l1 (a0 : S_Guard) (s8 : Int) : Option ((Int) ⊕ ((Unit) ⊕ (Bool))) :=
  bif (decide (s8 < (List.length a0.Peers : Int))) then
    (idx a0.Peers s8).bind fun e12 =>
    (F_guard_validPeer a0 e12).bind fun v13 =>
    bif v13 then
      some (Sum.inl (IntKind.wrap .i64 (s8 + 1)))
    else
      some (Sum.inr (Sum.inr false))
  else
    some (Sum.inr (Sum.inl ()))
noncomputable def F_guard_Valid (a0 : S_Guard) : Option (Bool) :=
  bif (decide ((List.length a0.Keys : Int) > 4)) then
    some (false)
  else
    (F_guard_ascending_api_LinkKey_F631 a0.Keys).bind fun v2 =>
    bif v2 then
      bif (decide (a0.Counter > a0.Reserved)) then
        some (false)
      else
        bif (decide ((List.length a0.Peers : Int) > 16)) then
          some (false)
        else
          (F_guard_ascending_api_Peer_F411 a0.Peers).bind fun v6 =>
          bif v6 then
            (loopO (F_guard_Valid_l1 a0) 0).bind (Sum.elim (fun b9 =>
              some (true)
            ) (fun w15 => some w15))
          else
            some (false)
    else
      some (false)
set_option maxRecDepth 100000 in
set_option maxHeartbeats 40000000 in
theorem ok_guard_Valid (a0 : S_Guard) (r : Bool) (h : F_guard_Valid a0 = some r) : Con Try.prog 36 [.agg (S_Guard.cs a0)] [] (.c (.lit (.bool (r)))) [] := by
  unfold F_guard_Valid at h
  refine con_of [] [] 44 Try.func36 rfl rfl (by kernel_rfl) (fun K => ?_)
  refine TS_go 13 ?_
  replace h := condO h
  rcases h with ⟨hb1, h⟩ | ⟨hb1, h⟩
  · refine TS_know 8 (b := true) hb1 (by kernel_rfl) (by kernel_rfl) ?_
    refine TS_know 9 (b := true) hb1 (by kernel_rfl) (by kernel_rfl) ?_
    refine TS_go 13 ?_
    refine TS_T (by kernel_rfl) rfl ?_
    refine TS_go 6 ?_
    have ret := Option.some.inj h
    subst ret
    exact TS_ret (by kernel_rfl) (by kernel_rfl) (by kernel_rfl)
  · refine TS_know 8 (b := false) hb1 (by kernel_rfl) (by kernel_rfl) ?_
    refine TS_know 9 (b := false) hb1 (by kernel_rfl) (by kernel_rfl) ?_
    refine TS_go 2 ?_
    replace h := bindO h
    obtain ⟨v2, hv2, h⟩ := h
    refine TS_call [] (ok_guard_ascending_api_LinkKey_F631 a0.Keys v2 hv2) (by kernel_rfl) (by kernel_rfl) ?_
    refine TS_go 3 ?_
    replace h := condO h
    rcases h with ⟨hb3, h⟩ | ⟨hb3, h⟩
    · subst hb3
      refine TS_go 7 ?_
      replace h := condO h
      rcases h with ⟨hb4, h⟩ | ⟨hb4, h⟩
      · refine TS_know 20 (b := true) hb4 (by kernel_rfl) (by kernel_rfl) ?_
        refine TS_know 21 (b := true) hb4 (by kernel_rfl) (by kernel_rfl) ?_
        refine TS_T (by kernel_rfl) rfl ?_
        refine TS_go 6 ?_
        have ret := Option.some.inj h
        subst ret
        exact TS_ret (by kernel_rfl) (by kernel_rfl) (by kernel_rfl)
      · refine TS_know 20 (b := false) hb4 (by kernel_rfl) (by kernel_rfl) ?_
        refine TS_know 21 (b := false) hb4 (by kernel_rfl) (by kernel_rfl) ?_
        refine TS_F (by kernel_rfl) rfl ?_
        refine TS_go 9 ?_
        replace h := condO h
        rcases h with ⟨hb5, h⟩ | ⟨hb5, h⟩
        · refine TS_know 25 (b := true) hb5 (by kernel_rfl) (by kernel_rfl) ?_
          refine TS_know 26 (b := true) hb5 (by kernel_rfl) (by kernel_rfl) ?_
          refine TS_go 6 ?_
          refine TS_T (by kernel_rfl) rfl ?_
          refine TS_go 6 ?_
          have ret := Option.some.inj h
          subst ret
          exact TS_ret (by kernel_rfl) (by kernel_rfl) (by kernel_rfl)
        · refine TS_know 25 (b := false) hb5 (by kernel_rfl) (by kernel_rfl) ?_
          refine TS_know 26 (b := false) hb5 (by kernel_rfl) (by kernel_rfl) ?_
          refine TS_go 2 ?_
          replace h := bindO h
          obtain ⟨v6, hv6, h⟩ := h
          refine TS_call [] (ok_guard_ascending_api_Peer_F411 a0.Peers v6 hv6) (by kernel_rfl) (by kernel_rfl) ?_
          refine TS_go 3 ?_
          replace h := condO h
          rcases h with ⟨hb7, h⟩ | ⟨hb7, h⟩
          · subst hb7
            refine TS_F (by kernel_rfl) rfl ?_
            refine TS_go 10 ?_
            refine TS_cut ⟨[(1, []), (33, []), (34, []), (35, [])], [(1, (1, []))]⟩ (.mk [.code (codeAt [1, 1, 1, 0, 1, 0] (bodyOf Try.f36)), .blk 0, .code (codeAt [1, 1, 1, 1] (bodyOf Try.f36))] .normal ⟨[(1, .c (.box 1 0)), (33, .c (.slc 6 0 (List.length a0.Peers) (List.map S_Peer.cs a0.Peers))), (34, .c (.lit (.int .i64 ((List.length a0.Peers : Int))))), (35, .c (.lit (.int .i64 (0))))], [(1, .box [.slc 17 0 (List.length a0.Keys) (List.map S_LinkKey.cs a0.Keys), .lit (.int .u32 (a0.Counter)), .lit (.int .u32 (a0.Reserved)), .lit (.int .u32 (a0.Nonce)), .slc 6 0 (List.length a0.Peers) (List.map S_Peer.cs a0.Peers)])]⟩) (by kernel_rfl) (by kernel_rfl) ?_
            replace h := bindO h
            obtain ⟨y10, hl1, hK1⟩ := h
            refine TS_loopB (F_guard_Valid_l1 a0) ⟨[(1, []), (33, []), (34, []), (35, [])], [(1, (1, []))]⟩ (fun (s8 : Int) => [(35, .c (.lit (.int .i64 (s8))))]) (fun (s8 : Int) => []) 0 y10 (.exit 0) (fun (b : Unit) => (Sum.inl b : (Unit) ⊕ (Bool))) ⟨[], []⟩ (fun (b9 : Unit) => []) (fun (b9 : Unit) => []) hl1 (by kernel_rfl) (by kernel_rfl) ?_ ?_
            · intro s8 x h hy1
              unfold F_guard_Valid_l1 at h
              refine TS_go 5 ?_
              replace h := condO h
              rcases h with ⟨hb11, h⟩ | ⟨hb11, h⟩
              · refine TS_know 36 (b := true) hb11 (by kernel_rfl) (by kernel_rfl) ?_
                refine TS_T (by kernel_rfl) rfl ?_
                refine TS_go 5 ?_
                replace h := bindO h
                obtain ⟨e12, he12, h⟩ := h
                refine TS_idx S_Peer.cs he12 (by kernel_rfl) (by kernel_rfl) ?_
                refine TS_go 8 ?_
                replace h := bindO h
                obtain ⟨v13, hv13, h⟩ := h
                refine TS_call [] (ok_guard_validPeer a0 e12 v13 hv13) (by kernel_rfl) (by kernel_rfl) ?_
                refine TS_go 2 ?_
                replace h := condO h
                rcases h with ⟨hb14, h⟩ | ⟨hb14, h⟩
                · subst hb14
                  refine TS_F (by kernel_rfl) rfl ?_
                  refine TS_go 6 ?_
                  have ret := Option.some.inj h
                  subst ret
                  exact TS_againB _ ⟨[(1, []), (33, []), (34, []), (35, [])], [(1, (1, []))]⟩ rfl (by kernel_rfl) (by kernel_rfl)
                · subst hb14
                  refine TS_T (by kernel_rfl) rfl ?_
                  refine TS_go 7 ?_
                  have ret := Option.some.inj h
                  subst ret
                  have hy1q := hy1 _ rfl
                  subst hy1q
                  replace h := (elimR hK1)
                  refine TS_retB rfl (by kernel_rfl) ?_
                  refine TS_go 2 ?_
                  have ret := Option.some.inj h
                  subst ret
                  exact TS_ret (by kernel_rfl) (by kernel_rfl) (by kernel_rfl)
              · refine TS_know 36 (b := false) hb11 (by kernel_rfl) (by kernel_rfl) ?_
                refine TS_F (by kernel_rfl) rfl ?_
                refine TS_go 2 ?_
                have ret := Option.some.inj h
                subst ret
                exact TS_brkB () ⟨[], []⟩ rfl (by kernel_rfl) (by kernel_rfl) (by kernel_rfl)
            · intro b9 hb
              subst y10
              have h := elimL hK1
              refine TS_go 6 ?_
              have ret := Option.some.inj h
              subst ret
              exact TS_ret (by kernel_rfl) (by kernel_rfl) (by kernel_rfl)
          · subst hb7
            refine TS_T (by kernel_rfl) rfl ?_
            refine TS_go 6 ?_
            have ret := Option.some.inj h
            subst ret
            exact TS_ret (by kernel_rfl) (by kernel_rfl) (by kernel_rfl)
    · subst hb3
      refine TS_go 7 ?_
      refine TS_T (by kernel_rfl) rfl ?_
      refine TS_go 6 ?_
      have ret := Option.some.inj h
      subst ret
      exact TS_ret (by kernel_rfl) (by kernel_rfl) (by kernel_rfl)

/-- multihop/frame.validAck -/
noncomputable def F_frame_validAck (a0 : S_Frame) : Option (Bool) :=
  bif a0.AckRequest then
    some (false)
  else
    bif a0.Secure then
      some (false)
    else
      bif (a0.Pan == 0) then
        bif (a0.Counter == 0) then
          bif (a0.Key == 0) then
            bif (S_Addr.eqb a0.Dst (S_Addr.mk 0 0 0)) then
              bif (S_Addr.eqb a0.Src (S_Addr.mk 0 0 0)) then
                bif ((List.length a0.Payload : Int) == 0) then
                  some (((List.length a0.MIC : Int) == 0))
                else
                  some (false)
              else
                some (false)
            else
              some (false)
          else
            some (false)
        else
          some (false)
      else
        some (false)
set_option maxRecDepth 100000 in
set_option maxHeartbeats 40000000 in
theorem ok_frame_validAck (a0 : S_Frame) (r : Bool) (h : F_frame_validAck a0 = some r) : Con Try.prog 66 [.agg (S_Frame.cs a0)] [] (.c (.lit (.bool (r)))) [] := by
  unfold F_frame_validAck at h
  refine con_of [] [] 52 Try.func66 rfl rfl (by kernel_rfl) (fun K => ?_)
  refine TS_go 17 ?_
  replace h := condO h
  rcases h with ⟨hb1, h⟩ | ⟨hb1, h⟩
  · refine TS_know 6 (b := true) hb1 (by kernel_rfl) (by kernel_rfl) ?_
    refine TS_know 7 (b := false) (notF hb1) (by kernel_rfl) (by kernel_rfl) ?_
    refine TS_know 8 (b := false) (notF hb1) (by kernel_rfl) (by kernel_rfl) ?_
    refine TS_go 46 ?_
    have ret := Option.some.inj h
    subst ret
    exact TS_ret (by kernel_rfl) (by kernel_rfl) (by kernel_rfl)
  · refine TS_know 6 (b := false) hb1 (by kernel_rfl) (by kernel_rfl) ?_
    refine TS_know 7 (b := true) (notT hb1) (by kernel_rfl) (by kernel_rfl) ?_
    refine TS_know 8 (b := true) (notT hb1) (by kernel_rfl) (by kernel_rfl) ?_
    refine TS_go 5 ?_
    replace h := condO h
    rcases h with ⟨hb2, h⟩ | ⟨hb2, h⟩
    · refine TS_know 10 (b := true) hb2 (by kernel_rfl) (by kernel_rfl) ?_
      refine TS_know 11 (b := false) (notF hb2) (by kernel_rfl) (by kernel_rfl) ?_
      refine TS_know 12 (b := false) (notF hb2) (by kernel_rfl) (by kernel_rfl) ?_
      refine TS_know 13 (b := false) (notF hb2) (by kernel_rfl) (by kernel_rfl) ?_
      refine TS_go 41 ?_
      have ret := Option.some.inj h
      subst ret
      exact TS_ret (by kernel_rfl) (by kernel_rfl) (by kernel_rfl)
    · refine TS_know 10 (b := false) hb2 (by kernel_rfl) (by kernel_rfl) ?_
      refine TS_know 11 (b := true) (notT hb2) (by kernel_rfl) (by kernel_rfl) ?_
      refine TS_know 12 (b := true) (notT hb2) (by kernel_rfl) (by kernel_rfl) ?_
      refine TS_know 13 (b := true) (notT hb2) (by kernel_rfl) (by kernel_rfl) ?_
      refine TS_go 5 ?_
      replace h := condO h
      rcases h with ⟨hb3, h⟩ | ⟨hb3, h⟩
      · refine TS_know 16 (b := true) hb3 (by kernel_rfl) (by kernel_rfl) ?_
        refine TS_know 17 (b := true) hb3 (by kernel_rfl) (by kernel_rfl) ?_
        refine TS_know 18 (b := true) hb3 (by kernel_rfl) (by kernel_rfl) ?_
        refine TS_go 5 ?_
        replace h := condO h
        rcases h with ⟨hb4, h⟩ | ⟨hb4, h⟩
        · refine TS_know 21 (b := true) hb4 (by kernel_rfl) (by kernel_rfl) ?_
          refine TS_know 22 (b := true) hb4 (by kernel_rfl) (by kernel_rfl) ?_
          refine TS_know 23 (b := true) hb4 (by kernel_rfl) (by kernel_rfl) ?_
          refine TS_go 5 ?_
          replace h := condO h
          rcases h with ⟨hb5, h⟩ | ⟨hb5, h⟩
          · refine TS_know 26 (b := true) hb5 (by kernel_rfl) (by kernel_rfl) ?_
            refine TS_know 27 (b := true) hb5 (by kernel_rfl) (by kernel_rfl) ?_
            refine TS_know 28 (b := true) hb5 (by kernel_rfl) (by kernel_rfl) ?_
            refine TS_go 6 ?_
            replace h := condO h
            rcases h with ⟨hb6, h⟩ | ⟨hb6, h⟩
            · refine TS_know 32 (b := true) hb6 (by kernel_rfl) (by kernel_rfl) ?_
              refine TS_know 33 (b := true) hb6 (by kernel_rfl) (by kernel_rfl) ?_
              refine TS_know 34 (b := true) hb6 (by kernel_rfl) (by kernel_rfl) ?_
              refine TS_go 6 ?_
              replace h := condO h
              rcases h with ⟨hb7, h⟩ | ⟨hb7, h⟩
              · refine TS_know 38 (b := true) hb7 (by kernel_rfl) (by kernel_rfl) ?_
                refine TS_know 39 (b := true) hb7 (by kernel_rfl) (by kernel_rfl) ?_
                refine TS_know 40 (b := true) hb7 (by kernel_rfl) (by kernel_rfl) ?_
                refine TS_go 6 ?_
                replace h := condO h
                rcases h with ⟨hb8, h⟩ | ⟨hb8, h⟩
                · refine TS_know 44 (b := true) hb8 (by kernel_rfl) (by kernel_rfl) ?_
                  refine TS_know 45 (b := true) hb8 (by kernel_rfl) (by kernel_rfl) ?_
                  refine TS_know 46 (b := true) hb8 (by kernel_rfl) (by kernel_rfl) ?_
                  refine TS_go 8 ?_
                  have ret := Option.some.inj h
                  subst ret
                  exact TS_ret (by kernel_rfl) (by kernel_rfl) (by kernel_rfl)
                · refine TS_know 44 (b := false) hb8 (by kernel_rfl) (by kernel_rfl) ?_
                  refine TS_know 45 (b := false) hb8 (by kernel_rfl) (by kernel_rfl) ?_
                  refine TS_know 46 (b := false) hb8 (by kernel_rfl) (by kernel_rfl) ?_
                  refine TS_go 8 ?_
                  have ret := Option.some.inj h
                  subst ret
                  exact TS_ret (by kernel_rfl) (by kernel_rfl) (by kernel_rfl)
              · refine TS_know 38 (b := false) hb7 (by kernel_rfl) (by kernel_rfl) ?_
                refine TS_know 39 (b := false) hb7 (by kernel_rfl) (by kernel_rfl) ?_
                refine TS_know 40 (b := false) hb7 (by kernel_rfl) (by kernel_rfl) ?_
                refine TS_go 14 ?_
                have ret := Option.some.inj h
                subst ret
                exact TS_ret (by kernel_rfl) (by kernel_rfl) (by kernel_rfl)
            · refine TS_know 32 (b := false) hb6 (by kernel_rfl) (by kernel_rfl) ?_
              refine TS_know 33 (b := false) hb6 (by kernel_rfl) (by kernel_rfl) ?_
              refine TS_know 34 (b := false) hb6 (by kernel_rfl) (by kernel_rfl) ?_
              refine TS_go 20 ?_
              have ret := Option.some.inj h
              subst ret
              exact TS_ret (by kernel_rfl) (by kernel_rfl) (by kernel_rfl)
          · refine TS_know 26 (b := false) hb5 (by kernel_rfl) (by kernel_rfl) ?_
            refine TS_know 27 (b := false) hb5 (by kernel_rfl) (by kernel_rfl) ?_
            refine TS_know 28 (b := false) hb5 (by kernel_rfl) (by kernel_rfl) ?_
            refine TS_go 26 ?_
            have ret := Option.some.inj h
            subst ret
            exact TS_ret (by kernel_rfl) (by kernel_rfl) (by kernel_rfl)
        · refine TS_know 21 (b := false) hb4 (by kernel_rfl) (by kernel_rfl) ?_
          refine TS_know 22 (b := false) hb4 (by kernel_rfl) (by kernel_rfl) ?_
          refine TS_know 23 (b := false) hb4 (by kernel_rfl) (by kernel_rfl) ?_
          refine TS_go 31 ?_
          have ret := Option.some.inj h
          subst ret
          exact TS_ret (by kernel_rfl) (by kernel_rfl) (by kernel_rfl)
      · refine TS_know 16 (b := false) hb3 (by kernel_rfl) (by kernel_rfl) ?_
        refine TS_know 17 (b := false) hb3 (by kernel_rfl) (by kernel_rfl) ?_
        refine TS_know 18 (b := false) hb3 (by kernel_rfl) (by kernel_rfl) ?_
        refine TS_go 36 ?_
        have ret := Option.some.inj h
        subst ret
        exact TS_ret (by kernel_rfl) (by kernel_rfl) (by kernel_rfl)
end
end Go.Proofs.Ytpngoffbogingaa
