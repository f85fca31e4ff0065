/-
  Written by cc3.py: what the Go functions compute, as plain functions, and that they do.
-/
import Derived.Test.YtohfnlkjdjmipaaCe2
namespace Go.Proofs.Ytohfnlkjdjmipaa
open Go.RowKit
attribute [local irreducible] TS go TD goD

/-- multihop/multihopref05.Decode -/
noncomputable def F_ref05_Decode (a0 : List Int) : Option (S_Frame × Int) :=
  bif (decide ((List.length a0 : Int) > 127)) then
    some (((S_Frame.mk 0 false false false 0 0 (S_Addr.mk 0 0 0) (S_Addr.mk 0 0 0) 0 0 ([] : List Int) ([] : List Int)), 3))
  else
    bif (decide ((List.length a0 : Int) < 5)) then
      some (((S_Frame.mk 0 false false false 0 0 (S_Addr.mk 0 0 0) (S_Addr.mk 0 0 0) 0 0 ([] : List Int) ([] : List Int)), 4))
    else
      (F_ref02_Check a0).bind fun v3 =>
      bif v3 then
        (F_ref05_parse a0).bind fun v5 =>
        bif v5.2 then
          (F_ref05_Encode v5.1).bind fun v7 =>
          bif (v7.2 != 0) then
            some (((S_Frame.mk 0 false false false 0 0 (S_Addr.mk 0 0 0) (S_Addr.mk 0 0 0) 0 0 ([] : List Int) ([] : List Int)), 5))
          else
            (F_ref01_Same a0 v7.1).bind fun v9 =>
            bif v9 then
              some ((v5.1, 0))
            else
              some (((S_Frame.mk 0 false false false 0 0 (S_Addr.mk 0 0 0) (S_Addr.mk 0 0 0) 0 0 ([] : List Int) ([] : List Int)), 5))
        else
          some (((S_Frame.mk 0 false false false 0 0 (S_Addr.mk 0 0 0) (S_Addr.mk 0 0 0) 0 0 ([] : List Int) ([] : List Int)), 5))
      else
        some (((S_Frame.mk 0 false false false 0 0 (S_Addr.mk 0 0 0) (S_Addr.mk 0 0 0) 0 0 ([] : List Int) ([] : List Int)), 6))
set_option maxRecDepth 100000 in
set_option maxHeartbeats 40000000 in
theorem ok_ref05_Decode (a0 : List Int) (r : S_Frame × Int) (h : F_ref05_Decode a0 = some r) : Con Try.prog 37 [.c (eS 1 (ecI .u8) (a0))] [] (.tup [(true, S_Frame.cs r.1), (false, [.lit (.int .i64 (r.2))])]) [] := by
  unfold F_ref05_Decode at h
  refine con_of [[0, 0, 0, 0, 0, 0, 0, 0, 0, 0, 0, 0, 0, 0, 2, 2]] [] 46 Try.func37 rfl rfl (by kernel_rfl) (fun K => ?_)
  refine TS_go 14 ?_
  replace h := condO h
  rcases h with ⟨hb1, h⟩ | ⟨hb1, h⟩
  · refine TS_know 11 (b := true) hb1 (by kernel_rfl) (by kernel_rfl) ?_
    refine TS_know 8 (b := true) hb1 (by kernel_rfl) (by kernel_rfl) ?_
    refine TS_T (by kernel_rfl) rfl ?_
    refine TS_go 9 ?_
    have ret := Option.some.inj h
    subst ret
    exact TS_ret (by kernel_rfl) (by kernel_rfl) (by kernel_rfl)
  · refine TS_know 11 (b := false) hb1 (by kernel_rfl) (by kernel_rfl) ?_
    refine TS_know 8 (b := false) hb1 (by kernel_rfl) (by kernel_rfl) ?_
    refine TS_F (by kernel_rfl) rfl ?_
    refine TS_go 7 ?_
    replace h := condO h
    rcases h with ⟨hb2, h⟩ | ⟨hb2, h⟩
    · refine TS_know 16 (b := true) hb2 (by kernel_rfl) (by kernel_rfl) ?_
      refine TS_know 13 (b := true) hb2 (by kernel_rfl) (by kernel_rfl) ?_
      refine TS_T (by kernel_rfl) rfl ?_
      refine TS_go 9 ?_
      have ret := Option.some.inj h
      subst ret
      exact TS_ret (by kernel_rfl) (by kernel_rfl) (by kernel_rfl)
    · refine TS_know 16 (b := false) hb2 (by kernel_rfl) (by kernel_rfl) ?_
      refine TS_know 13 (b := false) hb2 (by kernel_rfl) (by kernel_rfl) ?_
      refine TS_F (by kernel_rfl) rfl ?_
      refine TS_go 3 ?_
      replace h := bindO h
      obtain ⟨v3, hv3, h⟩ := h
      refine TS_call [] (ok_ref02_Check a0 v3 hv3) (by kernel_rfl) (by kernel_rfl) ?_
      refine TS_go 3 ?_
      replace h := condO h
      rcases h with ⟨hb4, h⟩ | ⟨hb4, h⟩
      · subst hb4
        refine TS_F (by kernel_rfl) rfl ?_
        refine TS_go 5 ?_
        replace h := bindO h
        obtain ⟨v5, hv5, h⟩ := h
        refine TS_call [] (ok_ref05_parse a0 v5 hv5) (by kernel_rfl) (by kernel_rfl) ?_
        refine TS_go 13 ?_
        replace h := condO h
        rcases h with ⟨hb6, h⟩ | ⟨hb6, h⟩
        · refine TS_know 27 (b := true) hb6 (by kernel_rfl) (by kernel_rfl) ?_
          refine TS_know 5 (b := true) hb6 (by kernel_rfl) (by kernel_rfl) ?_
          refine TS_know 28 (b := true) hb6 (by kernel_rfl) (by kernel_rfl) ?_
          refine TS_know 29 (b := false) (notF hb6) (by kernel_rfl) (by kernel_rfl) ?_
          refine TS_F (by kernel_rfl) rfl ?_
          refine TS_go 4 ?_
          replace h := bindO h
          obtain ⟨v7, hv7, h⟩ := h
          refine TS_con [] [(33, 900000)] none (okT_ref05_Encode v5.1 v7 hv7) (by kernel_rfl) (by kernel_rfl) (by kernel_rfl) ?_
          refine TS_go 12 ?_
          replace h := condO h
          rcases h with ⟨hb8, h⟩ | ⟨hb8, h⟩
          · refine TS_know 37 (b := true) hb8 (by kernel_rfl) (by kernel_rfl) ?_
            refine TS_know 38 (b := true) hb8 (by kernel_rfl) (by kernel_rfl) ?_
            refine TS_go 6 ?_
            refine TS_T (by kernel_rfl) rfl ?_
            refine TS_go 8 ?_
            have ret := Option.some.inj h
            subst ret
            exact TS_ret (by kernel_rfl) (by kernel_rfl) (by kernel_rfl)
          · refine TS_know 37 (b := false) hb8 (by kernel_rfl) (by kernel_rfl) ?_
            refine TS_know 38 (b := false) hb8 (by kernel_rfl) (by kernel_rfl) ?_
            refine TS_go 2 ?_
            replace h := bindO h
            obtain ⟨v9, hv9, h⟩ := h
            refine TS_call [[], [2]] (ok_ref01_Same a0 v7.1 v9 hv9) (by kernel_rfl) (by kernel_rfl) ?_
            refine TS_go 3 ?_
            replace h := condO h
            rcases h with ⟨hb10, h⟩ | ⟨hb10, h⟩
            · subst hb10
              refine TS_F (by kernel_rfl) rfl ?_
              refine TS_go 8 ?_
              have ret := Option.some.inj h
              subst ret
              exact TS_ret (by kernel_rfl) (by kernel_rfl) (by kernel_rfl)
            · subst hb10
              refine TS_T (by kernel_rfl) rfl ?_
              refine TS_go 8 ?_
              have ret := Option.some.inj h
              subst ret
              exact TS_ret (by kernel_rfl) (by kernel_rfl) (by kernel_rfl)
        · refine TS_know 27 (b := false) hb6 (by kernel_rfl) (by kernel_rfl) ?_
          refine TS_know 5 (b := false) hb6 (by kernel_rfl) (by kernel_rfl) ?_
          refine TS_know 28 (b := false) hb6 (by kernel_rfl) (by kernel_rfl) ?_
          refine TS_know 29 (b := true) (notT hb6) (by kernel_rfl) (by kernel_rfl) ?_
          refine TS_T (by kernel_rfl) rfl ?_
          refine TS_go 8 ?_
          have ret := Option.some.inj h
          subst ret
          exact TS_ret (by kernel_rfl) (by kernel_rfl) (by kernel_rfl)
      · subst hb4
        refine TS_T (by kernel_rfl) rfl ?_
        refine TS_go 9 ?_
        have ret := Option.some.inj h
        subst ret
        exact TS_ret (by kernel_rfl) (by kernel_rfl) (by kernel_rfl)

/-- multihop/multihopref05.Same -/
noncomputable def F_ref05_Same (a0 : S_Frame) (a1 : S_Frame) : Option (Bool) :=
  bif (a0.Kind == a1.Kind) then
    bif (a0.AckRequest == a1.AckRequest) then
      bif (a0.Pending == a1.Pending) then
        bif (a0.Secure == a1.Secure) then
          bif (a0.Seq == a1.Seq) then
            bif (a0.Pan == a1.Pan) then
              bif (S_Addr.eqb a0.Dst a1.Dst) then
                bif (S_Addr.eqb a0.Src a1.Src) then
                  bif (a0.Counter == a1.Counter) then
                    bif (a0.Key == a1.Key) then
                      (F_ref01_Same a0.Payload a1.Payload).bind fun v11 =>
                      bif v11 then
                        (F_ref01_Same a0.MIC a1.MIC).bind fun v13 =>
                        some (v13)
                      else
                        some (false)
                    else
                      some (false)
                  else
                    some (false)
                else
                  some (false)
              else
                some (false)
            else
              some (false)
          else
            some (false)
        else
          some (false)
      else
        some (false)
    else
      some (false)
  else
    some (false)
set_option maxRecDepth 100000 in
set_option maxHeartbeats 40000000 in
theorem ok_ref05_Same (a0 : S_Frame) (a1 : S_Frame) (r : Bool) (h : F_ref05_Same a0 a1 = some r) : Con Try.prog 22 [.agg (S_Frame.cs a0), .agg (S_Frame.cs a1)] [] (.c (.lit (.bool (r)))) [] := by
  unfold F_ref05_Same at h
  refine con_of [] [] 87 Try.func22 rfl rfl (by kernel_rfl) (fun K => ?_)
  refine TS_go 14 ?_
  replace h := condO h
  rcases h with ⟨hb1, h⟩ | ⟨hb1, h⟩
  · refine TS_know 9 (b := true) hb1 (by kernel_rfl) (by kernel_rfl) ?_
    refine TS_know 10 (b := true) hb1 (by kernel_rfl) (by kernel_rfl) ?_
    refine TS_go 7 ?_
    replace h := condO h
    rcases h with ⟨hb2, h⟩ | ⟨hb2, h⟩
    · refine TS_know 15 (b := true) hb2 (by kernel_rfl) (by kernel_rfl) ?_
      refine TS_know 16 (b := true) hb2 (by kernel_rfl) (by kernel_rfl) ?_
      refine TS_know 17 (b := true) hb2 (by kernel_rfl) (by kernel_rfl) ?_
      refine TS_go 7 ?_
      replace h := condO h
      rcases h with ⟨hb3, h⟩ | ⟨hb3, h⟩
      · refine TS_know 22 (b := true) hb3 (by kernel_rfl) (by kernel_rfl) ?_
        refine TS_know 23 (b := true) hb3 (by kernel_rfl) (by kernel_rfl) ?_
        refine TS_know 24 (b := true) hb3 (by kernel_rfl) (by kernel_rfl) ?_
        refine TS_go 7 ?_
        replace h := condO h
        rcases h with ⟨hb4, h⟩ | ⟨hb4, h⟩
        · refine TS_know 29 (b := true) hb4 (by kernel_rfl) (by kernel_rfl) ?_
          refine TS_know 30 (b := true) hb4 (by kernel_rfl) (by kernel_rfl) ?_
          refine TS_know 31 (b := true) hb4 (by kernel_rfl) (by kernel_rfl) ?_
          refine TS_go 7 ?_
          replace h := condO h
          rcases h with ⟨hb5, h⟩ | ⟨hb5, h⟩
          · refine TS_know 36 (b := true) hb5 (by kernel_rfl) (by kernel_rfl) ?_
            refine TS_know 37 (b := true) hb5 (by kernel_rfl) (by kernel_rfl) ?_
            refine TS_know 38 (b := true) hb5 (by kernel_rfl) (by kernel_rfl) ?_
            refine TS_go 7 ?_
            replace h := condO h
            rcases h with ⟨hb6, h⟩ | ⟨hb6, h⟩
            · refine TS_know 43 (b := true) hb6 (by kernel_rfl) (by kernel_rfl) ?_
              refine TS_know 44 (b := true) hb6 (by kernel_rfl) (by kernel_rfl) ?_
              refine TS_know 45 (b := true) hb6 (by kernel_rfl) (by kernel_rfl) ?_
              refine TS_go 7 ?_
              replace h := condO h
              rcases h with ⟨hb7, h⟩ | ⟨hb7, h⟩
              · refine TS_know 50 (b := true) hb7 (by kernel_rfl) (by kernel_rfl) ?_
                refine TS_know 51 (b := true) hb7 (by kernel_rfl) (by kernel_rfl) ?_
                refine TS_know 52 (b := true) hb7 (by kernel_rfl) (by kernel_rfl) ?_
                refine TS_go 7 ?_
                replace h := condO h
                rcases h with ⟨hb8, h⟩ | ⟨hb8, h⟩
                · refine TS_know 57 (b := true) hb8 (by kernel_rfl) (by kernel_rfl) ?_
                  refine TS_know 58 (b := true) hb8 (by kernel_rfl) (by kernel_rfl) ?_
                  refine TS_know 59 (b := true) hb8 (by kernel_rfl) (by kernel_rfl) ?_
                  refine TS_go 7 ?_
                  replace h := condO h
                  rcases h with ⟨hb9, h⟩ | ⟨hb9, h⟩
                  · refine TS_know 64 (b := true) hb9 (by kernel_rfl) (by kernel_rfl) ?_
                    refine TS_know 65 (b := true) hb9 (by kernel_rfl) (by kernel_rfl) ?_
                    refine TS_know 66 (b := true) hb9 (by kernel_rfl) (by kernel_rfl) ?_
                    refine TS_go 7 ?_
                    replace h := condO h
                    rcases h with ⟨hb10, h⟩ | ⟨hb10, h⟩
                    · refine TS_know 71 (b := true) hb10 (by kernel_rfl) (by kernel_rfl) ?_
                      refine TS_know 72 (b := true) hb10 (by kernel_rfl) (by kernel_rfl) ?_
                      refine TS_know 73 (b := true) hb10 (by kernel_rfl) (by kernel_rfl) ?_
                      refine TS_go 4 ?_
                      replace h := bindO h
                      obtain ⟨v11, hv11, h⟩ := h
                      refine TS_call [] (ok_ref01_Same a0.Payload a1.Payload v11 hv11) (by kernel_rfl) (by kernel_rfl) ?_
                      refine TS_go 2 ?_
                      replace h := condO h
                      rcases h with ⟨hb12, h⟩ | ⟨hb12, h⟩
                      · subst hb12
                        refine TS_go 4 ?_
                        replace h := bindO h
                        obtain ⟨v13, hv13, h⟩ := h
                        refine TS_call [] (ok_ref01_Same a0.MIC a1.MIC v13 hv13) (by kernel_rfl) (by kernel_rfl) ?_
                        refine TS_go 4 ?_
                        have ret := Option.some.inj h
                        subst ret
                        exact TS_ret (by kernel_rfl) (by kernel_rfl) (by kernel_rfl)
                      · subst hb12
                        refine TS_go 9 ?_
                        have ret := Option.some.inj h
                        subst ret
                        exact TS_ret (by kernel_rfl) (by kernel_rfl) (by kernel_rfl)
                    · refine TS_know 71 (b := false) hb10 (by kernel_rfl) (by kernel_rfl) ?_
                      refine TS_know 72 (b := false) hb10 (by kernel_rfl) (by kernel_rfl) ?_
                      refine TS_know 73 (b := false) hb10 (by kernel_rfl) (by kernel_rfl) ?_
                      refine TS_go 16 ?_
                      have ret := Option.some.inj h
                      subst ret
                      exact TS_ret (by kernel_rfl) (by kernel_rfl) (by kernel_rfl)
                  · refine TS_know 64 (b := false) hb9 (by kernel_rfl) (by kernel_rfl) ?_
                    refine TS_know 65 (b := false) hb9 (by kernel_rfl) (by kernel_rfl) ?_
                    refine TS_know 66 (b := false) hb9 (by kernel_rfl) (by kernel_rfl) ?_
                    refine TS_go 23 ?_
                    have ret := Option.some.inj h
                    subst ret
                    exact TS_ret (by kernel_rfl) (by kernel_rfl) (by kernel_rfl)
                · refine TS_know 57 (b := false) hb8 (by kernel_rfl) (by kernel_rfl) ?_
                  refine TS_know 58 (b := false) hb8 (by kernel_rfl) (by kernel_rfl) ?_
                  refine TS_know 59 (b := false) hb8 (by kernel_rfl) (by kernel_rfl) ?_
                  refine TS_go 30 ?_
                  have ret := Option.some.inj h
                  subst ret
                  exact TS_ret (by kernel_rfl) (by kernel_rfl) (by kernel_rfl)
              · refine TS_know 50 (b := false) hb7 (by kernel_rfl) (by kernel_rfl) ?_
                refine TS_know 51 (b := false) hb7 (by kernel_rfl) (by kernel_rfl) ?_
                refine TS_know 52 (b := false) hb7 (by kernel_rfl) (by kernel_rfl) ?_
                refine TS_go 37 ?_
                have ret := Option.some.inj h
                subst ret
                exact TS_ret (by kernel_rfl) (by kernel_rfl) (by kernel_rfl)
            · refine TS_know 43 (b := false) hb6 (by kernel_rfl) (by kernel_rfl) ?_
              refine TS_know 44 (b := false) hb6 (by kernel_rfl) (by kernel_rfl) ?_
              refine TS_know 45 (b := false) hb6 (by kernel_rfl) (by kernel_rfl) ?_
              refine TS_go 44 ?_
              have ret := Option.some.inj h
              subst ret
              exact TS_ret (by kernel_rfl) (by kernel_rfl) (by kernel_rfl)
          · refine TS_know 36 (b := false) hb5 (by kernel_rfl) (by kernel_rfl) ?_
            refine TS_know 37 (b := false) hb5 (by kernel_rfl) (by kernel_rfl) ?_
            refine TS_know 38 (b := false) hb5 (by kernel_rfl) (by kernel_rfl) ?_
            refine TS_go 51 ?_
            have ret := Option.some.inj h
            subst ret
            exact TS_ret (by kernel_rfl) (by kernel_rfl) (by kernel_rfl)
        · refine TS_know 29 (b := false) hb4 (by kernel_rfl) (by kernel_rfl) ?_
          refine TS_know 30 (b := false) hb4 (by kernel_rfl) (by kernel_rfl) ?_
          refine TS_know 31 (b := false) hb4 (by kernel_rfl) (by kernel_rfl) ?_
          refine TS_go 58 ?_
          have ret := Option.some.inj h
          subst ret
          exact TS_ret (by kernel_rfl) (by kernel_rfl) (by kernel_rfl)
      · refine TS_know 22 (b := false) hb3 (by kernel_rfl) (by kernel_rfl) ?_
        refine TS_know 23 (b := false) hb3 (by kernel_rfl) (by kernel_rfl) ?_
        refine TS_know 24 (b := false) hb3 (by kernel_rfl) (by kernel_rfl) ?_
        refine TS_go 65 ?_
        have ret := Option.some.inj h
        subst ret
        exact TS_ret (by kernel_rfl) (by kernel_rfl) (by kernel_rfl)
    · refine TS_know 15 (b := false) hb2 (by kernel_rfl) (by kernel_rfl) ?_
      refine TS_know 16 (b := false) hb2 (by kernel_rfl) (by kernel_rfl) ?_
      refine TS_know 17 (b := false) hb2 (by kernel_rfl) (by kernel_rfl) ?_
      refine TS_go 72 ?_
      have ret := Option.some.inj h
      subst ret
      exact TS_ret (by kernel_rfl) (by kernel_rfl) (by kernel_rfl)
  · refine TS_know 9 (b := false) hb1 (by kernel_rfl) (by kernel_rfl) ?_
    refine TS_know 10 (b := false) hb1 (by kernel_rfl) (by kernel_rfl) ?_
    refine TS_go 79 ?_
    have ret := Option.some.inj h
    subst ret
    exact TS_ret (by kernel_rfl) (by kernel_rfl) (by kernel_rfl)

/-- multihop/multihoplaw05.same -/
noncomputable def F_law05_same (a0 : List Int) : Option (Bool) :=
  (F_frame_Decode a0).bind fun v1 =>
  (F_ref05_Decode a0).bind fun v2 =>
  bif (v1.2 == v2.2) then
    (F_ref05_Same v1.1 v2.1).bind fun v4 =>
    some (v4)
  else
    some (false)
set_option maxRecDepth 100000 in
set_option maxHeartbeats 40000000 in
theorem ok_law05_same (a0 : List Int) (r : Bool) (h : F_law05_same a0 = some r) : Con Try.prog 15 [.c (eS 1 (ecI .u8) (a0))] [] (.c (.lit (.bool (r)))) [] := by
  unfold F_law05_same at h
  refine con_of [] [] 25 Try.func15 rfl rfl (by kernel_rfl) (fun K => ?_)
  refine TS_go 7 ?_
  replace h := bindO h
  obtain ⟨v1, hv1, h⟩ := h
  refine TS_con [] [(9, 900014), (600000, 900015)] none (okT_frame_Decode a0 v1 hv1) (by kernel_rfl) (by kernel_rfl) (by kernel_rfl) ?_
  refine TS_go 10 ?_
  replace h := bindO h
  obtain ⟨v2, hv2, h⟩ := h
  refine TS_call [] (ok_ref05_Decode a0 v2 hv2) (by kernel_rfl) (by kernel_rfl) ?_
  refine TS_go 13 ?_
  replace h := condO h
  rcases h with ⟨hb3, h⟩ | ⟨hb3, h⟩
  · refine TS_know 19 (b := true) hb3 (by kernel_rfl) (by kernel_rfl) ?_
    refine TS_know 20 (b := true) hb3 (by kernel_rfl) (by kernel_rfl) ?_
    refine TS_go 2 ?_
    replace h := bindO h
    obtain ⟨v4, hv4, h⟩ := h
    refine TS_call [[0, 0, 0, 0, 0, 0, 0, 0, 0, 0, 0, 0, 0, 0, 2, 2]] (ok_ref05_Same v1.1 v2.1 v4 hv4) (by kernel_rfl) (by kernel_rfl) ?_
    refine TS_go 4 ?_
    have ret := Option.some.inj h
    subst ret
    exact TS_ret (by kernel_rfl) (by kernel_rfl) (by kernel_rfl)
  · refine TS_know 19 (b := false) hb3 (by kernel_rfl) (by kernel_rfl) ?_
    refine TS_know 20 (b := false) hb3 (by kernel_rfl) (by kernel_rfl) ?_
    refine TS_go 7 ?_
    have ret := Option.some.inj h
    subst ret
    exact TS_ret (by kernel_rfl) (by kernel_rfl) (by kernel_rfl)

/-- multihop/multihopmade.Mod -/
noncomputable def F_made_Mod_j1  (v2 : Int) : Option (Int) :=
  some (v2)
noncomputable def F_made_Mod (a0 : Int) (a1 : Int) : Option (Int) :=
  bif decide (a1 ≠ 0) then
    bif (decide ((Int.tmod a0 a1) < 0)) then
      (F_made_Mod_j1) (IntKind.wrap .i64 ((Int.tmod a0 a1) + a1))
    else
      (F_made_Mod_j1) (Int.tmod a0 a1)
  else none
set_option maxRecDepth 100000 in
set_option maxHeartbeats 40000000 in
theorem ok_made_Mod (a0 : Int) (a1 : Int) (r : Int) (h : F_made_Mod a0 a1 = some r) : Con Try.prog 16 [.c (.lit (.int .i64 (a0))), .c (.lit (.int .i64 (a1)))] [] (.c (.lit (.int .i64 (r)))) [] := by
  unfold F_made_Mod at h
  refine con_of [] [] 14 Try.func16 rfl rfl (by kernel_rfl) (fun K => ?_)
  refine TS_go 8 ?_
  replace h := chkO h
  obtain ⟨hc1, h⟩ := h
  refine TS_num (op := .rem) (k := .i64) (k' := .i64) (m := a0) (i := a1) (of_decide_eq_true hc1) rfl (by simp) (by kernel_rfl) (by kernel_rfl) ?_
  refine TS_go 2 ?_
  refine TS_cut ⟨[(0, []), (1, [])], []⟩ (.mk [.code (codeAt [1, 1] (bodyOf Try.f16))] .normal ⟨[(0, .c (.lit (.int .i64 (Int.tmod a0 a1)))), (1, .c (.lit (.int .i64 (a1))))], []⟩) (by kernel_rfl) (by kernel_rfl) ?_
  refine TS_joinB ⟨[(0, [])], []⟩ (fun (v2 : Int) => [(0, .c (.lit (.int .i64 (v2))))]) (fun (v2 : Int) => []) (F_made_Mod_j1) r ?_ ?_
  · clear h
    intro v2 h
    unfold F_made_Mod_j1 at h
    refine TS_go 6 ?_
    have ret := Option.some.inj h
    subst ret
    exact TS_ret (by kernel_rfl) (by kernel_rfl) (by kernel_rfl)
  · refine TS_go 5 ?_
    replace h := condO h
    rcases h with ⟨hb3, h⟩ | ⟨hb3, h⟩
    · refine TS_know 9 (b := true) hb3 (by kernel_rfl) (by kernel_rfl) ?_
      refine TS_T (by kernel_rfl) rfl ?_
      refine TS_go 6 ?_
      exact TS_meet (IntKind.wrap .i64 ((Int.tmod a0 a1) + a1)) ⟨[(0, [])], []⟩ h (by kernel_rfl) (by kernel_rfl)
    · refine TS_know 9 (b := false) hb3 (by kernel_rfl) (by kernel_rfl) ?_
      refine TS_F (by kernel_rfl) rfl ?_
      refine TS_go 1 ?_
      exact TS_meet (Int.tmod a0 a1) ⟨[(0, [])], []⟩ h (by kernel_rfl) (by kernel_rfl)

/-- multihop/multihoplaw05.FrameReads -/
noncomputable def F_law05_FrameReads (a0 : List Int) (a1 : List Int) (a2 : Int) (a3 : Int) (a4 : Int) : Option (Bool) :=
  (F_made_New a1).bind fun v1 =>
  (F_made_Tape_AnyFrame v1).bind fun v2 =>
  (F_ref05_Encode v2.1).bind fun v3 =>
  bif (decide ((List.length v3.1 : Int) < 2)) then
    (F_law05_known ).bind fun v5 =>
    bif v5 then
      (F_law05_same a0).bind fun v7 =>
      some (v7)
    else
      some (false)
  else
    (subO v3.1 0 (IntKind.wrap .i64 ((List.length v3.1 : Int) - 2))).bind fun l8 =>
    (appO 1 (List.take (List.length ([] : List Int)) ([] : List Int)) (Cut.app .whole l8)).bind fun l9 =>
    (F_made_Mod a2 (List.length l9 : Int)).bind fun v10 =>
    (idx (Cut.app .whole l9) v10).bind fun _e11 =>
    (l9[(0 + Int.toNat v10)]?).bind fun e12 =>
    (idx (Cut.app .whole l9) v10).bind fun _e13 =>
    (l9[(0 + Int.toNat v10)]?).bind fun _e14 =>
    (F_made_Mod a4 (IntKind.wrap .i64 ((List.length (List.set l9 (0 + Int.toNat v10) (ixor .u8 e12 a3)) : Int) + 1))).bind fun v15 =>
    bif decide ((0 : Int) ≤ 0 ∧ 0 ≤ v15 ∧ v15 ≤ (List.length (List.set l9 (0 + Int.toNat v10) (ixor .u8 e12 a3)) : Int)) then
      (F_law05_known ).bind fun v17 =>
      bif v17 then
        (F_law05_same a0).bind fun v19 =>
        bif v19 then
          (F_law05_same v3.1).bind fun v21 =>
          bif v21 then
            (subO v3.1 (IntKind.wrap .i64 ((List.length v3.1 : Int) - 2)) (List.length v3.1 : Int)).bind fun l23 =>
            (appO 1 (List.set l9 (0 + Int.toNat v10) (ixor .u8 e12 a3)) (Cut.app .whole l23)).bind fun l24 =>
            (F_law05_same l24).bind fun v25 =>
            bif v25 then
              (F_ref02_Append (List.set l9 (0 + Int.toNat v10) (ixor .u8 e12 a3))).bind fun v27 =>
              (F_law05_same v27).bind fun v28 =>
              bif v28 then
                (F_ref02_Append (List.take (Int.toNat v15) (List.set l9 (0 + Int.toNat v10) (ixor .u8 e12 a3)))).bind fun v30 =>
                (F_law05_same v30).bind fun v31 =>
                bif v31 then
                  (F_ref02_Append a0).bind fun v33 =>
                  (F_law05_same v33).bind fun v34 =>
                  some (v34)
                else
                  some (false)
              else
                some (false)
            else
              some (false)
          else
            some (false)
        else
          some (false)
      else
        some (false)
    else none
set_option maxRecDepth 100000 in
set_option maxHeartbeats 40000000 in
theorem ok_law05_FrameReads (a0 : List Int) (a1 : List Int) (a2 : Int) (a3 : Int) (a4 : Int) (r : Bool) (h : F_law05_FrameReads a0 a1 a2 a3 a4 = some r) : Con Try.prog 3 [.c (eS 1 (ecI .u8) (a0)), .c (eS 1 (ecI .i64) (a1)), .c (.lit (.int .i64 (a2))), .c (.lit (.int .u8 (a3))), .c (.lit (.int .i64 (a4)))] [] (.c (.lit (.bool (r)))) [] := by
  unfold F_law05_FrameReads at h
  refine con_of [] [] 90 Try.func3 rfl rfl (by kernel_rfl) (fun K => ?_)
  refine TS_go 7 ?_
  replace h := bindO h
  obtain ⟨v1, hv1, h⟩ := h
  refine TS_con [] [(17, 10)] none (ok_made_New a1 v1 hv1) (by kernel_rfl) (by kernel_rfl) (by kernel_rfl) ?_
  replace h := bindO h
  obtain ⟨v2, hv2, h⟩ := h
  refine TS_con [] [] (some (17, 0)) (ok_made_Tape_AnyFrame v1 v2 hv2) (by kernel_rfl) (by kernel_rfl) (by kernel_rfl) ?_
  refine TS_go 6 ?_
  replace h := bindO h
  obtain ⟨v3, hv3, h⟩ := h
  refine TS_con [] [(21, 900000)] none (okT_ref05_Encode v2.1 v3 hv3) (by kernel_rfl) (by kernel_rfl) (by kernel_rfl) ?_
  refine TS_go 13 ?_
  replace h := condO h
  rcases h with ⟨hb4, h⟩ | ⟨hb4, h⟩
  · refine TS_know 26 (b := true) hb4 (by kernel_rfl) (by kernel_rfl) ?_
    refine TS_T (by kernel_rfl) rfl ?_
    refine TS_go 2 ?_
    replace h := bindO h
    obtain ⟨v5, hv5, h⟩ := h
    refine TS_call [] (ok_law05_known  v5 hv5) (by kernel_rfl) (by kernel_rfl) ?_
    refine TS_go 1 ?_
    replace h := condO h
    rcases h with ⟨hb6, h⟩ | ⟨hb6, h⟩
    · subst hb6
      refine TS_go 1 ?_
      replace h := bindO h
      obtain ⟨v7, hv7, h⟩ := h
      refine TS_call [] (ok_law05_same a0 v7 hv7) (by kernel_rfl) (by kernel_rfl) ?_
      refine TS_go 5 ?_
      have ret := Option.some.inj h
      subst ret
      exact TS_ret (by kernel_rfl) (by kernel_rfl) (by kernel_rfl)
    · subst hb6
      refine TS_go 7 ?_
      have ret := Option.some.inj h
      subst ret
      exact TS_ret (by kernel_rfl) (by kernel_rfl) (by kernel_rfl)
  · refine TS_know 26 (b := false) hb4 (by kernel_rfl) (by kernel_rfl) ?_
    refine TS_F (by kernel_rfl) rfl ?_
    refine TS_go 3 ?_
    refine TS_litNR 32 5 1 (ecI .u8) [] ([] : List Int) (by kernel_rfl) (by kernel_rfl) ?_
    refine TS_go 4 ?_
    replace h := bindO h
    obtain ⟨l8, hl8, h⟩ := h
    refine TS_sub (ecI .u8) 1 hl8 (by kernel_rfl) (by kernel_rfl) ?_
    replace h := bindO h
    obtain ⟨l9, hl9, h⟩ := h
    refine TS_appR (d := 32) (e := 5) (sz := 1) (N := List.length ([] : List Int)) (m := (List.length ([] : List Int))) (ecI .u8) (fun _ => by kernel_rfl) (l1 := ([] : List Int)) (l2 := l8) (c := .whole) hl9 (by kernel_rfl) (by kernel_rfl) ?_
    refine TS_go 8 ?_
    replace h := bindO h
    obtain ⟨v10, hv10, h⟩ := h
    refine TS_call [] (ok_made_Mod a2 (List.length l9 : Int) v10 hv10) (by kernel_rfl) (by kernel_rfl) ?_
    replace h := bindO h
    obtain ⟨_e11, he11, h⟩ := h
    refine TS_idxR 32 1 0 (ecI .u8) .whole he11 (by kernel_rfl) (by kernel_rfl) ?_
    replace h := bindO h
    obtain ⟨e12, he12, h⟩ := h
    refine TS_ldE 5 (0 + Int.toNat v10) 0 (ecI .u8) (v := .c (.lit (.int .u8 (e12)))) he12 (by kernel_rfl) (by kernel_rfl) (by kernel_rfl) ?_
    refine TS_go 2 ?_
    replace h := bindO h
    obtain ⟨_e13, he13, h⟩ := h
    refine TS_idxR 32 1 0 (ecI .u8) .whole he13 (by kernel_rfl) (by kernel_rfl) ?_
    replace h := bindO h
    obtain ⟨_e14, he14, h⟩ := h
    refine TS_stE 32 5 1 (List.length l9) (0 + Int.toNat v10) 0 (ecI .u8) (ds := [.lit (.int .u8 (ixor .u8 e12 a3))]) (ixor .u8 e12 a3) he14 (by kernel_rfl) (by kernel_rfl) (by kernel_rfl) (by kernel_rfl) ?_
    refine TS_go 8 ?_
    replace h := bindO h
    obtain ⟨v15, hv15, h⟩ := h
    refine TS_call [] (ok_made_Mod a4 (IntKind.wrap .i64 ((List.length (List.set l9 (0 + Int.toNat v10) (ixor .u8 e12 a3)) : Int) + 1)) v15 hv15) (by kernel_rfl) (by kernel_rfl) ?_
    replace h := chkO h
    obtain ⟨hc16, h⟩ := h
    refine TS_slRow 32 1 (List.length (List.set l9 (0 + Int.toNat v10) (ixor .u8 e12 a3))) (a := 0) (b := v15) hc16 rfl (by kernel_rfl) (by kernel_rfl) ?_
    refine TS_go 4 ?_
    replace h := bindO h
    obtain ⟨v17, hv17, h⟩ := h
    refine TS_call [] (ok_law05_known  v17 hv17) (by kernel_rfl) (by kernel_rfl) ?_
    refine TS_go 1 ?_
    replace h := condO h
    rcases h with ⟨hb18, h⟩ | ⟨hb18, h⟩
    · subst hb18
      refine TS_go 1 ?_
      replace h := bindO h
      obtain ⟨v19, hv19, h⟩ := h
      refine TS_call [] (ok_law05_same a0 v19 hv19) (by kernel_rfl) (by kernel_rfl) ?_
      refine TS_go 2 ?_
      replace h := condO h
      rcases h with ⟨hb20, h⟩ | ⟨hb20, h⟩
      · subst hb20
        refine TS_go 1 ?_
        replace h := bindO h
        obtain ⟨v21, hv21, h⟩ := h
        refine TS_call [[2]] (ok_law05_same v3.1 v21 hv21) (by kernel_rfl) (by kernel_rfl) ?_
        refine TS_go 2 ?_
        replace h := condO h
        rcases h with ⟨hb22, h⟩ | ⟨hb22, h⟩
        · subst hb22
          refine TS_go 5 ?_
          replace h := bindO h
          obtain ⟨l23, hl23, h⟩ := h
          refine TS_sub (ecI .u8) 1 hl23 (by kernel_rfl) (by kernel_rfl) ?_
          refine TS_settle 32 (by kernel_rfl) ?_
          refine TS_recast 55 (sz := 1) (N := (Int.toNat v15)) (xs := List.take (Int.toNat v15) (List.map (ecI .u8) (List.set l9 (0 + Int.toNat v10) (ixor .u8 e12 a3)))) (List.length (List.take (Int.toNat v15) (List.set l9 (0 + Int.toNat v10) (ixor .u8 e12 a3)))) (List.map (ecI .u8) (List.take (Int.toNat v15) (List.set l9 (0 + Int.toNat v10) (ixor .u8 e12 a3)))) List.map_take.symm (List.length_map _) (by kernel_rfl) (by kernel_rfl) ?_
          refine TS_recast 15 (sz := 1) (N := (Int.toNat v15)) (xs := List.take (Int.toNat v15) (List.map (ecI .u8) (List.set l9 (0 + Int.toNat v10) (ixor .u8 e12 a3)))) (List.length (List.take (Int.toNat v15) (List.set l9 (0 + Int.toNat v10) (ixor .u8 e12 a3)))) (List.map (ecI .u8) (List.take (Int.toNat v15) (List.set l9 (0 + Int.toNat v10) (ixor .u8 e12 a3)))) List.map_take.symm (List.length_map _) (by kernel_rfl) (by kernel_rfl) ?_
          replace h := bindO h
          obtain ⟨l24, hl24, h⟩ := h
          refine TS_appT (d := 32) (e := 5) (sz := 1) (N := List.length (List.set l9 (0 + Int.toNat v10) (ixor .u8 e12 a3))) (ecI .u8) (fun _ => by kernel_rfl) (l1 := (List.set l9 (0 + Int.toNat v10) (ixor .u8 e12 a3))) (l2 := l23) (c := .whole) hl24 (by kernel_rfl) (by kernel_rfl) ?_
          replace h := bindO h
          obtain ⟨v25, hv25, h⟩ := h
          refine TS_call [[2]] (ok_law05_same l24 v25 hv25) (by kernel_rfl) (by kernel_rfl) ?_
          refine TS_go 2 ?_
          replace h := condO h
          rcases h with ⟨hb26, h⟩ | ⟨hb26, h⟩
          · subst hb26
            refine TS_go 1 ?_
            replace h := bindO h
            obtain ⟨v27, hv27, h⟩ := h
            refine TS_con [[2]] [(77, 900000)] none (okT_ref02_Append (List.set l9 (0 + Int.toNat v10) (ixor .u8 e12 a3)) v27 hv27) (by kernel_rfl) (by kernel_rfl) (by kernel_rfl) ?_
            replace h := bindO h
            obtain ⟨v28, hv28, h⟩ := h
            refine TS_call [[2]] (ok_law05_same v27 v28 hv28) (by kernel_rfl) (by kernel_rfl) ?_
            refine TS_go 2 ?_
            replace h := condO h
            rcases h with ⟨hb29, h⟩ | ⟨hb29, h⟩
            · subst hb29
              refine TS_go 1 ?_
              replace h := bindO h
              obtain ⟨v30, hv30, h⟩ := h
              refine TS_con [] [(82, 900000)] none (okT_ref02_Append (List.take (Int.toNat v15) (List.set l9 (0 + Int.toNat v10) (ixor .u8 e12 a3))) v30 hv30) (by kernel_rfl) (by kernel_rfl) (by kernel_rfl) ?_
              replace h := bindO h
              obtain ⟨v31, hv31, h⟩ := h
              refine TS_call [[2]] (ok_law05_same v30 v31 hv31) (by kernel_rfl) (by kernel_rfl) ?_
              refine TS_go 2 ?_
              replace h := condO h
              rcases h with ⟨hb32, h⟩ | ⟨hb32, h⟩
              · subst hb32
                refine TS_go 1 ?_
                replace h := bindO h
                obtain ⟨v33, hv33, h⟩ := h
                refine TS_con [] [(87, 900000)] none (okT_ref02_Append a0 v33 hv33) (by kernel_rfl) (by kernel_rfl) (by kernel_rfl) ?_
                replace h := bindO h
                obtain ⟨v34, hv34, h⟩ := h
                refine TS_call [[2]] (ok_law05_same v33 v34 hv34) (by kernel_rfl) (by kernel_rfl) ?_
                refine TS_go 4 ?_
                have ret := Option.some.inj h
                subst ret
                exact TS_ret (by kernel_rfl) (by kernel_rfl) (by kernel_rfl)
              · subst hb32
                refine TS_go 7 ?_
                have ret := Option.some.inj h
                subst ret
                exact TS_ret (by kernel_rfl) (by kernel_rfl) (by kernel_rfl)
            · subst hb29
              refine TS_go 12 ?_
              have ret := Option.some.inj h
              subst ret
              exact TS_ret (by kernel_rfl) (by kernel_rfl) (by kernel_rfl)
          · subst hb26
            refine TS_go 17 ?_
            have ret := Option.some.inj h
            subst ret
            exact TS_ret (by kernel_rfl) (by kernel_rfl) (by kernel_rfl)
        · subst hb22
          refine TS_go 27 ?_
          have ret := Option.some.inj h
          subst ret
          exact TS_ret (by kernel_rfl) (by kernel_rfl) (by kernel_rfl)
      · subst hb20
        refine TS_go 31 ?_
        have ret := Option.some.inj h
        subst ret
        exact TS_ret (by kernel_rfl) (by kernel_rfl) (by kernel_rfl)
    · subst hb18
      refine TS_go 35 ?_
      have ret := Option.some.inj h
      subst ret
      exact TS_ret (by kernel_rfl) (by kernel_rfl) (by kernel_rfl)

/-- multihop/checksum.Append -/
noncomputable def F_checksum_Append_R (a0 : List Int) : Option ((List Int)) :=
  (F_checksum_CRC a0).bind fun v1 =>
  (mkO 1 0 (IntKind.wrap .i64 ((List.length a0 : Int) + 2))).bind fun n2 =>
  (appO 1 (List.take (List.length (List.replicate n2 (0 : Int))) (List.replicate n2 (0 : Int))) (Cut.app .whole a0)).bind fun l3 =>
  (appO 1 (List.take (List.length l3) l3) (Cut.app .whole ([IntKind.wrap .u8 v1, IntKind.wrap .u8 (ishr .u16 v1 8)] : List Int))).bind fun l4 =>
  some (l4)
set_option maxRecDepth 100000 in
set_option maxHeartbeats 40000000 in
theorem okT_checksum_Append_R (a0 : List Int) (r : (List Int)) (h : F_checksum_Append_R a0 = some r) : Con Try.prog 39 [.c (eS 1 (ecI .u8) (a0))] [] (.c (.own 900000)) [(900000, .row 5 1 (List.length r) (List.map (ecI .u8) r))] := by
  unfold F_checksum_Append_R at h
  refine con_of [] [(900000, [])] 22 Try.func39 rfl rfl (by kernel_rfl) (fun K => ?_)
  refine TS_go 7 ?_
  replace h := bindO h
  obtain ⟨v1, hv1, h⟩ := h
  refine TS_call [] (ok_checksum_CRC a0 v1 hv1) (by kernel_rfl) (by kernel_rfl) ?_
  refine TS_go 7 ?_
  replace h := bindO h
  obtain ⟨n2, hn2, h⟩ := h
  refine TS_makeR 10 5 1 (ecI .u8) (0 : Int) [] (cs := [.lit (.int .u8 (0))]) (l := 0) (c := IntKind.wrap .i64 ((List.length a0 : Int) + 2)) hn2 (by kernel_rfl) (by kernel_rfl) (by kernel_rfl) ?_
  refine TS_go 6 ?_
  replace h := bindO h
  obtain ⟨l3, hl3, h⟩ := h
  refine TS_appR (d := 10) (e := 5) (sz := 1) (N := List.length (List.replicate n2 (0 : Int))) (m := (List.length (List.replicate n2 (0 : Int)))) (ecI .u8) (fun _ => by kernel_rfl) (l1 := (List.replicate n2 (0 : Int))) (l2 := a0) (c := .whole) hl3 (by kernel_rfl) (by kernel_rfl) ?_
  refine TS_go 10 ?_
  refine TS_litNT 20 5 1 (ecI .u8) [] ([IntKind.wrap .u8 v1, IntKind.wrap .u8 (ishr .u16 v1 8)] : List Int) (by kernel_rfl) (by kernel_rfl) ?_
  replace h := bindO h
  obtain ⟨_l4, hl4, h⟩ := h
  refine TS_appR (d := 10) (e := 5) (sz := 1) (N := List.length l3) (m := (List.length l3)) (ecI .u8) (fun _ => by kernel_rfl) (l1 := l3) (l2 := ([IntKind.wrap .u8 v1, IntKind.wrap .u8 (ishr .u16 v1 8)] : List Int)) (c := .whole) hl4 (by kernel_rfl) (by kernel_rfl) ?_
  refine TS_go 2 ?_
  refine TS_fitU ⟨[(2, [])], [(10, (900000, []))]⟩ (by kernel_rfl) ?_
  refine TS_go 1 ?_
  have ret := Option.some.inj h
  subst ret
  exact TS_ret (by kernel_rfl) (by kernel_rfl) (by kernel_rfl)

/-- multihop/frame.Encode -/
noncomputable def F_frame_Encode_R (a0 : S_Frame) : Option ((List Int) × Int) :=
  (F_frame_Valid a0).bind fun v1 =>
  bif v1 then
    (F_frame_Header a0).bind fun v3 =>
    (appO 1 v3 (Cut.app .whole a0.MIC)).bind fun l4 =>
    (F_checksum_Append_R l4).bind fun v5 =>
    some ((v5, 0))
  else
    some ((([] : List Int), 1))
set_option maxRecDepth 100000 in
set_option maxHeartbeats 40000000 in
theorem okT_frame_Encode_R (a0 : S_Frame) (r : (List Int) × Int) (h : F_frame_Encode_R a0 = some r) : Con Try.prog 18 [.agg (S_Frame.cs a0)] [] (.tup [(false, [.own 900000]), (false, [.lit (.int .i64 (r.2))])]) [(900000, .row 5 1 (List.length r.1) (List.map (ecI .u8) r.1))] := by
  unfold F_frame_Encode_R at h
  refine con_of [] [(900000, [])] 13 Try.func18 rfl rfl (by kernel_rfl) (fun K => ?_)
  refine TS_go 10 ?_
  replace h := bindO h
  obtain ⟨v1, hv1, h⟩ := h
  refine TS_call [] (ok_frame_Valid a0 v1 hv1) (by kernel_rfl) (by kernel_rfl) ?_
  refine TS_go 2 ?_
  replace h := condO h
  rcases h with ⟨hb2, h⟩ | ⟨hb2, h⟩
  · subst hb2
    refine TS_F (by kernel_rfl) rfl ?_
    refine TS_go 2 ?_
    refine TS_draw (by kernel_rfl) ?_
    refine TD_go 1 ?_
    replace h := bindO h
    obtain ⟨v3, hv3, h⟩ := h
    refine TD_conX (d := 8) (e := 900000) [] (okT_frame_Header a0 v3 hv3) (by kernel_rfl) (by kernel_rfl) ?_
    refine TD_go 2 ?_
    replace h := bindO h
    obtain ⟨l4, hl4, h⟩ := h
    refine TD_appT (d := 8) (e := 5) (sz := 1) (N := List.length v3) (ecI .u8) (fun _ => by kernel_rfl) (l1 := v3) (l2 := a0.MIC) (c := .whole) hl4 (by kernel_rfl) (by kernel_rfl) ?_
    replace h := bindO h
    obtain ⟨v5, hv5, h⟩ := h
    refine TD_conX (d := 12) (e := 900000) [[2]] (okT_checksum_Append_R l4 v5 hv5) (by kernel_rfl) (by kernel_rfl) ?_
    refine TD_go 2 ?_
    refine TD_end (by kernel_rfl) ?_
    refine TS_fitU ⟨[(2, []), (3, [])], [(12, (900000, []))]⟩ (by kernel_rfl) ?_
    refine TS_go 1 ?_
    have ret := Option.some.inj h
    subst ret
    exact TS_ret (by kernel_rfl) (by kernel_rfl) (by kernel_rfl)
  · subst hb2
    refine TS_T (by kernel_rfl) rfl ?_
    refine TS_go 5 ?_
    refine TS_nilR 2 600000 5 1 (by kernel_rfl) ?_
    refine TS_fitU ⟨[(2, []), (3, [])], [(600000, (900000, []))]⟩ (by kernel_rfl) ?_
    refine TS_go 2 ?_
    have ret := Option.some.inj h
    subst ret
    exact TS_ret (by kernel_rfl) (by kernel_rfl) (by kernel_rfl)

/-- multihop/multihoplaw05.FrameCanonical -/
noncomputable def F_law05_FrameCanonical_j3 (s17 : Int × Int) (v21 : Int) : Option ((Int × Int) ⊕ (Int)) :=
  some (Sum.inl (v21, IntKind.wrap .i64 (s17.2 + 1)))
noncomputable def F_law05_FrameCanonical_l2  (s17 : Int × Int) : Option ((Int × Int) ⊕ (Int)) :=
  bif (decide (s17.2 < 8)) then
    bif ((iand .u16 s17.1 1) == 1) then
      (F_law05_FrameCanonical_j3 s17) (ixor .u16 (ishr .u16 s17.1 1) 33800)
    else
      (F_law05_FrameCanonical_j3 s17) (ishr .u16 s17.1 1)
  else
    some (Sum.inr s17.1)
noncomputable def F_law05_FrameCanonical_l1 (v3 : (List Int) × Int) (v5 : Int) (e7 : Int) (a3 : Int) (s11 : Int × Int) : Option ((Int × Int) ⊕ (Int)) :=
  bif (decide (s11.2 < ((Int.toNat (IntKind.wrap .i64 ((List.length (List.set v3.1 (0 + Int.toNat v5) (ixor .u8 e7 a3)) : Int) - 2))) : Int))) then
    (idx (Cut.app (.part 0 (Int.toNat (IntKind.wrap .i64 ((List.length (List.set v3.1 (0 + Int.toNat v5) (ixor .u8 e7 a3)) : Int) - 2)))) (List.set v3.1 (0 + Int.toNat v5) (ixor .u8 e7 a3))) s11.2).bind fun _e15 =>
    ((List.set v3.1 (0 + Int.toNat v5) (ixor .u8 e7 a3))[(0 + Int.toNat s11.2)]?).bind fun e16 =>
    (loopO (F_law05_FrameCanonical_l2) (ixor .u16 s11.1 (IntKind.wrap .u16 e16), 0)).bind fun b18 =>
    some (Sum.inl (b18, IntKind.wrap .i64 (s11.2 + 1)))
  else
    some (Sum.inr s11.1)
noncomputable def F_law05_FrameCanonical_j5 (s28 : Int) (v32 : Unit) : Option ((Int) ⊕ ((Unit) ⊕ (Bool))) :=
  some (Sum.inl (IntKind.wrap .i64 (s28 + 1)))
noncomputable def F_law05_FrameCanonical_l4 (a0 : List Int) (l26 : List Int) (v27 : (List Int)) (s28 : Int) : Option ((Int) ⊕ ((Unit) ⊕ (Bool))) :=
  bif (decide (s28 < (List.length ([a0, l26, v27] : List (List Int)) : Int))) then
    (idx ([a0, l26, v27] : List (List Int)) s28).bind fun e33 =>
    (F_frame_Decode e33).bind fun v34 =>
    bif (v34.2 != 0) then
      (F_law05_FrameCanonical_j5 s28) ()
    else
      (F_frame_Encode v34.1).bind fun v36 =>
      bif (v36.2 != 0) then
        some (Sum.inr (Sum.inr false))
      else
        (idx ([a0, l26, v27] : List (List Int)) s28).bind fun e38 =>
        (F_ref01_Same v36.1 e38).bind fun v39 =>
        bif v39 then
          (F_law05_FrameCanonical_j5 s28) ()
        else
          some (Sum.inr (Sum.inr false))
  else
    some (Sum.inr (Sum.inl ()))
noncomputable def F_law05_FrameCanonical (a0 : List Int) (a1 : List Int) (a2 : Int) (a3 : Int) : Option (Bool) :=
  (F_made_New a1).bind fun v1 =>
  (F_made_Tape_AnyFrame v1).bind fun v2 =>
  (F_frame_Encode_R v2.1).bind fun v3 =>
  bif (decide ((List.length v3.1 : Int) < 5)) then
    some (false)
  else
    (F_made_Mod a2 (IntKind.wrap .i64 ((List.length v3.1 : Int) - 2))).bind fun v5 =>
    (idx (Cut.app .whole v3.1) v5).bind fun _e6 =>
    (v3.1[(0 + Int.toNat v5)]?).bind fun e7 =>
    (idx (Cut.app .whole v3.1) v5).bind fun _e8 =>
    (v3.1[(0 + Int.toNat v5)]?).bind fun _e9 =>
    bif decide ((0 : Int) ≤ 0 ∧ 0 ≤ (IntKind.wrap .i64 ((List.length (List.set v3.1 (0 + Int.toNat v5) (ixor .u8 e7 a3)) : Int) - 2)) ∧ (IntKind.wrap .i64 ((List.length (List.set v3.1 (0 + Int.toNat v5) (ixor .u8 e7 a3)) : Int) - 2)) ≤ (List.length (List.set v3.1 (0 + Int.toNat v5) (ixor .u8 e7 a3)) : Int)) then
      (loopO (F_law05_FrameCanonical_l1 v3 v5 e7 a3) (0, 0)).bind fun b12 =>
      (appO 1 ([] : List Int) (Cut.app (.part 0 (Int.toNat (IntKind.wrap .i64 ((List.length (List.set v3.1 (0 + Int.toNat v5) (ixor .u8 e7 a3)) : Int) - 2)))) (List.set v3.1 (0 + Int.toNat v5) (ixor .u8 e7 a3)))).bind fun l25 =>
      (appO 1 l25 (Cut.app .whole ([IntKind.wrap .u8 b12, IntKind.wrap .u8 (ishr .u16 b12 8)] : List Int))).bind fun l26 =>
      (F_ref02_Append a0).bind fun v27 =>
      (loopO (F_law05_FrameCanonical_l4 a0 l26 v27) 0).bind (Sum.elim (fun b29 =>
        (F_law05_known ).bind fun v42 =>
        some (v42)
      ) (fun w41 => some w41))
    else none
set_option maxRecDepth 100000 in
set_option maxHeartbeats 40000000 in
theorem ok_law05_FrameCanonical (a0 : List Int) (a1 : List Int) (a2 : Int) (a3 : Int) (r : Bool) (h : F_law05_FrameCanonical a0 a1 a2 a3 = some r) : Con Try.prog 4 [.c (eS 1 (ecI .u8) (a0)), .c (eS 1 (ecI .i64) (a1)), .c (.lit (.int .i64 (a2))), .c (.lit (.int .u8 (a3)))] [] (.c (.lit (.bool (r)))) [] := by
  unfold F_law05_FrameCanonical at h
  refine con_of [] [] 81 Try.func4 rfl rfl (by kernel_rfl) (fun K => ?_)
  refine TS_go 7 ?_
  replace h := bindO h
  obtain ⟨v1, hv1, h⟩ := h
  refine TS_con [] [(19, 10)] none (ok_made_New a1 v1 hv1) (by kernel_rfl) (by kernel_rfl) (by kernel_rfl) ?_
  replace h := bindO h
  obtain ⟨v2, hv2, h⟩ := h
  refine TS_con [] [] (some (19, 0)) (ok_made_Tape_AnyFrame v1 v2 hv2) (by kernel_rfl) (by kernel_rfl) (by kernel_rfl) ?_
  replace h := bindO h
  obtain ⟨v3, hv3, h⟩ := h
  refine TS_con [] [(21, 900000)] none (okT_frame_Encode_R v2.1 v3 hv3) (by kernel_rfl) (by kernel_rfl) (by kernel_rfl) ?_
  refine TS_go 13 ?_
  replace h := condO h
  rcases h with ⟨hb4, h⟩ | ⟨hb4, h⟩
  · refine TS_know 26 (b := true) hb4 (by kernel_rfl) (by kernel_rfl) ?_
    refine TS_T (by kernel_rfl) rfl ?_
    refine TS_go 6 ?_
    have ret := Option.some.inj h
    subst ret
    exact TS_ret (by kernel_rfl) (by kernel_rfl) (by kernel_rfl)
  · refine TS_know 26 (b := false) hb4 (by kernel_rfl) (by kernel_rfl) ?_
    refine TS_F (by kernel_rfl) rfl ?_
    refine TS_go 8 ?_
    replace h := bindO h
    obtain ⟨v5, hv5, h⟩ := h
    refine TS_call [] (ok_made_Mod a2 (IntKind.wrap .i64 ((List.length v3.1 : Int) - 2)) v5 hv5) (by kernel_rfl) (by kernel_rfl) ?_
    replace h := bindO h
    obtain ⟨_e6, he6, h⟩ := h
    refine TS_idxR 21 1 0 (ecI .u8) .whole he6 (by kernel_rfl) (by kernel_rfl) ?_
    replace h := bindO h
    obtain ⟨e7, he7, h⟩ := h
    refine TS_ldE 5 (0 + Int.toNat v5) 0 (ecI .u8) (v := .c (.lit (.int .u8 (e7)))) he7 (by kernel_rfl) (by kernel_rfl) (by kernel_rfl) ?_
    refine TS_go 2 ?_
    replace h := bindO h
    obtain ⟨_e8, he8, h⟩ := h
    refine TS_idxR 21 1 0 (ecI .u8) .whole he8 (by kernel_rfl) (by kernel_rfl) ?_
    replace h := bindO h
    obtain ⟨_e9, he9, h⟩ := h
    refine TS_stE 21 5 1 (List.length v3.1) (0 + Int.toNat v5) 0 (ecI .u8) (ds := [.lit (.int .u8 (ixor .u8 e7 a3))]) (ixor .u8 e7 a3) he9 (by kernel_rfl) (by kernel_rfl) (by kernel_rfl) (by kernel_rfl) ?_
    refine TS_go 8 ?_
    replace h := chkO h
    obtain ⟨hc10, h⟩ := h
    refine TS_slRow 21 1 (List.length (List.set v3.1 (0 + Int.toNat v5) (ixor .u8 e7 a3))) (a := 0) (b := IntKind.wrap .i64 ((List.length (List.set v3.1 (0 + Int.toNat v5) (ixor .u8 e7 a3)) : Int) - 2)) hc10 rfl (by kernel_rfl) (by kernel_rfl) ?_
    refine TS_cut ⟨[(0, []), (38, []), (43, [])], [(21, (21, []))]⟩ (.mk [opsFr (codeAt [1, 1, 1, 1, 0] (bodyOf Try.f4)) 6, .code (codeAt [1, 1, 1, 1, 1] (bodyOf Try.f4))] .normal ⟨[(0, .c (.slc 1 0 (List.length a0) (List.map (ecI .u8) a0))), (38, .c (.slc 1 0 (List.length a0) (List.map (ecI .u8) a0))), (43, .c (.row 21 (Int.toNat (IntKind.wrap .i64 ((List.length (List.set v3.1 (0 + Int.toNat v5) (ixor .u8 e7 a3)) : Int) - 2)))))], [(21, .row 5 1 (List.length (List.set v3.1 (0 + Int.toNat v5) (ixor .u8 e7 a3))) (List.map (ecI .u8) (List.set v3.1 (0 + Int.toNat v5) (ixor .u8 e7 a3))))]⟩) (by kernel_rfl) (by kernel_rfl) ?_
    refine TS_bump 2000 (by kernel_rfl) ?_
    refine TS_inl 16 Try.func17 rfl rfl (by kernel_rfl) (fun K45 => ?_)
    refine TS_go 7 ?_
    refine TS_cut ⟨[(0, []), (2000000, []), (2000038, []), (4, [])], [(2021, (2021, []))]⟩ (.mk [opsFr (codeAt [1, 0] (bodyOf Try.f17)) 1, .code (codeAt [1, 1] (bodyOf Try.f17))] .normal ⟨[(0, .c (.row 2021 (Int.toNat (IntKind.wrap .i64 ((List.length (List.set v3.1 (0 + Int.toNat v5) (ixor .u8 e7 a3)) : Int) - 2))))), (2000000, .c (.slc 1 0 (List.length a0) (List.map (ecI .u8) a0))), (2000038, .c (.slc 1 0 (List.length a0) (List.map (ecI .u8) a0))), (4, .c (.row 2021 (Int.toNat (IntKind.wrap .i64 ((List.length (List.set v3.1 (0 + Int.toNat v5) (ixor .u8 e7 a3)) : Int) - 2)))))], [(2021, .row 5 1 (List.length (List.set v3.1 (0 + Int.toNat v5) (ixor .u8 e7 a3))) (List.map (ecI .u8) (List.set v3.1 (0 + Int.toNat v5) (ixor .u8 e7 a3))))]⟩) (by kernel_rfl) (by kernel_rfl) ?_
    refine TS_bump 2000 (by kernel_rfl) ?_
    refine TS_inl 5 Try.func38 rfl rfl (by kernel_rfl) (fun K44 => ?_)
    refine TS_go 7 ?_
    refine TS_cut ⟨[(2000000, []), (4000000, []), (4000038, []), (3, [])], [(4021, (4021, []))]⟩ (.mk [opsFr (codeAt [1, 0] (bodyOf Try.f38)) 1, .code (codeAt [1, 1] (bodyOf Try.f38))] .normal ⟨[(2000000, .c (.row 4021 (Int.toNat (IntKind.wrap .i64 ((List.length (List.set v3.1 (0 + Int.toNat v5) (ixor .u8 e7 a3)) : Int) - 2))))), (4000000, .c (.slc 1 0 (List.length a0) (List.map (ecI .u8) a0))), (4000038, .c (.slc 1 0 (List.length a0) (List.map (ecI .u8) a0))), (3, .c (.row 4021 (Int.toNat (IntKind.wrap .i64 ((List.length (List.set v3.1 (0 + Int.toNat v5) (ixor .u8 e7 a3)) : Int) - 2)))))], [(4021, .row 5 1 (List.length (List.set v3.1 (0 + Int.toNat v5) (ixor .u8 e7 a3))) (List.map (ecI .u8) (List.set v3.1 (0 + Int.toNat v5) (ixor .u8 e7 a3))))]⟩) (by kernel_rfl) (by kernel_rfl) ?_
    refine TS_bump 2000 (by kernel_rfl) ?_
    refine TS_inl 34 Try.func63 rfl rfl (by kernel_rfl) (fun K43 => ?_)
    refine TS_go 10 ?_
    refine TS_cut ⟨[(0, []), (1, []), (4000000, []), (6000000, []), (6000038, []), (5, [])], [(6021, (6021, []))]⟩ (.mk [.code (codeAt [1, 0, 1, 0] (bodyOf Try.f63)), .blk 0, .code (codeAt [1, 1] (bodyOf Try.f63))] .normal ⟨[(0, .c (.lit (.int .u16 (0)))), (1, .c (.row 6021 (Int.toNat (IntKind.wrap .i64 ((List.length (List.set v3.1 (0 + Int.toNat v5) (ixor .u8 e7 a3)) : Int) - 2))))), (4000000, .c (.row 6021 (Int.toNat (IntKind.wrap .i64 ((List.length (List.set v3.1 (0 + Int.toNat v5) (ixor .u8 e7 a3)) : Int) - 2))))), (6000000, .c (.slc 1 0 (List.length a0) (List.map (ecI .u8) a0))), (6000038, .c (.slc 1 0 (List.length a0) (List.map (ecI .u8) a0))), (5, .c (.lit (.int .i64 (0))))], [(6021, .row 5 1 (List.length (List.set v3.1 (0 + Int.toNat v5) (ixor .u8 e7 a3))) (List.map (ecI .u8) (List.set v3.1 (0 + Int.toNat v5) (ixor .u8 e7 a3))))]⟩) (by kernel_rfl) (by kernel_rfl) ?_
    replace h := bindO h
    obtain ⟨y13, hl1, hK1⟩ := h
    refine TS_loopB (F_law05_FrameCanonical_l1 v3 v5 e7 a3) ⟨[(0, []), (1, []), (5, []), (4000000, []), (6000000, []), (6000038, [])], [(6021, (6021, []))]⟩ (fun (s11 : Int × Int) => [(0, .c (.lit (.int .u16 (s11.1)))), (1, .c (.row 6021 (Int.toNat (IntKind.wrap .i64 ((List.length (List.set v3.1 (0 + Int.toNat v5) (ixor .u8 e7 a3)) : Int) - 2))))), (5, .c (.lit (.int .i64 (s11.2)))), (4000000, .c (.row 6021 (Int.toNat (IntKind.wrap .i64 ((List.length (List.set v3.1 (0 + Int.toNat v5) (ixor .u8 e7 a3)) : Int) - 2))))), (6000000, .c (.slc 1 0 (List.length a0) (List.map (ecI .u8) a0))), (6000038, .c (.slc 1 0 (List.length a0) (List.map (ecI .u8) a0)))]) (fun (s11 : Int × Int) => [(6021, .row 5 1 (List.length (List.set v3.1 (0 + Int.toNat v5) (ixor .u8 e7 a3))) (List.map (ecI .u8) (List.set v3.1 (0 + Int.toNat v5) (ixor .u8 e7 a3))))]) (0, 0) y13 (.exit 0) (fun (b : Int) => b) ⟨[(0, []), (4000000, []), (6000000, []), (6000038, [])], [(6021, (6021, []))]⟩ (fun (b12 : Int) => [(0, .c (.lit (.int .u16 (b12)))), (4000000, .c (.row 6021 (Int.toNat (IntKind.wrap .i64 ((List.length (List.set v3.1 (0 + Int.toNat v5) (ixor .u8 e7 a3)) : Int) - 2))))), (6000000, .c (.slc 1 0 (List.length a0) (List.map (ecI .u8) a0))), (6000038, .c (.slc 1 0 (List.length a0) (List.map (ecI .u8) a0)))]) (fun (b12 : Int) => [(6021, .row 5 1 (List.length (List.set v3.1 (0 + Int.toNat v5) (ixor .u8 e7 a3))) (List.map (ecI .u8) (List.set v3.1 (0 + Int.toNat v5) (ixor .u8 e7 a3))))]) hl1 (by kernel_rfl) (by kernel_rfl) ?_ ?_
    · intro s11 x h hy1
      unfold F_law05_FrameCanonical_l1 at h
      refine TS_go 8 ?_
      replace h := condO h
      rcases h with ⟨hb14, h⟩ | ⟨hb14, h⟩
      · refine TS_know 11 (b := true) hb14 (by kernel_rfl) (by kernel_rfl) ?_
        refine TS_T (by kernel_rfl) rfl ?_
        refine TS_go 8 ?_
        replace h := bindO h
        obtain ⟨_e15, he15, h⟩ := h
        refine TS_idxR 6021 1 0 (ecI .u8) (.part 0 (Int.toNat (IntKind.wrap .i64 ((List.length (List.set v3.1 (0 + Int.toNat v5) (ixor .u8 e7 a3)) : Int) - 2)))) he15 (by kernel_rfl) (by kernel_rfl) ?_
        replace h := bindO h
        obtain ⟨e16, he16, h⟩ := h
        refine TS_ldE 5 (0 + Int.toNat s11.2) 0 (ecI .u8) (v := .c (.lit (.int .u8 (e16)))) he16 (by kernel_rfl) (by kernel_rfl) (by kernel_rfl) ?_
        refine TS_go 9 ?_
        refine TS_cut ⟨[(0, []), (1, []), (5, []), (4000000, []), (6000000, []), (6000038, []), (6, [])], [(6021, (6021, []))]⟩ (.mk [.code (codeAt [1, 0, 1, 0, 0, 1, 0, 0, 1, 1, 0] (bodyOf Try.f63)), .blk 2, .blk 1, .code (codeAt [1, 0, 1, 0, 0, 1, 1] (bodyOf Try.f63))] .normal ⟨[(0, .c (.lit (.int .u16 (ixor .u16 s11.1 (IntKind.wrap .u16 e16))))), (1, .c (.row 6021 (Int.toNat (IntKind.wrap .i64 ((List.length (List.set v3.1 (0 + Int.toNat v5) (ixor .u8 e7 a3)) : Int) - 2))))), (5, .c (.lit (.int .i64 (s11.2)))), (4000000, .c (.row 6021 (Int.toNat (IntKind.wrap .i64 ((List.length (List.set v3.1 (0 + Int.toNat v5) (ixor .u8 e7 a3)) : Int) - 2))))), (6000000, .c (.slc 1 0 (List.length a0) (List.map (ecI .u8) a0))), (6000038, .c (.slc 1 0 (List.length a0) (List.map (ecI .u8) a0))), (6, .c (.lit (.int .i64 (0))))], [(6021, .row 5 1 (List.length (List.set v3.1 (0 + Int.toNat v5) (ixor .u8 e7 a3))) (List.map (ecI .u8) (List.set v3.1 (0 + Int.toNat v5) (ixor .u8 e7 a3))))]⟩) (by kernel_rfl) (by kernel_rfl) ?_
        replace h := bindO h
        obtain ⟨y19, hl2, hK2⟩ := h
        refine TS_loopB (F_law05_FrameCanonical_l2) ⟨[(0, []), (1, []), (5, []), (6, []), (4000000, []), (6000000, []), (6000038, [])], [(6021, (6021, []))]⟩ (fun (s17 : Int × Int) => [(0, .c (.lit (.int .u16 (s17.1)))), (1, .c (.row 6021 (Int.toNat (IntKind.wrap .i64 ((List.length (List.set v3.1 (0 + Int.toNat v5) (ixor .u8 e7 a3)) : Int) - 2))))), (5, .c (.lit (.int .i64 (s11.2)))), (6, .c (.lit (.int .i64 (s17.2)))), (4000000, .c (.row 6021 (Int.toNat (IntKind.wrap .i64 ((List.length (List.set v3.1 (0 + Int.toNat v5) (ixor .u8 e7 a3)) : Int) - 2))))), (6000000, .c (.slc 1 0 (List.length a0) (List.map (ecI .u8) a0))), (6000038, .c (.slc 1 0 (List.length a0) (List.map (ecI .u8) a0)))]) (fun (s17 : Int × Int) => [(6021, .row 5 1 (List.length (List.set v3.1 (0 + Int.toNat v5) (ixor .u8 e7 a3))) (List.map (ecI .u8) (List.set v3.1 (0 + Int.toNat v5) (ixor .u8 e7 a3))))]) (ixor .u16 s11.1 (IntKind.wrap .u16 e16), 0) y19 (.exit 2) (fun (b : Int) => b) ⟨[(0, []), (1, []), (5, []), (4000000, []), (6000000, []), (6000038, [])], [(6021, (6021, []))]⟩ (fun (b18 : Int) => [(0, .c (.lit (.int .u16 (b18)))), (1, .c (.row 6021 (Int.toNat (IntKind.wrap .i64 ((List.length (List.set v3.1 (0 + Int.toNat v5) (ixor .u8 e7 a3)) : Int) - 2))))), (5, .c (.lit (.int .i64 (s11.2)))), (4000000, .c (.row 6021 (Int.toNat (IntKind.wrap .i64 ((List.length (List.set v3.1 (0 + Int.toNat v5) (ixor .u8 e7 a3)) : Int) - 2))))), (6000000, .c (.slc 1 0 (List.length a0) (List.map (ecI .u8) a0))), (6000038, .c (.slc 1 0 (List.length a0) (List.map (ecI .u8) a0)))]) (fun (b18 : Int) => [(6021, .row 5 1 (List.length (List.set v3.1 (0 + Int.toNat v5) (ixor .u8 e7 a3))) (List.map (ecI .u8) (List.set v3.1 (0 + Int.toNat v5) (ixor .u8 e7 a3))))]) hl2 (by kernel_rfl) (by kernel_rfl) ?_ ?_
        · intro s17 x h hy2
          unfold F_law05_FrameCanonical_l2 at h
          refine TS_go 6 ?_
          replace h := condO h
          rcases h with ⟨hb20, h⟩ | ⟨hb20, h⟩
          · refine TS_know 22 (b := true) hb20 (by kernel_rfl) (by kernel_rfl) ?_
            refine TS_T (by kernel_rfl) rfl ?_
            refine TS_go 1 ?_
            refine TS_cut ⟨[(0, []), (1, []), (5, []), (6, []), (4000000, []), (6000000, []), (6000038, [])], [(6021, (6021, []))]⟩ (.mk [.code (codeAt [1, 0, 1, 0, 0, 1, 0, 0, 1, 1, 0, 0, 1] (bodyOf Try.f63))] .normal ⟨[(0, .c (.lit (.int .u16 (s17.1)))), (1, .c (.row 6021 (Int.toNat (IntKind.wrap .i64 ((List.length (List.set v3.1 (0 + Int.toNat v5) (ixor .u8 e7 a3)) : Int) - 2))))), (5, .c (.lit (.int .i64 (s11.2)))), (6, .c (.lit (.int .i64 (s17.2)))), (4000000, .c (.row 6021 (Int.toNat (IntKind.wrap .i64 ((List.length (List.set v3.1 (0 + Int.toNat v5) (ixor .u8 e7 a3)) : Int) - 2))))), (6000000, .c (.slc 1 0 (List.length a0) (List.map (ecI .u8) a0))), (6000038, .c (.slc 1 0 (List.length a0) (List.map (ecI .u8) a0)))], [(6021, .row 5 1 (List.length (List.set v3.1 (0 + Int.toNat v5) (ixor .u8 e7 a3))) (List.map (ecI .u8) (List.set v3.1 (0 + Int.toNat v5) (ixor .u8 e7 a3))))]⟩) (by kernel_rfl) (by kernel_rfl) ?_
            refine TS_joinB ⟨[(0, []), (1, []), (5, []), (6, []), (4000000, []), (6000000, []), (6000038, [])], [(6021, (6021, []))]⟩ (fun (v21 : Int) => [(0, .c (.lit (.int .u16 (v21)))), (1, .c (.row 6021 (Int.toNat (IntKind.wrap .i64 ((List.length (List.set v3.1 (0 + Int.toNat v5) (ixor .u8 e7 a3)) : Int) - 2))))), (5, .c (.lit (.int .i64 (s11.2)))), (6, .c (.lit (.int .i64 (s17.2)))), (4000000, .c (.row 6021 (Int.toNat (IntKind.wrap .i64 ((List.length (List.set v3.1 (0 + Int.toNat v5) (ixor .u8 e7 a3)) : Int) - 2))))), (6000000, .c (.slc 1 0 (List.length a0) (List.map (ecI .u8) a0))), (6000038, .c (.slc 1 0 (List.length a0) (List.map (ecI .u8) a0)))]) (fun (v21 : Int) => [(6021, .row 5 1 (List.length (List.set v3.1 (0 + Int.toNat v5) (ixor .u8 e7 a3))) (List.map (ecI .u8) (List.set v3.1 (0 + Int.toNat v5) (ixor .u8 e7 a3))))]) (F_law05_FrameCanonical_j3 s17) x ?_ ?_
            · clear h
              intro v21 h
              unfold F_law05_FrameCanonical_j3 at h
              refine TS_go 5 ?_
              have ret := Option.some.inj h
              subst ret
              exact TS_againB _ ⟨[(0, []), (1, []), (5, []), (6, []), (4000000, []), (6000000, []), (6000038, [])], [(6021, (6021, []))]⟩ rfl (by kernel_rfl) (by kernel_rfl)
            · refine TS_go 18 ?_
              replace h := condO h
              rcases h with ⟨hb22, h⟩ | ⟨hb22, h⟩
              · refine TS_know 30 (b := true) hb22 (by kernel_rfl) (by kernel_rfl) ?_
                refine TS_T (by kernel_rfl) rfl ?_
                refine TS_go 6 ?_
                exact TS_meet (ixor .u16 (ishr .u16 s17.1 1) 33800) ⟨[(0, []), (1, []), (5, []), (6, []), (4000000, []), (6000000, []), (6000038, [])], [(6021, (6021, []))]⟩ h (by kernel_rfl) (by kernel_rfl)
              · refine TS_know 30 (b := false) hb22 (by kernel_rfl) (by kernel_rfl) ?_
                refine TS_F (by kernel_rfl) rfl ?_
                refine TS_go 2 ?_
                exact TS_meet (ishr .u16 s17.1 1) ⟨[(0, []), (1, []), (5, []), (6, []), (4000000, []), (6000000, []), (6000038, [])], [(6021, (6021, []))]⟩ h (by kernel_rfl) (by kernel_rfl)
          · refine TS_know 22 (b := false) hb20 (by kernel_rfl) (by kernel_rfl) ?_
            refine TS_F (by kernel_rfl) rfl ?_
            refine TS_go 2 ?_
            have ret := Option.some.inj h
            subst ret
            exact TS_brkB s17.1 ⟨[(0, []), (1, []), (5, []), (4000000, []), (6000000, []), (6000038, [])], [(6021, (6021, []))]⟩ rfl (by kernel_rfl) (by kernel_rfl) (by kernel_rfl)
        · intro b18 hb
          subst y19
          have h := hK2
          refine TS_go 7 ?_
          have ret := Option.some.inj h
          subst ret
          exact TS_againB _ ⟨[(0, []), (1, []), (5, []), (4000000, []), (6000000, []), (6000038, [])], [(6021, (6021, []))]⟩ rfl (by kernel_rfl) (by kernel_rfl)
      · refine TS_know 11 (b := false) hb14 (by kernel_rfl) (by kernel_rfl) ?_
        refine TS_F (by kernel_rfl) rfl ?_
        refine TS_go 2 ?_
        have ret := Option.some.inj h
        subst ret
        exact TS_brkB s11.1 ⟨[(0, []), (4000000, []), (6000000, []), (6000038, [])], [(6021, (6021, []))]⟩ rfl (by kernel_rfl) (by kernel_rfl) (by kernel_rfl)
    · intro b12 hb
      subst y13
      have h := hK1
      refine TS_go 7 ?_
      refine TS_inlR (by kernel_rfl) (by kernel_rfl) ?_
      refine TS_go 3 ?_
      refine TS_inlR (by kernel_rfl) (by kernel_rfl) ?_
      refine TS_go 4 ?_
      refine TS_litNT 6 5 1 (ecI .u8) [] ([] : List Int) (by kernel_rfl) (by kernel_rfl) ?_
      refine TS_go 1 ?_
      replace h := bindO h
      obtain ⟨l25, hl25, h⟩ := h
      refine TS_appT (d := 6) (e := 5) (sz := 1) (N := List.length ([] : List Int)) (ecI .u8) (fun _ => by kernel_rfl) (l1 := ([] : List Int)) (l2 := (List.set v3.1 (0 + Int.toNat v5) (ixor .u8 e7 a3))) (c := (.part 0 (Int.toNat (IntKind.wrap .i64 ((List.length (List.set v3.1 (0 + Int.toNat v5) (ixor .u8 e7 a3)) : Int) - 2))))) hl25 (by kernel_rfl) (by kernel_rfl) ?_
      refine TS_go 5 ?_
      refine TS_litNT 14 5 1 (ecI .u8) [] ([IntKind.wrap .u8 b12, IntKind.wrap .u8 (ishr .u16 b12 8)] : List Int) (by kernel_rfl) (by kernel_rfl) ?_
      replace h := bindO h
      obtain ⟨l26, hl26, h⟩ := h
      refine TS_appT (d := 6) (e := 5) (sz := 1) (N := List.length l25) (ecI .u8) (fun _ => by kernel_rfl) (l1 := l25) (l2 := ([IntKind.wrap .u8 b12, IntKind.wrap .u8 (ishr .u16 b12 8)] : List Int)) (c := .whole) hl26 (by kernel_rfl) (by kernel_rfl) ?_
      refine TS_go 3 ?_
      refine TS_inlR (by kernel_rfl) (by kernel_rfl) ?_
      refine TS_go 1 ?_
      replace h := bindO h
      obtain ⟨v27, hv27, h⟩ := h
      refine TS_con [] [(46, 900000)] none (okT_ref02_Append a0 v27 hv27) (by kernel_rfl) (by kernel_rfl) (by kernel_rfl) ?_
      refine TS_litNT 47 22 1 (ecS 1 (ecI .u8)) [2] ([a0, l26, v27] : List (List Int)) (by kernel_rfl) (by kernel_rfl) ?_
      refine TS_go 8 ?_
      refine TS_cut ⟨[(11, []), (12, [])], [(47, (47, []))]⟩ (.mk [.code (codeAt [1, 1, 1, 1, 1, 0, 1, 0] (bodyOf Try.f4)), .blk 0, .code (codeAt [1, 1, 1, 1, 1, 1] (bodyOf Try.f4))] .normal ⟨[(11, .c (.slc 1 49 (List.length ([a0, l26, v27] : List (List Int))) (List.map (ecS 1 (ecI .u8)) ([a0, l26, v27] : List (List Int))))), (12, .c (.lit (.int .i64 (0))))], [(47, .spare 22 1 (List.length ([a0, l26, v27] : List (List Int))))]⟩) (by kernel_rfl) (by kernel_rfl) ?_
      replace h := bindO h
      obtain ⟨y30, hl4, hK4⟩ := h
      refine TS_loopB (F_law05_FrameCanonical_l4 a0 l26 v27) ⟨[(11, []), (12, [])], [(47, (47, []))]⟩ (fun (s28 : Int) => [(11, .c (.slc 1 49 (List.length ([a0, l26, v27] : List (List Int))) (List.map (ecS 1 (ecI .u8)) ([a0, l26, v27] : List (List Int))))), (12, .c (.lit (.int .i64 (s28))))]) (fun (s28 : Int) => [(47, .spare 22 1 (List.length ([a0, l26, v27] : List (List Int))))]) 0 y30 (.exit 0) (fun (b : Unit) => (Sum.inl b : (Unit) ⊕ (Bool))) ⟨[], []⟩ (fun (b29 : Unit) => []) (fun (b29 : Unit) => []) hl4 (by kernel_rfl) (by kernel_rfl) ?_ ?_
      · intro s28 x h hy4
        unfold F_law05_FrameCanonical_l4 at h
        refine TS_go 8 ?_
        replace h := condO h
        rcases h with ⟨hb31, h⟩ | ⟨hb31, h⟩
        · refine TS_know 51 (b := true) hb31 (by kernel_rfl) (by kernel_rfl) ?_
          refine TS_T (by kernel_rfl) rfl ?_
          refine TS_go 1 ?_
          refine TS_cut ⟨[(11, []), (12, [])], [(47, (47, []))]⟩ (.mk [.code (codeAt [1, 1, 1, 1, 1, 0, 1, 0, 0, 1] (bodyOf Try.f4))] .normal ⟨[(11, .c (.slc 1 49 (List.length ([a0, l26, v27] : List (List Int))) (List.map (ecS 1 (ecI .u8)) ([a0, l26, v27] : List (List Int))))), (12, .c (.lit (.int .i64 (s28))))], [(47, .spare 22 1 (List.length ([a0, l26, v27] : List (List Int))))]⟩) (by kernel_rfl) (by kernel_rfl) ?_
          refine TS_joinB ⟨[(11, []), (12, [])], [(47, (47, []))]⟩ (fun (v32 : Unit) => [(11, .c (.slc 1 49 (List.length ([a0, l26, v27] : List (List Int))) (List.map (ecS 1 (ecI .u8)) ([a0, l26, v27] : List (List Int))))), (12, .c (.lit (.int .i64 (s28))))]) (fun (v32 : Unit) => [(47, .spare 22 1 (List.length ([a0, l26, v27] : List (List Int))))]) (F_law05_FrameCanonical_j5 s28) x ?_ ?_
          · clear h
            intro v32 h
            unfold F_law05_FrameCanonical_j5 at h
            refine TS_go 5 ?_
            have ret := Option.some.inj h
            subst ret
            exact TS_againB _ ⟨[(11, []), (12, [])], [(47, (47, []))]⟩ rfl (by kernel_rfl) (by kernel_rfl)
          · refine TS_go 5 ?_
            replace h := bindO h
            obtain ⟨e33, he33, h⟩ := h
            refine TS_idx (ecS 1 (ecI .u8)) he33 (by kernel_rfl) (by kernel_rfl) ?_
            refine TS_go 1 ?_
            replace h := bindO h
            obtain ⟨v34, hv34, h⟩ := h
            refine TS_con [] [(59, 900014), (600000, 900015)] none (okT_frame_Decode e33 v34 hv34) (by kernel_rfl) (by kernel_rfl) (by kernel_rfl) ?_
            refine TS_go 13 ?_
            replace h := condO h
            rcases h with ⟨hb35, h⟩ | ⟨hb35, h⟩
            · refine TS_know 63 (b := true) hb35 (by kernel_rfl) (by kernel_rfl) ?_
              refine TS_T (by kernel_rfl) rfl ?_
              refine TS_go 3 ?_
              exact TS_meet () ⟨[(11, []), (12, [])], [(47, (47, []))]⟩ h (by kernel_rfl) (by kernel_rfl)
            · refine TS_know 63 (b := false) hb35 (by kernel_rfl) (by kernel_rfl) ?_
              refine TS_F (by kernel_rfl) rfl ?_
              refine TS_go 4 ?_
              replace h := bindO h
              obtain ⟨v36, hv36, h⟩ := h
              refine TS_con [[0, 0, 0, 0, 0, 0, 0, 0, 0, 0, 0, 0, 0, 0, 2, 2]] [(66, 900000)] none (okT_frame_Encode v34.1 v36 hv36) (by kernel_rfl) (by kernel_rfl) (by kernel_rfl) ?_
              refine TS_go 11 ?_
              replace h := condO h
              rcases h with ⟨hb37, h⟩ | ⟨hb37, h⟩
              · refine TS_know 70 (b := true) hb37 (by kernel_rfl) (by kernel_rfl) ?_
                refine TS_know 71 (b := true) hb37 (by kernel_rfl) (by kernel_rfl) ?_
                refine TS_go 9 ?_
                refine TS_T (by kernel_rfl) rfl ?_
                refine TS_go 6 ?_
                refine TS_outJ (by kernel_rfl) ?_
                have ret := Option.some.inj h
                subst ret
                have hy4q := hy4 _ rfl
                subst hy4q
                replace h := (elimR hK4)
                refine TS_retB rfl (by kernel_rfl) ?_
                refine TS_go 2 ?_
                have ret := Option.some.inj h
                subst ret
                exact TS_ret (by kernel_rfl) (by kernel_rfl) (by kernel_rfl)
              · refine TS_know 70 (b := false) hb37 (by kernel_rfl) (by kernel_rfl) ?_
                refine TS_know 71 (b := false) hb37 (by kernel_rfl) (by kernel_rfl) ?_
                refine TS_go 3 ?_
                replace h := bindO h
                obtain ⟨e38, he38, h⟩ := h
                refine TS_idx (ecS 1 (ecI .u8)) he38 (by kernel_rfl) (by kernel_rfl) ?_
                refine TS_go 1 ?_
                replace h := bindO h
                obtain ⟨v39, hv39, h⟩ := h
                refine TS_call [[2]] (ok_ref01_Same v36.1 e38 v39 hv39) (by kernel_rfl) (by kernel_rfl) ?_
                refine TS_go 3 ?_
                replace h := condO h
                rcases h with ⟨hb40, h⟩ | ⟨hb40, h⟩
                · subst hb40
                  refine TS_F (by kernel_rfl) rfl ?_
                  refine TS_go 2 ?_
                  exact TS_meet () ⟨[(11, []), (12, [])], [(47, (47, []))]⟩ h (by kernel_rfl) (by kernel_rfl)
                · subst hb40
                  refine TS_T (by kernel_rfl) rfl ?_
                  refine TS_go 6 ?_
                  refine TS_outJ (by kernel_rfl) ?_
                  have ret := Option.some.inj h
                  subst ret
                  have hy4q := hy4 _ rfl
                  subst hy4q
                  replace h := (elimR hK4)
                  refine TS_retB rfl (by kernel_rfl) ?_
                  refine TS_go 2 ?_
                  have ret := Option.some.inj h
                  subst ret
                  exact TS_ret (by kernel_rfl) (by kernel_rfl) (by kernel_rfl)
        · refine TS_know 51 (b := false) hb31 (by kernel_rfl) (by kernel_rfl) ?_
          refine TS_F (by kernel_rfl) rfl ?_
          refine TS_go 2 ?_
          have ret := Option.some.inj h
          subst ret
          exact TS_brkB () ⟨[], []⟩ rfl (by kernel_rfl) (by kernel_rfl) (by kernel_rfl)
      · intro b29 hb
        subst y30
        have h := elimL hK4
        refine TS_go 3 ?_
        replace h := bindO h
        obtain ⟨v42, hv42, h⟩ := h
        refine TS_call [] (ok_law05_known  v42 hv42) (by kernel_rfl) (by kernel_rfl) ?_
        refine TS_go 3 ?_
        have ret := Option.some.inj h
        subst ret
        exact TS_ret (by kernel_rfl) (by kernel_rfl) (by kernel_rfl)

/-- multihop/multihoplaw05.FrameNotices -/
noncomputable def F_law05_FrameNotices_j2 (s7 : Bool × Int × (List Int)) (v12 : Bool × (List Int)) : Option ((Bool × Int × (List Int)) ⊕ (Bool × (List Int))) :=
  some (Sum.inl (v12.1, IntKind.wrap .i64 (s7.2.1 + 1), v12.2))
noncomputable def F_law05_FrameNotices_l1 (v6 : Int) (a2 : Int) (s7 : Bool × Int × (List Int)) : Option ((Bool × Int × (List Int)) ⊕ (Bool × (List Int))) :=
  bif (decide (s7.2.1 < 16)) then
    bif (decide ((IntKind.wrap .i64 (v6 + s7.2.1)) < (IntKind.wrap .i64 (8 * (List.length s7.2.2 : Int))))) then
      bif decide (0 ≤ (IntKind.wrap .u64 s7.2.1)) then
        bif ((iand .u16 (ishr .u16 a2 (IntKind.wrap .u64 s7.2.1)) 1) == 1) then
          (idx (Cut.app .whole s7.2.2) (iquo .i64 (IntKind.wrap .i64 (v6 + s7.2.1)) 8)).bind fun _e15 =>
          (s7.2.2[(0 + Int.toNat (iquo .i64 (IntKind.wrap .i64 (v6 + s7.2.1)) 8))]?).bind fun e16 =>
          bif decide (0 ≤ (IntKind.wrap .u64 (Int.tmod (IntKind.wrap .i64 (v6 + s7.2.1)) 8))) then
            (idx (Cut.app .whole s7.2.2) (iquo .i64 (IntKind.wrap .i64 (v6 + s7.2.1)) 8)).bind fun _e18 =>
            (s7.2.2[(0 + Int.toNat (iquo .i64 (IntKind.wrap .i64 (v6 + s7.2.1)) 8))]?).bind fun _e19 =>
            (F_law05_FrameNotices_j2 s7) (true, (List.set s7.2.2 (0 + Int.toNat (iquo .i64 (IntKind.wrap .i64 (v6 + s7.2.1)) 8)) (ixor .u8 e16 (ishl .u8 1 (IntKind.wrap .u64 (Int.tmod (IntKind.wrap .i64 (v6 + s7.2.1)) 8))))))
          else none
        else
          (F_law05_FrameNotices_j2 s7) (s7.1, s7.2.2)
      else none
    else
      some (Sum.inr (s7.1, s7.2.2))
  else
    some (Sum.inr (s7.1, s7.2.2))
noncomputable def F_law05_FrameNotices (a0 : List Int) (a1 : Int) (a2 : Int) : Option (Bool) :=
  (F_made_New a0).bind fun v1 =>
  (F_made_Tape_AnyFrame v1).bind fun v2 =>
  (F_frame_Encode_R v2.1).bind fun v3 =>
  bif (v3.2 != 0) then
    some (false)
  else
    bif (decide ((List.length v3.1 : Int) < 5)) then
      some (false)
    else
      (F_made_Mod a1 (IntKind.wrap .i64 (8 * (List.length v3.1 : Int)))).bind fun v6 =>
      (loopO (F_law05_FrameNotices_l1 v6 a2) (false, 0, v3.1)).bind fun b8 =>
      (F_frame_Decode b8.2).bind fun v21 =>
      (F_law05_known ).bind fun v22 =>
      bif v22 then
        bif ((v21.2 == 6) == b8.1) then
          some (((v21.2 == 0) == (!b8.1)))
        else
          some (false)
      else
        some (false)
set_option maxRecDepth 100000 in
set_option maxHeartbeats 40000000 in
theorem ok_law05_FrameNotices (a0 : List Int) (a1 : Int) (a2 : Int) (r : Bool) (h : F_law05_FrameNotices a0 a1 a2 = some r) : Con Try.prog 5 [.c (eS 1 (ecI .i64) (a0)), .c (.lit (.int .i64 (a1))), .c (.lit (.int .u16 (a2)))] [] (.c (.lit (.bool (r)))) [] := by
  unfold F_law05_FrameNotices at h
  refine con_of [] [] 85 Try.func5 rfl rfl (by kernel_rfl) (fun K => ?_)
  refine TS_go 7 ?_
  replace h := bindO h
  obtain ⟨v1, hv1, h⟩ := h
  refine TS_con [] [(15, 10)] none (ok_made_New a0 v1 hv1) (by kernel_rfl) (by kernel_rfl) (by kernel_rfl) ?_
  replace h := bindO h
  obtain ⟨v2, hv2, h⟩ := h
  refine TS_con [] [] (some (15, 0)) (ok_made_Tape_AnyFrame v1 v2 hv2) (by kernel_rfl) (by kernel_rfl) (by kernel_rfl) ?_
  replace h := bindO h
  obtain ⟨v3, hv3, h⟩ := h
  refine TS_con [] [(17, 900000)] none (okT_frame_Encode_R v2.1 v3 hv3) (by kernel_rfl) (by kernel_rfl) (by kernel_rfl) ?_
  refine TS_go 12 ?_
  replace h := condO h
  rcases h with ⟨hb4, h⟩ | ⟨hb4, h⟩
  · refine TS_know 21 (b := true) hb4 (by kernel_rfl) (by kernel_rfl) ?_
    refine TS_know 22 (b := true) hb4 (by kernel_rfl) (by kernel_rfl) ?_
    refine TS_go 5 ?_
    refine TS_T (by kernel_rfl) rfl ?_
    refine TS_go 6 ?_
    have ret := Option.some.inj h
    subst ret
    exact TS_ret (by kernel_rfl) (by kernel_rfl) (by kernel_rfl)
  · refine TS_know 21 (b := false) hb4 (by kernel_rfl) (by kernel_rfl) ?_
    refine TS_know 22 (b := false) hb4 (by kernel_rfl) (by kernel_rfl) ?_
    refine TS_go 5 ?_
    replace h := condO h
    rcases h with ⟨hb5, h⟩ | ⟨hb5, h⟩
    · refine TS_know 25 (b := true) hb5 (by kernel_rfl) (by kernel_rfl) ?_
      refine TS_know 26 (b := true) hb5 (by kernel_rfl) (by kernel_rfl) ?_
      refine TS_T (by kernel_rfl) rfl ?_
      refine TS_go 6 ?_
      have ret := Option.some.inj h
      subst ret
      exact TS_ret (by kernel_rfl) (by kernel_rfl) (by kernel_rfl)
    · refine TS_know 25 (b := false) hb5 (by kernel_rfl) (by kernel_rfl) ?_
      refine TS_know 26 (b := false) hb5 (by kernel_rfl) (by kernel_rfl) ?_
      refine TS_F (by kernel_rfl) rfl ?_
      refine TS_go 7 ?_
      replace h := bindO h
      obtain ⟨v6, hv6, h⟩ := h
      refine TS_call [] (ok_made_Mod a1 (IntKind.wrap .i64 (8 * (List.length v3.1 : Int))) v6 hv6) (by kernel_rfl) (by kernel_rfl) ?_
      refine TS_go 12 ?_
      refine TS_cut ⟨[(1, []), (2, []), (7, []), (9, []), (10, [])], [(17, (17, []))]⟩ (.mk [.code (codeAt [1, 1, 1, 1, 1, 0, 1, 0] (bodyOf Try.f5)), .blk 0, .code (codeAt [1, 1, 1, 1, 1, 1] (bodyOf Try.f5))] .normal ⟨[(1, .c (.lit (.int .i64 (v6)))), (2, .c (.lit (.int .u16 (a2)))), (7, .c (.own 17)), (9, .c (.lit (.bool (false)))), (10, .c (.lit (.int .i64 (0))))], [(17, .row 5 1 (List.length v3.1) (List.map (ecI .u8) v3.1))]⟩) (by kernel_rfl) (by kernel_rfl) ?_
      replace h := bindO h
      obtain ⟨y9, hl1, hK1⟩ := h
      refine TS_loopB (F_law05_FrameNotices_l1 v6 a2) ⟨[(1, []), (2, []), (7, []), (9, []), (10, [])], [(17, (17, []))]⟩ (fun (s7 : Bool × Int × (List Int)) => [(9, .c (.lit (.bool (s7.1)))), (10, .c (.lit (.int .i64 (s7.2.1))))]) (fun (s7 : Bool × Int × (List Int)) => [(17, .row 5 1 (List.length s7.2.2) (List.map (ecI .u8) s7.2.2))]) (false, 0, v3.1) y9 (.exit 0) (fun (b : Bool × (List Int)) => b) ⟨[(7, []), (9, [])], [(17, (17, []))]⟩ (fun (b8 : Bool × (List Int)) => [(9, .c (.lit (.bool (b8.1))))]) (fun (b8 : Bool × (List Int)) => [(17, .row 5 1 (List.length b8.2) (List.map (ecI .u8) b8.2))]) hl1 (by kernel_rfl) (by kernel_rfl) ?_ ?_
      · intro s7 x h hy1
        unfold F_law05_FrameNotices_l1 at h
        refine TS_go 6 ?_
        replace h := condO h
        rcases h with ⟨hb10, h⟩ | ⟨hb10, h⟩
        · refine TS_know 33 (b := true) hb10 (by kernel_rfl) (by kernel_rfl) ?_
          refine TS_know 34 (b := true) hb10 (by kernel_rfl) (by kernel_rfl) ?_
          refine TS_go 9 ?_
          replace h := condO h
          rcases h with ⟨hb11, h⟩ | ⟨hb11, h⟩
          · refine TS_know 41 (b := true) hb11 (by kernel_rfl) (by kernel_rfl) ?_
            refine TS_know 42 (b := true) hb11 (by kernel_rfl) (by kernel_rfl) ?_
            refine TS_T (by kernel_rfl) rfl ?_
            refine TS_go 1 ?_
            refine TS_cut ⟨[(1, []), (2, []), (7, []), (9, []), (10, [])], [(17, (17, []))]⟩ (.mk [.code (codeAt [1, 1, 1, 1, 1, 0, 1, 0, 0, 1] (bodyOf Try.f5))] .normal ⟨[(1, .c (.lit (.int .i64 (v6)))), (2, .c (.lit (.int .u16 (a2)))), (7, .c (.own 17)), (9, .c (.lit (.bool (s7.1)))), (10, .c (.lit (.int .i64 (s7.2.1))))], [(17, .row 5 1 (List.length s7.2.2) (List.map (ecI .u8) s7.2.2))]⟩) (by kernel_rfl) (by kernel_rfl) ?_
            refine TS_joinB ⟨[(1, []), (2, []), (7, []), (9, []), (10, [])], [(17, (17, []))]⟩ (fun (v12 : Bool × (List Int)) => [(9, .c (.lit (.bool (v12.1))))]) (fun (v12 : Bool × (List Int)) => [(17, .row 5 1 (List.length v12.2) (List.map (ecI .u8) v12.2))]) (F_law05_FrameNotices_j2 s7) x ?_ ?_
            · clear h
              intro v12 h
              unfold F_law05_FrameNotices_j2 at h
              refine TS_go 5 ?_
              have ret := Option.some.inj h
              subst ret
              exact TS_againB _ ⟨[(1, []), (2, []), (7, []), (9, []), (10, [])], [(17, (17, []))]⟩ rfl (by kernel_rfl) (by kernel_rfl)
            · refine TS_go 6 ?_
              replace h := chkO h
              obtain ⟨hc13, h⟩ := h
              refine TS_num (op := .shr) (k := .u16) (k' := .u64) (m := a2) (i := IntKind.wrap .u64 s7.2.1) (of_decide_eq_true hc13) rfl (by simp) (by kernel_rfl) (by kernel_rfl) ?_
              refine TS_go 3 ?_
              replace h := condO h
              rcases h with ⟨hb14, h⟩ | ⟨hb14, h⟩
              · refine TS_know 50 (b := true) hb14 (by kernel_rfl) (by kernel_rfl) ?_
                refine TS_T (by kernel_rfl) rfl ?_
                refine TS_go 7 ?_
                replace h := bindO h
                obtain ⟨_e15, he15, h⟩ := h
                refine TS_idxR 17 1 0 (ecI .u8) .whole he15 (by kernel_rfl) (by kernel_rfl) ?_
                replace h := bindO h
                obtain ⟨e16, he16, h⟩ := h
                refine TS_ldE 5 (0 + Int.toNat (iquo .i64 (IntKind.wrap .i64 (v6 + s7.2.1)) 8)) 0 (ecI .u8) (v := .c (.lit (.int .u8 (e16)))) he16 (by kernel_rfl) (by kernel_rfl) (by kernel_rfl) ?_
                refine TS_go 5 ?_
                replace h := chkO h
                obtain ⟨hc17, h⟩ := h
                refine TS_num (op := .shl) (k := .u8) (k' := .u64) (m := 1) (i := IntKind.wrap .u64 (Int.tmod (IntKind.wrap .i64 (v6 + s7.2.1)) 8)) (of_decide_eq_true hc17) rfl (by simp) (by kernel_rfl) (by kernel_rfl) ?_
                refine TS_go 1 ?_
                replace h := bindO h
                obtain ⟨_e18, he18, h⟩ := h
                refine TS_idxR 17 1 0 (ecI .u8) .whole he18 (by kernel_rfl) (by kernel_rfl) ?_
                replace h := bindO h
                obtain ⟨_e19, he19, h⟩ := h
                refine TS_stE 17 5 1 (List.length s7.2.2) (0 + Int.toNat (iquo .i64 (IntKind.wrap .i64 (v6 + s7.2.1)) 8)) 0 (ecI .u8) (ds := [.lit (.int .u8 (ixor .u8 e16 (ishl .u8 1 (IntKind.wrap .u64 (Int.tmod (IntKind.wrap .i64 (v6 + s7.2.1)) 8)))))]) (ixor .u8 e16 (ishl .u8 1 (IntKind.wrap .u64 (Int.tmod (IntKind.wrap .i64 (v6 + s7.2.1)) 8)))) he19 (by kernel_rfl) (by kernel_rfl) (by kernel_rfl) (by kernel_rfl) ?_
                refine TS_go 5 ?_
                exact TS_meet (true, (List.set s7.2.2 (0 + Int.toNat (iquo .i64 (IntKind.wrap .i64 (v6 + s7.2.1)) 8)) (ixor .u8 e16 (ishl .u8 1 (IntKind.wrap .u64 (Int.tmod (IntKind.wrap .i64 (v6 + s7.2.1)) 8)))))) ⟨[(1, []), (2, []), (7, []), (9, []), (10, [])], [(17, (17, []))]⟩ h (by kernel_rfl) (by kernel_rfl)
              · refine TS_know 50 (b := false) hb14 (by kernel_rfl) (by kernel_rfl) ?_
                refine TS_F (by kernel_rfl) rfl ?_
                refine TS_go 2 ?_
                exact TS_meet (s7.1, s7.2.2) ⟨[(1, []), (2, []), (7, []), (9, []), (10, [])], [(17, (17, []))]⟩ h (by kernel_rfl) (by kernel_rfl)
          · refine TS_know 41 (b := false) hb11 (by kernel_rfl) (by kernel_rfl) ?_
            refine TS_know 42 (b := false) hb11 (by kernel_rfl) (by kernel_rfl) ?_
            refine TS_F (by kernel_rfl) rfl ?_
            refine TS_go 2 ?_
            have ret := Option.some.inj h
            subst ret
            exact TS_brkB (s7.1, s7.2.2) ⟨[(7, []), (9, [])], [(17, (17, []))]⟩ rfl (by kernel_rfl) (by kernel_rfl) (by kernel_rfl)
        · refine TS_know 33 (b := false) hb10 (by kernel_rfl) (by kernel_rfl) ?_
          refine TS_know 34 (b := false) hb10 (by kernel_rfl) (by kernel_rfl) ?_
          refine TS_go 9 ?_
          refine TS_F (by kernel_rfl) rfl ?_
          refine TS_go 2 ?_
          have ret := Option.some.inj h
          subst ret
          exact TS_brkB (s7.1, s7.2.2) ⟨[(7, []), (9, [])], [(17, (17, []))]⟩ rfl (by kernel_rfl) (by kernel_rfl) (by kernel_rfl)
      · intro b8 hb
        subst y9
        have h := hK1
        refine TS_go 4 ?_
        refine TS_settle 17 (by kernel_rfl) ?_
        replace h := bindO h
        obtain ⟨v21, hv21, h⟩ := h
        refine TS_con [[2]] [(68, 900014), (600000, 900015)] none (okT_frame_Decode b8.2 v21 hv21) (by kernel_rfl) (by kernel_rfl) (by kernel_rfl) ?_
        refine TS_go 9 ?_
        replace h := bindO h
        obtain ⟨v22, hv22, h⟩ := h
        refine TS_call [] (ok_law05_known  v22 hv22) (by kernel_rfl) (by kernel_rfl) ?_
        refine TS_go 1 ?_
        replace h := condO h
        rcases h with ⟨hb23, h⟩ | ⟨hb23, h⟩
        · subst hb23
          refine TS_go 6 ?_
          replace h := condO h
          rcases h with ⟨hb24, h⟩ | ⟨hb24, h⟩
          · refine TS_know 76 (b := true) hb24 (by kernel_rfl) (by kernel_rfl) ?_
            refine TS_know 77 (b := true) hb24 (by kernel_rfl) (by kernel_rfl) ?_
            refine TS_know 78 (b := true) hb24 (by kernel_rfl) (by kernel_rfl) ?_
            refine TS_go 9 ?_
            have ret := Option.some.inj h
            subst ret
            exact TS_ret (by kernel_rfl) (by kernel_rfl) (by kernel_rfl)
          · refine TS_know 76 (b := false) hb24 (by kernel_rfl) (by kernel_rfl) ?_
            refine TS_know 77 (b := false) hb24 (by kernel_rfl) (by kernel_rfl) ?_
            refine TS_know 78 (b := false) hb24 (by kernel_rfl) (by kernel_rfl) ?_
            refine TS_go 9 ?_
            have ret := Option.some.inj h
            subst ret
            exact TS_ret (by kernel_rfl) (by kernel_rfl) (by kernel_rfl)
        · subst hb23
          refine TS_go 15 ?_
          have ret := Option.some.inj h
          subst ret
          exact TS_ret (by kernel_rfl) (by kernel_rfl) (by kernel_rfl)

/-- multihop/frame.Size -/
noncomputable def F_frame_Size (a0 : S_Frame) : Option (Int) :=
  (F_frame_Valid a0).bind fun v1 =>
  bif v1 then
    (F_frame_length a0).bind fun v3 =>
    some (v3)
  else
    some (0)
set_option maxRecDepth 100000 in
set_option maxHeartbeats 40000000 in
theorem ok_frame_Size (a0 : S_Frame) (r : Int) (h : F_frame_Size a0 = some r) : Con Try.prog 24 [.agg (S_Frame.cs a0)] [] (.c (.lit (.int .i64 (r)))) [] := by
  unfold F_frame_Size at h
  refine con_of [] [] 8 Try.func24 rfl rfl (by kernel_rfl) (fun K => ?_)
  refine TS_go 9 ?_
  replace h := bindO h
  obtain ⟨v1, hv1, h⟩ := h
  refine TS_call [] (ok_frame_Valid a0 v1 hv1) (by kernel_rfl) (by kernel_rfl) ?_
  refine TS_go 2 ?_
  replace h := condO h
  rcases h with ⟨hb2, h⟩ | ⟨hb2, h⟩
  · subst hb2
    refine TS_F (by kernel_rfl) rfl ?_
    refine TS_go 4 ?_
    replace h := bindO h
    obtain ⟨v3, hv3, h⟩ := h
    refine TS_call [] (ok_frame_length a0 v3 hv3) (by kernel_rfl) (by kernel_rfl) ?_
    refine TS_go 3 ?_
    have ret := Option.some.inj h
    subst ret
    exact TS_ret (by kernel_rfl) (by kernel_rfl) (by kernel_rfl)
  · subst hb2
    refine TS_T (by kernel_rfl) rfl ?_
    refine TS_go 6 ?_
    have ret := Option.some.inj h
    subst ret
    exact TS_ret (by kernel_rfl) (by kernel_rfl) (by kernel_rfl)

/-- multihop/multihoplaw05.FrameBack -/
noncomputable def F_law05_FrameBack (a0 : List Int) : Option (Bool) :=
  (F_made_New a0).bind fun v1 =>
  (F_made_Tape_AnyFrame v1).bind fun v2 =>
  (F_frame_Encode v2.1).bind fun v3 =>
  (F_frame_Decode v3.1).bind fun v4 =>
  (F_law05_known ).bind fun v5 =>
  bif v5 then
    bif (v3.2 == 0) then
      bif (v4.2 == 0) then
        (F_ref05_Same v2.1 v4.1).bind fun v9 =>
        bif v9 then
          (F_frame_Valid v2.1).bind fun v11 =>
          bif v11 then
            (F_frame_Size v2.1).bind fun v13 =>
            bif ((List.length v3.1 : Int) == v13) then
              some ((decide ((List.length v3.1 : Int) ≤ 127)))
            else
              some (false)
          else
            some (false)
        else
          some (false)
      else
        some (false)
    else
      some (false)
  else
    some (false)
set_option maxRecDepth 100000 in
set_option maxHeartbeats 40000000 in
theorem ok_law05_FrameBack (a0 : List Int) (r : Bool) (h : F_law05_FrameBack a0 = some r) : Con Try.prog 7 [.c (eS 1 (ecI .i64) (a0))] [] (.c (.lit (.bool (r)))) [] := by
  unfold F_law05_FrameBack at h
  refine con_of [] [] 51 Try.func7 rfl rfl (by kernel_rfl) (fun K => ?_)
  refine TS_go 7 ?_
  replace h := bindO h
  obtain ⟨v1, hv1, h⟩ := h
  refine TS_con [] [(9, 10)] none (ok_made_New a0 v1 hv1) (by kernel_rfl) (by kernel_rfl) (by kernel_rfl) ?_
  replace h := bindO h
  obtain ⟨v2, hv2, h⟩ := h
  refine TS_con [] [] (some (9, 0)) (ok_made_Tape_AnyFrame v1 v2 hv2) (by kernel_rfl) (by kernel_rfl) (by kernel_rfl) ?_
  refine TS_go 6 ?_
  replace h := bindO h
  obtain ⟨v3, hv3, h⟩ := h
  refine TS_con [] [(13, 900000)] none (okT_frame_Encode v2.1 v3 hv3) (by kernel_rfl) (by kernel_rfl) (by kernel_rfl) ?_
  refine TS_go 9 ?_
  replace h := bindO h
  obtain ⟨v4, hv4, h⟩ := h
  refine TS_con [[2]] [(18, 900014), (600000, 900015)] none (okT_frame_Decode v3.1 v4 hv4) (by kernel_rfl) (by kernel_rfl) (by kernel_rfl) ?_
  refine TS_go 9 ?_
  replace h := bindO h
  obtain ⟨v5, hv5, h⟩ := h
  refine TS_call [] (ok_law05_known  v5 hv5) (by kernel_rfl) (by kernel_rfl) ?_
  refine TS_go 1 ?_
  replace h := condO h
  rcases h with ⟨hb6, h⟩ | ⟨hb6, h⟩
  · subst hb6
    refine TS_go 4 ?_
    replace h := condO h
    rcases h with ⟨hb7, h⟩ | ⟨hb7, h⟩
    · refine TS_know 24 (b := true) hb7 (by kernel_rfl) (by kernel_rfl) ?_
      refine TS_know 25 (b := true) hb7 (by kernel_rfl) (by kernel_rfl) ?_
      refine TS_know 26 (b := true) hb7 (by kernel_rfl) (by kernel_rfl) ?_
      refine TS_go 4 ?_
      replace h := condO h
      rcases h with ⟨hb8, h⟩ | ⟨hb8, h⟩
      · refine TS_know 28 (b := true) hb8 (by kernel_rfl) (by kernel_rfl) ?_
        refine TS_know 29 (b := true) hb8 (by kernel_rfl) (by kernel_rfl) ?_
        refine TS_know 30 (b := true) hb8 (by kernel_rfl) (by kernel_rfl) ?_
        refine TS_go 2 ?_
        replace h := bindO h
        obtain ⟨v9, hv9, h⟩ := h
        refine TS_call [[], [0, 0, 0, 0, 0, 0, 0, 0, 0, 0, 0, 0, 0, 0, 2, 2]] (ok_ref05_Same v2.1 v4.1 v9 hv9) (by kernel_rfl) (by kernel_rfl) ?_
        refine TS_go 2 ?_
        replace h := condO h
        rcases h with ⟨hb10, h⟩ | ⟨hb10, h⟩
        · subst hb10
          refine TS_go 1 ?_
          replace h := bindO h
          obtain ⟨v11, hv11, h⟩ := h
          refine TS_call [] (ok_frame_Valid v2.1 v11 hv11) (by kernel_rfl) (by kernel_rfl) ?_
          refine TS_go 2 ?_
          replace h := condO h
          rcases h with ⟨hb12, h⟩ | ⟨hb12, h⟩
          · subst hb12
            refine TS_go 3 ?_
            replace h := bindO h
            obtain ⟨v13, hv13, h⟩ := h
            refine TS_call [] (ok_frame_Size v2.1 v13 hv13) (by kernel_rfl) (by kernel_rfl) ?_
            refine TS_go 3 ?_
            replace h := condO h
            rcases h with ⟨hb14, h⟩ | ⟨hb14, h⟩
            · refine TS_know 44 (b := true) hb14 (by kernel_rfl) (by kernel_rfl) ?_
              refine TS_know 45 (b := true) hb14 (by kernel_rfl) (by kernel_rfl) ?_
              refine TS_know 46 (b := true) hb14 (by kernel_rfl) (by kernel_rfl) ?_
              refine TS_go 7 ?_
              have ret := Option.some.inj h
              subst ret
              exact TS_ret (by kernel_rfl) (by kernel_rfl) (by kernel_rfl)
            · refine TS_know 44 (b := false) hb14 (by kernel_rfl) (by kernel_rfl) ?_
              refine TS_know 45 (b := false) hb14 (by kernel_rfl) (by kernel_rfl) ?_
              refine TS_know 46 (b := false) hb14 (by kernel_rfl) (by kernel_rfl) ?_
              refine TS_go 7 ?_
              have ret := Option.some.inj h
              subst ret
              exact TS_ret (by kernel_rfl) (by kernel_rfl) (by kernel_rfl)
          · subst hb12
            refine TS_go 14 ?_
            have ret := Option.some.inj h
            subst ret
            exact TS_ret (by kernel_rfl) (by kernel_rfl) (by kernel_rfl)
        · subst hb10
          refine TS_go 18 ?_
          have ret := Option.some.inj h
          subst ret
          exact TS_ret (by kernel_rfl) (by kernel_rfl) (by kernel_rfl)
      · refine TS_know 28 (b := false) hb8 (by kernel_rfl) (by kernel_rfl) ?_
        refine TS_know 29 (b := false) hb8 (by kernel_rfl) (by kernel_rfl) ?_
        refine TS_know 30 (b := false) hb8 (by kernel_rfl) (by kernel_rfl) ?_
        refine TS_go 23 ?_
        have ret := Option.some.inj h
        subst ret
        exact TS_ret (by kernel_rfl) (by kernel_rfl) (by kernel_rfl)
    · refine TS_know 24 (b := false) hb7 (by kernel_rfl) (by kernel_rfl) ?_
      refine TS_know 25 (b := false) hb7 (by kernel_rfl) (by kernel_rfl) ?_
      refine TS_know 26 (b := false) hb7 (by kernel_rfl) (by kernel_rfl) ?_
      refine TS_go 27 ?_
      have ret := Option.some.inj h
      subst ret
      exact TS_ret (by kernel_rfl) (by kernel_rfl) (by kernel_rfl)
  · subst hb6
    refine TS_go 31 ?_
    have ret := Option.some.inj h
    subst ret
    exact TS_ret (by kernel_rfl) (by kernel_rfl) (by kernel_rfl)

/-- multihop/frame.Room -/
noncomputable def F_frame_Room (a0 : S_Frame) : Option (Int) :=
  (F_frame_Valid a0).bind fun v1 =>
  bif v1 then
    bif (a0.Kind == 2) then
      some (0)
    else
      (F_frame_length a0).bind fun v4 =>
      some (IntKind.wrap .i64 (127 - v4))
  else
    some (0)
set_option maxRecDepth 100000 in
set_option maxHeartbeats 40000000 in
theorem ok_frame_Room (a0 : S_Frame) (r : Int) (h : F_frame_Room a0 = some r) : Con Try.prog 25 [.agg (S_Frame.cs a0)] [] (.c (.lit (.int .i64 (r)))) [] := by
  unfold F_frame_Room at h
  refine con_of [] [] 14 Try.func25 rfl rfl (by kernel_rfl) (fun K => ?_)
  refine TS_go 9 ?_
  replace h := bindO h
  obtain ⟨v1, hv1, h⟩ := h
  refine TS_call [] (ok_frame_Valid a0 v1 hv1) (by kernel_rfl) (by kernel_rfl) ?_
  refine TS_go 2 ?_
  replace h := condO h
  rcases h with ⟨hb2, h⟩ | ⟨hb2, h⟩
  · subst hb2
    refine TS_go 5 ?_
    replace h := condO h
    rcases h with ⟨hb3, h⟩ | ⟨hb3, h⟩
    · refine TS_know 9 (b := true) hb3 (by kernel_rfl) (by kernel_rfl) ?_
      refine TS_know 10 (b := true) hb3 (by kernel_rfl) (by kernel_rfl) ?_
      refine TS_T (by kernel_rfl) rfl ?_
      refine TS_go 6 ?_
      have ret := Option.some.inj h
      subst ret
      exact TS_ret (by kernel_rfl) (by kernel_rfl) (by kernel_rfl)
    · refine TS_know 9 (b := false) hb3 (by kernel_rfl) (by kernel_rfl) ?_
      refine TS_know 10 (b := false) hb3 (by kernel_rfl) (by kernel_rfl) ?_
      refine TS_F (by kernel_rfl) rfl ?_
      refine TS_go 4 ?_
      replace h := bindO h
      obtain ⟨v4, hv4, h⟩ := h
      refine TS_call [] (ok_frame_length a0 v4 hv4) (by kernel_rfl) (by kernel_rfl) ?_
      refine TS_go 4 ?_
      have ret := Option.some.inj h
      subst ret
      exact TS_ret (by kernel_rfl) (by kernel_rfl) (by kernel_rfl)
  · subst hb2
    refine TS_go 5 ?_
    refine TS_T (by kernel_rfl) rfl ?_
    refine TS_go 6 ?_
    have ret := Option.some.inj h
    subst ret
    exact TS_ret (by kernel_rfl) (by kernel_rfl) (by kernel_rfl)

/-- multihop/multihoplaw05.FrameRooms -/
noncomputable def F_law05_FrameRooms (a0 : List Int) (a1 : Int) : Option (Bool) :=
  (F_made_New a0).bind fun v1 =>
  (F_made_Tape_AnyFrame v1).bind fun v2 =>
  (F_frame_Room v2.1).bind fun v3 =>
  bif (v2.1.Kind == 2) then
    (F_law05_known ).bind fun v5 =>
    bif v5 then
      some ((v3 == 0))
    else
      some (false)
  else
    (F_made_Mod a1 (IntKind.wrap .i64 (v3 + 1))).bind fun v7 =>
    (appO 1 ([] : List Int) (Cut.app .whole v2.1.Payload)).bind fun l8 =>
    (appZO 1 l8 (0 : Int) v7).bind fun l9 =>
    (mkO 1 (IntKind.wrap .i64 ((IntKind.wrap .i64 ((List.length v2.1.Payload : Int) + v3)) + 1)) (IntKind.wrap .i64 ((IntKind.wrap .i64 ((List.length v2.1.Payload : Int) + v3)) + 1))).bind fun n10 =>
    (F_law05_known ).bind fun v11 =>
    bif v11 then
      (F_frame_Valid (S_Frame.mk v2.1.Kind v2.1.AckRequest v2.1.Pending v2.1.Secure v2.1.Seq v2.1.Pan v2.1.Dst v2.1.Src v2.1.Counter v2.1.Key l9 v2.1.MIC)).bind fun v13 =>
      bif v13 then
        (F_frame_Room (S_Frame.mk v2.1.Kind v2.1.AckRequest v2.1.Pending v2.1.Secure v2.1.Seq v2.1.Pan v2.1.Dst v2.1.Src v2.1.Counter v2.1.Key l9 v2.1.MIC)).bind fun v15 =>
        bif (v15 == (IntKind.wrap .i64 (v3 - v7))) then
          (F_frame_Valid (S_Frame.mk v2.1.Kind v2.1.AckRequest v2.1.Pending v2.1.Secure v2.1.Seq v2.1.Pan v2.1.Dst v2.1.Src v2.1.Counter v2.1.Key (List.replicate n10 (0 : Int)) v2.1.MIC)).bind fun v17 =>
          some ((!v17))
        else
          some (false)
      else
        some (false)
    else
      some (false)
set_option maxRecDepth 100000 in
set_option maxHeartbeats 40000000 in
theorem ok_law05_FrameRooms (a0 : List Int) (a1 : Int) (r : Bool) (h : F_law05_FrameRooms a0 a1 = some r) : Con Try.prog 8 [.c (eS 1 (ecI .i64) (a0)), .c (.lit (.int .i64 (a1)))] [] (.c (.lit (.bool (r)))) [] := by
  unfold F_law05_FrameRooms at h
  refine con_of [] [] 63 Try.func8 rfl rfl (by kernel_rfl) (fun K => ?_)
  refine TS_go 7 ?_
  replace h := bindO h
  obtain ⟨v1, hv1, h⟩ := h
  refine TS_con [] [(11, 10)] none (ok_made_New a0 v1 hv1) (by kernel_rfl) (by kernel_rfl) (by kernel_rfl) ?_
  replace h := bindO h
  obtain ⟨v2, hv2, h⟩ := h
  refine TS_con [] [] (some (11, 0)) (ok_made_Tape_AnyFrame v1 v2 hv2) (by kernel_rfl) (by kernel_rfl) (by kernel_rfl) ?_
  refine TS_go 6 ?_
  replace h := bindO h
  obtain ⟨v3, hv3, h⟩ := h
  refine TS_call [] (ok_frame_Room v2.1 v3 hv3) (by kernel_rfl) (by kernel_rfl) ?_
  refine TS_go 9 ?_
  replace h := condO h
  rcases h with ⟨hb4, h⟩ | ⟨hb4, h⟩
  · refine TS_know 17 (b := true) hb4 (by kernel_rfl) (by kernel_rfl) ?_
    refine TS_T (by kernel_rfl) rfl ?_
    refine TS_go 2 ?_
    replace h := bindO h
    obtain ⟨v5, hv5, h⟩ := h
    refine TS_call [] (ok_law05_known  v5 hv5) (by kernel_rfl) (by kernel_rfl) ?_
    refine TS_go 1 ?_
    replace h := condO h
    rcases h with ⟨hb6, h⟩ | ⟨hb6, h⟩
    · subst hb6
      refine TS_go 7 ?_
      have ret := Option.some.inj h
      subst ret
      exact TS_ret (by kernel_rfl) (by kernel_rfl) (by kernel_rfl)
    · subst hb6
      refine TS_go 7 ?_
      have ret := Option.some.inj h
      subst ret
      exact TS_ret (by kernel_rfl) (by kernel_rfl) (by kernel_rfl)
  · refine TS_know 17 (b := false) hb4 (by kernel_rfl) (by kernel_rfl) ?_
    refine TS_F (by kernel_rfl) rfl ?_
    refine TS_go 13 ?_
    replace h := bindO h
    obtain ⟨v7, hv7, h⟩ := h
    refine TS_call [] (ok_made_Mod a1 (IntKind.wrap .i64 (v3 + 1)) v7 hv7) (by kernel_rfl) (by kernel_rfl) ?_
    refine TS_go 10 ?_
    refine TS_litNT 31 5 1 (ecI .u8) [] ([] : List Int) (by kernel_rfl) (by kernel_rfl) ?_
    refine TS_go 2 ?_
    replace h := bindO h
    obtain ⟨l8, hl8, h⟩ := h
    refine TS_appT (d := 31) (e := 5) (sz := 1) (N := List.length ([] : List Int)) (ecI .u8) (fun _ => by kernel_rfl) (l1 := ([] : List Int)) (l2 := v2.1.Payload) (c := .whole) hl8 (by kernel_rfl) (by kernel_rfl) ?_
    refine TS_go 1 ?_
    replace h := bindO h
    obtain ⟨l9, hl9, h⟩ := h
    refine TS_appZ (d := 31) (e := 5) (sz := 1) (N := List.length l8) (ecI .u8) (0 : Int) [] (cs := [.lit (.int .u8 (0))]) (m := v7) (l1 := l8) hl9 (by kernel_rfl) (by kernel_rfl) (by kernel_rfl) ?_
    refine TS_go 15 ?_
    replace h := bindO h
    obtain ⟨n10, hn10, h⟩ := h
    refine TS_makeT 43 5 1 (ecI .u8) (0 : Int) [] (cs := [.lit (.int .u8 (0))]) (l := IntKind.wrap .i64 ((IntKind.wrap .i64 ((List.length v2.1.Payload : Int) + v3)) + 1)) (c := IntKind.wrap .i64 ((IntKind.wrap .i64 ((List.length v2.1.Payload : Int) + v3)) + 1)) hn10 (by kernel_rfl) (by kernel_rfl) (by kernel_rfl) ?_
    refine TS_go 5 ?_
    replace h := bindO h
    obtain ⟨v11, hv11, h⟩ := h
    refine TS_call [] (ok_law05_known  v11 hv11) (by kernel_rfl) (by kernel_rfl) ?_
    refine TS_go 1 ?_
    replace h := condO h
    rcases h with ⟨hb12, h⟩ | ⟨hb12, h⟩
    · subst hb12
      refine TS_go 1 ?_
      replace h := bindO h
      obtain ⟨v13, hv13, h⟩ := h
      refine TS_call [[0, 0, 0, 0, 0, 0, 0, 0, 0, 0, 0, 0, 0, 0, 2, 2]] (ok_frame_Valid (S_Frame.mk v2.1.Kind v2.1.AckRequest v2.1.Pending v2.1.Secure v2.1.Seq v2.1.Pan v2.1.Dst v2.1.Src v2.1.Counter v2.1.Key l9 v2.1.MIC) v13 hv13) (by kernel_rfl) (by kernel_rfl) ?_
      refine TS_go 2 ?_
      replace h := condO h
      rcases h with ⟨hb14, h⟩ | ⟨hb14, h⟩
      · subst hb14
        refine TS_go 1 ?_
        replace h := bindO h
        obtain ⟨v15, hv15, h⟩ := h
        refine TS_call [[0, 0, 0, 0, 0, 0, 0, 0, 0, 0, 0, 0, 0, 0, 2, 2]] (ok_frame_Room (S_Frame.mk v2.1.Kind v2.1.AckRequest v2.1.Pending v2.1.Secure v2.1.Seq v2.1.Pan v2.1.Dst v2.1.Src v2.1.Counter v2.1.Key l9 v2.1.MIC) v15 hv15) (by kernel_rfl) (by kernel_rfl) ?_
        refine TS_go 6 ?_
        replace h := condO h
        rcases h with ⟨hb16, h⟩ | ⟨hb16, h⟩
        · refine TS_know 56 (b := true) hb16 (by kernel_rfl) (by kernel_rfl) ?_
          refine TS_know 57 (b := true) hb16 (by kernel_rfl) (by kernel_rfl) ?_
          refine TS_know 58 (b := true) hb16 (by kernel_rfl) (by kernel_rfl) ?_
          refine TS_go 1 ?_
          replace h := bindO h
          obtain ⟨v17, hv17, h⟩ := h
          refine TS_call [[0, 0, 0, 0, 0, 0, 0, 0, 0, 0, 0, 0, 0, 0, 2, 2]] (ok_frame_Valid (S_Frame.mk v2.1.Kind v2.1.AckRequest v2.1.Pending v2.1.Secure v2.1.Seq v2.1.Pan v2.1.Dst v2.1.Src v2.1.Counter v2.1.Key (List.replicate n10 (0 : Int)) v2.1.MIC) v17 hv17) (by kernel_rfl) (by kernel_rfl) ?_
          refine TS_go 5 ?_
          have ret := Option.some.inj h
          subst ret
          exact TS_ret (by kernel_rfl) (by kernel_rfl) (by kernel_rfl)
        · refine TS_know 56 (b := false) hb16 (by kernel_rfl) (by kernel_rfl) ?_
          refine TS_know 57 (b := false) hb16 (by kernel_rfl) (by kernel_rfl) ?_
          refine TS_know 58 (b := false) hb16 (by kernel_rfl) (by kernel_rfl) ?_
          refine TS_go 7 ?_
          have ret := Option.some.inj h
          subst ret
          exact TS_ret (by kernel_rfl) (by kernel_rfl) (by kernel_rfl)
      · subst hb14
        refine TS_go 15 ?_
        have ret := Option.some.inj h
        subst ret
        exact TS_ret (by kernel_rfl) (by kernel_rfl) (by kernel_rfl)
    · subst hb12
      refine TS_go 19 ?_
      have ret := Option.some.inj h
      subst ret
      exact TS_ret (by kernel_rfl) (by kernel_rfl) (by kernel_rfl)

/-- multihop/frame.AckFor -/
noncomputable def F_frame_AckFor (a0 : S_Frame) : Option (S_Frame × Bool) :=
  (F_frame_Valid a0).bind fun v1 =>
  bif v1 then
    bif a0.AckRequest then
      some (((S_Frame.mk 2 false false false a0.Seq 0 (S_Addr.mk 0 0 0) (S_Addr.mk 0 0 0) 0 0 ([] : List Int) ([] : List Int)), true))
    else
      some (((S_Frame.mk 0 false false false 0 0 (S_Addr.mk 0 0 0) (S_Addr.mk 0 0 0) 0 0 ([] : List Int) ([] : List Int)), false))
  else
    some (((S_Frame.mk 0 false false false 0 0 (S_Addr.mk 0 0 0) (S_Addr.mk 0 0 0) 0 0 ([] : List Int) ([] : List Int)), false))
set_option maxRecDepth 100000 in
set_option maxHeartbeats 40000000 in
theorem ok_frame_AckFor (a0 : S_Frame) (r : S_Frame × Bool) (h : F_frame_AckFor a0 = some r) : Con Try.prog 26 [.agg (S_Frame.cs a0)] [] (.tup [(true, S_Frame.cs r.1), (false, [.lit (.bool (r.2))])]) [] := by
  unfold F_frame_AckFor at h
  refine con_of [[0, 0, 0, 0, 0, 0, 0, 0, 0, 0, 0, 0, 0, 0, 2, 2]] [] 16 Try.func26 rfl rfl (by kernel_rfl) (fun K => ?_)
  refine TS_go 10 ?_
  replace h := bindO h
  obtain ⟨v1, hv1, h⟩ := h
  refine TS_call [] (ok_frame_Valid a0 v1 hv1) (by kernel_rfl) (by kernel_rfl) ?_
  refine TS_go 2 ?_
  replace h := condO h
  rcases h with ⟨hb2, h⟩ | ⟨hb2, h⟩
  · subst hb2
    refine TS_go 5 ?_
    replace h := condO h
    rcases h with ⟨hb3, h⟩ | ⟨hb3, h⟩
    · refine TS_know 9 (b := true) hb3 (by kernel_rfl) (by kernel_rfl) ?_
      refine TS_know 10 (b := false) (notF hb3) (by kernel_rfl) (by kernel_rfl) ?_
      refine TS_know 11 (b := false) (notF hb3) (by kernel_rfl) (by kernel_rfl) ?_
      refine TS_F (by kernel_rfl) rfl ?_
      refine TS_go 10 ?_
      have ret := Option.some.inj h
      subst ret
      exact TS_ret (by kernel_rfl) (by kernel_rfl) (by kernel_rfl)
    · refine TS_know 9 (b := false) hb3 (by kernel_rfl) (by kernel_rfl) ?_
      refine TS_know 10 (b := true) (notT hb3) (by kernel_rfl) (by kernel_rfl) ?_
      refine TS_know 11 (b := true) (notT hb3) (by kernel_rfl) (by kernel_rfl) ?_
      refine TS_T (by kernel_rfl) rfl ?_
      refine TS_go 8 ?_
      have ret := Option.some.inj h
      subst ret
      exact TS_ret (by kernel_rfl) (by kernel_rfl) (by kernel_rfl)
  · subst hb2
    refine TS_go 5 ?_
    refine TS_T (by kernel_rfl) rfl ?_
    refine TS_go 8 ?_
    have ret := Option.some.inj h
    subst ret
    exact TS_ret (by kernel_rfl) (by kernel_rfl) (by kernel_rfl)

/-- multihop/multihoplaw05.FrameAcks -/
noncomputable def F_law05_FrameAcks (a0 : List Int) : Option (Bool) :=
  (F_made_New a0).bind fun v1 =>
  (F_made_Tape_AnyFrame v1).bind fun v2 =>
  (F_frame_AckFor v2.1).bind fun v3 =>
  bif v3.2 then
    (F_frame_AckFor v3.1).bind fun v5 =>
    (F_law05_known ).bind fun v6 =>
    bif v6 then
      bif v2.1.AckRequest then
        (F_frame_Valid v3.1).bind fun v9 =>
        bif v9 then
          bif (v3.1.Kind == 2) then
            bif (v3.1.Seq == v2.1.Seq) then
              (F_frame_Size v3.1).bind fun v13 =>
              bif (v13 == 5) then
                some ((!v5.2))
              else
                some (false)
            else
              some (false)
          else
            some (false)
        else
          some (false)
      else
        some (false)
    else
      some (false)
  else
    (F_law05_known ).bind fun v15 =>
    bif v15 then
      some ((!v2.1.AckRequest))
    else
      some (false)
set_option maxRecDepth 100000 in
set_option maxHeartbeats 40000000 in
theorem ok_law05_FrameAcks (a0 : List Int) (r : Bool) (h : F_law05_FrameAcks a0 = some r) : Con Try.prog 9 [.c (eS 1 (ecI .i64) (a0))] [] (.c (.lit (.bool (r)))) [] := by
  unfold F_law05_FrameAcks at h
  refine con_of [] [] 59 Try.func9 rfl rfl (by kernel_rfl) (fun K => ?_)
  refine TS_go 7 ?_
  replace h := bindO h
  obtain ⟨v1, hv1, h⟩ := h
  refine TS_con [] [(9, 10)] none (ok_made_New a0 v1 hv1) (by kernel_rfl) (by kernel_rfl) (by kernel_rfl) ?_
  replace h := bindO h
  obtain ⟨v2, hv2, h⟩ := h
  refine TS_con [] [] (some (9, 0)) (ok_made_Tape_AnyFrame v1 v2 hv2) (by kernel_rfl) (by kernel_rfl) (by kernel_rfl) ?_
  refine TS_go 6 ?_
  replace h := bindO h
  obtain ⟨v3, hv3, h⟩ := h
  refine TS_call [] (ok_frame_AckFor v2.1 v3 hv3) (by kernel_rfl) (by kernel_rfl) ?_
  refine TS_go 13 ?_
  replace h := condO h
  rcases h with ⟨hb4, h⟩ | ⟨hb4, h⟩
  · refine TS_know 15 (b := true) hb4 (by kernel_rfl) (by kernel_rfl) ?_
    refine TS_know 5 (b := true) hb4 (by kernel_rfl) (by kernel_rfl) ?_
    refine TS_know 16 (b := true) hb4 (by kernel_rfl) (by kernel_rfl) ?_
    refine TS_know 17 (b := false) (notF hb4) (by kernel_rfl) (by kernel_rfl) ?_
    refine TS_F (by kernel_rfl) rfl ?_
    refine TS_go 4 ?_
    replace h := bindO h
    obtain ⟨v5, hv5, h⟩ := h
    refine TS_call [] (ok_frame_AckFor v3.1 v5 hv5) (by kernel_rfl) (by kernel_rfl) ?_
    refine TS_go 9 ?_
    replace h := bindO h
    obtain ⟨v6, hv6, h⟩ := h
    refine TS_call [] (ok_law05_known  v6 hv6) (by kernel_rfl) (by kernel_rfl) ?_
    refine TS_go 1 ?_
    replace h := condO h
    rcases h with ⟨hb7, h⟩ | ⟨hb7, h⟩
    · subst hb7
      refine TS_go 4 ?_
      replace h := condO h
      rcases h with ⟨hb8, h⟩ | ⟨hb8, h⟩
      · refine TS_know 32 (b := true) hb8 (by kernel_rfl) (by kernel_rfl) ?_
        refine TS_know 33 (b := true) hb8 (by kernel_rfl) (by kernel_rfl) ?_
        refine TS_know 34 (b := true) hb8 (by kernel_rfl) (by kernel_rfl) ?_
        refine TS_go 1 ?_
        replace h := bindO h
        obtain ⟨v9, hv9, h⟩ := h
        refine TS_call [] (ok_frame_Valid v3.1 v9 hv9) (by kernel_rfl) (by kernel_rfl) ?_
        refine TS_go 2 ?_
        replace h := condO h
        rcases h with ⟨hb10, h⟩ | ⟨hb10, h⟩
        · subst hb10
          refine TS_go 5 ?_
          replace h := condO h
          rcases h with ⟨hb11, h⟩ | ⟨hb11, h⟩
          · refine TS_know 41 (b := true) hb11 (by kernel_rfl) (by kernel_rfl) ?_
            refine TS_know 42 (b := true) hb11 (by kernel_rfl) (by kernel_rfl) ?_
            refine TS_know 43 (b := true) hb11 (by kernel_rfl) (by kernel_rfl) ?_
            refine TS_go 7 ?_
            replace h := condO h
            rcases h with ⟨hb12, h⟩ | ⟨hb12, h⟩
            · refine TS_know 48 (b := true) hb12 (by kernel_rfl) (by kernel_rfl) ?_
              refine TS_know 49 (b := true) hb12 (by kernel_rfl) (by kernel_rfl) ?_
              refine TS_know 50 (b := true) hb12 (by kernel_rfl) (by kernel_rfl) ?_
              refine TS_go 1 ?_
              replace h := bindO h
              obtain ⟨v13, hv13, h⟩ := h
              refine TS_call [] (ok_frame_Size v3.1 v13 hv13) (by kernel_rfl) (by kernel_rfl) ?_
              refine TS_go 3 ?_
              replace h := condO h
              rcases h with ⟨hb14, h⟩ | ⟨hb14, h⟩
              · refine TS_know 53 (b := true) hb14 (by kernel_rfl) (by kernel_rfl) ?_
                refine TS_know 54 (b := true) hb14 (by kernel_rfl) (by kernel_rfl) ?_
                refine TS_know 55 (b := true) hb14 (by kernel_rfl) (by kernel_rfl) ?_
                refine TS_go 6 ?_
                have ret := Option.some.inj h
                subst ret
                exact TS_ret (by kernel_rfl) (by kernel_rfl) (by kernel_rfl)
              · refine TS_know 53 (b := false) hb14 (by kernel_rfl) (by kernel_rfl) ?_
                refine TS_know 54 (b := false) hb14 (by kernel_rfl) (by kernel_rfl) ?_
                refine TS_know 55 (b := false) hb14 (by kernel_rfl) (by kernel_rfl) ?_
                refine TS_go 6 ?_
                have ret := Option.some.inj h
                subst ret
                exact TS_ret (by kernel_rfl) (by kernel_rfl) (by kernel_rfl)
            · refine TS_know 48 (b := false) hb12 (by kernel_rfl) (by kernel_rfl) ?_
              refine TS_know 49 (b := false) hb12 (by kernel_rfl) (by kernel_rfl) ?_
              refine TS_know 50 (b := false) hb12 (by kernel_rfl) (by kernel_rfl) ?_
              refine TS_go 11 ?_
              have ret := Option.some.inj h
              subst ret
              exact TS_ret (by kernel_rfl) (by kernel_rfl) (by kernel_rfl)
          · refine TS_know 41 (b := false) hb11 (by kernel_rfl) (by kernel_rfl) ?_
            refine TS_know 42 (b := false) hb11 (by kernel_rfl) (by kernel_rfl) ?_
            refine TS_know 43 (b := false) hb11 (by kernel_rfl) (by kernel_rfl) ?_
            refine TS_go 18 ?_
            have ret := Option.some.inj h
            subst ret
            exact TS_ret (by kernel_rfl) (by kernel_rfl) (by kernel_rfl)
        · subst hb10
          refine TS_go 23 ?_
          have ret := Option.some.inj h
          subst ret
          exact TS_ret (by kernel_rfl) (by kernel_rfl) (by kernel_rfl)
      · refine TS_know 32 (b := false) hb8 (by kernel_rfl) (by kernel_rfl) ?_
        refine TS_know 33 (b := false) hb8 (by kernel_rfl) (by kernel_rfl) ?_
        refine TS_know 34 (b := false) hb8 (by kernel_rfl) (by kernel_rfl) ?_
        refine TS_go 27 ?_
        have ret := Option.some.inj h
        subst ret
        exact TS_ret (by kernel_rfl) (by kernel_rfl) (by kernel_rfl)
    · subst hb7
      refine TS_go 31 ?_
      have ret := Option.some.inj h
      subst ret
      exact TS_ret (by kernel_rfl) (by kernel_rfl) (by kernel_rfl)
  · refine TS_know 15 (b := false) hb4 (by kernel_rfl) (by kernel_rfl) ?_
    refine TS_know 5 (b := false) hb4 (by kernel_rfl) (by kernel_rfl) ?_
    refine TS_know 16 (b := false) hb4 (by kernel_rfl) (by kernel_rfl) ?_
    refine TS_know 17 (b := true) (notT hb4) (by kernel_rfl) (by kernel_rfl) ?_
    refine TS_T (by kernel_rfl) rfl ?_
    refine TS_go 2 ?_
    replace h := bindO h
    obtain ⟨v15, hv15, h⟩ := h
    refine TS_call [] (ok_law05_known  v15 hv15) (by kernel_rfl) (by kernel_rfl) ?_
    refine TS_go 1 ?_
    replace h := condO h
    rcases h with ⟨hb16, h⟩ | ⟨hb16, h⟩
    · subst hb16
      refine TS_go 8 ?_
      have ret := Option.some.inj h
      subst ret
      exact TS_ret (by kernel_rfl) (by kernel_rfl) (by kernel_rfl)
    · subst hb16
      refine TS_go 8 ?_
      have ret := Option.some.inj h
      subst ret
      exact TS_ret (by kernel_rfl) (by kernel_rfl) (by kernel_rfl)

/-- multihop/multihopref05.AckFor -/
noncomputable def F_ref05_AckFor (a0 : S_Frame) : Option (S_Frame × Bool) :=
  (F_ref05_Valid a0).bind fun v1 =>
  bif v1 then
    bif a0.AckRequest then
      some (((S_Frame.mk 2 false false false a0.Seq 0 (S_Addr.mk 0 0 0) (S_Addr.mk 0 0 0) 0 0 ([] : List Int) ([] : List Int)), true))
    else
      some (((S_Frame.mk 0 false false false 0 0 (S_Addr.mk 0 0 0) (S_Addr.mk 0 0 0) 0 0 ([] : List Int) ([] : List Int)), false))
  else
    some (((S_Frame.mk 0 false false false 0 0 (S_Addr.mk 0 0 0) (S_Addr.mk 0 0 0) 0 0 ([] : List Int) ([] : List Int)), false))
set_option maxRecDepth 100000 in
set_option maxHeartbeats 40000000 in
theorem ok_ref05_AckFor (a0 : S_Frame) (r : S_Frame × Bool) (h : F_ref05_AckFor a0 = some r) : Con Try.prog 49 [.agg (S_Frame.cs a0)] [] (.tup [(true, S_Frame.cs r.1), (false, [.lit (.bool (r.2))])]) [] := by
  unfold F_ref05_AckFor at h
  refine con_of [[0, 0, 0, 0, 0, 0, 0, 0, 0, 0, 0, 0, 0, 0, 2, 2]] [] 16 Try.func49 rfl rfl (by kernel_rfl) (fun K => ?_)
  refine TS_go 10 ?_
  replace h := bindO h
  obtain ⟨v1, hv1, h⟩ := h
  refine TS_call [] (ok_ref05_Valid a0 v1 hv1) (by kernel_rfl) (by kernel_rfl) ?_
  refine TS_go 2 ?_
  replace h := condO h
  rcases h with ⟨hb2, h⟩ | ⟨hb2, h⟩
  · subst hb2
    refine TS_go 5 ?_
    replace h := condO h
    rcases h with ⟨hb3, h⟩ | ⟨hb3, h⟩
    · refine TS_know 9 (b := true) hb3 (by kernel_rfl) (by kernel_rfl) ?_
      refine TS_know 10 (b := false) (notF hb3) (by kernel_rfl) (by kernel_rfl) ?_
      refine TS_know 11 (b := false) (notF hb3) (by kernel_rfl) (by kernel_rfl) ?_
      refine TS_F (by kernel_rfl) rfl ?_
      refine TS_go 10 ?_
      have ret := Option.some.inj h
      subst ret
      exact TS_ret (by kernel_rfl) (by kernel_rfl) (by kernel_rfl)
    · refine TS_know 9 (b := false) hb3 (by kernel_rfl) (by kernel_rfl) ?_
      refine TS_know 10 (b := true) (notT hb3) (by kernel_rfl) (by kernel_rfl) ?_
      refine TS_know 11 (b := true) (notT hb3) (by kernel_rfl) (by kernel_rfl) ?_
      refine TS_T (by kernel_rfl) rfl ?_
      refine TS_go 8 ?_
      have ret := Option.some.inj h
      subst ret
      exact TS_ret (by kernel_rfl) (by kernel_rfl) (by kernel_rfl)
  · subst hb2
    refine TS_go 5 ?_
    refine TS_T (by kernel_rfl) rfl ?_
    refine TS_go 8 ?_
    have ret := Option.some.inj h
    subst ret
    exact TS_ret (by kernel_rfl) (by kernel_rfl) (by kernel_rfl)

/-- multihop/multihopref05.Header -/
noncomputable def F_ref05_Header_j1  (v1 : S_Frame) : Option ((List Int)) :=
  (F_ref05_header v1).bind fun v2 =>
  some (v2)
noncomputable def F_ref05_Header (a0 : S_Frame) : Option ((List Int)) :=
  (F_ref05_Valid a0).bind fun v3 =>
  bif v3 then
    (F_ref05_Header_j1) a0
  else
    (mkO 1 4 4).bind fun n5 =>
    (F_ref05_Valid (S_Frame.mk a0.Kind a0.AckRequest a0.Pending a0.Secure a0.Seq a0.Pan a0.Dst a0.Src a0.Counter a0.Key a0.Payload (List.replicate n5 (0 : Int)))).bind fun v6 =>
    bif v6 then
      (F_ref05_Header_j1) (S_Frame.mk a0.Kind a0.AckRequest a0.Pending a0.Secure a0.Seq a0.Pan a0.Dst a0.Src a0.Counter a0.Key a0.Payload (List.replicate n5 (0 : Int)))
    else
      some (([] : List Int))
set_option maxRecDepth 100000 in
set_option maxHeartbeats 40000000 in
theorem okT_ref05_Header (a0 : S_Frame) (r : (List Int)) (h : F_ref05_Header a0 = some r) : Con Try.prog 51 [.agg (S_Frame.cs a0)] [] (.c (.slc 1 900002 (List.length r) (List.map (ecI .u8) r))) [(900000, .spare 5 1 (List.length r))] := by
  unfold F_ref05_Header at h
  refine con_of [] [(900000, [])] 13 Try.func51 rfl rfl (by kernel_rfl) (fun K => ?_)
  refine TS_go 5 ?_
  refine TS_cut ⟨[(1, [])], [(1, (1, []))]⟩ (.mk [.code (codeAt [1] (bodyOf Try.f51))] .normal ⟨[(1, .c (.box 1 0))], [(1, .box [.lit (.int .i64 (a0.Kind)), .lit (.bool (a0.AckRequest)), .lit (.bool (a0.Pending)), .lit (.bool (a0.Secure)), .lit (.int .u8 (a0.Seq)), .lit (.int .u16 (a0.Pan)), .lit (.int .i64 (a0.Dst.Mode)), .lit (.int .u16 (a0.Dst.Short)), .lit (.int .u64 (a0.Dst.EUI)), .lit (.int .i64 (a0.Src.Mode)), .lit (.int .u16 (a0.Src.Short)), .lit (.int .u64 (a0.Src.EUI)), .lit (.int .u32 (a0.Counter)), .lit (.int .u8 (a0.Key)), .slc 1 0 (List.length a0.Payload) (List.map (ecI .u8) a0.Payload), .slc 1 0 (List.length a0.MIC) (List.map (ecI .u8) a0.MIC)])]⟩) (by kernel_rfl) (by kernel_rfl) ?_
  refine TS_joinB ⟨[(1, [])], [(1, (1, []))]⟩ (fun (v1 : S_Frame) => []) (fun (v1 : S_Frame) => [(1, .box (S_Frame.cs v1))]) (F_ref05_Header_j1) r ?_ ?_
  · clear h
    intro v1 h
    unfold F_ref05_Header_j1 at h
    refine TS_go 3 ?_
    replace h := bindO h
    obtain ⟨v2, hv2, h⟩ := h
    refine TS_con [] [(12, 900000)] none (okT_ref05_header v1 v2 hv2) (by kernel_rfl) (by kernel_rfl) (by kernel_rfl) ?_
    refine TS_go 2 ?_
    refine TS_fitU ⟨[(2, [])], [(12, (900000, []))]⟩ (by kernel_rfl) ?_
    refine TS_go 1 ?_
    have ret := Option.some.inj h
    subst ret
    exact TS_ret (by kernel_rfl) (by kernel_rfl) (by kernel_rfl)
  · refine TS_go 3 ?_
    replace h := bindO h
    obtain ⟨v3, hv3, h⟩ := h
    refine TS_call [] (ok_ref05_Valid a0 v3 hv3) (by kernel_rfl) (by kernel_rfl) ?_
    refine TS_go 2 ?_
    replace h := condO h
    rcases h with ⟨hb4, h⟩ | ⟨hb4, h⟩
    · subst hb4
      refine TS_F (by kernel_rfl) rfl ?_
      refine TS_go 1 ?_
      exact TS_meet a0 ⟨[(1, [])], [(1, (1, []))]⟩ h (by kernel_rfl) (by kernel_rfl)
    · subst hb4
      refine TS_T (by kernel_rfl) rfl ?_
      refine TS_go 2 ?_
      replace h := bindO h
      obtain ⟨n5, hn5, h⟩ := h
      refine TS_makeT 6 5 1 (ecI .u8) (0 : Int) [] (cs := [.lit (.int .u8 (0))]) (l := 4) (c := 4) hn5 (by kernel_rfl) (by kernel_rfl) (by kernel_rfl) ?_
      refine TS_go 6 ?_
      replace h := bindO h
      obtain ⟨v6, hv6, h⟩ := h
      refine TS_call [[0, 0, 0, 0, 0, 0, 0, 0, 0, 0, 0, 0, 0, 0, 2, 2]] (ok_ref05_Valid (S_Frame.mk a0.Kind a0.AckRequest a0.Pending a0.Secure a0.Seq a0.Pan a0.Dst a0.Src a0.Counter a0.Key a0.Payload (List.replicate n5 (0 : Int))) v6 hv6) (by kernel_rfl) (by kernel_rfl) ?_
      refine TS_go 2 ?_
      replace h := condO h
      rcases h with ⟨hb7, h⟩ | ⟨hb7, h⟩
      · subst hb7
        refine TS_F (by kernel_rfl) rfl ?_
        refine TS_go 1 ?_
        exact TS_meet (S_Frame.mk a0.Kind a0.AckRequest a0.Pending a0.Secure a0.Seq a0.Pan a0.Dst a0.Src a0.Counter a0.Key a0.Payload (List.replicate n5 (0 : Int))) ⟨[(1, [])], [(1, (1, [0, 0, 0, 0, 0, 0, 0, 0, 0, 0, 0, 0, 0, 0, 0, 2]))]⟩ h (by kernel_rfl) (by kernel_rfl)
      · subst hb7
        refine TS_T (by kernel_rfl) rfl ?_
        refine TS_go 4 ?_
        refine TS_nilT 2 600000 5 1 (by kernel_rfl) ?_
        refine TS_fitU ⟨[(2, [])], [(600000, (900000, []))]⟩ (by kernel_rfl) ?_
        refine TS_go 1 ?_
        refine TS_outJ (by kernel_rfl) ?_
        have ret := Option.some.inj h
        subst ret
        exact TS_ret (by kernel_rfl) (by kernel_rfl) (by kernel_rfl)
theorem ok_ref05_Header (a0 : S_Frame) (r : (List Int)) (h : F_ref05_Header a0 = some r) : Con Try.prog 51 [.agg (S_Frame.cs a0)] [] (.c (eS 1 (ecI .u8) (r))) [] :=
  con_drop [[2]] [] (okT_ref05_Header a0 r h) (by kernel_rfl) (by kernel_rfl) (by kernel_rfl)

/-- multihop/multihoplaw05.forms -/
noncomputable def F_law05_forms (a0 : S_Frame) : Option (Bool) :=
  (F_frame_Encode a0).bind fun v1 =>
  (F_ref05_Encode a0).bind fun v2 =>
  (F_frame_AckFor a0).bind fun v3 =>
  (F_ref05_AckFor a0).bind fun v4 =>
  (F_frame_Valid a0).bind fun v5 =>
  (F_ref05_Valid a0).bind fun v6 =>
  bif (v5 == v6) then
    (F_frame_Size a0).bind fun v8 =>
    (F_ref05_Size a0).bind fun v9 =>
    bif (v8 == v9) then
      (F_frame_Room a0).bind fun v11 =>
      (F_ref05_Room a0).bind fun v12 =>
      bif (v11 == v12) then
        (F_frame_Header a0).bind fun v14 =>
        (F_ref05_Header a0).bind fun v15 =>
        (F_ref01_Same v14 v15).bind fun v16 =>
        bif v16 then
          bif (v1.2 == v2.2) then
            (F_ref01_Same v1.1 v2.1).bind fun v19 =>
            bif v19 then
              bif (v3.2 == v4.2) then
                (F_ref05_Same v3.1 v4.1).bind fun v22 =>
                some (v22)
              else
                some (false)
            else
              some (false)
          else
            some (false)
        else
          some (false)
      else
        some (false)
    else
      some (false)
  else
    some (false)
set_option maxRecDepth 100000 in
set_option maxHeartbeats 40000000 in
theorem ok_law05_forms (a0 : S_Frame) (r : Bool) (h : F_law05_forms a0 = some r) : Con Try.prog 27 [.agg (S_Frame.cs a0)] [] (.c (.lit (.bool (r)))) [] := by
  unfold F_law05_forms at h
  refine con_of [] [] 77 Try.func27 rfl rfl (by kernel_rfl) (fun K => ?_)
  refine TS_go 8 ?_
  replace h := bindO h
  obtain ⟨v1, hv1, h⟩ := h
  refine TS_con [] [(13, 900000)] none (okT_frame_Encode a0 v1 hv1) (by kernel_rfl) (by kernel_rfl) (by kernel_rfl) ?_
  refine TS_go 9 ?_
  replace h := bindO h
  obtain ⟨v2, hv2, h⟩ := h
  refine TS_con [] [(18, 900000)] none (okT_ref05_Encode a0 v2 hv2) (by kernel_rfl) (by kernel_rfl) (by kernel_rfl) ?_
  refine TS_go 9 ?_
  replace h := bindO h
  obtain ⟨v3, hv3, h⟩ := h
  refine TS_call [] (ok_frame_AckFor a0 v3 hv3) (by kernel_rfl) (by kernel_rfl) ?_
  refine TS_go 10 ?_
  replace h := bindO h
  obtain ⟨v4, hv4, h⟩ := h
  refine TS_call [] (ok_ref05_AckFor a0 v4 hv4) (by kernel_rfl) (by kernel_rfl) ?_
  refine TS_go 8 ?_
  refine TS_draw (by kernel_rfl) ?_
  refine TD_go 1 ?_
  replace h := bindO h
  obtain ⟨v5, hv5, h⟩ := h
  refine TD_call [] (ok_frame_Valid a0 v5 hv5) (by kernel_rfl) (by kernel_rfl) ?_
  refine TD_go 1 ?_
  replace h := bindO h
  obtain ⟨v6, hv6, h⟩ := h
  refine TD_call [] (ok_ref05_Valid a0 v6 hv6) (by kernel_rfl) (by kernel_rfl) ?_
  refine TD_go 1 ?_
  replace h := condO h
  rcases h with ⟨hb7, h⟩ | ⟨hb7, h⟩
  · refine TD_know 36 (b := true) hb7 trivial (by kernel_rfl) (by kernel_rfl) ?_
    refine TD_go 1 ?_
    replace h := bindO h
    obtain ⟨v8, hv8, h⟩ := h
    refine TD_call [] (ok_frame_Size a0 v8 hv8) (by kernel_rfl) (by kernel_rfl) ?_
    refine TD_go 1 ?_
    replace h := bindO h
    obtain ⟨v9, hv9, h⟩ := h
    refine TD_call [] (ok_ref05_Size a0 v9 hv9) (by kernel_rfl) (by kernel_rfl) ?_
    refine TD_go 2 ?_
    replace h := condO h
    rcases h with ⟨hb10, h⟩ | ⟨hb10, h⟩
    · refine TD_know 43 (b := true) hb10 trivial (by kernel_rfl) (by kernel_rfl) ?_
      refine TD_go 1 ?_
      replace h := bindO h
      obtain ⟨v11, hv11, h⟩ := h
      refine TD_call [] (ok_frame_Room a0 v11 hv11) (by kernel_rfl) (by kernel_rfl) ?_
      refine TD_go 1 ?_
      replace h := bindO h
      obtain ⟨v12, hv12, h⟩ := h
      refine TD_call [] (ok_ref05_Room a0 v12 hv12) (by kernel_rfl) (by kernel_rfl) ?_
      refine TD_go 2 ?_
      replace h := condO h
      rcases h with ⟨hb13, h⟩ | ⟨hb13, h⟩
      · refine TD_know 50 (b := true) hb13 trivial (by kernel_rfl) (by kernel_rfl) ?_
        refine TD_go 1 ?_
        replace h := bindO h
        obtain ⟨v14, hv14, h⟩ := h
        refine TD_conX (d := 52) (e := 900000) [] (okT_frame_Header a0 v14 hv14) (by kernel_rfl) (by kernel_rfl) ?_
        refine TD_go 1 ?_
        replace h := bindO h
        obtain ⟨v15, hv15, h⟩ := h
        refine TD_conX (d := 54) (e := 900000) [] (okT_ref05_Header a0 v15 hv15) (by kernel_rfl) (by kernel_rfl) ?_
        replace h := bindO h
        obtain ⟨v16, hv16, h⟩ := h
        refine TD_call [[2], [2]] (ok_ref01_Same v14 v15 v16 hv16) (by kernel_rfl) (by kernel_rfl) ?_
        refine TD_go 2 ?_
        replace h := condO h
        rcases h with ⟨hb17, h⟩ | ⟨hb17, h⟩
        · subst hb17
          refine TD_go 4 ?_
          replace h := condO h
          rcases h with ⟨hb18, h⟩ | ⟨hb18, h⟩
          · refine TD_know 62 (b := true) hb18 trivial (by kernel_rfl) (by kernel_rfl) ?_
            refine TD_go 2 ?_
            replace h := bindO h
            obtain ⟨v19, hv19, h⟩ := h
            refine TD_call [[2], [2]] (ok_ref01_Same v1.1 v2.1 v19 hv19) (by kernel_rfl) (by kernel_rfl) ?_
            refine TD_go 2 ?_
            replace h := condO h
            rcases h with ⟨hb20, h⟩ | ⟨hb20, h⟩
            · subst hb20
              refine TD_go 4 ?_
              replace h := condO h
              rcases h with ⟨hb21, h⟩ | ⟨hb21, h⟩
              · refine TD_know 72 (b := true) hb21 trivial (by kernel_rfl) (by kernel_rfl) ?_
                refine TD_go 2 ?_
                replace h := bindO h
                obtain ⟨v22, hv22, h⟩ := h
                refine TD_call [] (ok_ref05_Same v3.1 v4.1 v22 hv22) (by kernel_rfl) (by kernel_rfl) ?_
                refine TD_go 2 ?_
                refine TD_end (by kernel_rfl) ?_
                refine TS_go 1 ?_
                have ret := Option.some.inj h
                subst ret
                exact TS_ret (by kernel_rfl) (by kernel_rfl) (by kernel_rfl)
              · refine TD_know 72 (b := false) hb21 trivial (by kernel_rfl) (by kernel_rfl) ?_
                refine TD_go 5 ?_
                refine TD_end (by kernel_rfl) ?_
                refine TS_go 1 ?_
                have ret := Option.some.inj h
                subst ret
                exact TS_ret (by kernel_rfl) (by kernel_rfl) (by kernel_rfl)
            · subst hb20
              refine TD_go 10 ?_
              refine TD_end (by kernel_rfl) ?_
              refine TS_go 1 ?_
              have ret := Option.some.inj h
              subst ret
              exact TS_ret (by kernel_rfl) (by kernel_rfl) (by kernel_rfl)
          · refine TD_know 62 (b := false) hb18 trivial (by kernel_rfl) (by kernel_rfl) ?_
            refine TD_go 15 ?_
            refine TD_end (by kernel_rfl) ?_
            refine TS_go 1 ?_
            have ret := Option.some.inj h
            subst ret
            exact TS_ret (by kernel_rfl) (by kernel_rfl) (by kernel_rfl)
        · subst hb17
          refine TD_go 20 ?_
          refine TD_end (by kernel_rfl) ?_
          refine TS_go 1 ?_
          have ret := Option.some.inj h
          subst ret
          exact TS_ret (by kernel_rfl) (by kernel_rfl) (by kernel_rfl)
      · refine TD_know 50 (b := false) hb13 trivial (by kernel_rfl) (by kernel_rfl) ?_
        refine TD_go 27 ?_
        refine TD_end (by kernel_rfl) ?_
        refine TS_go 1 ?_
        have ret := Option.some.inj h
        subst ret
        exact TS_ret (by kernel_rfl) (by kernel_rfl) (by kernel_rfl)
    · refine TD_know 43 (b := false) hb10 trivial (by kernel_rfl) (by kernel_rfl) ?_
      refine TD_go 34 ?_
      refine TD_end (by kernel_rfl) ?_
      refine TS_go 1 ?_
      have ret := Option.some.inj h
      subst ret
      exact TS_ret (by kernel_rfl) (by kernel_rfl) (by kernel_rfl)
  · refine TD_know 36 (b := false) hb7 trivial (by kernel_rfl) (by kernel_rfl) ?_
    refine TD_go 41 ?_
    refine TD_end (by kernel_rfl) ?_
    refine TS_go 1 ?_
    have ret := Option.some.inj h
    subst ret
    exact TS_ret (by kernel_rfl) (by kernel_rfl) (by kernel_rfl)

/-- (*multihop/multihopmade.Tape).Addr -/
noncomputable def F_made_Tape_Addr (a0 : S_multihopmade_Tape) : Option (S_Addr × S_multihopmade_Tape) :=
  (F_made_Tape_Next a0 6).bind fun v1 =>
  bif (v1.1 == 4) then
    some (((S_Addr.mk 2 65535 0), v1.2))
  else
    bif (v1.1 == 5) then
      some (((S_Addr.mk 0 0 0), v1.2))
    else
      (F_made_Tape_Device v1.2).bind fun v4 =>
      some ((v4.1, v4.2))
set_option maxRecDepth 100000 in
set_option maxHeartbeats 40000000 in
theorem ok_made_Tape_Addr (a0 : S_multihopmade_Tape) (r : S_Addr × S_multihopmade_Tape) (h : F_made_Tape_Addr a0 = some r) : Con Try.prog 52 [.c (.box 1000000 0)] [(1000000, .box (S_multihopmade_Tape.cs a0))] (.agg (S_Addr.cs r.1)) [(1000000, .box (S_multihopmade_Tape.cs r.2))] := by
  unfold F_made_Tape_Addr at h
  refine con_of [] [(1000000, [2])] 13 Try.func52 rfl rfl (by kernel_rfl) (fun K => ?_)
  refine TS_go 8 ?_
  replace h := bindO h
  obtain ⟨v1, hv1, h⟩ := h
  refine TS_con [] [] (some (1000000, 0)) (ok_made_Tape_Next a0 6 v1 hv1) (by kernel_rfl) (by kernel_rfl) (by kernel_rfl) ?_
  refine TS_go 7 ?_
  replace h := condO h
  rcases h with ⟨hb2, h⟩ | ⟨hb2, h⟩
  · refine TS_know 6 (b := true) hb2 (by kernel_rfl) (by kernel_rfl) ?_
    refine TS_know 5 (b := true) hb2 (by kernel_rfl) (by kernel_rfl) ?_
    refine TS_T (by kernel_rfl) rfl ?_
    refine TS_go 8 ?_
    have ret := Option.some.inj h
    subst ret
    exact TS_ret (by kernel_rfl) (by kernel_rfl) (by kernel_rfl)
  · refine TS_know 6 (b := false) hb2 (by kernel_rfl) (by kernel_rfl) ?_
    refine TS_know 5 (b := false) hb2 (by kernel_rfl) (by kernel_rfl) ?_
    refine TS_F (by kernel_rfl) rfl ?_
    refine TS_go 5 ?_
    replace h := condO h
    rcases h with ⟨hb3, h⟩ | ⟨hb3, h⟩
    · refine TS_know 9 (b := true) hb3 (by kernel_rfl) (by kernel_rfl) ?_
      refine TS_know 8 (b := true) hb3 (by kernel_rfl) (by kernel_rfl) ?_
      refine TS_T (by kernel_rfl) rfl ?_
      refine TS_go 8 ?_
      have ret := Option.some.inj h
      subst ret
      exact TS_ret (by kernel_rfl) (by kernel_rfl) (by kernel_rfl)
    · refine TS_know 9 (b := false) hb3 (by kernel_rfl) (by kernel_rfl) ?_
      refine TS_know 8 (b := false) hb3 (by kernel_rfl) (by kernel_rfl) ?_
      refine TS_F (by kernel_rfl) rfl ?_
      refine TS_go 5 ?_
      replace h := bindO h
      obtain ⟨v4, hv4, h⟩ := h
      refine TS_con [] [] (some (1000000, 0)) (ok_made_Tape_Device v1.2 v4 hv4) (by kernel_rfl) (by kernel_rfl) (by kernel_rfl) ?_
      refine TS_go 3 ?_
      have ret := Option.some.inj h
      subst ret
      exact TS_ret (by kernel_rfl) (by kernel_rfl) (by kernel_rfl)

/-- (*multihop/multihopmade.Tape).Spoiled -/
noncomputable def F_made_Tape_Spoiled_j1  (v1 : S_multihopmade_Tape × S_Frame) : Option (S_Frame × S_multihopmade_Tape) :=
  some ((v1.2, v1.1))
noncomputable def F_made_Tape_Spoiled (a0 : S_multihopmade_Tape) (a1 : S_Frame) : Option (S_Frame × S_multihopmade_Tape) :=
  (F_made_Tape_Next a0 8).bind fun v2 =>
  bif (v2.1 == 0) then
    (F_made_Tape_Next v2.2 6).bind fun v4 =>
    (F_made_Tape_Spoiled_j1) (v4.2, (S_Frame.mk (IntKind.wrap .i64 (v4.1 - 1)) a1.AckRequest a1.Pending a1.Secure a1.Seq a1.Pan a1.Dst a1.Src a1.Counter a1.Key a1.Payload a1.MIC))
  else
    bif (v2.1 == 1) then
      (F_made_Tape_Next v2.2 5).bind fun v6 =>
      (F_made_Tape_Next v6.2 2).bind fun v7 =>
      (F_made_Tape_Next v7.2 2).bind fun v8 =>
      (F_made_Tape_Spoiled_j1) (v8.2, (S_Frame.mk a1.Kind a1.AckRequest a1.Pending a1.Secure a1.Seq a1.Pan (S_Addr.mk v6.1 (IntKind.wrap .u16 v7.1) (IntKind.wrap .u64 v8.1)) a1.Src a1.Counter a1.Key a1.Payload a1.MIC))
    else
      bif (v2.1 == 2) then
        (F_made_Tape_Addr v2.2).bind fun v10 =>
        (F_made_Tape_Spoiled_j1) (v10.2, (S_Frame.mk a1.Kind a1.AckRequest a1.Pending a1.Secure a1.Seq a1.Pan a1.Dst v10.1 a1.Counter a1.Key a1.Payload a1.MIC))
      else
        bif (v2.1 == 3) then
          (F_made_Tape_Spoiled_j1) (v2.2, (S_Frame.mk a1.Kind a1.AckRequest a1.Pending (!a1.Secure) a1.Seq a1.Pan a1.Dst a1.Src a1.Counter a1.Key a1.Payload a1.MIC))
        else
          bif (v2.1 == 4) then
            (F_made_Tape_Bytes v2.2 6).bind fun v13 =>
            (F_made_Tape_Spoiled_j1) (v13.2, (S_Frame.mk a1.Kind a1.AckRequest a1.Pending a1.Secure a1.Seq a1.Pan a1.Dst a1.Src a1.Counter a1.Key a1.Payload v13.1))
          else
            bif (v2.1 == 5) then
              (F_ref05_Room a1).bind fun v15 =>
              (F_made_Tape_Fill v2.2 (IntKind.wrap .i64 ((IntKind.wrap .i64 (v15 + (List.length a1.Payload : Int))) + 1))).bind fun v16 =>
              (F_made_Tape_Spoiled_j1) (v16.2, (S_Frame.mk a1.Kind a1.AckRequest a1.Pending a1.Secure a1.Seq a1.Pan a1.Dst a1.Src a1.Counter a1.Key v16.1 a1.MIC))
            else
              bif (v2.1 == 6) then
                (F_made_Tape_Spoiled_j1) (v2.2, (S_Frame.mk a1.Kind a1.AckRequest a1.Pending a1.Secure a1.Seq a1.Pan a1.Dst a1.Src (IntKind.wrap .u32 (a1.Counter + 1)) a1.Key a1.Payload a1.MIC))
              else
                (F_made_Tape_Spoiled_j1) (v2.2, (S_Frame.mk a1.Kind (!a1.AckRequest) a1.Pending a1.Secure a1.Seq a1.Pan a1.Dst a1.Src a1.Counter a1.Key a1.Payload a1.MIC))
set_option maxRecDepth 100000 in
set_option maxHeartbeats 40000000 in
theorem ok_made_Tape_Spoiled (a0 : S_multihopmade_Tape) (a1 : S_Frame) (r : S_Frame × S_multihopmade_Tape) (h : F_made_Tape_Spoiled a0 a1 = some r) : Con Try.prog 28 [.c (.box 1000000 0), .agg (S_Frame.cs a1)] [(1000000, .box (S_multihopmade_Tape.cs a0))] (.agg (S_Frame.cs r.1)) [(1000000, .box (S_multihopmade_Tape.cs r.2))] := by
  unfold F_made_Tape_Spoiled at h
  refine con_of [[0, 0, 0, 0, 0, 0, 0, 0, 0, 0, 0, 0, 0, 0, 2, 2]] [(1000000, [2])] 64 Try.func28 rfl rfl (by kernel_rfl) (fun K => ?_)
  refine TS_go 5 ?_
  refine TS_cut ⟨[(0, []), (3, []), (4, [])], [(1000000, (1000000, [])), (3, (3, [])), (4, (4, []))]⟩ (.mk [.code (codeAt [1] (bodyOf Try.f28))] .normal ⟨[(0, .c (.box 1000000 0)), (3, .c (.box 3 0)), (4, .c (.box 4 0))], [(1000000, .box [.slc 1 0 (List.length a0.l) (List.map (ecI .i64) a0.l), .lit (.int .i64 (a0.at_))]), (3, .box [.lit (.int .i64 (a1.Kind)), .lit (.bool (a1.AckRequest)), .lit (.bool (a1.Pending)), .lit (.bool (a1.Secure)), .lit (.int .u8 (a1.Seq)), .lit (.int .u16 (a1.Pan)), .lit (.int .i64 (a1.Dst.Mode)), .lit (.int .u16 (a1.Dst.Short)), .lit (.int .u64 (a1.Dst.EUI)), .lit (.int .i64 (a1.Src.Mode)), .lit (.int .u16 (a1.Src.Short)), .lit (.int .u64 (a1.Src.EUI)), .lit (.int .u32 (a1.Counter)), .lit (.int .u8 (a1.Key)), .slc 1 0 (List.length a1.Payload) (List.map (ecI .u8) a1.Payload), .slc 1 0 (List.length a1.MIC) (List.map (ecI .u8) a1.MIC)]), (4, .box [.lit (.int .i64 (0)), .lit (.bool (false)), .lit (.bool (false)), .lit (.bool (false)), .lit (.int .u8 (0)), .lit (.int .u16 (0)), .lit (.int .i64 (0)), .lit (.int .u16 (0)), .lit (.int .u64 (0)), .lit (.int .i64 (0)), .lit (.int .u16 (0)), .lit (.int .u64 (0)), .lit (.int .u32 (0)), .lit (.int .u8 (0)), .lit (.slice none 0 0), .lit (.slice none 0 0)])]⟩) (by kernel_rfl) (by kernel_rfl) ?_
  refine TS_joinB ⟨[(3, []), (4, [])], [(1000000, (1000000, [])), (3, (3, [])), (4, (4, []))]⟩ (fun (v1 : S_multihopmade_Tape × S_Frame) => []) (fun (v1 : S_multihopmade_Tape × S_Frame) => [(1000000, .box (S_multihopmade_Tape.cs v1.1)), (3, .box (S_Frame.cs v1.2))]) (F_made_Tape_Spoiled_j1) r ?_ ?_
  · clear h
    intro v1 h
    unfold F_made_Tape_Spoiled_j1 at h
    refine TS_go 6 ?_
    have ret := Option.some.inj h
    subst ret
    exact TS_ret (by kernel_rfl) (by kernel_rfl) (by kernel_rfl)
  · refine TS_go 3 ?_
    replace h := bindO h
    obtain ⟨v2, hv2, h⟩ := h
    refine TS_con [] [] (some (1000000, 0)) (ok_made_Tape_Next a0 8 v2 hv2) (by kernel_rfl) (by kernel_rfl) (by kernel_rfl) ?_
    refine TS_go 7 ?_
    replace h := condO h
    rcases h with ⟨hb3, h⟩ | ⟨hb3, h⟩
    · refine TS_know 12 (b := true) hb3 (by kernel_rfl) (by kernel_rfl) ?_
      refine TS_know 11 (b := true) hb3 (by kernel_rfl) (by kernel_rfl) ?_
      refine TS_T (by kernel_rfl) rfl ?_
      refine TS_go 2 ?_
      replace h := bindO h
      obtain ⟨v4, hv4, h⟩ := h
      refine TS_con [] [] (some (1000000, 0)) (ok_made_Tape_Next v2.2 6 v4 hv4) (by kernel_rfl) (by kernel_rfl) (by kernel_rfl) ?_
      refine TS_go 5 ?_
      exact TS_meet (v4.2, (S_Frame.mk (IntKind.wrap .i64 (v4.1 - 1)) a1.AckRequest a1.Pending a1.Secure a1.Seq a1.Pan a1.Dst a1.Src a1.Counter a1.Key a1.Payload a1.MIC)) ⟨[(3, []), (4, [])], [(1000000, (1000000, [])), (3, (3, [])), (4, (4, []))]⟩ h (by kernel_rfl) (by kernel_rfl)
    · refine TS_know 12 (b := false) hb3 (by kernel_rfl) (by kernel_rfl) ?_
      refine TS_know 11 (b := false) hb3 (by kernel_rfl) (by kernel_rfl) ?_
      refine TS_F (by kernel_rfl) rfl ?_
      refine TS_go 5 ?_
      replace h := condO h
      rcases h with ⟨hb5, h⟩ | ⟨hb5, h⟩
      · refine TS_know 18 (b := true) hb5 (by kernel_rfl) (by kernel_rfl) ?_
        refine TS_know 17 (b := true) hb5 (by kernel_rfl) (by kernel_rfl) ?_
        refine TS_T (by kernel_rfl) rfl ?_
        refine TS_go 2 ?_
        replace h := bindO h
        obtain ⟨v6, hv6, h⟩ := h
        refine TS_con [] [] (some (1000000, 0)) (ok_made_Tape_Next v2.2 5 v6 hv6) (by kernel_rfl) (by kernel_rfl) (by kernel_rfl) ?_
        refine TS_go 1 ?_
        replace h := bindO h
        obtain ⟨v7, hv7, h⟩ := h
        refine TS_con [] [] (some (1000000, 0)) (ok_made_Tape_Next v6.2 2 v7 hv7) (by kernel_rfl) (by kernel_rfl) (by kernel_rfl) ?_
        refine TS_go 2 ?_
        replace h := bindO h
        obtain ⟨v8, hv8, h⟩ := h
        refine TS_con [] [] (some (1000000, 0)) (ok_made_Tape_Next v7.2 2 v8 hv8) (by kernel_rfl) (by kernel_rfl) (by kernel_rfl) ?_
        refine TS_go 6 ?_
        exact TS_meet (v8.2, (S_Frame.mk a1.Kind a1.AckRequest a1.Pending a1.Secure a1.Seq a1.Pan (S_Addr.mk v6.1 (IntKind.wrap .u16 v7.1) (IntKind.wrap .u64 v8.1)) a1.Src a1.Counter a1.Key a1.Payload a1.MIC)) ⟨[(3, []), (4, [])], [(1000000, (1000000, [])), (3, (3, [])), (4, (4, []))]⟩ h (by kernel_rfl) (by kernel_rfl)
      · refine TS_know 18 (b := false) hb5 (by kernel_rfl) (by kernel_rfl) ?_
        refine TS_know 17 (b := false) hb5 (by kernel_rfl) (by kernel_rfl) ?_
        refine TS_F (by kernel_rfl) rfl ?_
        refine TS_go 5 ?_
        replace h := condO h
        rcases h with ⟨hb9, h⟩ | ⟨hb9, h⟩
        · refine TS_know 30 (b := true) hb9 (by kernel_rfl) (by kernel_rfl) ?_
          refine TS_know 29 (b := true) hb9 (by kernel_rfl) (by kernel_rfl) ?_
          refine TS_T (by kernel_rfl) rfl ?_
          refine TS_go 2 ?_
          replace h := bindO h
          obtain ⟨v10, hv10, h⟩ := h
          refine TS_con [] [] (some (1000000, 0)) (ok_made_Tape_Addr v2.2 v10 hv10) (by kernel_rfl) (by kernel_rfl) (by kernel_rfl) ?_
          refine TS_go 4 ?_
          exact TS_meet (v10.2, (S_Frame.mk a1.Kind a1.AckRequest a1.Pending a1.Secure a1.Seq a1.Pan a1.Dst v10.1 a1.Counter a1.Key a1.Payload a1.MIC)) ⟨[(3, []), (4, [])], [(1000000, (1000000, [])), (3, (3, [])), (4, (4, []))]⟩ h (by kernel_rfl) (by kernel_rfl)
        · refine TS_know 30 (b := false) hb9 (by kernel_rfl) (by kernel_rfl) ?_
          refine TS_know 29 (b := false) hb9 (by kernel_rfl) (by kernel_rfl) ?_
          refine TS_F (by kernel_rfl) rfl ?_
          refine TS_go 5 ?_
          replace h := condO h
          rcases h with ⟨hb11, h⟩ | ⟨hb11, h⟩
          · refine TS_know 35 (b := true) hb11 (by kernel_rfl) (by kernel_rfl) ?_
            refine TS_know 34 (b := true) hb11 (by kernel_rfl) (by kernel_rfl) ?_
            refine TS_T (by kernel_rfl) rfl ?_
            refine TS_go 8 ?_
            exact TS_meet (v2.2, (S_Frame.mk a1.Kind a1.AckRequest a1.Pending (!a1.Secure) a1.Seq a1.Pan a1.Dst a1.Src a1.Counter a1.Key a1.Payload a1.MIC)) ⟨[(3, []), (4, [])], [(1000000, (1000000, [])), (3, (3, [])), (4, (4, []))]⟩ h (by kernel_rfl) (by kernel_rfl)
          · refine TS_know 35 (b := false) hb11 (by kernel_rfl) (by kernel_rfl) ?_
            refine TS_know 34 (b := false) hb11 (by kernel_rfl) (by kernel_rfl) ?_
            refine TS_F (by kernel_rfl) rfl ?_
            refine TS_go 5 ?_
            replace h := condO h
            rcases h with ⟨hb12, h⟩ | ⟨hb12, h⟩
            · refine TS_know 41 (b := true) hb12 (by kernel_rfl) (by kernel_rfl) ?_
              refine TS_know 40 (b := true) hb12 (by kernel_rfl) (by kernel_rfl) ?_
              refine TS_T (by kernel_rfl) rfl ?_
              refine TS_go 2 ?_
              replace h := bindO h
              obtain ⟨v13, hv13, h⟩ := h
              refine TS_con [] [(43, 900000)] (some (1000000, 0)) (okT_made_Tape_Bytes v2.2 6 v13 hv13) (by kernel_rfl) (by kernel_rfl) (by kernel_rfl) ?_
              refine TS_go 4 ?_
              exact TS_meet (v13.2, (S_Frame.mk a1.Kind a1.AckRequest a1.Pending a1.Secure a1.Seq a1.Pan a1.Dst a1.Src a1.Counter a1.Key a1.Payload v13.1)) ⟨[(3, []), (4, [])], [(1000000, (1000000, [])), (3, (3, [0, 0, 0, 0, 0, 0, 0, 0, 0, 0, 0, 0, 0, 0, 0, 2])), (4, (4, []))]⟩ h (by kernel_rfl) (by kernel_rfl)
            · refine TS_know 41 (b := false) hb12 (by kernel_rfl) (by kernel_rfl) ?_
              refine TS_know 40 (b := false) hb12 (by kernel_rfl) (by kernel_rfl) ?_
              refine TS_F (by kernel_rfl) rfl ?_
              refine TS_go 5 ?_
              replace h := condO h
              rcases h with ⟨hb14, h⟩ | ⟨hb14, h⟩
              · refine TS_know 46 (b := true) hb14 (by kernel_rfl) (by kernel_rfl) ?_
                refine TS_know 45 (b := true) hb14 (by kernel_rfl) (by kernel_rfl) ?_
                refine TS_T (by kernel_rfl) rfl ?_
                refine TS_draw (by kernel_rfl) ?_
                refine TD_go 2 ?_
                replace h := bindO h
                obtain ⟨v15, hv15, h⟩ := h
                refine TD_call [] (ok_ref05_Room a1 v15 hv15) (by kernel_rfl) (by kernel_rfl) ?_
                refine TD_go 5 ?_
                replace h := bindO h
                obtain ⟨v16, hv16, h⟩ := h
                refine TD_con (_h := []) (_h' := []) [] 1000000 0 [.slc 1 0 (List.length v2.2.l) (List.map (ecI .i64) v2.2.l), .lit (.int .i64 (v2.2.at_))] _ _ (ok_made_Tape_Fill v2.2 (IntKind.wrap .i64 ((IntKind.wrap .i64 (v15 + (List.length a1.Payload : Int))) + 1)) v16 hv16) (by kernel_rfl) (by kernel_rfl) (by kernel_rfl) (by kernel_rfl) ?_
                refine TD_go 2 ?_
                refine TD_end (by kernel_rfl) ?_
                refine TS_go 1 ?_
                exact TS_meet (v16.2, (S_Frame.mk a1.Kind a1.AckRequest a1.Pending a1.Secure a1.Seq a1.Pan a1.Dst a1.Src a1.Counter a1.Key v16.1 a1.MIC)) ⟨[(3, []), (4, [])], [(1000000, (1000000, [])), (3, (3, [])), (4, (4, []))]⟩ h (by kernel_rfl) (by kernel_rfl)
              · refine TS_know 46 (b := false) hb14 (by kernel_rfl) (by kernel_rfl) ?_
                refine TS_know 45 (b := false) hb14 (by kernel_rfl) (by kernel_rfl) ?_
                refine TS_F (by kernel_rfl) rfl ?_
                refine TS_go 5 ?_
                replace h := condO h
                rcases h with ⟨hb17, h⟩ | ⟨hb17, h⟩
                · refine TS_know 58 (b := true) hb17 (by kernel_rfl) (by kernel_rfl) ?_
                  refine TS_know 57 (b := true) hb17 (by kernel_rfl) (by kernel_rfl) ?_
                  refine TS_T (by kernel_rfl) rfl ?_
                  refine TS_go 8 ?_
                  exact TS_meet (v2.2, (S_Frame.mk a1.Kind a1.AckRequest a1.Pending a1.Secure a1.Seq a1.Pan a1.Dst a1.Src (IntKind.wrap .u32 (a1.Counter + 1)) a1.Key a1.Payload a1.MIC)) ⟨[(3, []), (4, [])], [(1000000, (1000000, [])), (3, (3, [])), (4, (4, []))]⟩ h (by kernel_rfl) (by kernel_rfl)
                · refine TS_know 58 (b := false) hb17 (by kernel_rfl) (by kernel_rfl) ?_
                  refine TS_know 57 (b := false) hb17 (by kernel_rfl) (by kernel_rfl) ?_
                  refine TS_F (by kernel_rfl) rfl ?_
                  refine TS_go 8 ?_
                  exact TS_meet (v2.2, (S_Frame.mk a1.Kind (!a1.AckRequest) a1.Pending a1.Secure a1.Seq a1.Pan a1.Dst a1.Src a1.Counter a1.Key a1.Payload a1.MIC)) ⟨[(3, []), (4, [])], [(1000000, (1000000, [])), (3, (3, [])), (4, (4, []))]⟩ h (by kernel_rfl) (by kernel_rfl)

/-- multihop/multihoplaw05.FrameForms -/
noncomputable def F_law05_FrameForms (a0 : S_Frame) (a1 : List Int) : Option (Bool) :=
  (F_made_New a1).bind fun v1 =>
  (F_made_Tape_AnyFrame v1).bind fun v2 =>
  (F_law05_known ).bind fun v3 =>
  bif v3 then
    (F_law05_forms a0).bind fun v5 =>
    bif v5 then
      (F_law05_forms v2.1).bind fun v7 =>
      bif v7 then
        (F_made_Tape_Spoiled v2.2 v2.1).bind fun v9 =>
        (F_law05_forms v9.1).bind fun v10 =>
        bif v10 then
          (F_made_Tape_Frame v9.2 4).bind fun v12 =>
          (F_made_Tape_Spoiled v12.2 v12.1).bind fun v13 =>
          (F_law05_forms v13.1).bind fun v14 =>
          some (v14)
        else
          some (false)
      else
        some (false)
    else
      some (false)
  else
    some (false)
set_option maxRecDepth 100000 in
set_option maxHeartbeats 40000000 in
theorem ok_law05_FrameForms (a0 : S_Frame) (a1 : List Int) (r : Bool) (h : F_law05_FrameForms a0 a1 = some r) : Con Try.prog 10 [.agg (S_Frame.cs a0), .c (eS 1 (ecI .i64) (a1))] [] (.c (.lit (.bool (r)))) [] := by
  unfold F_law05_FrameForms at h
  refine con_of [] [] 33 Try.func10 rfl rfl (by kernel_rfl) (fun K => ?_)
  refine TS_go 8 ?_
  replace h := bindO h
  obtain ⟨v1, hv1, h⟩ := h
  refine TS_con [] [(8, 10)] none (ok_made_New a1 v1 hv1) (by kernel_rfl) (by kernel_rfl) (by kernel_rfl) ?_
  refine TS_go 5 ?_
  replace h := bindO h
  obtain ⟨v2, hv2, h⟩ := h
  refine TS_con [] [] (some (8, 0)) (ok_made_Tape_AnyFrame v1 v2 hv2) (by kernel_rfl) (by kernel_rfl) (by kernel_rfl) ?_
  refine TS_go 5 ?_
  replace h := bindO h
  obtain ⟨v3, hv3, h⟩ := h
  refine TS_call [] (ok_law05_known  v3 hv3) (by kernel_rfl) (by kernel_rfl) ?_
  refine TS_go 1 ?_
  replace h := condO h
  rcases h with ⟨hb4, h⟩ | ⟨hb4, h⟩
  · subst hb4
    refine TS_go 1 ?_
    replace h := bindO h
    obtain ⟨v5, hv5, h⟩ := h
    refine TS_call [] (ok_law05_forms a0 v5 hv5) (by kernel_rfl) (by kernel_rfl) ?_
    refine TS_go 2 ?_
    replace h := condO h
    rcases h with ⟨hb6, h⟩ | ⟨hb6, h⟩
    · subst hb6
      refine TS_go 1 ?_
      replace h := bindO h
      obtain ⟨v7, hv7, h⟩ := h
      refine TS_call [] (ok_law05_forms v2.1 v7 hv7) (by kernel_rfl) (by kernel_rfl) ?_
      refine TS_go 2 ?_
      replace h := condO h
      rcases h with ⟨hb8, h⟩ | ⟨hb8, h⟩
      · subst hb8
        refine TS_go 2 ?_
        replace h := bindO h
        obtain ⟨v9, hv9, h⟩ := h
        refine TS_con [] [] (some (8, 0)) (ok_made_Tape_Spoiled v2.2 v2.1 v9 hv9) (by kernel_rfl) (by kernel_rfl) (by kernel_rfl) ?_
        replace h := bindO h
        obtain ⟨v10, hv10, h⟩ := h
        refine TS_call [] (ok_law05_forms v9.1 v10 hv10) (by kernel_rfl) (by kernel_rfl) ?_
        refine TS_go 2 ?_
        replace h := condO h
        rcases h with ⟨hb11, h⟩ | ⟨hb11, h⟩
        · subst hb11
          refine TS_go 2 ?_
          replace h := bindO h
          obtain ⟨v12, hv12, h⟩ := h
          refine TS_con [] [(29, 900014)] (some (8, 0)) (okT_made_Tape_Frame v9.2 4 v12 hv12) (by kernel_rfl) (by kernel_rfl) (by kernel_rfl) ?_
          replace h := bindO h
          obtain ⟨v13, hv13, h⟩ := h
          refine TS_con [[], [0, 0, 0, 0, 0, 0, 0, 0, 0, 0, 0, 0, 0, 0, 2, 2]] [] (some (8, 0)) (ok_made_Tape_Spoiled v12.2 v12.1 v13 hv13) (by kernel_rfl) (by kernel_rfl) (by kernel_rfl) ?_
          replace h := bindO h
          obtain ⟨v14, hv14, h⟩ := h
          refine TS_call [] (ok_law05_forms v13.1 v14 hv14) (by kernel_rfl) (by kernel_rfl) ?_
          refine TS_go 4 ?_
          have ret := Option.some.inj h
          subst ret
          exact TS_ret (by kernel_rfl) (by kernel_rfl) (by kernel_rfl)
        · subst hb11
          refine TS_go 9 ?_
          have ret := Option.some.inj h
          subst ret
          exact TS_ret (by kernel_rfl) (by kernel_rfl) (by kernel_rfl)
      · subst hb8
        refine TS_go 15 ?_
        have ret := Option.some.inj h
        subst ret
        exact TS_ret (by kernel_rfl) (by kernel_rfl) (by kernel_rfl)
    · subst hb6
      refine TS_go 19 ?_
      have ret := Option.some.inj h
      subst ret
      exact TS_ret (by kernel_rfl) (by kernel_rfl) (by kernel_rfl)
  · subst hb4
    refine TS_go 23 ?_
    have ret := Option.some.inj h
    subst ret
    exact TS_ret (by kernel_rfl) (by kernel_rfl) (by kernel_rfl)

end Go.Proofs.Ytohfnlkjdjmipaa
