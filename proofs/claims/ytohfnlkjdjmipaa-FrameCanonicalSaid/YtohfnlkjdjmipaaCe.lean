/-
  Written by cc3.py: what the Go functions compute, as plain functions, and that they do.
-/
import Derived.Test.YtohfnlkjdjmipaaCe2
namespace Go.Proofs.Ytohfnlkjdjmipaa
open Go.RowKit
attribute [local irreducible] TS go TD goD

/-- multihop/multihopref05.Same -/
noncomputable def F_ref05_Same (a0 : S_Frame) (a1 : S_Frame) : Option (Bool) :=
  bif (a0.Kind == a1.Kind) then
    bif (a0.AckRequest == a1.AckRequest) then
      bif (a0.Pending == a1.Pending) then
        bif (a0.Secure == a1.Secure) then
          bif (a0.Seq == a1.Seq) then
            bif (a0.Pan == a1.Pan) then
              bif (S_Addr.eqb a0.Dst a1.Dst) then
                bif (S_Addr.eqb a0.Src a1.Src) then
                  bif (a0.Counter == a1.Counter) then
                    bif (a0.Key == a1.Key) then
                      (F_ref01_Same a0.Payload a1.Payload).bind fun v11 =>
                      bif v11 then
                        (F_ref01_Same a0.MIC a1.MIC).bind fun v13 =>
                        some (v13)
                      else
                        some (false)
                    else
                      some (false)
                  else
                    some (false)
                else
                  some (false)
              else
                some (false)
            else
              some (false)
          else
            some (false)
        else
          some (false)
      else
        some (false)
    else
      some (false)
  else
    some (false)
set_option maxRecDepth 100000 in
set_option maxHeartbeats 40000000 in
theorem ok_ref05_Same (a0 : S_Frame) (a1 : S_Frame) (r : Bool) (h : F_ref05_Same a0 a1 = some r) : Con Try.prog 22 [.agg (S_Frame.cs a0), .agg (S_Frame.cs a1)] [] (.c (.lit (.bool (r)))) [] := by
  unfold F_ref05_Same at h
  refine con_of [] [] 87 Try.func22 rfl rfl (by kernel_rfl) (fun K => ?_)
  refine TS_go 14 ?_
  replace h := condO h
  rcases h with ⟨hb1, h⟩ | ⟨hb1, h⟩
  · refine TS_know 9 (b := true) hb1 (by kernel_rfl) (by kernel_rfl) ?_
    refine TS_know 10 (b := true) hb1 (by kernel_rfl) (by kernel_rfl) ?_
    refine TS_go 7 ?_
    replace h := condO h
    rcases h with ⟨hb2, h⟩ | ⟨hb2, h⟩
    · refine TS_know 15 (b := true) hb2 (by kernel_rfl) (by kernel_rfl) ?_
      refine TS_know 16 (b := true) hb2 (by kernel_rfl) (by kernel_rfl) ?_
      refine TS_know 17 (b := true) hb2 (by kernel_rfl) (by kernel_rfl) ?_
      refine TS_go 7 ?_
      replace h := condO h
      rcases h with ⟨hb3, h⟩ | ⟨hb3, h⟩
      · refine TS_know 22 (b := true) hb3 (by kernel_rfl) (by kernel_rfl) ?_
        refine TS_know 23 (b := true) hb3 (by kernel_rfl) (by kernel_rfl) ?_
        refine TS_know 24 (b := true) hb3 (by kernel_rfl) (by kernel_rfl) ?_
        refine TS_go 7 ?_
        replace h := condO h
        rcases h with ⟨hb4, h⟩ | ⟨hb4, h⟩
        · refine TS_know 29 (b := true) hb4 (by kernel_rfl) (by kernel_rfl) ?_
          refine TS_know 30 (b := true) hb4 (by kernel_rfl) (by kernel_rfl) ?_
          refine TS_know 31 (b := true) hb4 (by kernel_rfl) (by kernel_rfl) ?_
          refine TS_go 7 ?_
          replace h := condO h
          rcases h with ⟨hb5, h⟩ | ⟨hb5, h⟩
          · refine TS_know 36 (b := true) hb5 (by kernel_rfl) (by kernel_rfl) ?_
            refine TS_know 37 (b := true) hb5 (by kernel_rfl) (by kernel_rfl) ?_
            refine TS_know 38 (b := true) hb5 (by kernel_rfl) (by kernel_rfl) ?_
            refine TS_go 7 ?_
            replace h := condO h
            rcases h with ⟨hb6, h⟩ | ⟨hb6, h⟩
            · refine TS_know 43 (b := true) hb6 (by kernel_rfl) (by kernel_rfl) ?_
              refine TS_know 44 (b := true) hb6 (by kernel_rfl) (by kernel_rfl) ?_
              refine TS_know 45 (b := true) hb6 (by kernel_rfl) (by kernel_rfl) ?_
              refine TS_go 7 ?_
              replace h := condO h
              rcases h with ⟨hb7, h⟩ | ⟨hb7, h⟩
              · refine TS_know 50 (b := true) hb7 (by kernel_rfl) (by kernel_rfl) ?_
                refine TS_know 51 (b := true) hb7 (by kernel_rfl) (by kernel_rfl) ?_
                refine TS_know 52 (b := true) hb7 (by kernel_rfl) (by kernel_rfl) ?_
                refine TS_go 7 ?_
                replace h := condO h
                rcases h with ⟨hb8, h⟩ | ⟨hb8, h⟩
                · refine TS_know 57 (b := true) hb8 (by kernel_rfl) (by kernel_rfl) ?_
                  refine TS_know 58 (b := true) hb8 (by kernel_rfl) (by kernel_rfl) ?_
                  refine TS_know 59 (b := true) hb8 (by kernel_rfl) (by kernel_rfl) ?_
                  refine TS_go 7 ?_
                  replace h := condO h
                  rcases h with ⟨hb9, h⟩ | ⟨hb9, h⟩
                  · refine TS_know 64 (b := true) hb9 (by kernel_rfl) (by kernel_rfl) ?_
                    refine TS_know 65 (b := true) hb9 (by kernel_rfl) (by kernel_rfl) ?_
                    refine TS_know 66 (b := true) hb9 (by kernel_rfl) (by kernel_rfl) ?_
                    refine TS_go 7 ?_
                    replace h := condO h
                    rcases h with ⟨hb10, h⟩ | ⟨hb10, h⟩
                    · refine TS_know 71 (b := true) hb10 (by kernel_rfl) (by kernel_rfl) ?_
                      refine TS_know 72 (b := true) hb10 (by kernel_rfl) (by kernel_rfl) ?_
                      refine TS_know 73 (b := true) hb10 (by kernel_rfl) (by kernel_rfl) ?_
                      refine TS_go 4 ?_
                      replace h := bindO h
                      obtain ⟨v11, hv11, h⟩ := h
                      refine TS_call [] (ok_ref01_Same a0.Payload a1.Payload v11 hv11) (by kernel_rfl) (by kernel_rfl) ?_
                      refine TS_go 2 ?_
                      replace h := condO h
                      rcases h with ⟨hb12, h⟩ | ⟨hb12, h⟩
                      · subst hb12
                        refine TS_go 4 ?_
                        replace h := bindO h
                        obtain ⟨v13, hv13, h⟩ := h
                        refine TS_call [] (ok_ref01_Same a0.MIC a1.MIC v13 hv13) (by kernel_rfl) (by kernel_rfl) ?_
                        refine TS_go 4 ?_
                        obtain rfl := Option.some.inj h
                        exact TS_ret (by kernel_rfl) (by kernel_rfl) (by kernel_rfl)
                      · subst hb12
                        refine TS_go 9 ?_
                        obtain rfl := Option.some.inj h
                        exact TS_ret (by kernel_rfl) (by kernel_rfl) (by kernel_rfl)
                    · refine TS_know 71 (b := false) hb10 (by kernel_rfl) (by kernel_rfl) ?_
                      refine TS_know 72 (b := false) hb10 (by kernel_rfl) (by kernel_rfl) ?_
                      refine TS_know 73 (b := false) hb10 (by kernel_rfl) (by kernel_rfl) ?_
                      refine TS_go 16 ?_
                      obtain rfl := Option.some.inj h
                      exact TS_ret (by kernel_rfl) (by kernel_rfl) (by kernel_rfl)
                  · refine TS_know 64 (b := false) hb9 (by kernel_rfl) (by kernel_rfl) ?_
                    refine TS_know 65 (b := false) hb9 (by kernel_rfl) (by kernel_rfl) ?_
                    refine TS_know 66 (b := false) hb9 (by kernel_rfl) (by kernel_rfl) ?_
                    refine TS_go 23 ?_
                    obtain rfl := Option.some.inj h
                    exact TS_ret (by kernel_rfl) (by kernel_rfl) (by kernel_rfl)
                · refine TS_know 57 (b := false) hb8 (by kernel_rfl) (by kernel_rfl) ?_
                  refine TS_know 58 (b := false) hb8 (by kernel_rfl) (by kernel_rfl) ?_
                  refine TS_know 59 (b := false) hb8 (by kernel_rfl) (by kernel_rfl) ?_
                  refine TS_go 30 ?_
                  obtain rfl := Option.some.inj h
                  exact TS_ret (by kernel_rfl) (by kernel_rfl) (by kernel_rfl)
              · refine TS_know 50 (b := false) hb7 (by kernel_rfl) (by kernel_rfl) ?_
                refine TS_know 51 (b := false) hb7 (by kernel_rfl) (by kernel_rfl) ?_
                refine TS_know 52 (b := false) hb7 (by kernel_rfl) (by kernel_rfl) ?_
                refine TS_go 37 ?_
                obtain rfl := Option.some.inj h
                exact TS_ret (by kernel_rfl) (by kernel_rfl) (by kernel_rfl)
            · refine TS_know 43 (b := false) hb6 (by kernel_rfl) (by kernel_rfl) ?_
              refine TS_know 44 (b := false) hb6 (by kernel_rfl) (by kernel_rfl) ?_
              refine TS_know 45 (b := false) hb6 (by kernel_rfl) (by kernel_rfl) ?_
              refine TS_go 44 ?_
              obtain rfl := Option.some.inj h
              exact TS_ret (by kernel_rfl) (by kernel_rfl) (by kernel_rfl)
          · refine TS_know 36 (b := false) hb5 (by kernel_rfl) (by kernel_rfl) ?_
            refine TS_know 37 (b := false) hb5 (by kernel_rfl) (by kernel_rfl) ?_
            refine TS_know 38 (b := false) hb5 (by kernel_rfl) (by kernel_rfl) ?_
            refine TS_go 51 ?_
            obtain rfl := Option.some.inj h
            exact TS_ret (by kernel_rfl) (by kernel_rfl) (by kernel_rfl)
        · refine TS_know 29 (b := false) hb4 (by kernel_rfl) (by kernel_rfl) ?_
          refine TS_know 30 (b := false) hb4 (by kernel_rfl) (by kernel_rfl) ?_
          refine TS_know 31 (b := false) hb4 (by kernel_rfl) (by kernel_rfl) ?_
          refine TS_go 58 ?_
          obtain rfl := Option.some.inj h
          exact TS_ret (by kernel_rfl) (by kernel_rfl) (by kernel_rfl)
      · refine TS_know 22 (b := false) hb3 (by kernel_rfl) (by kernel_rfl) ?_
        refine TS_know 23 (b := false) hb3 (by kernel_rfl) (by kernel_rfl) ?_
        refine TS_know 24 (b := false) hb3 (by kernel_rfl) (by kernel_rfl) ?_
        refine TS_go 65 ?_
        obtain rfl := Option.some.inj h
        exact TS_ret (by kernel_rfl) (by kernel_rfl) (by kernel_rfl)
    · refine TS_know 15 (b := false) hb2 (by kernel_rfl) (by kernel_rfl) ?_
      refine TS_know 16 (b := false) hb2 (by kernel_rfl) (by kernel_rfl) ?_
      refine TS_know 17 (b := false) hb2 (by kernel_rfl) (by kernel_rfl) ?_
      refine TS_go 72 ?_
      obtain rfl := Option.some.inj h
      exact TS_ret (by kernel_rfl) (by kernel_rfl) (by kernel_rfl)
  · refine TS_know 9 (b := false) hb1 (by kernel_rfl) (by kernel_rfl) ?_
    refine TS_know 10 (b := false) hb1 (by kernel_rfl) (by kernel_rfl) ?_
    refine TS_go 79 ?_
    obtain rfl := Option.some.inj h
    exact TS_ret (by kernel_rfl) (by kernel_rfl) (by kernel_rfl)

/-- multihop/frame.Size -/
noncomputable def F_frame_Size (a0 : S_Frame) : Option (Int) :=
  (F_frame_Valid a0).bind fun v1 =>
  bif v1 then
    (F_frame_length a0).bind fun v3 =>
    some (v3)
  else
    some (0)
set_option maxRecDepth 100000 in
set_option maxHeartbeats 40000000 in
theorem ok_frame_Size (a0 : S_Frame) (r : Int) (h : F_frame_Size a0 = some r) : Con Try.prog 24 [.agg (S_Frame.cs a0)] [] (.c (.lit (.int .i64 (r)))) [] := by
  unfold F_frame_Size at h
  refine con_of [] [] 8 Try.func24 rfl rfl (by kernel_rfl) (fun K => ?_)
  refine TS_go 9 ?_
  replace h := bindO h
  obtain ⟨v1, hv1, h⟩ := h
  refine TS_call [] (ok_frame_Valid a0 v1 hv1) (by kernel_rfl) (by kernel_rfl) ?_
  refine TS_go 2 ?_
  replace h := condO h
  rcases h with ⟨hb2, h⟩ | ⟨hb2, h⟩
  · subst hb2
    refine TS_F (by kernel_rfl) rfl ?_
    refine TS_go 4 ?_
    replace h := bindO h
    obtain ⟨v3, hv3, h⟩ := h
    refine TS_call [] (ok_frame_length a0 v3 hv3) (by kernel_rfl) (by kernel_rfl) ?_
    refine TS_go 3 ?_
    obtain rfl := Option.some.inj h
    exact TS_ret (by kernel_rfl) (by kernel_rfl) (by kernel_rfl)
  · subst hb2
    refine TS_T (by kernel_rfl) rfl ?_
    refine TS_go 6 ?_
    obtain rfl := Option.some.inj h
    exact TS_ret (by kernel_rfl) (by kernel_rfl) (by kernel_rfl)

/-- multihop/multihoplaw05.FrameBack -/
noncomputable def F_law05_FrameBack (a0 : List Int) : Option (Bool) :=
  (F_made_New a0).bind fun v1 =>
  (F_made_Tape_AnyFrame v1).bind fun v2 =>
  (F_frame_Encode v2.1).bind fun v3 =>
  (F_frame_Decode v3.1).bind fun v4 =>
  (F_law05_known ).bind fun v5 =>
  bif v5 then
    bif (v3.2 == 0) then
      bif (v4.2 == 0) then
        (F_ref05_Same v2.1 v4.1).bind fun v9 =>
        bif v9 then
          (F_frame_Valid v2.1).bind fun v11 =>
          bif v11 then
            (F_frame_Size v2.1).bind fun v13 =>
            bif ((List.length v3.1 : Int) == v13) then
              some ((decide ((List.length v3.1 : Int) ≤ 127)))
            else
              some (false)
          else
            some (false)
        else
          some (false)
      else
        some (false)
    else
      some (false)
  else
    some (false)
set_option maxRecDepth 100000 in
set_option maxHeartbeats 40000000 in
theorem ok_law05_FrameBack (a0 : List Int) (r : Bool) (h : F_law05_FrameBack a0 = some r) : Con Try.prog 7 [.c (eS 1 (ecI .i64) (a0))] [] (.c (.lit (.bool (r)))) [] := by
  unfold F_law05_FrameBack at h
  refine con_of [] [] 51 Try.func7 rfl rfl (by kernel_rfl) (fun K => ?_)
  refine TS_go 7 ?_
  replace h := bindO h
  obtain ⟨v1, hv1, h⟩ := h
  refine TS_con [] [(9, 10)] none (ok_made_New a0 v1 hv1) (by kernel_rfl) (by kernel_rfl) (by kernel_rfl) ?_
  replace h := bindO h
  obtain ⟨v2, hv2, h⟩ := h
  refine TS_con [] [] (some (9, 0)) (ok_made_Tape_AnyFrame v1 v2 hv2) (by kernel_rfl) (by kernel_rfl) (by kernel_rfl) ?_
  refine TS_go 6 ?_
  replace h := bindO h
  obtain ⟨v3, hv3, h⟩ := h
  refine TS_con [] [(13, 900000)] none (okT_frame_Encode v2.1 v3 hv3) (by kernel_rfl) (by kernel_rfl) (by kernel_rfl) ?_
  refine TS_go 9 ?_
  replace h := bindO h
  obtain ⟨v4, hv4, h⟩ := h
  refine TS_call [[2]] (ok_frame_Decode v3.1 v4 hv4) (by kernel_rfl) (by kernel_rfl) ?_
  refine TS_go 9 ?_
  replace h := bindO h
  obtain ⟨v5, hv5, h⟩ := h
  refine TS_call [] (ok_law05_known  v5 hv5) (by kernel_rfl) (by kernel_rfl) ?_
  refine TS_go 1 ?_
  replace h := condO h
  rcases h with ⟨hb6, h⟩ | ⟨hb6, h⟩
  · subst hb6
    refine TS_go 4 ?_
    replace h := condO h
    rcases h with ⟨hb7, h⟩ | ⟨hb7, h⟩
    · refine TS_know 24 (b := true) hb7 (by kernel_rfl) (by kernel_rfl) ?_
      refine TS_know 25 (b := true) hb7 (by kernel_rfl) (by kernel_rfl) ?_
      refine TS_know 26 (b := true) hb7 (by kernel_rfl) (by kernel_rfl) ?_
      refine TS_go 4 ?_
      replace h := condO h
      rcases h with ⟨hb8, h⟩ | ⟨hb8, h⟩
      · refine TS_know 28 (b := true) hb8 (by kernel_rfl) (by kernel_rfl) ?_
        refine TS_know 29 (b := true) hb8 (by kernel_rfl) (by kernel_rfl) ?_
        refine TS_know 30 (b := true) hb8 (by kernel_rfl) (by kernel_rfl) ?_
        refine TS_go 2 ?_
        replace h := bindO h
        obtain ⟨v9, hv9, h⟩ := h
        refine TS_call [] (ok_ref05_Same v2.1 v4.1 v9 hv9) (by kernel_rfl) (by kernel_rfl) ?_
        refine TS_go 2 ?_
        replace h := condO h
        rcases h with ⟨hb10, h⟩ | ⟨hb10, h⟩
        · subst hb10
          refine TS_go 1 ?_
          replace h := bindO h
          obtain ⟨v11, hv11, h⟩ := h
          refine TS_call [] (ok_frame_Valid v2.1 v11 hv11) (by kernel_rfl) (by kernel_rfl) ?_
          refine TS_go 2 ?_
          replace h := condO h
          rcases h with ⟨hb12, h⟩ | ⟨hb12, h⟩
          · subst hb12
            refine TS_go 3 ?_
            replace h := bindO h
            obtain ⟨v13, hv13, h⟩ := h
            refine TS_call [] (ok_frame_Size v2.1 v13 hv13) (by kernel_rfl) (by kernel_rfl) ?_
            refine TS_go 3 ?_
            replace h := condO h
            rcases h with ⟨hb14, h⟩ | ⟨hb14, h⟩
            · refine TS_know 44 (b := true) hb14 (by kernel_rfl) (by kernel_rfl) ?_
              refine TS_know 45 (b := true) hb14 (by kernel_rfl) (by kernel_rfl) ?_
              refine TS_know 46 (b := true) hb14 (by kernel_rfl) (by kernel_rfl) ?_
              refine TS_go 7 ?_
              obtain rfl := Option.some.inj h
              exact TS_ret (by kernel_rfl) (by kernel_rfl) (by kernel_rfl)
            · refine TS_know 44 (b := false) hb14 (by kernel_rfl) (by kernel_rfl) ?_
              refine TS_know 45 (b := false) hb14 (by kernel_rfl) (by kernel_rfl) ?_
              refine TS_know 46 (b := false) hb14 (by kernel_rfl) (by kernel_rfl) ?_
              refine TS_go 7 ?_
              obtain rfl := Option.some.inj h
              exact TS_ret (by kernel_rfl) (by kernel_rfl) (by kernel_rfl)
          · subst hb12
            refine TS_go 14 ?_
            obtain rfl := Option.some.inj h
            exact TS_ret (by kernel_rfl) (by kernel_rfl) (by kernel_rfl)
        · subst hb10
          refine TS_go 18 ?_
          obtain rfl := Option.some.inj h
          exact TS_ret (by kernel_rfl) (by kernel_rfl) (by kernel_rfl)
      · refine TS_know 28 (b := false) hb8 (by kernel_rfl) (by kernel_rfl) ?_
        refine TS_know 29 (b := false) hb8 (by kernel_rfl) (by kernel_rfl) ?_
        refine TS_know 30 (b := false) hb8 (by kernel_rfl) (by kernel_rfl) ?_
        refine TS_go 23 ?_
        obtain rfl := Option.some.inj h
        exact TS_ret (by kernel_rfl) (by kernel_rfl) (by kernel_rfl)
    · refine TS_know 24 (b := false) hb7 (by kernel_rfl) (by kernel_rfl) ?_
      refine TS_know 25 (b := false) hb7 (by kernel_rfl) (by kernel_rfl) ?_
      refine TS_know 26 (b := false) hb7 (by kernel_rfl) (by kernel_rfl) ?_
      refine TS_go 27 ?_
      obtain rfl := Option.some.inj h
      exact TS_ret (by kernel_rfl) (by kernel_rfl) (by kernel_rfl)
  · subst hb6
    refine TS_go 31 ?_
    obtain rfl := Option.some.inj h
    exact TS_ret (by kernel_rfl) (by kernel_rfl) (by kernel_rfl)

/-- multihop/frame.AckFor -/
noncomputable def F_frame_AckFor (a0 : S_Frame) : Option (S_Frame × Bool) :=
  (F_frame_Valid a0).bind fun v1 =>
  bif v1 then
    bif a0.AckRequest then
      some (((S_Frame.mk 2 false false false a0.Seq 0 (S_Addr.mk 0 0 0) (S_Addr.mk 0 0 0) 0 0 ([] : List Int) ([] : List Int)), true))
    else
      some (((S_Frame.mk 0 false false false 0 0 (S_Addr.mk 0 0 0) (S_Addr.mk 0 0 0) 0 0 ([] : List Int) ([] : List Int)), false))
  else
    some (((S_Frame.mk 0 false false false 0 0 (S_Addr.mk 0 0 0) (S_Addr.mk 0 0 0) 0 0 ([] : List Int) ([] : List Int)), false))
set_option maxRecDepth 100000 in
set_option maxHeartbeats 40000000 in
theorem ok_frame_AckFor (a0 : S_Frame) (r : S_Frame × Bool) (h : F_frame_AckFor a0 = some r) : Con Try.prog 26 [.agg (S_Frame.cs a0)] [] (.tup [(true, S_Frame.cs r.1), (false, [.lit (.bool (r.2))])]) [] := by
  unfold F_frame_AckFor at h
  refine con_of [[0, 0, 0, 0, 0, 0, 0, 0, 0, 0, 0, 0, 0, 0, 2, 2]] [] 16 Try.func26 rfl rfl (by kernel_rfl) (fun K => ?_)
  refine TS_go 10 ?_
  replace h := bindO h
  obtain ⟨v1, hv1, h⟩ := h
  refine TS_call [] (ok_frame_Valid a0 v1 hv1) (by kernel_rfl) (by kernel_rfl) ?_
  refine TS_go 2 ?_
  replace h := condO h
  rcases h with ⟨hb2, h⟩ | ⟨hb2, h⟩
  · subst hb2
    refine TS_go 5 ?_
    replace h := condO h
    rcases h with ⟨hb3, h⟩ | ⟨hb3, h⟩
    · refine TS_know 9 (b := true) hb3 (by kernel_rfl) (by kernel_rfl) ?_
      refine TS_know 10 (b := false) (notF hb3) (by kernel_rfl) (by kernel_rfl) ?_
      refine TS_know 11 (b := false) (notF hb3) (by kernel_rfl) (by kernel_rfl) ?_
      refine TS_F (by kernel_rfl) rfl ?_
      refine TS_go 10 ?_
      obtain rfl := Option.some.inj h
      exact TS_ret (by kernel_rfl) (by kernel_rfl) (by kernel_rfl)
    · refine TS_know 9 (b := false) hb3 (by kernel_rfl) (by kernel_rfl) ?_
      refine TS_know 10 (b := true) (notT hb3) (by kernel_rfl) (by kernel_rfl) ?_
      refine TS_know 11 (b := true) (notT hb3) (by kernel_rfl) (by kernel_rfl) ?_
      refine TS_T (by kernel_rfl) rfl ?_
      refine TS_go 8 ?_
      obtain rfl := Option.some.inj h
      exact TS_ret (by kernel_rfl) (by kernel_rfl) (by kernel_rfl)
  · subst hb2
    refine TS_go 5 ?_
    refine TS_T (by kernel_rfl) rfl ?_
    refine TS_go 8 ?_
    obtain rfl := Option.some.inj h
    exact TS_ret (by kernel_rfl) (by kernel_rfl) (by kernel_rfl)

/-- multihop/multihoplaw05.FrameAcks -/
noncomputable def F_law05_FrameAcks (a0 : List Int) : Option (Bool) :=
  (F_made_New a0).bind fun v1 =>
  (F_made_Tape_AnyFrame v1).bind fun v2 =>
  (F_frame_AckFor v2.1).bind fun v3 =>
  bif v3.2 then
    (F_frame_AckFor v3.1).bind fun v5 =>
    (F_law05_known ).bind fun v6 =>
    bif v6 then
      bif v2.1.AckRequest then
        (F_frame_Valid v3.1).bind fun v9 =>
        bif v9 then
          bif (v3.1.Kind == 2) then
            bif (v3.1.Seq == v2.1.Seq) then
              (F_frame_Size v3.1).bind fun v13 =>
              bif (v13 == 5) then
                some ((!v5.2))
              else
                some (false)
            else
              some (false)
          else
            some (false)
        else
          some (false)
      else
        some (false)
    else
      some (false)
  else
    (F_law05_known ).bind fun v15 =>
    bif v15 then
      some ((!v2.1.AckRequest))
    else
      some (false)
set_option maxRecDepth 100000 in
set_option maxHeartbeats 40000000 in
theorem ok_law05_FrameAcks (a0 : List Int) (r : Bool) (h : F_law05_FrameAcks a0 = some r) : Con Try.prog 9 [.c (eS 1 (ecI .i64) (a0))] [] (.c (.lit (.bool (r)))) [] := by
  unfold F_law05_FrameAcks at h
  refine con_of [] [] 59 Try.func9 rfl rfl (by kernel_rfl) (fun K => ?_)
  refine TS_go 7 ?_
  replace h := bindO h
  obtain ⟨v1, hv1, h⟩ := h
  refine TS_con [] [(9, 10)] none (ok_made_New a0 v1 hv1) (by kernel_rfl) (by kernel_rfl) (by kernel_rfl) ?_
  replace h := bindO h
  obtain ⟨v2, hv2, h⟩ := h
  refine TS_con [] [] (some (9, 0)) (ok_made_Tape_AnyFrame v1 v2 hv2) (by kernel_rfl) (by kernel_rfl) (by kernel_rfl) ?_
  refine TS_go 6 ?_
  replace h := bindO h
  obtain ⟨v3, hv3, h⟩ := h
  refine TS_call [] (ok_frame_AckFor v2.1 v3 hv3) (by kernel_rfl) (by kernel_rfl) ?_
  refine TS_go 13 ?_
  replace h := condO h
  rcases h with ⟨hb4, h⟩ | ⟨hb4, h⟩
  · refine TS_know 15 (b := true) hb4 (by kernel_rfl) (by kernel_rfl) ?_
    refine TS_know 5 (b := true) hb4 (by kernel_rfl) (by kernel_rfl) ?_
    refine TS_know 16 (b := true) hb4 (by kernel_rfl) (by kernel_rfl) ?_
    refine TS_know 17 (b := false) (notF hb4) (by kernel_rfl) (by kernel_rfl) ?_
    refine TS_F (by kernel_rfl) rfl ?_
    refine TS_go 4 ?_
    replace h := bindO h
    obtain ⟨v5, hv5, h⟩ := h
    refine TS_call [] (ok_frame_AckFor v3.1 v5 hv5) (by kernel_rfl) (by kernel_rfl) ?_
    refine TS_go 9 ?_
    replace h := bindO h
    obtain ⟨v6, hv6, h⟩ := h
    refine TS_call [] (ok_law05_known  v6 hv6) (by kernel_rfl) (by kernel_rfl) ?_
    refine TS_go 1 ?_
    replace h := condO h
    rcases h with ⟨hb7, h⟩ | ⟨hb7, h⟩
    · subst hb7
      refine TS_go 4 ?_
      replace h := condO h
      rcases h with ⟨hb8, h⟩ | ⟨hb8, h⟩
      · refine TS_know 32 (b := true) hb8 (by kernel_rfl) (by kernel_rfl) ?_
        refine TS_know 33 (b := true) hb8 (by kernel_rfl) (by kernel_rfl) ?_
        refine TS_know 34 (b := true) hb8 (by kernel_rfl) (by kernel_rfl) ?_
        refine TS_go 1 ?_
        replace h := bindO h
        obtain ⟨v9, hv9, h⟩ := h
        refine TS_call [] (ok_frame_Valid v3.1 v9 hv9) (by kernel_rfl) (by kernel_rfl) ?_
        refine TS_go 2 ?_
        replace h := condO h
        rcases h with ⟨hb10, h⟩ | ⟨hb10, h⟩
        · subst hb10
          refine TS_go 5 ?_
          replace h := condO h
          rcases h with ⟨hb11, h⟩ | ⟨hb11, h⟩
          · refine TS_know 41 (b := true) hb11 (by kernel_rfl) (by kernel_rfl) ?_
            refine TS_know 42 (b := true) hb11 (by kernel_rfl) (by kernel_rfl) ?_
            refine TS_know 43 (b := true) hb11 (by kernel_rfl) (by kernel_rfl) ?_
            refine TS_go 7 ?_
            replace h := condO h
            rcases h with ⟨hb12, h⟩ | ⟨hb12, h⟩
            · refine TS_know 48 (b := true) hb12 (by kernel_rfl) (by kernel_rfl) ?_
              refine TS_know 49 (b := true) hb12 (by kernel_rfl) (by kernel_rfl) ?_
              refine TS_know 50 (b := true) hb12 (by kernel_rfl) (by kernel_rfl) ?_
              refine TS_go 1 ?_
              replace h := bindO h
              obtain ⟨v13, hv13, h⟩ := h
              refine TS_call [] (ok_frame_Size v3.1 v13 hv13) (by kernel_rfl) (by kernel_rfl) ?_
              refine TS_go 3 ?_
              replace h := condO h
              rcases h with ⟨hb14, h⟩ | ⟨hb14, h⟩
              · refine TS_know 53 (b := true) hb14 (by kernel_rfl) (by kernel_rfl) ?_
                refine TS_know 54 (b := true) hb14 (by kernel_rfl) (by kernel_rfl) ?_
                refine TS_know 55 (b := true) hb14 (by kernel_rfl) (by kernel_rfl) ?_
                refine TS_go 6 ?_
                obtain rfl := Option.some.inj h
                exact TS_ret (by kernel_rfl) (by kernel_rfl) (by kernel_rfl)
              · refine TS_know 53 (b := false) hb14 (by kernel_rfl) (by kernel_rfl) ?_
                refine TS_know 54 (b := false) hb14 (by kernel_rfl) (by kernel_rfl) ?_
                refine TS_know 55 (b := false) hb14 (by kernel_rfl) (by kernel_rfl) ?_
                refine TS_go 6 ?_
                obtain rfl := Option.some.inj h
                exact TS_ret (by kernel_rfl) (by kernel_rfl) (by kernel_rfl)
            · refine TS_know 48 (b := false) hb12 (by kernel_rfl) (by kernel_rfl) ?_
              refine TS_know 49 (b := false) hb12 (by kernel_rfl) (by kernel_rfl) ?_
              refine TS_know 50 (b := false) hb12 (by kernel_rfl) (by kernel_rfl) ?_
              refine TS_go 11 ?_
              obtain rfl := Option.some.inj h
              exact TS_ret (by kernel_rfl) (by kernel_rfl) (by kernel_rfl)
          · refine TS_know 41 (b := false) hb11 (by kernel_rfl) (by kernel_rfl) ?_
            refine TS_know 42 (b := false) hb11 (by kernel_rfl) (by kernel_rfl) ?_
            refine TS_know 43 (b := false) hb11 (by kernel_rfl) (by kernel_rfl) ?_
            refine TS_go 18 ?_
            obtain rfl := Option.some.inj h
            exact TS_ret (by kernel_rfl) (by kernel_rfl) (by kernel_rfl)
        · subst hb10
          refine TS_go 23 ?_
          obtain rfl := Option.some.inj h
          exact TS_ret (by kernel_rfl) (by kernel_rfl) (by kernel_rfl)
      · refine TS_know 32 (b := false) hb8 (by kernel_rfl) (by kernel_rfl) ?_
        refine TS_know 33 (b := false) hb8 (by kernel_rfl) (by kernel_rfl) ?_
        refine TS_know 34 (b := false) hb8 (by kernel_rfl) (by kernel_rfl) ?_
        refine TS_go 27 ?_
        obtain rfl := Option.some.inj h
        exact TS_ret (by kernel_rfl) (by kernel_rfl) (by kernel_rfl)
    · subst hb7
      refine TS_go 31 ?_
      obtain rfl := Option.some.inj h
      exact TS_ret (by kernel_rfl) (by kernel_rfl) (by kernel_rfl)
  · refine TS_know 15 (b := false) hb4 (by kernel_rfl) (by kernel_rfl) ?_
    refine TS_know 5 (b := false) hb4 (by kernel_rfl) (by kernel_rfl) ?_
    refine TS_know 16 (b := false) hb4 (by kernel_rfl) (by kernel_rfl) ?_
    refine TS_know 17 (b := true) (notT hb4) (by kernel_rfl) (by kernel_rfl) ?_
    refine TS_T (by kernel_rfl) rfl ?_
    refine TS_go 2 ?_
    replace h := bindO h
    obtain ⟨v15, hv15, h⟩ := h
    refine TS_call [] (ok_law05_known  v15 hv15) (by kernel_rfl) (by kernel_rfl) ?_
    refine TS_go 1 ?_
    replace h := condO h
    rcases h with ⟨hb16, h⟩ | ⟨hb16, h⟩
    · subst hb16
      refine TS_go 8 ?_
      obtain rfl := Option.some.inj h
      exact TS_ret (by kernel_rfl) (by kernel_rfl) (by kernel_rfl)
    · subst hb16
      refine TS_go 8 ?_
      obtain rfl := Option.some.inj h
      exact TS_ret (by kernel_rfl) (by kernel_rfl) (by kernel_rfl)

/-- multihop/multihopref05.Encode -/
noncomputable def F_ref05_Encode (a0 : S_Frame) : Option ((List Int) × Int) :=
  (F_ref05_Valid a0).bind fun v1 =>
  bif v1 then
    (F_ref05_header a0).bind fun v3 =>
    (appO 1 v3 (Cut.app .whole a0.MIC)).bind fun l4 =>
    (F_ref02_Append l4).bind fun v5 =>
    some ((v5, 0))
  else
    some ((([] : List Int), 1))
set_option maxRecDepth 100000 in
set_option maxHeartbeats 40000000 in
theorem okT_ref05_Encode (a0 : S_Frame) (r : (List Int) × Int) (h : F_ref05_Encode a0 = some r) : Con Try.prog 13 [.agg (S_Frame.cs a0)] [] (.tup [(false, [.slc 1 900002 (List.length r.1) (List.map (ecI .u8) r.1)]), (false, [.lit (.int .i64 (r.2))])]) [(900000, .spare 5 1 (List.length r.1))] := by
  unfold F_ref05_Encode at h
  refine con_of [] [(900000, [])] 13 Try.func13 rfl rfl (by kernel_rfl) (fun K => ?_)
  refine TS_go 10 ?_
  replace h := bindO h
  obtain ⟨v1, hv1, h⟩ := h
  refine TS_call [] (ok_ref05_Valid a0 v1 hv1) (by kernel_rfl) (by kernel_rfl) ?_
  refine TS_go 2 ?_
  replace h := condO h
  rcases h with ⟨hb2, h⟩ | ⟨hb2, h⟩
  · subst hb2
    refine TS_F (by kernel_rfl) rfl ?_
    refine TS_go 2 ?_
    refine TS_draw (by kernel_rfl) ?_
    refine TD_go 1 ?_
    replace h := bindO h
    obtain ⟨v3, hv3, h⟩ := h
    refine TD_conX (d := 8) (e := 900000) [] (okT_ref05_header a0 v3 hv3) (by kernel_rfl) (by kernel_rfl) ?_
    refine TD_go 2 ?_
    replace h := bindO h
    obtain ⟨l4, hl4, h⟩ := h
    refine TD_appT (d := 8) (e := 5) (sz := 1) (N := List.length v3) (ecI .u8) (fun _ => by kernel_rfl) (l1 := v3) (l2 := a0.MIC) (c := .whole) hl4 (by kernel_rfl) (by kernel_rfl) ?_
    replace h := bindO h
    obtain ⟨v5, hv5, h⟩ := h
    refine TD_conX (d := 12) (e := 900000) [[2]] (okT_ref02_Append l4 v5 hv5) (by kernel_rfl) (by kernel_rfl) ?_
    refine TD_go 2 ?_
    refine TD_end (by kernel_rfl) ?_
    refine TS_fitU ⟨[(2, []), (3, [])], [(12, (900000, []))]⟩ (by kernel_rfl) ?_
    refine TS_go 1 ?_
    obtain rfl := Option.some.inj h
    exact TS_ret (by kernel_rfl) (by kernel_rfl) (by kernel_rfl)
  · subst hb2
    refine TS_T (by kernel_rfl) rfl ?_
    refine TS_go 5 ?_
    refine TS_nilT 2 600000 5 1 (by kernel_rfl) ?_
    refine TS_fitU ⟨[(2, []), (3, [])], [(600000, (900000, []))]⟩ (by kernel_rfl) ?_
    refine TS_go 2 ?_
    obtain rfl := Option.some.inj h
    exact TS_ret (by kernel_rfl) (by kernel_rfl) (by kernel_rfl)
theorem ok_ref05_Encode (a0 : S_Frame) (r : (List Int) × Int) (h : F_ref05_Encode a0 = some r) : Con Try.prog 13 [.agg (S_Frame.cs a0)] [] (.tup [(false, [eS 1 (ecI .u8) (r.1)]), (false, [.lit (.int .i64 (r.2))])]) [] :=
  con_drop [[2]] [] (okT_ref05_Encode a0 r h) (by kernel_rfl) (by kernel_rfl) (by kernel_rfl)

/-- multihop/multihopref05.AckFor -/
noncomputable def F_ref05_AckFor (a0 : S_Frame) : Option (S_Frame × Bool) :=
  (F_ref05_Valid a0).bind fun v1 =>
  bif v1 then
    bif a0.AckRequest then
      some (((S_Frame.mk 2 false false false a0.Seq 0 (S_Addr.mk 0 0 0) (S_Addr.mk 0 0 0) 0 0 ([] : List Int) ([] : List Int)), true))
    else
      some (((S_Frame.mk 0 false false false 0 0 (S_Addr.mk 0 0 0) (S_Addr.mk 0 0 0) 0 0 ([] : List Int) ([] : List Int)), false))
  else
    some (((S_Frame.mk 0 false false false 0 0 (S_Addr.mk 0 0 0) (S_Addr.mk 0 0 0) 0 0 ([] : List Int) ([] : List Int)), false))
set_option maxRecDepth 100000 in
set_option maxHeartbeats 40000000 in
theorem ok_ref05_AckFor (a0 : S_Frame) (r : S_Frame × Bool) (h : F_ref05_AckFor a0 = some r) : Con Try.prog 49 [.agg (S_Frame.cs a0)] [] (.tup [(true, S_Frame.cs r.1), (false, [.lit (.bool (r.2))])]) [] := by
  unfold F_ref05_AckFor at h
  refine con_of [[0, 0, 0, 0, 0, 0, 0, 0, 0, 0, 0, 0, 0, 0, 2, 2]] [] 16 Try.func49 rfl rfl (by kernel_rfl) (fun K => ?_)
  refine TS_go 10 ?_
  replace h := bindO h
  obtain ⟨v1, hv1, h⟩ := h
  refine TS_call [] (ok_ref05_Valid a0 v1 hv1) (by kernel_rfl) (by kernel_rfl) ?_
  refine TS_go 2 ?_
  replace h := condO h
  rcases h with ⟨hb2, h⟩ | ⟨hb2, h⟩
  · subst hb2
    refine TS_go 5 ?_
    replace h := condO h
    rcases h with ⟨hb3, h⟩ | ⟨hb3, h⟩
    · refine TS_know 9 (b := true) hb3 (by kernel_rfl) (by kernel_rfl) ?_
      refine TS_know 10 (b := false) (notF hb3) (by kernel_rfl) (by kernel_rfl) ?_
      refine TS_know 11 (b := false) (notF hb3) (by kernel_rfl) (by kernel_rfl) ?_
      refine TS_F (by kernel_rfl) rfl ?_
      refine TS_go 10 ?_
      obtain rfl := Option.some.inj h
      exact TS_ret (by kernel_rfl) (by kernel_rfl) (by kernel_rfl)
    · refine TS_know 9 (b := false) hb3 (by kernel_rfl) (by kernel_rfl) ?_
      refine TS_know 10 (b := true) (notT hb3) (by kernel_rfl) (by kernel_rfl) ?_
      refine TS_know 11 (b := true) (notT hb3) (by kernel_rfl) (by kernel_rfl) ?_
      refine TS_T (by kernel_rfl) rfl ?_
      refine TS_go 8 ?_
      obtain rfl := Option.some.inj h
      exact TS_ret (by kernel_rfl) (by kernel_rfl) (by kernel_rfl)
  · subst hb2
    refine TS_go 5 ?_
    refine TS_T (by kernel_rfl) rfl ?_
    refine TS_go 8 ?_
    obtain rfl := Option.some.inj h
    exact TS_ret (by kernel_rfl) (by kernel_rfl) (by kernel_rfl)

/-- multihop/frame.Room -/
noncomputable def F_frame_Room (a0 : S_Frame) : Option (Int) :=
  (F_frame_Valid a0).bind fun v1 =>
  bif v1 then
    bif (a0.Kind == 2) then
      some (0)
    else
      (F_frame_length a0).bind fun v4 =>
      some (IntKind.wrap .i64 (127 - v4))
  else
    some (0)
set_option maxRecDepth 100000 in
set_option maxHeartbeats 40000000 in
theorem ok_frame_Room (a0 : S_Frame) (r : Int) (h : F_frame_Room a0 = some r) : Con Try.prog 25 [.agg (S_Frame.cs a0)] [] (.c (.lit (.int .i64 (r)))) [] := by
  unfold F_frame_Room at h
  refine con_of [] [] 14 Try.func25 rfl rfl (by kernel_rfl) (fun K => ?_)
  refine TS_go 9 ?_
  replace h := bindO h
  obtain ⟨v1, hv1, h⟩ := h
  refine TS_call [] (ok_frame_Valid a0 v1 hv1) (by kernel_rfl) (by kernel_rfl) ?_
  refine TS_go 2 ?_
  replace h := condO h
  rcases h with ⟨hb2, h⟩ | ⟨hb2, h⟩
  · subst hb2
    refine TS_go 5 ?_
    replace h := condO h
    rcases h with ⟨hb3, h⟩ | ⟨hb3, h⟩
    · refine TS_know 9 (b := true) hb3 (by kernel_rfl) (by kernel_rfl) ?_
      refine TS_know 10 (b := true) hb3 (by kernel_rfl) (by kernel_rfl) ?_
      refine TS_T (by kernel_rfl) rfl ?_
      refine TS_go 6 ?_
      obtain rfl := Option.some.inj h
      exact TS_ret (by kernel_rfl) (by kernel_rfl) (by kernel_rfl)
    · refine TS_know 9 (b := false) hb3 (by kernel_rfl) (by kernel_rfl) ?_
      refine TS_know 10 (b := false) hb3 (by kernel_rfl) (by kernel_rfl) ?_
      refine TS_F (by kernel_rfl) rfl ?_
      refine TS_go 4 ?_
      replace h := bindO h
      obtain ⟨v4, hv4, h⟩ := h
      refine TS_call [] (ok_frame_length a0 v4 hv4) (by kernel_rfl) (by kernel_rfl) ?_
      refine TS_go 4 ?_
      obtain rfl := Option.some.inj h
      exact TS_ret (by kernel_rfl) (by kernel_rfl) (by kernel_rfl)
  · subst hb2
    refine TS_go 5 ?_
    refine TS_T (by kernel_rfl) rfl ?_
    refine TS_go 6 ?_
    obtain rfl := Option.some.inj h
    exact TS_ret (by kernel_rfl) (by kernel_rfl) (by kernel_rfl)

/-- multihop/multihopref05.Header -/
noncomputable def F_ref05_Header_j1  (v1 : S_Frame) : Option ((List Int)) :=
  (F_ref05_header v1).bind fun v2 =>
  some (v2)
noncomputable def F_ref05_Header (a0 : S_Frame) : Option ((List Int)) :=
  (F_ref05_Valid a0).bind fun v3 =>
  bif v3 then
    (F_ref05_Header_j1) a0
  else
    (mkO 1 4 4).bind fun n5 =>
    (F_ref05_Valid (S_Frame.mk a0.Kind a0.AckRequest a0.Pending a0.Secure a0.Seq a0.Pan a0.Dst a0.Src a0.Counter a0.Key a0.Payload (List.replicate n5 (0 : Int)))).bind fun v6 =>
    bif v6 then
      (F_ref05_Header_j1) (S_Frame.mk a0.Kind a0.AckRequest a0.Pending a0.Secure a0.Seq a0.Pan a0.Dst a0.Src a0.Counter a0.Key a0.Payload (List.replicate n5 (0 : Int)))
    else
      some (([] : List Int))
set_option maxRecDepth 100000 in
set_option maxHeartbeats 40000000 in
theorem okT_ref05_Header (a0 : S_Frame) (r : (List Int)) (h : F_ref05_Header a0 = some r) : Con Try.prog 51 [.agg (S_Frame.cs a0)] [] (.c (.slc 1 900002 (List.length r) (List.map (ecI .u8) r))) [(900000, .spare 5 1 (List.length r))] := by
  unfold F_ref05_Header at h
  refine con_of [] [(900000, [])] 13 Try.func51 rfl rfl (by kernel_rfl) (fun K => ?_)
  refine TS_go 5 ?_
  refine TS_cut ⟨[(1, [])], [(1, (1, []))]⟩ (.mk [.code (codeAt [1] (bodyOf Try.f51))] .normal ⟨[(1, .c (.box 1 0))], [(1, .box [.lit (.int .i64 (a0.Kind)), .lit (.bool (a0.AckRequest)), .lit (.bool (a0.Pending)), .lit (.bool (a0.Secure)), .lit (.int .u8 (a0.Seq)), .lit (.int .u16 (a0.Pan)), .lit (.int .i64 (a0.Dst.Mode)), .lit (.int .u16 (a0.Dst.Short)), .lit (.int .u64 (a0.Dst.EUI)), .lit (.int .i64 (a0.Src.Mode)), .lit (.int .u16 (a0.Src.Short)), .lit (.int .u64 (a0.Src.EUI)), .lit (.int .u32 (a0.Counter)), .lit (.int .u8 (a0.Key)), .slc 1 0 (List.length a0.Payload) (List.map (ecI .u8) a0.Payload), .slc 1 0 (List.length a0.MIC) (List.map (ecI .u8) a0.MIC)])]⟩) (by kernel_rfl) (by kernel_rfl) ?_
  refine TS_joinB ⟨[(1, [])], [(1, (1, []))]⟩ (fun (v1 : S_Frame) => []) (fun (v1 : S_Frame) => [(1, .box (S_Frame.cs v1))]) (F_ref05_Header_j1) r ?_ ?_
  · clear h
    intro v1 h
    unfold F_ref05_Header_j1 at h
    refine TS_go 3 ?_
    replace h := bindO h
    obtain ⟨v2, hv2, h⟩ := h
    refine TS_con [] [(12, 900000)] none (okT_ref05_header v1 v2 hv2) (by kernel_rfl) (by kernel_rfl) (by kernel_rfl) ?_
    refine TS_go 2 ?_
    refine TS_fitU ⟨[(2, [])], [(12, (900000, []))]⟩ (by kernel_rfl) ?_
    refine TS_go 1 ?_
    obtain rfl := Option.some.inj h
    exact TS_ret (by kernel_rfl) (by kernel_rfl) (by kernel_rfl)
  · refine TS_go 3 ?_
    replace h := bindO h
    obtain ⟨v3, hv3, h⟩ := h
    refine TS_call [] (ok_ref05_Valid a0 v3 hv3) (by kernel_rfl) (by kernel_rfl) ?_
    refine TS_go 2 ?_
    replace h := condO h
    rcases h with ⟨hb4, h⟩ | ⟨hb4, h⟩
    · subst hb4
      refine TS_F (by kernel_rfl) rfl ?_
      refine TS_go 1 ?_
      exact TS_meet a0 ⟨[(1, [])], [(1, (1, []))]⟩ h (by kernel_rfl) (by kernel_rfl)
    · subst hb4
      refine TS_T (by kernel_rfl) rfl ?_
      refine TS_go 2 ?_
      replace h := bindO h
      obtain ⟨n5, hn5, h⟩ := h
      refine TS_makeT 6 5 1 (ecI .u8) (0 : Int) [] (cs := [.lit (.int .u8 (0))]) (l := 4) (c := 4) hn5 (by kernel_rfl) (by kernel_rfl) (by kernel_rfl) ?_
      refine TS_go 6 ?_
      replace h := bindO h
      obtain ⟨v6, hv6, h⟩ := h
      refine TS_call [[0, 0, 0, 0, 0, 0, 0, 0, 0, 0, 0, 0, 0, 0, 2, 2]] (ok_ref05_Valid (S_Frame.mk a0.Kind a0.AckRequest a0.Pending a0.Secure a0.Seq a0.Pan a0.Dst a0.Src a0.Counter a0.Key a0.Payload (List.replicate n5 (0 : Int))) v6 hv6) (by kernel_rfl) (by kernel_rfl) ?_
      refine TS_go 2 ?_
      replace h := condO h
      rcases h with ⟨hb7, h⟩ | ⟨hb7, h⟩
      · subst hb7
        refine TS_F (by kernel_rfl) rfl ?_
        refine TS_go 1 ?_
        exact TS_meet (S_Frame.mk a0.Kind a0.AckRequest a0.Pending a0.Secure a0.Seq a0.Pan a0.Dst a0.Src a0.Counter a0.Key a0.Payload (List.replicate n5 (0 : Int))) ⟨[(1, [])], [(1, (1, [0, 0, 0, 0, 0, 0, 0, 0, 0, 0, 0, 0, 0, 0, 0, 2]))]⟩ h (by kernel_rfl) (by kernel_rfl)
      · subst hb7
        refine TS_T (by kernel_rfl) rfl ?_
        refine TS_go 4 ?_
        refine TS_nilT 2 600000 5 1 (by kernel_rfl) ?_
        refine TS_fitU ⟨[(2, [])], [(600000, (900000, []))]⟩ (by kernel_rfl) ?_
        refine TS_go 1 ?_
        refine TS_outJ (by kernel_rfl) ?_
        obtain rfl := Option.some.inj h
        exact TS_ret (by kernel_rfl) (by kernel_rfl) (by kernel_rfl)
theorem ok_ref05_Header (a0 : S_Frame) (r : (List Int)) (h : F_ref05_Header a0 = some r) : Con Try.prog 51 [.agg (S_Frame.cs a0)] [] (.c (eS 1 (ecI .u8) (r))) [] :=
  con_drop [[2]] [] (okT_ref05_Header a0 r h) (by kernel_rfl) (by kernel_rfl) (by kernel_rfl)

/-- multihop/multihoplaw05.forms -/
noncomputable def F_law05_forms (a0 : S_Frame) : Option (Bool) :=
  (F_frame_Encode a0).bind fun v1 =>
  (F_ref05_Encode a0).bind fun v2 =>
  (F_frame_AckFor a0).bind fun v3 =>
  (F_ref05_AckFor a0).bind fun v4 =>
  (F_frame_Valid a0).bind fun v5 =>
  (F_ref05_Valid a0).bind fun v6 =>
  bif (v5 == v6) then
    (F_frame_Size a0).bind fun v8 =>
    (F_ref05_Size a0).bind fun v9 =>
    bif (v8 == v9) then
      (F_frame_Room a0).bind fun v11 =>
      (F_ref05_Room a0).bind fun v12 =>
      bif (v11 == v12) then
        (F_frame_Header a0).bind fun v14 =>
        (F_ref05_Header a0).bind fun v15 =>
        (F_ref01_Same v14 v15).bind fun v16 =>
        bif v16 then
          bif (v1.2 == v2.2) then
            (F_ref01_Same v1.1 v2.1).bind fun v19 =>
            bif v19 then
              bif (v3.2 == v4.2) then
                (F_ref05_Same v3.1 v4.1).bind fun v22 =>
                some (v22)
              else
                some (false)
            else
              some (false)
          else
            some (false)
        else
          some (false)
      else
        some (false)
    else
      some (false)
  else
    some (false)
set_option maxRecDepth 100000 in
set_option maxHeartbeats 40000000 in
theorem ok_law05_forms (a0 : S_Frame) (r : Bool) (h : F_law05_forms a0 = some r) : Con Try.prog 27 [.agg (S_Frame.cs a0)] [] (.c (.lit (.bool (r)))) [] := by
  unfold F_law05_forms at h
  refine con_of [] [] 77 Try.func27 rfl rfl (by kernel_rfl) (fun K => ?_)
  refine TS_go 8 ?_
  replace h := bindO h
  obtain ⟨v1, hv1, h⟩ := h
  refine TS_con [] [(13, 900000)] none (okT_frame_Encode a0 v1 hv1) (by kernel_rfl) (by kernel_rfl) (by kernel_rfl) ?_
  refine TS_go 9 ?_
  replace h := bindO h
  obtain ⟨v2, hv2, h⟩ := h
  refine TS_con [] [(18, 900000)] none (okT_ref05_Encode a0 v2 hv2) (by kernel_rfl) (by kernel_rfl) (by kernel_rfl) ?_
  refine TS_go 9 ?_
  replace h := bindO h
  obtain ⟨v3, hv3, h⟩ := h
  refine TS_call [] (ok_frame_AckFor a0 v3 hv3) (by kernel_rfl) (by kernel_rfl) ?_
  refine TS_go 10 ?_
  replace h := bindO h
  obtain ⟨v4, hv4, h⟩ := h
  refine TS_call [] (ok_ref05_AckFor a0 v4 hv4) (by kernel_rfl) (by kernel_rfl) ?_
  refine TS_go 8 ?_
  refine TS_draw (by kernel_rfl) ?_
  refine TD_go 1 ?_
  replace h := bindO h
  obtain ⟨v5, hv5, h⟩ := h
  refine TD_call [] (ok_frame_Valid a0 v5 hv5) (by kernel_rfl) (by kernel_rfl) ?_
  refine TD_go 1 ?_
  replace h := bindO h
  obtain ⟨v6, hv6, h⟩ := h
  refine TD_call [] (ok_ref05_Valid a0 v6 hv6) (by kernel_rfl) (by kernel_rfl) ?_
  refine TD_go 1 ?_
  replace h := condO h
  rcases h with ⟨hb7, h⟩ | ⟨hb7, h⟩
  · refine TD_know 36 (b := true) hb7 trivial (by kernel_rfl) (by kernel_rfl) ?_
    refine TD_go 1 ?_
    replace h := bindO h
    obtain ⟨v8, hv8, h⟩ := h
    refine TD_call [] (ok_frame_Size a0 v8 hv8) (by kernel_rfl) (by kernel_rfl) ?_
    refine TD_go 1 ?_
    replace h := bindO h
    obtain ⟨v9, hv9, h⟩ := h
    refine TD_call [] (ok_ref05_Size a0 v9 hv9) (by kernel_rfl) (by kernel_rfl) ?_
    refine TD_go 2 ?_
    replace h := condO h
    rcases h with ⟨hb10, h⟩ | ⟨hb10, h⟩
    · refine TD_know 43 (b := true) hb10 trivial (by kernel_rfl) (by kernel_rfl) ?_
      refine TD_go 1 ?_
      replace h := bindO h
      obtain ⟨v11, hv11, h⟩ := h
      refine TD_call [] (ok_frame_Room a0 v11 hv11) (by kernel_rfl) (by kernel_rfl) ?_
      refine TD_go 1 ?_
      replace h := bindO h
      obtain ⟨v12, hv12, h⟩ := h
      refine TD_call [] (ok_ref05_Room a0 v12 hv12) (by kernel_rfl) (by kernel_rfl) ?_
      refine TD_go 2 ?_
      replace h := condO h
      rcases h with ⟨hb13, h⟩ | ⟨hb13, h⟩
      · refine TD_know 50 (b := true) hb13 trivial (by kernel_rfl) (by kernel_rfl) ?_
        refine TD_go 1 ?_
        replace h := bindO h
        obtain ⟨v14, hv14, h⟩ := h
        refine TD_conX (d := 52) (e := 900000) [] (okT_frame_Header a0 v14 hv14) (by kernel_rfl) (by kernel_rfl) ?_
        refine TD_go 1 ?_
        replace h := bindO h
        obtain ⟨v15, hv15, h⟩ := h
        refine TD_conX (d := 54) (e := 900000) [] (okT_ref05_Header a0 v15 hv15) (by kernel_rfl) (by kernel_rfl) ?_
        replace h := bindO h
        obtain ⟨v16, hv16, h⟩ := h
        refine TD_call [[2], [2]] (ok_ref01_Same v14 v15 v16 hv16) (by kernel_rfl) (by kernel_rfl) ?_
        refine TD_go 2 ?_
        replace h := condO h
        rcases h with ⟨hb17, h⟩ | ⟨hb17, h⟩
        · subst hb17
          refine TD_go 4 ?_
          replace h := condO h
          rcases h with ⟨hb18, h⟩ | ⟨hb18, h⟩
          · refine TD_know 62 (b := true) hb18 trivial (by kernel_rfl) (by kernel_rfl) ?_
            refine TD_go 2 ?_
            replace h := bindO h
            obtain ⟨v19, hv19, h⟩ := h
            refine TD_call [[2], [2]] (ok_ref01_Same v1.1 v2.1 v19 hv19) (by kernel_rfl) (by kernel_rfl) ?_
            refine TD_go 2 ?_
            replace h := condO h
            rcases h with ⟨hb20, h⟩ | ⟨hb20, h⟩
            · subst hb20
              refine TD_go 4 ?_
              replace h := condO h
              rcases h with ⟨hb21, h⟩ | ⟨hb21, h⟩
              · refine TD_know 72 (b := true) hb21 trivial (by kernel_rfl) (by kernel_rfl) ?_
                refine TD_go 2 ?_
                replace h := bindO h
                obtain ⟨v22, hv22, h⟩ := h
                refine TD_call [] (ok_ref05_Same v3.1 v4.1 v22 hv22) (by kernel_rfl) (by kernel_rfl) ?_
                refine TD_go 2 ?_
                refine TD_end (by kernel_rfl) ?_
                refine TS_go 1 ?_
                obtain rfl := Option.some.inj h
                exact TS_ret (by kernel_rfl) (by kernel_rfl) (by kernel_rfl)
              · refine TD_know 72 (b := false) hb21 trivial (by kernel_rfl) (by kernel_rfl) ?_
                refine TD_go 5 ?_
                refine TD_end (by kernel_rfl) ?_
                refine TS_go 1 ?_
                obtain rfl := Option.some.inj h
                exact TS_ret (by kernel_rfl) (by kernel_rfl) (by kernel_rfl)
            · subst hb20
              refine TD_go 10 ?_
              refine TD_end (by kernel_rfl) ?_
              refine TS_go 1 ?_
              obtain rfl := Option.some.inj h
              exact TS_ret (by kernel_rfl) (by kernel_rfl) (by kernel_rfl)
          · refine TD_know 62 (b := false) hb18 trivial (by kernel_rfl) (by kernel_rfl) ?_
            refine TD_go 15 ?_
            refine TD_end (by kernel_rfl) ?_
            refine TS_go 1 ?_
            obtain rfl := Option.some.inj h
            exact TS_ret (by kernel_rfl) (by kernel_rfl) (by kernel_rfl)
        · subst hb17
          refine TD_go 20 ?_
          refine TD_end (by kernel_rfl) ?_
          refine TS_go 1 ?_
          obtain rfl := Option.some.inj h
          exact TS_ret (by kernel_rfl) (by kernel_rfl) (by kernel_rfl)
      · refine TD_know 50 (b := false) hb13 trivial (by kernel_rfl) (by kernel_rfl) ?_
        refine TD_go 27 ?_
        refine TD_end (by kernel_rfl) ?_
        refine TS_go 1 ?_
        obtain rfl := Option.some.inj h
        exact TS_ret (by kernel_rfl) (by kernel_rfl) (by kernel_rfl)
    · refine TD_know 43 (b := false) hb10 trivial (by kernel_rfl) (by kernel_rfl) ?_
      refine TD_go 34 ?_
      refine TD_end (by kernel_rfl) ?_
      refine TS_go 1 ?_
      obtain rfl := Option.some.inj h
      exact TS_ret (by kernel_rfl) (by kernel_rfl) (by kernel_rfl)
  · refine TD_know 36 (b := false) hb7 trivial (by kernel_rfl) (by kernel_rfl) ?_
    refine TD_go 41 ?_
    refine TD_end (by kernel_rfl) ?_
    refine TS_go 1 ?_
    obtain rfl := Option.some.inj h
    exact TS_ret (by kernel_rfl) (by kernel_rfl) (by kernel_rfl)

/-- (*multihop/multihopmade.Tape).Addr -/
noncomputable def F_made_Tape_Addr (a0 : S_multihopmade_Tape) : Option (S_Addr × S_multihopmade_Tape) :=
  (F_made_Tape_Next a0 6).bind fun v1 =>
  bif (v1.1 == 4) then
    some (((S_Addr.mk 2 65535 0), v1.2))
  else
    bif (v1.1 == 5) then
      some (((S_Addr.mk 0 0 0), v1.2))
    else
      (F_made_Tape_Device v1.2).bind fun v4 =>
      some ((v4.1, v4.2))
set_option maxRecDepth 100000 in
set_option maxHeartbeats 40000000 in
theorem ok_made_Tape_Addr (a0 : S_multihopmade_Tape) (r : S_Addr × S_multihopmade_Tape) (h : F_made_Tape_Addr a0 = some r) : Con Try.prog 52 [.c (.box 1000000 0)] [(1000000, .box (S_multihopmade_Tape.cs a0))] (.agg (S_Addr.cs r.1)) [(1000000, .box (S_multihopmade_Tape.cs r.2))] := by
  unfold F_made_Tape_Addr at h
  refine con_of [] [(1000000, [2])] 13 Try.func52 rfl rfl (by kernel_rfl) (fun K => ?_)
  refine TS_go 8 ?_
  replace h := bindO h
  obtain ⟨v1, hv1, h⟩ := h
  refine TS_con [] [] (some (1000000, 0)) (ok_made_Tape_Next a0 6 v1 hv1) (by kernel_rfl) (by kernel_rfl) (by kernel_rfl) ?_
  refine TS_go 7 ?_
  replace h := condO h
  rcases h with ⟨hb2, h⟩ | ⟨hb2, h⟩
  · refine TS_know 6 (b := true) hb2 (by kernel_rfl) (by kernel_rfl) ?_
    refine TS_know 5 (b := true) hb2 (by kernel_rfl) (by kernel_rfl) ?_
    refine TS_T (by kernel_rfl) rfl ?_
    refine TS_go 8 ?_
    obtain rfl := Option.some.inj h
    exact TS_ret (by kernel_rfl) (by kernel_rfl) (by kernel_rfl)
  · refine TS_know 6 (b := false) hb2 (by kernel_rfl) (by kernel_rfl) ?_
    refine TS_know 5 (b := false) hb2 (by kernel_rfl) (by kernel_rfl) ?_
    refine TS_F (by kernel_rfl) rfl ?_
    refine TS_go 5 ?_
    replace h := condO h
    rcases h with ⟨hb3, h⟩ | ⟨hb3, h⟩
    · refine TS_know 9 (b := true) hb3 (by kernel_rfl) (by kernel_rfl) ?_
      refine TS_know 8 (b := true) hb3 (by kernel_rfl) (by kernel_rfl) ?_
      refine TS_T (by kernel_rfl) rfl ?_
      refine TS_go 8 ?_
      obtain rfl := Option.some.inj h
      exact TS_ret (by kernel_rfl) (by kernel_rfl) (by kernel_rfl)
    · refine TS_know 9 (b := false) hb3 (by kernel_rfl) (by kernel_rfl) ?_
      refine TS_know 8 (b := false) hb3 (by kernel_rfl) (by kernel_rfl) ?_
      refine TS_F (by kernel_rfl) rfl ?_
      refine TS_go 5 ?_
      replace h := bindO h
      obtain ⟨v4, hv4, h⟩ := h
      refine TS_con [] [] (some (1000000, 0)) (ok_made_Tape_Device v1.2 v4 hv4) (by kernel_rfl) (by kernel_rfl) (by kernel_rfl) ?_
      refine TS_go 3 ?_
      obtain rfl := Option.some.inj h
      exact TS_ret (by kernel_rfl) (by kernel_rfl) (by kernel_rfl)

/-- (*multihop/multihopmade.Tape).Spoiled -/
noncomputable def F_made_Tape_Spoiled_j1  (v1 : S_multihopmade_Tape × S_Frame) : Option (S_Frame × S_multihopmade_Tape) :=
  some ((v1.2, v1.1))
noncomputable def F_made_Tape_Spoiled (a0 : S_multihopmade_Tape) (a1 : S_Frame) : Option (S_Frame × S_multihopmade_Tape) :=
  (F_made_Tape_Next a0 8).bind fun v2 =>
  bif (v2.1 == 0) then
    (F_made_Tape_Next v2.2 6).bind fun v4 =>
    (F_made_Tape_Spoiled_j1) (v4.2, (S_Frame.mk (IntKind.wrap .i64 (v4.1 - 1)) a1.AckRequest a1.Pending a1.Secure a1.Seq a1.Pan a1.Dst a1.Src a1.Counter a1.Key a1.Payload a1.MIC))
  else
    bif (v2.1 == 1) then
      (F_made_Tape_Next v2.2 5).bind fun v6 =>
      (F_made_Tape_Next v6.2 2).bind fun v7 =>
      (F_made_Tape_Next v7.2 2).bind fun v8 =>
      (F_made_Tape_Spoiled_j1) (v8.2, (S_Frame.mk a1.Kind a1.AckRequest a1.Pending a1.Secure a1.Seq a1.Pan (S_Addr.mk v6.1 (IntKind.wrap .u16 v7.1) (IntKind.wrap .u64 v8.1)) a1.Src a1.Counter a1.Key a1.Payload a1.MIC))
    else
      bif (v2.1 == 2) then
        (F_made_Tape_Addr v2.2).bind fun v10 =>
        (F_made_Tape_Spoiled_j1) (v10.2, (S_Frame.mk a1.Kind a1.AckRequest a1.Pending a1.Secure a1.Seq a1.Pan a1.Dst v10.1 a1.Counter a1.Key a1.Payload a1.MIC))
      else
        bif (v2.1 == 3) then
          (F_made_Tape_Spoiled_j1) (v2.2, (S_Frame.mk a1.Kind a1.AckRequest a1.Pending (!a1.Secure) a1.Seq a1.Pan a1.Dst a1.Src a1.Counter a1.Key a1.Payload a1.MIC))
        else
          bif (v2.1 == 4) then
            (F_made_Tape_Bytes v2.2 6).bind fun v13 =>
            (F_made_Tape_Spoiled_j1) (v13.2, (S_Frame.mk a1.Kind a1.AckRequest a1.Pending a1.Secure a1.Seq a1.Pan a1.Dst a1.Src a1.Counter a1.Key a1.Payload v13.1))
          else
            bif (v2.1 == 5) then
              (F_ref05_Room a1).bind fun v15 =>
              (F_made_Tape_Fill v2.2 (IntKind.wrap .i64 ((IntKind.wrap .i64 (v15 + (List.length a1.Payload : Int))) + 1))).bind fun v16 =>
              (F_made_Tape_Spoiled_j1) (v16.2, (S_Frame.mk a1.Kind a1.AckRequest a1.Pending a1.Secure a1.Seq a1.Pan a1.Dst a1.Src a1.Counter a1.Key v16.1 a1.MIC))
            else
              bif (v2.1 == 6) then
                (F_made_Tape_Spoiled_j1) (v2.2, (S_Frame.mk a1.Kind a1.AckRequest a1.Pending a1.Secure a1.Seq a1.Pan a1.Dst a1.Src (IntKind.wrap .u32 (a1.Counter + 1)) a1.Key a1.Payload a1.MIC))
              else
                (F_made_Tape_Spoiled_j1) (v2.2, (S_Frame.mk a1.Kind (!a1.AckRequest) a1.Pending a1.Secure a1.Seq a1.Pan a1.Dst a1.Src a1.Counter a1.Key a1.Payload a1.MIC))
set_option maxRecDepth 100000 in
set_option maxHeartbeats 40000000 in
theorem ok_made_Tape_Spoiled (a0 : S_multihopmade_Tape) (a1 : S_Frame) (r : S_Frame × S_multihopmade_Tape) (h : F_made_Tape_Spoiled a0 a1 = some r) : Con Try.prog 28 [.c (.box 1000000 0), .agg (S_Frame.cs a1)] [(1000000, .box (S_multihopmade_Tape.cs a0))] (.agg (S_Frame.cs r.1)) [(1000000, .box (S_multihopmade_Tape.cs r.2))] := by
  unfold F_made_Tape_Spoiled at h
  refine con_of [[0, 0, 0, 0, 0, 0, 0, 0, 0, 0, 0, 0, 0, 0, 2, 2]] [(1000000, [2])] 64 Try.func28 rfl rfl (by kernel_rfl) (fun K => ?_)
  refine TS_go 5 ?_
  refine TS_cut ⟨[(0, []), (3, []), (4, [])], [(1000000, (1000000, [])), (3, (3, [])), (4, (4, []))]⟩ (.mk [.code (codeAt [1] (bodyOf Try.f28))] .normal ⟨[(0, .c (.box 1000000 0)), (3, .c (.box 3 0)), (4, .c (.box 4 0))], [(1000000, .box [.slc 1 0 (List.length a0.l) (List.map (ecI .i64) a0.l), .lit (.int .i64 (a0.at_))]), (3, .box [.lit (.int .i64 (a1.Kind)), .lit (.bool (a1.AckRequest)), .lit (.bool (a1.Pending)), .lit (.bool (a1.Secure)), .lit (.int .u8 (a1.Seq)), .lit (.int .u16 (a1.Pan)), .lit (.int .i64 (a1.Dst.Mode)), .lit (.int .u16 (a1.Dst.Short)), .lit (.int .u64 (a1.Dst.EUI)), .lit (.int .i64 (a1.Src.Mode)), .lit (.int .u16 (a1.Src.Short)), .lit (.int .u64 (a1.Src.EUI)), .lit (.int .u32 (a1.Counter)), .lit (.int .u8 (a1.Key)), .slc 1 0 (List.length a1.Payload) (List.map (ecI .u8) a1.Payload), .slc 1 0 (List.length a1.MIC) (List.map (ecI .u8) a1.MIC)]), (4, .box [.lit (.int .i64 (0)), .lit (.bool (false)), .lit (.bool (false)), .lit (.bool (false)), .lit (.int .u8 (0)), .lit (.int .u16 (0)), .lit (.int .i64 (0)), .lit (.int .u16 (0)), .lit (.int .u64 (0)), .lit (.int .i64 (0)), .lit (.int .u16 (0)), .lit (.int .u64 (0)), .lit (.int .u32 (0)), .lit (.int .u8 (0)), .lit (.slice none 0 0), .lit (.slice none 0 0)])]⟩) (by kernel_rfl) (by kernel_rfl) ?_
  refine TS_joinB ⟨[(3, []), (4, [])], [(1000000, (1000000, [])), (3, (3, [])), (4, (4, []))]⟩ (fun (v1 : S_multihopmade_Tape × S_Frame) => []) (fun (v1 : S_multihopmade_Tape × S_Frame) => [(1000000, .box (S_multihopmade_Tape.cs v1.1)), (3, .box (S_Frame.cs v1.2))]) (F_made_Tape_Spoiled_j1) r ?_ ?_
  · clear h
    intro v1 h
    unfold F_made_Tape_Spoiled_j1 at h
    refine TS_go 6 ?_
    obtain rfl := Option.some.inj h
    exact TS_ret (by kernel_rfl) (by kernel_rfl) (by kernel_rfl)
  · refine TS_go 3 ?_
    replace h := bindO h
    obtain ⟨v2, hv2, h⟩ := h
    refine TS_con [] [] (some (1000000, 0)) (ok_made_Tape_Next a0 8 v2 hv2) (by kernel_rfl) (by kernel_rfl) (by kernel_rfl) ?_
    refine TS_go 7 ?_
    replace h := condO h
    rcases h with ⟨hb3, h⟩ | ⟨hb3, h⟩
    · refine TS_know 12 (b := true) hb3 (by kernel_rfl) (by kernel_rfl) ?_
      refine TS_know 11 (b := true) hb3 (by kernel_rfl) (by kernel_rfl) ?_
      refine TS_T (by kernel_rfl) rfl ?_
      refine TS_go 2 ?_
      replace h := bindO h
      obtain ⟨v4, hv4, h⟩ := h
      refine TS_con [] [] (some (1000000, 0)) (ok_made_Tape_Next v2.2 6 v4 hv4) (by kernel_rfl) (by kernel_rfl) (by kernel_rfl) ?_
      refine TS_go 5 ?_
      exact TS_meet (v4.2, (S_Frame.mk (IntKind.wrap .i64 (v4.1 - 1)) a1.AckRequest a1.Pending a1.Secure a1.Seq a1.Pan a1.Dst a1.Src a1.Counter a1.Key a1.Payload a1.MIC)) ⟨[(3, []), (4, [])], [(1000000, (1000000, [])), (3, (3, [])), (4, (4, []))]⟩ h (by kernel_rfl) (by kernel_rfl)
    · refine TS_know 12 (b := false) hb3 (by kernel_rfl) (by kernel_rfl) ?_
      refine TS_know 11 (b := false) hb3 (by kernel_rfl) (by kernel_rfl) ?_
      refine TS_F (by kernel_rfl) rfl ?_
      refine TS_go 5 ?_
      replace h := condO h
      rcases h with ⟨hb5, h⟩ | ⟨hb5, h⟩
      · refine TS_know 18 (b := true) hb5 (by kernel_rfl) (by kernel_rfl) ?_
        refine TS_know 17 (b := true) hb5 (by kernel_rfl) (by kernel_rfl) ?_
        refine TS_T (by kernel_rfl) rfl ?_
        refine TS_go 2 ?_
        replace h := bindO h
        obtain ⟨v6, hv6, h⟩ := h
        refine TS_con [] [] (some (1000000, 0)) (ok_made_Tape_Next v2.2 5 v6 hv6) (by kernel_rfl) (by kernel_rfl) (by kernel_rfl) ?_
        refine TS_go 1 ?_
        replace h := bindO h
        obtain ⟨v7, hv7, h⟩ := h
        refine TS_con [] [] (some (1000000, 0)) (ok_made_Tape_Next v6.2 2 v7 hv7) (by kernel_rfl) (by kernel_rfl) (by kernel_rfl) ?_
        refine TS_go 2 ?_
        replace h := bindO h
        obtain ⟨v8, hv8, h⟩ := h
        refine TS_con [] [] (some (1000000, 0)) (ok_made_Tape_Next v7.2 2 v8 hv8) (by kernel_rfl) (by kernel_rfl) (by kernel_rfl) ?_
        refine TS_go 6 ?_
        exact TS_meet (v8.2, (S_Frame.mk a1.Kind a1.AckRequest a1.Pending a1.Secure a1.Seq a1.Pan (S_Addr.mk v6.1 (IntKind.wrap .u16 v7.1) (IntKind.wrap .u64 v8.1)) a1.Src a1.Counter a1.Key a1.Payload a1.MIC)) ⟨[(3, []), (4, [])], [(1000000, (1000000, [])), (3, (3, [])), (4, (4, []))]⟩ h (by kernel_rfl) (by kernel_rfl)
      · refine TS_know 18 (b := false) hb5 (by kernel_rfl) (by kernel_rfl) ?_
        refine TS_know 17 (b := false) hb5 (by kernel_rfl) (by kernel_rfl) ?_
        refine TS_F (by kernel_rfl) rfl ?_
        refine TS_go 5 ?_
        replace h := condO h
        rcases h with ⟨hb9, h⟩ | ⟨hb9, h⟩
        · refine TS_know 30 (b := true) hb9 (by kernel_rfl) (by kernel_rfl) ?_
          refine TS_know 29 (b := true) hb9 (by kernel_rfl) (by kernel_rfl) ?_
          refine TS_T (by kernel_rfl) rfl ?_
          refine TS_go 2 ?_
          replace h := bindO h
          obtain ⟨v10, hv10, h⟩ := h
          refine TS_con [] [] (some (1000000, 0)) (ok_made_Tape_Addr v2.2 v10 hv10) (by kernel_rfl) (by kernel_rfl) (by kernel_rfl) ?_
          refine TS_go 4 ?_
          exact TS_meet (v10.2, (S_Frame.mk a1.Kind a1.AckRequest a1.Pending a1.Secure a1.Seq a1.Pan a1.Dst v10.1 a1.Counter a1.Key a1.Payload a1.MIC)) ⟨[(3, []), (4, [])], [(1000000, (1000000, [])), (3, (3, [])), (4, (4, []))]⟩ h (by kernel_rfl) (by kernel_rfl)
        · refine TS_know 30 (b := false) hb9 (by kernel_rfl) (by kernel_rfl) ?_
          refine TS_know 29 (b := false) hb9 (by kernel_rfl) (by kernel_rfl) ?_
          refine TS_F (by kernel_rfl) rfl ?_
          refine TS_go 5 ?_
          replace h := condO h
          rcases h with ⟨hb11, h⟩ | ⟨hb11, h⟩
          · refine TS_know 35 (b := true) hb11 (by kernel_rfl) (by kernel_rfl) ?_
            refine TS_know 34 (b := true) hb11 (by kernel_rfl) (by kernel_rfl) ?_
            refine TS_T (by kernel_rfl) rfl ?_
            refine TS_go 8 ?_
            exact TS_meet (v2.2, (S_Frame.mk a1.Kind a1.AckRequest a1.Pending (!a1.Secure) a1.Seq a1.Pan a1.Dst a1.Src a1.Counter a1.Key a1.Payload a1.MIC)) ⟨[(3, []), (4, [])], [(1000000, (1000000, [])), (3, (3, [])), (4, (4, []))]⟩ h (by kernel_rfl) (by kernel_rfl)
          · refine TS_know 35 (b := false) hb11 (by kernel_rfl) (by kernel_rfl) ?_
            refine TS_know 34 (b := false) hb11 (by kernel_rfl) (by kernel_rfl) ?_
            refine TS_F (by kernel_rfl) rfl ?_
            refine TS_go 5 ?_
            replace h := condO h
            rcases h with ⟨hb12, h⟩ | ⟨hb12, h⟩
            · refine TS_know 41 (b := true) hb12 (by kernel_rfl) (by kernel_rfl) ?_
              refine TS_know 40 (b := true) hb12 (by kernel_rfl) (by kernel_rfl) ?_
              refine TS_T (by kernel_rfl) rfl ?_
              refine TS_go 2 ?_
              replace h := bindO h
              obtain ⟨v13, hv13, h⟩ := h
              refine TS_con [] [(43, 900000)] (some (1000000, 0)) (okT_made_Tape_Bytes v2.2 6 v13 hv13) (by kernel_rfl) (by kernel_rfl) (by kernel_rfl) ?_
              refine TS_go 4 ?_
              exact TS_meet (v13.2, (S_Frame.mk a1.Kind a1.AckRequest a1.Pending a1.Secure a1.Seq a1.Pan a1.Dst a1.Src a1.Counter a1.Key a1.Payload v13.1)) ⟨[(3, []), (4, [])], [(1000000, (1000000, [])), (3, (3, [0, 0, 0, 0, 0, 0, 0, 0, 0, 0, 0, 0, 0, 0, 0, 2])), (4, (4, []))]⟩ h (by kernel_rfl) (by kernel_rfl)
            · refine TS_know 41 (b := false) hb12 (by kernel_rfl) (by kernel_rfl) ?_
              refine TS_know 40 (b := false) hb12 (by kernel_rfl) (by kernel_rfl) ?_
              refine TS_F (by kernel_rfl) rfl ?_
              refine TS_go 5 ?_
              replace h := condO h
              rcases h with ⟨hb14, h⟩ | ⟨hb14, h⟩
              · refine TS_know 46 (b := true) hb14 (by kernel_rfl) (by kernel_rfl) ?_
                refine TS_know 45 (b := true) hb14 (by kernel_rfl) (by kernel_rfl) ?_
                refine TS_T (by kernel_rfl) rfl ?_
                refine TS_draw (by kernel_rfl) ?_
                refine TD_go 2 ?_
                replace h := bindO h
                obtain ⟨v15, hv15, h⟩ := h
                refine TD_call [] (ok_ref05_Room a1 v15 hv15) (by kernel_rfl) (by kernel_rfl) ?_
                refine TD_go 5 ?_
                replace h := bindO h
                obtain ⟨v16, hv16, h⟩ := h
                refine TD_con (_h := []) (_h' := []) [] 1000000 0 [.slc 1 0 (List.length v2.2.l) (List.map (ecI .i64) v2.2.l), .lit (.int .i64 (v2.2.at_))] _ _ (ok_made_Tape_Fill v2.2 (IntKind.wrap .i64 ((IntKind.wrap .i64 (v15 + (List.length a1.Payload : Int))) + 1)) v16 hv16) (by kernel_rfl) (by kernel_rfl) (by kernel_rfl) (by kernel_rfl) ?_
                refine TD_go 2 ?_
                refine TD_end (by kernel_rfl) ?_
                refine TS_go 1 ?_
                exact TS_meet (v16.2, (S_Frame.mk a1.Kind a1.AckRequest a1.Pending a1.Secure a1.Seq a1.Pan a1.Dst a1.Src a1.Counter a1.Key v16.1 a1.MIC)) ⟨[(3, []), (4, [])], [(1000000, (1000000, [])), (3, (3, [])), (4, (4, []))]⟩ h (by kernel_rfl) (by kernel_rfl)
              · refine TS_know 46 (b := false) hb14 (by kernel_rfl) (by kernel_rfl) ?_
                refine TS_know 45 (b := false) hb14 (by kernel_rfl) (by kernel_rfl) ?_
                refine TS_F (by kernel_rfl) rfl ?_
                refine TS_go 5 ?_
                replace h := condO h
                rcases h with ⟨hb17, h⟩ | ⟨hb17, h⟩
                · refine TS_know 58 (b := true) hb17 (by kernel_rfl) (by kernel_rfl) ?_
                  refine TS_know 57 (b := true) hb17 (by kernel_rfl) (by kernel_rfl) ?_
                  refine TS_T (by kernel_rfl) rfl ?_
                  refine TS_go 8 ?_
                  exact TS_meet (v2.2, (S_Frame.mk a1.Kind a1.AckRequest a1.Pending a1.Secure a1.Seq a1.Pan a1.Dst a1.Src (IntKind.wrap .u32 (a1.Counter + 1)) a1.Key a1.Payload a1.MIC)) ⟨[(3, []), (4, [])], [(1000000, (1000000, [])), (3, (3, [])), (4, (4, []))]⟩ h (by kernel_rfl) (by kernel_rfl)
                · refine TS_know 58 (b := false) hb17 (by kernel_rfl) (by kernel_rfl) ?_
                  refine TS_know 57 (b := false) hb17 (by kernel_rfl) (by kernel_rfl) ?_
                  refine TS_F (by kernel_rfl) rfl ?_
                  refine TS_go 8 ?_
                  exact TS_meet (v2.2, (S_Frame.mk a1.Kind (!a1.AckRequest) a1.Pending a1.Secure a1.Seq a1.Pan a1.Dst a1.Src a1.Counter a1.Key a1.Payload a1.MIC)) ⟨[(3, []), (4, [])], [(1000000, (1000000, [])), (3, (3, [])), (4, (4, []))]⟩ h (by kernel_rfl) (by kernel_rfl)

/-- multihop/multihoplaw05.FrameForms -/
noncomputable def F_law05_FrameForms (a0 : S_Frame) (a1 : List Int) : Option (Bool) :=
  (F_made_New a1).bind fun v1 =>
  (F_made_Tape_AnyFrame v1).bind fun v2 =>
  (F_law05_known ).bind fun v3 =>
  bif v3 then
    (F_law05_forms a0).bind fun v5 =>
    bif v5 then
      (F_law05_forms v2.1).bind fun v7 =>
      bif v7 then
        (F_made_Tape_Spoiled v2.2 v2.1).bind fun v9 =>
        (F_law05_forms v9.1).bind fun v10 =>
        bif v10 then
          (F_made_Tape_Frame v9.2 4).bind fun v12 =>
          (F_made_Tape_Spoiled v12.2 v12.1).bind fun v13 =>
          (F_law05_forms v13.1).bind fun v14 =>
          some (v14)
        else
          some (false)
      else
        some (false)
    else
      some (false)
  else
    some (false)
set_option maxRecDepth 100000 in
set_option maxHeartbeats 40000000 in
theorem ok_law05_FrameForms (a0 : S_Frame) (a1 : List Int) (r : Bool) (h : F_law05_FrameForms a0 a1 = some r) : Con Try.prog 10 [.agg (S_Frame.cs a0), .c (eS 1 (ecI .i64) (a1))] [] (.c (.lit (.bool (r)))) [] := by
  unfold F_law05_FrameForms at h
  refine con_of [] [] 33 Try.func10 rfl rfl (by kernel_rfl) (fun K => ?_)
  refine TS_go 8 ?_
  replace h := bindO h
  obtain ⟨v1, hv1, h⟩ := h
  refine TS_con [] [(8, 10)] none (ok_made_New a1 v1 hv1) (by kernel_rfl) (by kernel_rfl) (by kernel_rfl) ?_
  refine TS_go 5 ?_
  replace h := bindO h
  obtain ⟨v2, hv2, h⟩ := h
  refine TS_con [] [] (some (8, 0)) (ok_made_Tape_AnyFrame v1 v2 hv2) (by kernel_rfl) (by kernel_rfl) (by kernel_rfl) ?_
  refine TS_go 5 ?_
  replace h := bindO h
  obtain ⟨v3, hv3, h⟩ := h
  refine TS_call [] (ok_law05_known  v3 hv3) (by kernel_rfl) (by kernel_rfl) ?_
  refine TS_go 1 ?_
  replace h := condO h
  rcases h with ⟨hb4, h⟩ | ⟨hb4, h⟩
  · subst hb4
    refine TS_go 1 ?_
    replace h := bindO h
    obtain ⟨v5, hv5, h⟩ := h
    refine TS_call [] (ok_law05_forms a0 v5 hv5) (by kernel_rfl) (by kernel_rfl) ?_
    refine TS_go 2 ?_
    replace h := condO h
    rcases h with ⟨hb6, h⟩ | ⟨hb6, h⟩
    · subst hb6
      refine TS_go 1 ?_
      replace h := bindO h
      obtain ⟨v7, hv7, h⟩ := h
      refine TS_call [] (ok_law05_forms v2.1 v7 hv7) (by kernel_rfl) (by kernel_rfl) ?_
      refine TS_go 2 ?_
      replace h := condO h
      rcases h with ⟨hb8, h⟩ | ⟨hb8, h⟩
      · subst hb8
        refine TS_go 2 ?_
        replace h := bindO h
        obtain ⟨v9, hv9, h⟩ := h
        refine TS_con [] [] (some (8, 0)) (ok_made_Tape_Spoiled v2.2 v2.1 v9 hv9) (by kernel_rfl) (by kernel_rfl) (by kernel_rfl) ?_
        replace h := bindO h
        obtain ⟨v10, hv10, h⟩ := h
        refine TS_call [] (ok_law05_forms v9.1 v10 hv10) (by kernel_rfl) (by kernel_rfl) ?_
        refine TS_go 2 ?_
        replace h := condO h
        rcases h with ⟨hb11, h⟩ | ⟨hb11, h⟩
        · subst hb11
          refine TS_go 2 ?_
          replace h := bindO h
          obtain ⟨v12, hv12, h⟩ := h
          refine TS_con [] [] (some (8, 0)) (ok_made_Tape_Frame v9.2 4 v12 hv12) (by kernel_rfl) (by kernel_rfl) (by kernel_rfl) ?_
          replace h := bindO h
          obtain ⟨v13, hv13, h⟩ := h
          refine TS_con [] [] (some (8, 0)) (ok_made_Tape_Spoiled v12.2 v12.1 v13 hv13) (by kernel_rfl) (by kernel_rfl) (by kernel_rfl) ?_
          replace h := bindO h
          obtain ⟨v14, hv14, h⟩ := h
          refine TS_call [] (ok_law05_forms v13.1 v14 hv14) (by kernel_rfl) (by kernel_rfl) ?_
          refine TS_go 4 ?_
          obtain rfl := Option.some.inj h
          exact TS_ret (by kernel_rfl) (by kernel_rfl) (by kernel_rfl)
        · subst hb11
          refine TS_go 9 ?_
          obtain rfl := Option.some.inj h
          exact TS_ret (by kernel_rfl) (by kernel_rfl) (by kernel_rfl)
      · subst hb8
        refine TS_go 15 ?_
        obtain rfl := Option.some.inj h
        exact TS_ret (by kernel_rfl) (by kernel_rfl) (by kernel_rfl)
    · subst hb6
      refine TS_go 19 ?_
      obtain rfl := Option.some.inj h
      exact TS_ret (by kernel_rfl) (by kernel_rfl) (by kernel_rfl)
  · subst hb4
    refine TS_go 23 ?_
    obtain rfl := Option.some.inj h
    exact TS_ret (by kernel_rfl) (by kernel_rfl) (by kernel_rfl)

end Go.Proofs.Ytohfnlkjdjmipaa
