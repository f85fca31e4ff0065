/-
  Part 3 of what the proof of this law rests on.
-/
import Derived.Test.YtleadcbdbfjefaaKW2
namespace Go.Proofs.Ytleadcbdbfjefaa
section
open Go.RowKit
attribute [local irreducible] TS go TD goD

/-- multihop/transmit.Valid -/
noncomputable def F_transmit_Valid_l1 (a0 : S_Link) (s2 : Int) : Option ((Int) ⊕ ((Unit) ⊕ (Bool))) :=
  bif (decide (s2 < (List.length a0.Queue : Int))) then
    (idx a0.Queue s2).bind fun e6 =>
    (F_transmit_validFrame e6).bind fun v7 =>
    bif v7 then
      some (Sum.inl (IntKind.wrap .i64 (s2 + 1)))
    else
      some (Sum.inr (Sum.inr false))
  else
    some (Sum.inr (Sum.inl ()))
noncomputable def F_transmit_Valid (a0 : S_Link) : Option (Bool) :=
  bif (decide ((List.length a0.Queue : Int) > 16)) then
    some (false)
  else
    (loopO (F_transmit_Valid_l1 a0) 0).bind (Sum.elim (fun b3 =>
      bif ((List.length a0.Queue : Int) == 0) then
        bif (a0.Phase == 0) then
          bif (a0.Attempts == 0) then
            bif (S_Backoff.eqb a0.Backoff (S_Backoff.mk 0 0 0 0 0)) then
              some ((a0.Left == 0))
            else
              some (false)
          else
            some (false)
        else
          some (false)
      else
        bif (a0.Phase == 1) then
          bif (decide (a0.Attempts ≥ 0)) then
            bif (decide (a0.Attempts ≤ 3)) then
              (F_backoff_Valid a0.Backoff).bind fun v17 =>
              bif v17 then
                (F_backoff_Ended a0.Backoff).bind fun v19 =>
                bif v19 then
                  some (false)
                else
                  some ((a0.Left == 0))
              else
                some (false)
            else
              some (false)
          else
            some (false)
        else
          bif (a0.Phase == 2) then
            (idx a0.Queue 0).bind fun e22 =>
            bif e22.AckRequest then
              bif (decide (a0.Attempts ≥ 1)) then
                bif (decide (a0.Attempts ≤ 4)) then
                  bif (S_Backoff.eqb a0.Backoff (S_Backoff.mk 0 0 0 0 0)) then
                    bif (decide (a0.Left ≥ 1)) then
                      some ((decide (a0.Left ≤ 3)))
                    else
                      some (false)
                  else
                    some (false)
                else
                  some (false)
              else
                some (false)
            else
              some (false)
          else
            some (false)
    ) (fun w9 => some w9))
set_option maxRecDepth 100000 in
set_option maxHeartbeats 40000000 in
theorem ok_transmit_Valid (a0 : S_Link) (r : Bool) (h : F_transmit_Valid a0 = some r) : Con Try.prog 19 [.agg (S_Link.cs a0)] [] (.c (.lit (.bool (r)))) [] := by
  unfold F_transmit_Valid at h
  refine con_of [] [] 106 Try.func19 rfl rfl (by kernel_rfl) (fun K => ?_)
  refine TS_go 13 ?_
  replace h := condO h
  rcases h with ⟨hb1, h⟩ | ⟨hb1, h⟩
  · refine TS_know 9 (b := true) hb1 (by kernel_rfl) (by kernel_rfl) ?_
    refine TS_T (by kernel_rfl) rfl ?_
    refine TS_go 6 ?_
    have ret := Option.some.inj h
    subst ret
    exact TS_ret (by kernel_rfl) (by kernel_rfl) (by kernel_rfl)
  · refine TS_know 9 (b := false) hb1 (by kernel_rfl) (by kernel_rfl) ?_
    refine TS_F (by kernel_rfl) rfl ?_
    refine TS_go 10 ?_
    refine TS_cut ⟨[(1, []), (11, []), (12, []), (13, [])], [(1, (1, []))]⟩ (.mk [.code (codeAt [1, 1, 0, 1, 0] (bodyOf Try.f19)), .blk 0, .code (codeAt [1, 1, 1] (bodyOf Try.f19))] .normal ⟨[(1, .c (.box 1 0)), (11, .c (.slc 16 0 (List.length a0.Queue) (List.map S_Frame.cs a0.Queue))), (12, .c (.lit (.int .i64 ((List.length a0.Queue : Int))))), (13, .c (.lit (.int .i64 (0))))], [(1, .box [.slc 16 0 (List.length a0.Queue) (List.map S_Frame.cs a0.Queue), .lit (.int .i64 (a0.Phase)), .lit (.int .i64 (a0.Attempts)), .lit (.int .i64 (a0.Backoff.State)), .lit (.int .i64 (a0.Backoff.Busy)), .lit (.int .i64 (a0.Backoff.Exponent)), .lit (.int .i64 (a0.Backoff.Clear)), .lit (.int .i64 (a0.Backoff.Wait)), .lit (.int .i64 (a0.Left))])]⟩) (by kernel_rfl) (by kernel_rfl) ?_
    replace h := bindO h
    obtain ⟨y4, hl1, hK1⟩ := h
    refine TS_loopB (F_transmit_Valid_l1 a0) ⟨[(1, []), (11, []), (12, []), (13, [])], [(1, (1, []))]⟩ (fun (s2 : Int) => [(13, .c (.lit (.int .i64 (s2))))]) (fun (s2 : Int) => []) 0 y4 (.exit 0) (fun (b : Unit) => (Sum.inl b : (Unit) ⊕ (Bool))) ⟨[(1, [])], [(1, (1, []))]⟩ (fun (b3 : Unit) => []) (fun (b3 : Unit) => []) hl1 (by kernel_rfl) (by kernel_rfl) ?_ ?_
    · intro s2 x h hy1
      unfold F_transmit_Valid_l1 at h
      refine TS_go 5 ?_
      replace h := condO h
      rcases h with ⟨hb5, h⟩ | ⟨hb5, h⟩
      · refine TS_know 14 (b := true) hb5 (by kernel_rfl) (by kernel_rfl) ?_
        refine TS_T (by kernel_rfl) rfl ?_
        refine TS_go 5 ?_
        replace h := bindO h
        obtain ⟨e6, he6, h⟩ := h
        refine TS_idx S_Frame.cs he6 (by kernel_rfl) (by kernel_rfl) ?_
        refine TS_go 7 ?_
        replace h := bindO h
        obtain ⟨v7, hv7, h⟩ := h
        refine TS_call [] (ok_transmit_validFrame e6 v7 hv7) (by kernel_rfl) (by kernel_rfl) ?_
        refine TS_go 2 ?_
        replace h := condO h
        rcases h with ⟨hb8, h⟩ | ⟨hb8, h⟩
        · subst hb8
          refine TS_F (by kernel_rfl) rfl ?_
          refine TS_go 6 ?_
          have ret := Option.some.inj h
          subst ret
          exact TS_againB _ ⟨[(1, []), (11, []), (12, []), (13, [])], [(1, (1, []))]⟩ rfl (by kernel_rfl) (by kernel_rfl)
        · subst hb8
          refine TS_T (by kernel_rfl) rfl ?_
          refine TS_go 7 ?_
          have ret := Option.some.inj h
          subst ret
          have hy1q := hy1 _ rfl
          subst hy1q
          replace h := (elimR hK1)
          refine TS_retB rfl (by kernel_rfl) ?_
          refine TS_go 2 ?_
          have ret := Option.some.inj h
          subst ret
          exact TS_ret (by kernel_rfl) (by kernel_rfl) (by kernel_rfl)
      · refine TS_know 14 (b := false) hb5 (by kernel_rfl) (by kernel_rfl) ?_
        refine TS_F (by kernel_rfl) rfl ?_
        refine TS_go 2 ?_
        have ret := Option.some.inj h
        subst ret
        exact TS_brkB () ⟨[(1, [])], [(1, (1, []))]⟩ rfl (by kernel_rfl) (by kernel_rfl) (by kernel_rfl)
    · intro b3 hb
      subst y4
      have h := elimL hK1
      refine TS_go 15 ?_
      replace h := condO h
      rcases h with ⟨hb10, h⟩ | ⟨hb10, h⟩
      · refine TS_know 25 (b := true) hb10 (by kernel_rfl) (by kernel_rfl) ?_
        refine TS_T (by kernel_rfl) rfl ?_
        refine TS_go 6 ?_
        replace h := condO h
        rcases h with ⟨hb11, h⟩ | ⟨hb11, h⟩
        · refine TS_know 28 (b := true) hb11 (by kernel_rfl) (by kernel_rfl) ?_
          refine TS_know 29 (b := true) hb11 (by kernel_rfl) (by kernel_rfl) ?_
          refine TS_go 5 ?_
          replace h := condO h
          rcases h with ⟨hb12, h⟩ | ⟨hb12, h⟩
          · refine TS_know 32 (b := true) hb12 (by kernel_rfl) (by kernel_rfl) ?_
            refine TS_know 33 (b := true) hb12 (by kernel_rfl) (by kernel_rfl) ?_
            refine TS_know 34 (b := true) hb12 (by kernel_rfl) (by kernel_rfl) ?_
            refine TS_go 6 ?_
            replace h := condO h
            rcases h with ⟨hb13, h⟩ | ⟨hb13, h⟩
            · refine TS_know 38 (b := true) hb13 (by kernel_rfl) (by kernel_rfl) ?_
              refine TS_know 39 (b := true) hb13 (by kernel_rfl) (by kernel_rfl) ?_
              refine TS_know 40 (b := true) hb13 (by kernel_rfl) (by kernel_rfl) ?_
              refine TS_go 8 ?_
              have ret := Option.some.inj h
              subst ret
              exact TS_ret (by kernel_rfl) (by kernel_rfl) (by kernel_rfl)
            · refine TS_know 38 (b := false) hb13 (by kernel_rfl) (by kernel_rfl) ?_
              refine TS_know 39 (b := false) hb13 (by kernel_rfl) (by kernel_rfl) ?_
              refine TS_know 40 (b := false) hb13 (by kernel_rfl) (by kernel_rfl) ?_
              refine TS_go 8 ?_
              have ret := Option.some.inj h
              subst ret
              exact TS_ret (by kernel_rfl) (by kernel_rfl) (by kernel_rfl)
          · refine TS_know 32 (b := false) hb12 (by kernel_rfl) (by kernel_rfl) ?_
            refine TS_know 33 (b := false) hb12 (by kernel_rfl) (by kernel_rfl) ?_
            refine TS_know 34 (b := false) hb12 (by kernel_rfl) (by kernel_rfl) ?_
            refine TS_go 14 ?_
            have ret := Option.some.inj h
            subst ret
            exact TS_ret (by kernel_rfl) (by kernel_rfl) (by kernel_rfl)
        · refine TS_know 28 (b := false) hb11 (by kernel_rfl) (by kernel_rfl) ?_
          refine TS_know 29 (b := false) hb11 (by kernel_rfl) (by kernel_rfl) ?_
          refine TS_go 19 ?_
          have ret := Option.some.inj h
          subst ret
          exact TS_ret (by kernel_rfl) (by kernel_rfl) (by kernel_rfl)
      · refine TS_know 25 (b := false) hb10 (by kernel_rfl) (by kernel_rfl) ?_
        refine TS_F (by kernel_rfl) rfl ?_
        refine TS_go 13 ?_
        replace h := condO h
        rcases h with ⟨hb14, h⟩ | ⟨hb14, h⟩
        · refine TS_know 48 (b := true) hb14 (by kernel_rfl) (by kernel_rfl) ?_
          refine TS_know 47 (b := true) hb14 (by kernel_rfl) (by kernel_rfl) ?_
          refine TS_T (by kernel_rfl) rfl ?_
          refine TS_go 6 ?_
          replace h := condO h
          rcases h with ⟨hb15, h⟩ | ⟨hb15, h⟩
          · refine TS_know 51 (b := true) hb15 (by kernel_rfl) (by kernel_rfl) ?_
            refine TS_know 52 (b := true) hb15 (by kernel_rfl) (by kernel_rfl) ?_
            refine TS_go 5 ?_
            replace h := condO h
            rcases h with ⟨hb16, h⟩ | ⟨hb16, h⟩
            · refine TS_know 55 (b := true) hb16 (by kernel_rfl) (by kernel_rfl) ?_
              refine TS_know 56 (b := true) hb16 (by kernel_rfl) (by kernel_rfl) ?_
              refine TS_know 57 (b := true) hb16 (by kernel_rfl) (by kernel_rfl) ?_
              refine TS_go 2 ?_
              replace h := bindO h
              obtain ⟨v17, hv17, h⟩ := h
              refine TS_call [] (ok_backoff_Valid a0.Backoff v17 hv17) (by kernel_rfl) (by kernel_rfl) ?_
              refine TS_go 2 ?_
              replace h := condO h
              rcases h with ⟨hb18, h⟩ | ⟨hb18, h⟩
              · subst hb18
                refine TS_go 2 ?_
                replace h := bindO h
                obtain ⟨v19, hv19, h⟩ := h
                refine TS_call [] (ok_backoff_Ended a0.Backoff v19 hv19) (by kernel_rfl) (by kernel_rfl) ?_
                refine TS_go 3 ?_
                replace h := condO h
                rcases h with ⟨hb20, h⟩ | ⟨hb20, h⟩
                · subst hb20
                  refine TS_go 9 ?_
                  have ret := Option.some.inj h
                  subst ret
                  exact TS_ret (by kernel_rfl) (by kernel_rfl) (by kernel_rfl)
                · subst hb20
                  refine TS_go 9 ?_
                  have ret := Option.some.inj h
                  subst ret
                  exact TS_ret (by kernel_rfl) (by kernel_rfl) (by kernel_rfl)
              · subst hb18
                refine TS_go 15 ?_
                have ret := Option.some.inj h
                subst ret
                exact TS_ret (by kernel_rfl) (by kernel_rfl) (by kernel_rfl)
            · refine TS_know 55 (b := false) hb16 (by kernel_rfl) (by kernel_rfl) ?_
              refine TS_know 56 (b := false) hb16 (by kernel_rfl) (by kernel_rfl) ?_
              refine TS_know 57 (b := false) hb16 (by kernel_rfl) (by kernel_rfl) ?_
              refine TS_go 20 ?_
              have ret := Option.some.inj h
              subst ret
              exact TS_ret (by kernel_rfl) (by kernel_rfl) (by kernel_rfl)
          · refine TS_know 51 (b := false) hb15 (by kernel_rfl) (by kernel_rfl) ?_
            refine TS_know 52 (b := false) hb15 (by kernel_rfl) (by kernel_rfl) ?_
            refine TS_go 25 ?_
            have ret := Option.some.inj h
            subst ret
            exact TS_ret (by kernel_rfl) (by kernel_rfl) (by kernel_rfl)
        · refine TS_know 48 (b := false) hb14 (by kernel_rfl) (by kernel_rfl) ?_
          refine TS_know 47 (b := false) hb14 (by kernel_rfl) (by kernel_rfl) ?_
          refine TS_F (by kernel_rfl) rfl ?_
          refine TS_go 5 ?_
          replace h := condO h
          rcases h with ⟨hb21, h⟩ | ⟨hb21, h⟩
          · refine TS_know 74 (b := true) hb21 (by kernel_rfl) (by kernel_rfl) ?_
            refine TS_know 73 (b := true) hb21 (by kernel_rfl) (by kernel_rfl) ?_
            refine TS_T (by kernel_rfl) rfl ?_
            refine TS_go 4 ?_
            replace h := bindO h
            obtain ⟨_e22, he22, h⟩ := h
            refine TS_idx S_Frame.cs he22 (by kernel_rfl) (by kernel_rfl) ?_
            refine TS_go 3 ?_
            replace h := condO h
            rcases h with ⟨hb23, h⟩ | ⟨hb23, h⟩
            · refine TS_know 79 (b := true) hb23 (by kernel_rfl) (by kernel_rfl) ?_
              refine TS_know 80 (b := true) hb23 (by kernel_rfl) (by kernel_rfl) ?_
              refine TS_go 5 ?_
              replace h := condO h
              rcases h with ⟨hb24, h⟩ | ⟨hb24, h⟩
              · refine TS_know 83 (b := true) hb24 (by kernel_rfl) (by kernel_rfl) ?_
                refine TS_know 84 (b := true) hb24 (by kernel_rfl) (by kernel_rfl) ?_
                refine TS_know 85 (b := true) hb24 (by kernel_rfl) (by kernel_rfl) ?_
                refine TS_go 5 ?_
                replace h := condO h
                rcases h with ⟨hb25, h⟩ | ⟨hb25, h⟩
                · refine TS_know 88 (b := true) hb25 (by kernel_rfl) (by kernel_rfl) ?_
                  refine TS_know 89 (b := true) hb25 (by kernel_rfl) (by kernel_rfl) ?_
                  refine TS_know 90 (b := true) hb25 (by kernel_rfl) (by kernel_rfl) ?_
                  refine TS_go 6 ?_
                  replace h := condO h
                  rcases h with ⟨hb26, h⟩ | ⟨hb26, h⟩
                  · refine TS_know 94 (b := true) hb26 (by kernel_rfl) (by kernel_rfl) ?_
                    refine TS_know 95 (b := true) hb26 (by kernel_rfl) (by kernel_rfl) ?_
                    refine TS_know 96 (b := true) hb26 (by kernel_rfl) (by kernel_rfl) ?_
                    refine TS_go 5 ?_
                    replace h := condO h
                    rcases h with ⟨hb27, h⟩ | ⟨hb27, h⟩
                    · refine TS_know 99 (b := true) hb27 (by kernel_rfl) (by kernel_rfl) ?_
                      refine TS_know 100 (b := true) hb27 (by kernel_rfl) (by kernel_rfl) ?_
                      refine TS_know 101 (b := true) hb27 (by kernel_rfl) (by kernel_rfl) ?_
                      refine TS_go 9 ?_
                      have ret := Option.some.inj h
                      subst ret
                      exact TS_ret (by kernel_rfl) (by kernel_rfl) (by kernel_rfl)
                    · refine TS_know 99 (b := false) hb27 (by kernel_rfl) (by kernel_rfl) ?_
                      refine TS_know 100 (b := false) hb27 (by kernel_rfl) (by kernel_rfl) ?_
                      refine TS_know 101 (b := false) hb27 (by kernel_rfl) (by kernel_rfl) ?_
                      refine TS_go 9 ?_
                      have ret := Option.some.inj h
                      subst ret
                      exact TS_ret (by kernel_rfl) (by kernel_rfl) (by kernel_rfl)
                  · refine TS_know 94 (b := false) hb26 (by kernel_rfl) (by kernel_rfl) ?_
                    refine TS_know 95 (b := false) hb26 (by kernel_rfl) (by kernel_rfl) ?_
                    refine TS_know 96 (b := false) hb26 (by kernel_rfl) (by kernel_rfl) ?_
                    refine TS_go 14 ?_
                    have ret := Option.some.inj h
                    subst ret
                    exact TS_ret (by kernel_rfl) (by kernel_rfl) (by kernel_rfl)
                · refine TS_know 88 (b := false) hb25 (by kernel_rfl) (by kernel_rfl) ?_
                  refine TS_know 89 (b := false) hb25 (by kernel_rfl) (by kernel_rfl) ?_
                  refine TS_know 90 (b := false) hb25 (by kernel_rfl) (by kernel_rfl) ?_
                  refine TS_go 20 ?_
                  have ret := Option.some.inj h
                  subst ret
                  exact TS_ret (by kernel_rfl) (by kernel_rfl) (by kernel_rfl)
              · refine TS_know 83 (b := false) hb24 (by kernel_rfl) (by kernel_rfl) ?_
                refine TS_know 84 (b := false) hb24 (by kernel_rfl) (by kernel_rfl) ?_
                refine TS_know 85 (b := false) hb24 (by kernel_rfl) (by kernel_rfl) ?_
                refine TS_go 25 ?_
                have ret := Option.some.inj h
                subst ret
                exact TS_ret (by kernel_rfl) (by kernel_rfl) (by kernel_rfl)
            · refine TS_know 79 (b := false) hb23 (by kernel_rfl) (by kernel_rfl) ?_
              refine TS_know 80 (b := false) hb23 (by kernel_rfl) (by kernel_rfl) ?_
              refine TS_go 30 ?_
              have ret := Option.some.inj h
              subst ret
              exact TS_ret (by kernel_rfl) (by kernel_rfl) (by kernel_rfl)
          · refine TS_know 74 (b := false) hb21 (by kernel_rfl) (by kernel_rfl) ?_
            refine TS_know 73 (b := false) hb21 (by kernel_rfl) (by kernel_rfl) ?_
            refine TS_F (by kernel_rfl) rfl ?_
            refine TS_go 7 ?_
            have ret := Option.some.inj h
            subst ret
            exact TS_ret (by kernel_rfl) (by kernel_rfl) (by kernel_rfl)

/-- multihop/transmit.ownFrame -/
noncomputable def F_transmit_ownFrame (a0 : S_Frame) : Option (S_Frame) :=
  (appO 1 ([] : List Int) (Cut.app .whole a0.Payload)).bind fun l1 =>
  (appO 1 ([] : List Int) (Cut.app .whole a0.MIC)).bind fun l2 =>
  some ((S_Frame.mk a0.Kind a0.AckRequest a0.Pending a0.Secure a0.Seq a0.Pan a0.Dst a0.Src a0.Counter a0.Key l1 l2))
set_option maxRecDepth 100000 in
set_option maxHeartbeats 40000000 in
theorem okT_transmit_ownFrame (a0 : S_Frame) (r : S_Frame) (h : F_transmit_ownFrame a0 = some r) : Con Try.prog 38 [.agg (S_Frame.cs a0)] [] (.agg [.lit (.int .i64 (r.Kind)), .lit (.bool (r.AckRequest)), .lit (.bool (r.Pending)), .lit (.bool (r.Secure)), .lit (.int .u8 (r.Seq)), .lit (.int .u16 (r.Pan)), .lit (.int .i64 (r.Dst.Mode)), .lit (.int .u16 (r.Dst.Short)), .lit (.int .u64 (r.Dst.EUI)), .lit (.int .i64 (r.Src.Mode)), .lit (.int .u16 (r.Src.Short)), .lit (.int .u64 (r.Src.EUI)), .lit (.int .u32 (r.Counter)), .lit (.int .u8 (r.Key)), .slc 1 900016 (List.length r.Payload) (List.map (ecI .u8) r.Payload), .slc 1 900017 (List.length r.MIC) (List.map (ecI .u8) r.MIC)]) [(900014, .spare 5 1 (List.length r.Payload)), (900015, .spare 5 1 (List.length r.MIC))] := by
  unfold F_transmit_ownFrame at h
  refine con_of [] [(900014, []), (900015, [])] 12 Try.func38 rfl rfl (by kernel_rfl) (fun K => ?_)
  refine TS_go 9 ?_
  replace h := bindO h
  obtain ⟨_l1, hl1, h⟩ := h
  refine TS_appNT 5 5 1 (ecI .u8) (fun _ => by kernel_rfl) (l2 := a0.Payload) .whole hl1 (by kernel_rfl) (by kernel_rfl) ?_
  refine TS_go 7 ?_
  replace h := bindO h
  obtain ⟨l2, hl2, h⟩ := h
  refine TS_appNT 9 5 1 (ecI .u8) (fun _ => by kernel_rfl) (l2 := a0.MIC) .whole hl2 (by kernel_rfl) (by kernel_rfl) ?_
  refine TS_go 8 ?_
  refine TS_fitU ⟨[(2, [])], [(5, (900014, [])), (9, (900015, [])), (2, (2, []))]⟩ (by kernel_rfl) ?_
  refine TS_go 1 ?_
  have ret := Option.some.inj h
  subst ret
  exact TS_ret (by kernel_rfl) (by kernel_rfl) (by kernel_rfl)
theorem ok_transmit_ownFrame (a0 : S_Frame) (r : S_Frame) (h : F_transmit_ownFrame a0 = some r) : Con Try.prog 38 [.agg (S_Frame.cs a0)] [] (.agg (S_Frame.cs r)) [] :=
  con_drop [[0, 0, 0, 0, 0, 0, 0, 0, 0, 0, 0, 0, 0, 0, 2, 2]] [] (okT_transmit_ownFrame a0 r h) (by kernel_rfl) (by kernel_rfl) (by kernel_rfl)

/-- multihop/transmit.own -/
noncomputable def F_transmit_own_l1 (a0 : S_Link) (s1 : (List S_Frame) × Int) : Option (((List S_Frame) × Int) ⊕ ((List S_Frame))) :=
  bif (decide (s1.2 < (List.length a0.Queue : Int))) then
    (idx a0.Queue s1.2).bind fun e5 =>
    (F_transmit_ownFrame e5).bind fun v6 =>
    (appO 120 s1.1 (Cut.app .whole ([v6] : List S_Frame))).bind fun l7 =>
    some (Sum.inl (l7, IntKind.wrap .i64 (s1.2 + 1)))
  else
    some (Sum.inr s1.1)
noncomputable def F_transmit_own (a0 : S_Link) : Option (S_Link) :=
  (loopO (F_transmit_own_l1 a0) (([] : List S_Frame), 0)).bind fun b2 =>
  some ((S_Link.mk b2 a0.Phase a0.Attempts a0.Backoff a0.Left))
set_option maxRecDepth 100000 in
set_option maxHeartbeats 40000000 in
theorem okT_transmit_own (a0 : S_Link) (r : S_Link) (h : F_transmit_own a0 = some r) : Con Try.prog 37 [.agg (S_Link.cs a0)] [] (.agg [.slc 16 900002 (List.length r.Queue) (List.map S_Frame.cs r.Queue), .lit (.int .i64 (r.Phase)), .lit (.int .i64 (r.Attempts)), .lit (.int .i64 (r.Backoff.State)), .lit (.int .i64 (r.Backoff.Busy)), .lit (.int .i64 (r.Backoff.Exponent)), .lit (.int .i64 (r.Backoff.Clear)), .lit (.int .i64 (r.Backoff.Wait)), .lit (.int .i64 (r.Left))]) [(900000, .spare 36 16 (List.length r.Queue))] := by
  unfold F_transmit_own at h
  refine con_of [] [(900000, [])] 22 Try.func37 rfl rfl (by kernel_rfl) (fun K => ?_)
  refine TS_go 18 ?_
  refine TS_nilT 3 600000 36 16 (by kernel_rfl) ?_
  refine TS_cut ⟨[(1, []), (2, []), (3, []), (7, []), (8, []), (9, [])], [(1, (1, [])), (2, (2, [])), (600000, (600000, []))]⟩ (.mk [.code (codeAt [1, 1, 0, 1, 0] (bodyOf Try.f37)), .blk 0, .code (codeAt [1, 1, 1] (bodyOf Try.f37))] .normal ⟨[(1, .c (.box 1 0)), (2, .c (.box 2 0)), (3, .c (.slc 16 600002 (List.length ([] : List S_Frame)) (List.map S_Frame.cs ([] : List S_Frame)))), (7, .c (.slc 16 0 (List.length a0.Queue) (List.map S_Frame.cs a0.Queue))), (8, .c (.lit (.int .i64 ((List.length a0.Queue : Int))))), (9, .c (.lit (.int .i64 (0))))], [(1, .box [.slc 16 0 (List.length a0.Queue) (List.map S_Frame.cs a0.Queue), .lit (.int .i64 (a0.Phase)), .lit (.int .i64 (a0.Attempts)), .lit (.int .i64 (a0.Backoff.State)), .lit (.int .i64 (a0.Backoff.Busy)), .lit (.int .i64 (a0.Backoff.Exponent)), .lit (.int .i64 (a0.Backoff.Clear)), .lit (.int .i64 (a0.Backoff.Wait)), .lit (.int .i64 (a0.Left))]), (2, .box [.lit (.slice none 0 0), .lit (.int .i64 (0)), .lit (.int .i64 (0)), .lit (.int .i64 (0)), .lit (.int .i64 (0)), .lit (.int .i64 (0)), .lit (.int .i64 (0)), .lit (.int .i64 (0)), .lit (.int .i64 (0))]), (600000, .spare 36 16 (List.length ([] : List S_Frame)))]⟩) (by kernel_rfl) (by kernel_rfl) ?_
  replace h := bindO h
  obtain ⟨y3, hl1, hK1⟩ := h
  refine TS_loopB (F_transmit_own_l1 a0) ⟨[(1, []), (2, []), (3, []), (7, []), (8, []), (9, [])], [(1, (1, [])), (2, (2, [])), (600000, (600000, []))]⟩ (fun (s1 : (List S_Frame) × Int) => [(3, .c (.slc 16 600002 (List.length s1.1) (List.map S_Frame.cs s1.1))), (9, .c (.lit (.int .i64 (s1.2))))]) (fun (s1 : (List S_Frame) × Int) => [(600000, .spare 36 16 (List.length s1.1))]) (([] : List S_Frame), 0) y3 (.exit 0) (fun (b : (List S_Frame)) => b) ⟨[(1, []), (2, []), (3, [])], [(1, (1, [])), (2, (2, [])), (600000, (600000, []))]⟩ (fun (b2 : (List S_Frame)) => [(3, .c (.slc 16 600002 (List.length b2) (List.map S_Frame.cs b2)))]) (fun (b2 : (List S_Frame)) => [(600000, .spare 36 16 (List.length b2))]) hl1 (by kernel_rfl) (by kernel_rfl) ?_ ?_
  · intro s1 x h hy1
    unfold F_transmit_own_l1 at h
    refine TS_go 5 ?_
    replace h := condO h
    rcases h with ⟨hb4, h⟩ | ⟨hb4, h⟩
    · refine TS_know 10 (b := true) hb4 (by kernel_rfl) (by kernel_rfl) ?_
      refine TS_T (by kernel_rfl) rfl ?_
      refine TS_go 5 ?_
      replace h := bindO h
      obtain ⟨e5, he5, h⟩ := h
      refine TS_idx S_Frame.cs he5 (by kernel_rfl) (by kernel_rfl) ?_
      refine TS_go 7 ?_
      replace h := bindO h
      obtain ⟨v6, hv6, h⟩ := h
      refine TS_con [] [(15, 900014), (600001, 900015)] none (okT_transmit_ownFrame e5 v6 hv6) (by kernel_rfl) (by kernel_rfl) (by kernel_rfl) ?_
      refine TS_litNT 16 36 16 S_Frame.cs [0, 0, 0, 0, 0, 0, 0, 0, 0, 0, 0, 0, 0, 0, 2, 2] ([v6] : List S_Frame) (by kernel_rfl) (by kernel_rfl) ?_
      replace h := bindO h
      obtain ⟨_l7, hl7, h⟩ := h
      refine TS_appT (d := 600000) (e := 36) (sz := 16) (N := List.length s1.1) S_Frame.cs (fun _ => by kernel_rfl) (l1 := s1.1) (l2 := ([v6] : List S_Frame)) (c := .whole) hl7 (by kernel_rfl) (by kernel_rfl) ?_
      refine TS_go 7 ?_
      have ret := Option.some.inj h
      subst ret
      exact TS_againB _ ⟨[(1, []), (2, []), (3, []), (7, []), (8, []), (9, [])], [(1, (1, [])), (2, (2, [])), (600000, (600000, []))]⟩ rfl (by kernel_rfl) (by kernel_rfl)
    · refine TS_know 10 (b := false) hb4 (by kernel_rfl) (by kernel_rfl) ?_
      refine TS_F (by kernel_rfl) rfl ?_
      refine TS_go 2 ?_
      have ret := Option.some.inj h
      subst ret
      exact TS_brkB s1.1 ⟨[(1, []), (2, []), (3, [])], [(1, (1, [])), (2, (2, [])), (600000, (600000, []))]⟩ rfl (by kernel_rfl) (by kernel_rfl) (by kernel_rfl)
  · intro b2 hb
    subst y3
    have h := hK1
    refine TS_go 12 ?_
    refine TS_fitU ⟨[(2, [])], [(600000, (900000, [])), (2, (2, []))]⟩ (by kernel_rfl) ?_
    refine TS_go 1 ?_
    have ret := Option.some.inj h
    subst ret
    exact TS_ret (by kernel_rfl) (by kernel_rfl) (by kernel_rfl)
/-- multihop/backoff.drawn -/
noncomputable def F_backoff_drawn_j1  (v3 : S_Backoff) : Option (S_Backoff) :=
  some (v3)
noncomputable def F_backoff_drawn (a0 : S_Backoff) (a1 : Int) : Option (S_Backoff) :=
  bif decide (0 ≤ a0.Exponent) then
    bif decide ((ishl .u32 1 a0.Exponent) ≠ 0) then
      bif (decide ((IntKind.wrap .i64 (Int.tmod a1 (ishl .u32 1 a0.Exponent))) > 0)) then
        (F_backoff_drawn_j1) (S_Backoff.mk 1 a0.Busy a0.Exponent 2 (IntKind.wrap .i64 (Int.tmod a1 (ishl .u32 1 a0.Exponent))))
      else
        (F_backoff_drawn_j1) (S_Backoff.mk 2 a0.Busy a0.Exponent 2 (IntKind.wrap .i64 (Int.tmod a1 (ishl .u32 1 a0.Exponent))))
    else none
  else none
set_option maxRecDepth 100000 in
set_option maxHeartbeats 40000000 in
theorem ok_backoff_drawn (a0 : S_Backoff) (a1 : Int) (r : S_Backoff) (h : F_backoff_drawn a0 a1 = some r) : Con Try.prog 80 [.agg (S_Backoff.cs a0), .c (.lit (.int .u32 (a1)))] [] (.agg (S_Backoff.cs r)) [] := by
  unfold F_backoff_drawn at h
  refine con_of [] [] 19 Try.func80 rfl rfl (by kernel_rfl) (fun K => ?_)
  refine TS_go 15 ?_
  replace h := chkO h
  obtain ⟨hc1, h⟩ := h
  refine TS_num (op := .shl) (k := .u32) (k' := .i64) (m := 1) (i := a0.Exponent) (of_decide_eq_true hc1) rfl (by simp) (by kernel_rfl) (by kernel_rfl) ?_
  replace h := chkO h
  obtain ⟨hc2, h⟩ := h
  refine TS_num (op := .rem) (k := .u32) (k' := .u32) (m := a1) (i := ishl .u32 1 a0.Exponent) (of_decide_eq_true hc2) rfl (by simp) (by kernel_rfl) (by kernel_rfl) ?_
  refine TS_go 9 ?_
  refine TS_cut ⟨[(2, []), (4, [])], [(2, (2, [])), (4, (4, []))]⟩ (.mk [.code (codeAt [1, 1, 1, 1] (bodyOf Try.f80))] .normal ⟨[(2, .c (.box 2 0)), (4, .c (.box 4 0))], [(2, .box [.lit (.int .i64 (2)), .lit (.int .i64 (a0.Busy)), .lit (.int .i64 (a0.Exponent)), .lit (.int .i64 (2)), .lit (.int .i64 (IntKind.wrap .i64 (Int.tmod a1 (ishl .u32 1 a0.Exponent))))]), (4, .box [.lit (.int .i64 (0)), .lit (.int .i64 (0)), .lit (.int .i64 (0)), .lit (.int .i64 (0)), .lit (.int .i64 (0))])]⟩) (by kernel_rfl) (by kernel_rfl) ?_
  refine TS_joinB ⟨[(2, []), (4, [])], [(2, (2, [])), (4, (4, []))]⟩ (fun (v3 : S_Backoff) => []) (fun (v3 : S_Backoff) => [(2, .box (S_Backoff.cs v3))]) (F_backoff_drawn_j1) r ?_ ?_
  · clear h
    intro v3 h
    unfold F_backoff_drawn_j1 at h
    refine TS_go 6 ?_
    have ret := Option.some.inj h
    subst ret
    exact TS_ret (by kernel_rfl) (by kernel_rfl) (by kernel_rfl)
  · refine TS_go 6 ?_
    replace h := condO h
    rcases h with ⟨hb4, h⟩ | ⟨hb4, h⟩
    · refine TS_know 16 (b := true) hb4 (by kernel_rfl) (by kernel_rfl) ?_
      refine TS_T (by kernel_rfl) rfl ?_
      refine TS_go 4 ?_
      exact TS_meet (S_Backoff.mk 1 a0.Busy a0.Exponent 2 (IntKind.wrap .i64 (Int.tmod a1 (ishl .u32 1 a0.Exponent)))) ⟨[(2, []), (4, [])], [(2, (2, [])), (4, (4, []))]⟩ h (by kernel_rfl) (by kernel_rfl)
    · refine TS_know 16 (b := false) hb4 (by kernel_rfl) (by kernel_rfl) ?_
      refine TS_F (by kernel_rfl) rfl ?_
      refine TS_go 1 ?_
      exact TS_meet (S_Backoff.mk 2 a0.Busy a0.Exponent 2 (IntKind.wrap .i64 (Int.tmod a1 (ishl .u32 1 a0.Exponent)))) ⟨[(2, []), (4, [])], [(2, (2, [])), (4, (4, []))]⟩ h (by kernel_rfl) (by kernel_rfl)

/-- multihop/backoff.Begin -/
noncomputable def F_backoff_Begin (a0 : Int) : Option (S_Backoff) :=
  (F_backoff_exponent 0).bind fun v1 =>
  (F_backoff_drawn (S_Backoff.mk 0 0 v1 0 0) a0).bind fun v2 =>
  some (v2)
set_option maxRecDepth 100000 in
set_option maxHeartbeats 40000000 in
theorem ok_backoff_Begin (a0 : Int) (r : S_Backoff) (h : F_backoff_Begin a0 = some r) : Con Try.prog 71 [.c (.lit (.int .u32 (a0)))] [] (.agg (S_Backoff.cs r)) [] := by
  unfold F_backoff_Begin at h
  refine con_of [] [] 7 Try.func71 rfl rfl (by kernel_rfl) (fun K => ?_)
  refine TS_go 6 ?_
  replace h := bindO h
  obtain ⟨v1, hv1, h⟩ := h
  refine TS_call [] (ok_backoff_exponent 0 v1 hv1) (by kernel_rfl) (by kernel_rfl) ?_
  refine TS_go 2 ?_
  replace h := bindO h
  obtain ⟨v2, hv2, h⟩ := h
  refine TS_call [] (ok_backoff_drawn (S_Backoff.mk 0 0 v1 0 0) a0 v2 hv2) (by kernel_rfl) (by kernel_rfl) ?_
  refine TS_go 3 ?_
  have ret := Option.some.inj h
  subst ret
  exact TS_ret (by kernel_rfl) (by kernel_rfl) (by kernel_rfl)

/-- multihop/transmit.Enqueue -/
noncomputable def F_transmit_Enqueue_j1  (v9 : S_transmit_machine) : Option (S_Link × Int) :=
  some ((v9.Link, 0))
noncomputable def F_transmit_Enqueue (a0 : S_Link) (a1 : S_Frame) (a2 : Int) : Option (S_Link × Int) :=
  (F_transmit_Valid a0).bind fun v1 =>
  bif v1 then
    (F_transmit_validFrame a1).bind fun v3 =>
    bif v3 then
      bif ((List.length a0.Queue : Int) == 16) then
        some (((S_Link.mk ([] : List S_Frame) 0 0 (S_Backoff.mk 0 0 0 0 0) 0), 10))
      else
        (F_transmit_own a0).bind fun v6 =>
        (F_transmit_ownFrame a1).bind fun v7 =>
        (appO 120 v6.Queue (Cut.app .whole ([v7] : List S_Frame))).bind fun l8 =>
        bif ((List.length l8 : Int) == 1) then
          (F_backoff_Begin a2).bind fun v11 =>
          (F_transmit_Enqueue_j1) (S_transmit_machine.mk (S_Link.mk l8 1 0 v11 0) a2 ([] : List S_Outcome))
        else
          (F_transmit_Enqueue_j1) (S_transmit_machine.mk (S_Link.mk l8 v6.Phase v6.Attempts v6.Backoff v6.Left) a2 ([] : List S_Outcome))
    else
      some (((S_Link.mk ([] : List S_Frame) 0 0 (S_Backoff.mk 0 0 0 0 0) 0), 1))
  else
    some (((S_Link.mk ([] : List S_Frame) 0 0 (S_Backoff.mk 0 0 0 0 0) 0), 1))
set_option maxRecDepth 100000 in
set_option maxHeartbeats 40000000 in
theorem okT_transmit_Enqueue (a0 : S_Link) (a1 : S_Frame) (a2 : Int) (r : S_Link × Int) (h : F_transmit_Enqueue a0 a1 a2 = some r) : Con Try.prog 15 [.agg (S_Link.cs a0), .agg (S_Frame.cs a1), .c (.lit (.int .u32 (a2)))] [] (.tup [(true, [.slc 16 900002 (List.length r.1.Queue) (List.map S_Frame.cs r.1.Queue), .lit (.int .i64 (r.1.Phase)), .lit (.int .i64 (r.1.Attempts)), .lit (.int .i64 (r.1.Backoff.State)), .lit (.int .i64 (r.1.Backoff.Busy)), .lit (.int .i64 (r.1.Backoff.Exponent)), .lit (.int .i64 (r.1.Backoff.Clear)), .lit (.int .i64 (r.1.Backoff.Wait)), .lit (.int .i64 (r.1.Left))]), (false, [.lit (.int .i64 (r.2))])]) [(900000, .spare 36 16 (List.length r.1.Queue))] := by
  unfold F_transmit_Enqueue at h
  refine con_of [] [(900000, [])] 44 Try.func15 rfl rfl (by kernel_rfl) (fun K => ?_)
  refine TS_go 11 ?_
  replace h := bindO h
  obtain ⟨v1, hv1, h⟩ := h
  refine TS_call [] (ok_transmit_Valid a0 v1 hv1) (by kernel_rfl) (by kernel_rfl) ?_
  refine TS_go 2 ?_
  replace h := condO h
  rcases h with ⟨hb2, h⟩ | ⟨hb2, h⟩
  · subst hb2
    refine TS_go 1 ?_
    replace h := bindO h
    obtain ⟨v3, hv3, h⟩ := h
    refine TS_call [] (ok_transmit_validFrame a1 v3 hv3) (by kernel_rfl) (by kernel_rfl) ?_
    refine TS_go 3 ?_
    replace h := condO h
    rcases h with ⟨hb4, h⟩ | ⟨hb4, h⟩
    · subst hb4
      refine TS_F (by kernel_rfl) rfl ?_
      refine TS_go 9 ?_
      replace h := condO h
      rcases h with ⟨hb5, h⟩ | ⟨hb5, h⟩
      · refine TS_know 21 (b := true) hb5 (by kernel_rfl) (by kernel_rfl) ?_
        refine TS_T (by kernel_rfl) rfl ?_
        refine TS_go 6 ?_
        refine TS_nilB 6 0 600000 36 16 (by kernel_rfl) ?_
        refine TS_fitU ⟨[(6, []), (7, [])], [(600000, (900000, [])), (6, (6, []))]⟩ (by kernel_rfl) ?_
        refine TS_go 2 ?_
        have ret := Option.some.inj h
        subst ret
        exact TS_ret (by kernel_rfl) (by kernel_rfl) (by kernel_rfl)
      · refine TS_know 21 (b := false) hb5 (by kernel_rfl) (by kernel_rfl) ?_
        refine TS_F (by kernel_rfl) rfl ?_
        refine TS_go 4 ?_
        replace h := bindO h
        obtain ⟨v6, hv6, h⟩ := h
        refine TS_con [] [(24, 900000)] none (okT_transmit_own a0 v6 hv6) (by kernel_rfl) (by kernel_rfl) (by kernel_rfl) ?_
        refine TS_go 6 ?_
        refine TS_draw (by kernel_rfl) ?_
        refine TD_go 4 ?_
        replace h := bindO h
        obtain ⟨v7, hv7, h⟩ := h
        refine TD_call [] (ok_transmit_ownFrame a1 v7 hv7) (by kernel_rfl) (by kernel_rfl) ?_
        refine TD_litNT 32 36 16 S_Frame.cs [0, 0, 0, 0, 0, 0, 0, 0, 0, 0, 0, 0, 0, 0, 2, 2] ([v7] : List S_Frame) (by kernel_rfl) (by kernel_rfl) ?_
        replace h := bindO h
        obtain ⟨l8, hl8, h⟩ := h
        refine TD_appT (d := 24) (e := 36) (sz := 16) (N := List.length v6.Queue) S_Frame.cs (fun _ => by kernel_rfl) (l1 := v6.Queue) (l2 := ([v7] : List S_Frame)) (c := .whole) hl8 (by kernel_rfl) (by kernel_rfl) ?_
        refine TD_go 3 ?_
        refine TD_end (by kernel_rfl) ?_
        refine TS_cut ⟨[(6, []), (8, [])], [(6, (6, [])), (24, (24, [])), (8, (8, []))]⟩ (.mk [.code (codeAt [1, 1, 1, 1, 1] (bodyOf Try.f15))] .normal ⟨[(6, .c (.box 6 0)), (8, .c (.box 8 0))], [(6, .box [.lit (.slice none 0 0), .lit (.int .i64 (0)), .lit (.int .i64 (0)), .lit (.int .i64 (0)), .lit (.int .i64 (0)), .lit (.int .i64 (0)), .lit (.int .i64 (0)), .lit (.int .i64 (0)), .lit (.int .i64 (0))]), (24, .spare 36 16 (List.length l8)), (8, .box [.slc 16 26 (List.length l8) (List.map S_Frame.cs l8), .lit (.int .i64 (v6.Phase)), .lit (.int .i64 (v6.Attempts)), .lit (.int .i64 (v6.Backoff.State)), .lit (.int .i64 (v6.Backoff.Busy)), .lit (.int .i64 (v6.Backoff.Exponent)), .lit (.int .i64 (v6.Backoff.Clear)), .lit (.int .i64 (v6.Backoff.Wait)), .lit (.int .i64 (v6.Left)), .lit (.int .u32 (a2)), .lit (.slice none 0 0)])]⟩) (by kernel_rfl) (by kernel_rfl) ?_
        refine TS_joinB ⟨[(6, []), (8, [])], [(6, (6, [])), (8, (8, [0, 0, 0, 0, 0, 0, 0, 0, 0, 0, 19])), (24, (24, []))]⟩ (fun (v9 : S_transmit_machine) => [(6, .c (.box 6 0)), (8, .c (.box 8 0))]) (fun (v9 : S_transmit_machine) => [(6, .box [.lit (.slice none 0 0), .lit (.int .i64 (0)), .lit (.int .i64 (0)), .lit (.int .i64 (0)), .lit (.int .i64 (0)), .lit (.int .i64 (0)), .lit (.int .i64 (0)), .lit (.int .i64 (0)), .lit (.int .i64 (0))]), (8, .box [.slc 16 26 (List.length v9.Link.Queue) (List.map S_Frame.cs v9.Link.Queue), .lit (.int .i64 (v9.Link.Phase)), .lit (.int .i64 (v9.Link.Attempts)), .lit (.int .i64 (v9.Link.Backoff.State)), .lit (.int .i64 (v9.Link.Backoff.Busy)), .lit (.int .i64 (v9.Link.Backoff.Exponent)), .lit (.int .i64 (v9.Link.Backoff.Clear)), .lit (.int .i64 (v9.Link.Backoff.Wait)), .lit (.int .i64 (v9.Link.Left)), .lit (.int .u32 (v9.draw)), .slc 18 0 (List.length v9.outcomes) (List.map S_Outcome.cs v9.outcomes)]), (24, .spare 36 16 (List.length v9.Link.Queue))]) (F_transmit_Enqueue_j1) r ?_ ?_
        · clear h
          intro v9 h
          unfold F_transmit_Enqueue_j1 at h
          refine TS_go 7 ?_
          refine TS_fitU ⟨[(6, []), (7, [])], [(24, (900000, [])), (6, (6, []))]⟩ (by kernel_rfl) ?_
          refine TS_go 1 ?_
          have ret := Option.some.inj h
          subst ret
          exact TS_ret (by kernel_rfl) (by kernel_rfl) (by kernel_rfl)
        · refine TS_go 8 ?_
          replace h := condO h
          rcases h with ⟨hb10, h⟩ | ⟨hb10, h⟩
          · refine TS_know 40 (b := true) hb10 (by kernel_rfl) (by kernel_rfl) ?_
            refine TS_T (by kernel_rfl) rfl ?_
            refine TS_go 1 ?_
            refine TS_cut ⟨[(6, []), (8, [])], [(6, (6, [])), (24, (24, [])), (8, (8, []))]⟩ (.mk [opsFr (codeAt [1, 1, 1, 1, 1, 0, 1, 0] (bodyOf Try.f15)) 0] .normal ⟨[(6, .c (.box 6 0)), (8, .c (.box 8 0))], [(6, .box [.lit (.slice none 0 0), .lit (.int .i64 (0)), .lit (.int .i64 (0)), .lit (.int .i64 (0)), .lit (.int .i64 (0)), .lit (.int .i64 (0)), .lit (.int .i64 (0)), .lit (.int .i64 (0)), .lit (.int .i64 (0))]), (24, .spare 36 16 (List.length l8)), (8, .box [.slc 16 26 (List.length l8) (List.map S_Frame.cs l8), .lit (.int .i64 (v6.Phase)), .lit (.int .i64 (v6.Attempts)), .lit (.int .i64 (v6.Backoff.State)), .lit (.int .i64 (v6.Backoff.Busy)), .lit (.int .i64 (v6.Backoff.Exponent)), .lit (.int .i64 (v6.Backoff.Clear)), .lit (.int .i64 (v6.Backoff.Wait)), .lit (.int .i64 (v6.Left)), .lit (.int .u32 (a2)), .lit (.slice none 0 0)])]⟩) (by kernel_rfl) (by kernel_rfl) ?_
            refine TS_bump 2000 (by kernel_rfl) ?_
            refine TS_inl 8 Try.func39 rfl rfl (by kernel_rfl) (fun K13 => ?_)
            refine TS_go 3 ?_
            refine TS_cut ⟨[(0, []), (2000006, []), (2000008, []), (2, [])], [(2006, (2006, [])), (2024, (2024, [])), (2008, (2008, []))]⟩ (.mk [opsFr (codeAt [0] (bodyOf Try.f39)) 1, .code (codeAt [1] (bodyOf Try.f39))] .normal ⟨[(0, .c (.box 2008 0)), (2000006, .c (.box 2006 0)), (2000008, .c (.box 2008 0)), (2, .c (.box 2008 0))], [(2006, .box [.lit (.slice none 0 0), .lit (.int .i64 (0)), .lit (.int .i64 (0)), .lit (.int .i64 (0)), .lit (.int .i64 (0)), .lit (.int .i64 (0)), .lit (.int .i64 (0)), .lit (.int .i64 (0)), .lit (.int .i64 (0))]), (2024, .spare 36 16 (List.length l8)), (2008, .box [.slc 16 2026 (List.length l8) (List.map S_Frame.cs l8), .lit (.int .i64 (v6.Phase)), .lit (.int .i64 (v6.Attempts)), .lit (.int .i64 (v6.Backoff.State)), .lit (.int .i64 (v6.Backoff.Busy)), .lit (.int .i64 (v6.Backoff.Exponent)), .lit (.int .i64 (v6.Backoff.Clear)), .lit (.int .i64 (v6.Backoff.Wait)), .lit (.int .i64 (v6.Left)), .lit (.int .u32 (a2)), .lit (.slice none 0 0)])]⟩) (by kernel_rfl) (by kernel_rfl) ?_
            refine TS_bump 2000 (by kernel_rfl) ?_
            refine TS_inl 19 Try.func57 rfl rfl (by kernel_rfl) (fun K12 => ?_)
            refine TS_go 15 ?_
            replace h := bindO h
            obtain ⟨v11, hv11, h⟩ := h
            refine TS_call [] (ok_backoff_Begin a2 v11 hv11) (by kernel_rfl) (by kernel_rfl) ?_
            refine TS_go 12 ?_
            refine TS_inlR (by kernel_rfl) (by kernel_rfl) ?_
            refine TS_go 8 ?_
            refine TS_inlR (by kernel_rfl) (by kernel_rfl) ?_
            refine TS_go 1 ?_
            exact TS_meet (S_transmit_machine.mk (S_Link.mk l8 1 0 v11 0) a2 ([] : List S_Outcome)) ⟨[(6, []), (8, [])], [(4006, (6, [])), (4008, (8, [0, 0, 0, 0, 0, 0, 0, 0, 0, 0, 19])), (4024, (24, []))]⟩ h (by kernel_rfl) (by kernel_rfl)
          · refine TS_know 40 (b := false) hb10 (by kernel_rfl) (by kernel_rfl) ?_
            refine TS_F (by kernel_rfl) rfl ?_
            refine TS_go 1 ?_
            exact TS_meet (S_transmit_machine.mk (S_Link.mk l8 v6.Phase v6.Attempts v6.Backoff v6.Left) a2 ([] : List S_Outcome)) ⟨[(6, []), (8, [])], [(6, (6, [])), (8, (8, [0, 0, 0, 0, 0, 0, 0, 0, 0, 0, 19])), (24, (24, []))]⟩ h (by kernel_rfl) (by kernel_rfl)
    · subst hb4
      refine TS_T (by kernel_rfl) rfl ?_
      refine TS_go 6 ?_
      refine TS_nilB 6 0 600000 36 16 (by kernel_rfl) ?_
      refine TS_fitU ⟨[(6, []), (7, [])], [(600000, (900000, [])), (6, (6, []))]⟩ (by kernel_rfl) ?_
      refine TS_go 2 ?_
      have ret := Option.some.inj h
      subst ret
      exact TS_ret (by kernel_rfl) (by kernel_rfl) (by kernel_rfl)
  · subst hb2
    refine TS_go 5 ?_
    refine TS_T (by kernel_rfl) rfl ?_
    refine TS_go 6 ?_
    refine TS_nilB 6 0 600000 36 16 (by kernel_rfl) ?_
    refine TS_fitU ⟨[(6, []), (7, [])], [(600000, (900000, [])), (6, (6, []))]⟩ (by kernel_rfl) ?_
    refine TS_go 2 ?_
    have ret := Option.some.inj h
    subst ret
    exact TS_ret (by kernel_rfl) (by kernel_rfl) (by kernel_rfl)
/-- multihop/backoff.sense -/
noncomputable def F_backoff_sense_j1  (v5 : S_Backoff) : Option (S_Backoff) :=
  some (v5)
noncomputable def F_backoff_sense (a0 : S_Backoff) (a1 : Bool) (a2 : Int) : Option (S_Backoff) :=
  bif a1 then
    (F_backoff_exponent (IntKind.wrap .i64 (a0.Busy + 1))).bind fun v2 =>
    bif (decide ((IntKind.wrap .i64 (a0.Busy + 1)) ≤ 4)) then
      (F_backoff_drawn (S_Backoff.mk a0.State (IntKind.wrap .i64 (a0.Busy + 1)) v2 a0.Clear a0.Wait) a2).bind fun v4 =>
      some (v4)
    else
      some ((S_Backoff.mk 4 (IntKind.wrap .i64 (a0.Busy + 1)) v2 2 a0.Wait))
  else
    bif ((IntKind.wrap .i64 (a0.Clear - 1)) == 0) then
      (F_backoff_sense_j1) (S_Backoff.mk 3 a0.Busy a0.Exponent (IntKind.wrap .i64 (a0.Clear - 1)) a0.Wait)
    else
      (F_backoff_sense_j1) (S_Backoff.mk a0.State a0.Busy a0.Exponent (IntKind.wrap .i64 (a0.Clear - 1)) a0.Wait)
set_option maxRecDepth 100000 in
set_option maxHeartbeats 40000000 in
theorem ok_backoff_sense (a0 : S_Backoff) (a1 : Bool) (a2 : Int) (r : S_Backoff) (h : F_backoff_sense a0 a1 a2 = some r) : Con Try.prog 72 [.agg (S_Backoff.cs a0), .c (.lit (.bool (a1))), .c (.lit (.int .u32 (a2)))] [] (.agg (S_Backoff.cs r)) [] := by
  unfold F_backoff_sense at h
  refine con_of [] [] 35 Try.func72 rfl rfl (by kernel_rfl) (fun K => ?_)
  refine TS_go 11 ?_
  replace h := condO h
  rcases h with ⟨hb1, h⟩ | ⟨hb1, h⟩
  · subst hb1
    refine TS_F (by kernel_rfl) rfl ?_
    refine TS_go 13 ?_
    replace h := bindO h
    obtain ⟨v2, hv2, h⟩ := h
    refine TS_call [] (ok_backoff_exponent (IntKind.wrap .i64 (a0.Busy + 1)) v2 hv2) (by kernel_rfl) (by kernel_rfl) ?_
    refine TS_go 10 ?_
    replace h := condO h
    rcases h with ⟨hb3, h⟩ | ⟨hb3, h⟩
    · refine TS_know 28 (b := true) hb3 (by kernel_rfl) (by kernel_rfl) ?_
      refine TS_T (by kernel_rfl) rfl ?_
      refine TS_go 4 ?_
      replace h := bindO h
      obtain ⟨v4, hv4, h⟩ := h
      refine TS_call [] (ok_backoff_drawn (S_Backoff.mk a0.State (IntKind.wrap .i64 (a0.Busy + 1)) v2 a0.Clear a0.Wait) a2 v4 hv4) (by kernel_rfl) (by kernel_rfl) ?_
      refine TS_go 4 ?_
      have ret := Option.some.inj h
      subst ret
      exact TS_ret (by kernel_rfl) (by kernel_rfl) (by kernel_rfl)
    · refine TS_know 28 (b := false) hb3 (by kernel_rfl) (by kernel_rfl) ?_
      refine TS_F (by kernel_rfl) rfl ?_
      refine TS_go 17 ?_
      have ret := Option.some.inj h
      subst ret
      exact TS_ret (by kernel_rfl) (by kernel_rfl) (by kernel_rfl)
  · subst hb1
    refine TS_T (by kernel_rfl) rfl ?_
    refine TS_go 8 ?_
    refine TS_cut ⟨[(3, []), (6, [])], [(3, (3, [])), (6, (6, []))]⟩ (.mk [.code (codeAt [1, 0, 1, 0, 1] (bodyOf Try.f72)), .code (codeAt [1, 1] (bodyOf Try.f72))] .normal ⟨[(3, .c (.box 3 0)), (6, .c (.box 6 0))], [(3, .box [.lit (.int .i64 (a0.State)), .lit (.int .i64 (a0.Busy)), .lit (.int .i64 (a0.Exponent)), .lit (.int .i64 (IntKind.wrap .i64 (a0.Clear - 1))), .lit (.int .i64 (a0.Wait))]), (6, .box [.lit (.int .i64 (0)), .lit (.int .i64 (0)), .lit (.int .i64 (0)), .lit (.int .i64 (0)), .lit (.int .i64 (0))])]⟩) (by kernel_rfl) (by kernel_rfl) ?_
    refine TS_joinB ⟨[(3, []), (6, [])], [(3, (3, [])), (6, (6, []))]⟩ (fun (v5 : S_Backoff) => []) (fun (v5 : S_Backoff) => [(3, .box (S_Backoff.cs v5))]) (F_backoff_sense_j1) r ?_ ?_
    · clear h
      intro v5 h
      unfold F_backoff_sense_j1 at h
      refine TS_go 7 ?_
      have ret := Option.some.inj h
      subst ret
      exact TS_ret (by kernel_rfl) (by kernel_rfl) (by kernel_rfl)
    · refine TS_go 6 ?_
      replace h := condO h
      rcases h with ⟨hb6, h⟩ | ⟨hb6, h⟩
      · refine TS_know 15 (b := true) hb6 (by kernel_rfl) (by kernel_rfl) ?_
        refine TS_T (by kernel_rfl) rfl ?_
        refine TS_go 4 ?_
        exact TS_meet (S_Backoff.mk 3 a0.Busy a0.Exponent (IntKind.wrap .i64 (a0.Clear - 1)) a0.Wait) ⟨[(3, []), (6, [])], [(3, (3, [])), (6, (6, []))]⟩ h (by kernel_rfl) (by kernel_rfl)
      · refine TS_know 15 (b := false) hb6 (by kernel_rfl) (by kernel_rfl) ?_
        refine TS_F (by kernel_rfl) rfl ?_
        refine TS_go 1 ?_
        exact TS_meet (S_Backoff.mk a0.State a0.Busy a0.Exponent (IntKind.wrap .i64 (a0.Clear - 1)) a0.Wait) ⟨[(3, []), (6, [])], [(3, (3, [])), (6, (6, []))]⟩ h (by kernel_rfl) (by kernel_rfl)

/-- multihop/backoff.Step -/
noncomputable def F_backoff_Step_j1  (v3 : S_Backoff) : Option (S_Backoff) :=
  some (v3)
noncomputable def F_backoff_Step (a0 : S_Backoff) (a1 : Bool) (a2 : Int) : Option (S_Backoff) :=
  (F_backoff_Valid a0).bind fun v1 =>
  bif v1 then
    bif (a0.State == 1) then
      bif ((IntKind.wrap .i64 (a0.Wait - 1)) == 0) then
        (F_backoff_Step_j1) (S_Backoff.mk 2 a0.Busy a0.Exponent a0.Clear (IntKind.wrap .i64 (a0.Wait - 1)))
      else
        (F_backoff_Step_j1) (S_Backoff.mk a0.State a0.Busy a0.Exponent a0.Clear (IntKind.wrap .i64 (a0.Wait - 1)))
    else
      bif (a0.State == 2) then
        (F_backoff_sense a0 a1 a2).bind fun v7 =>
        some (v7)
      else
        (F_backoff_Step_j1) a0
  else
    some ((S_Backoff.mk 0 0 0 0 0))
set_option maxRecDepth 100000 in
set_option maxHeartbeats 40000000 in
theorem ok_backoff_Step (a0 : S_Backoff) (a1 : Bool) (a2 : Int) (r : S_Backoff) (h : F_backoff_Step a0 a1 a2 = some r) : Con Try.prog 59 [.agg (S_Backoff.cs a0), .c (.lit (.bool (a1))), .c (.lit (.int .u32 (a2)))] [] (.agg (S_Backoff.cs r)) [] := by
  unfold F_backoff_Step at h
  refine con_of [] [] 30 Try.func59 rfl rfl (by kernel_rfl) (fun K => ?_)
  refine TS_go 9 ?_
  replace h := bindO h
  obtain ⟨v1, hv1, h⟩ := h
  refine TS_call [] (ok_backoff_Valid a0 v1 hv1) (by kernel_rfl) (by kernel_rfl) ?_
  refine TS_go 2 ?_
  replace h := condO h
  rcases h with ⟨hb2, h⟩ | ⟨hb2, h⟩
  · subst hb2
    refine TS_F (by kernel_rfl) rfl ?_
    refine TS_go 1 ?_
    refine TS_cut ⟨[(1, []), (2, []), (3, []), (6, [])], [(3, (3, [])), (6, (6, []))]⟩ (.mk [.code (codeAt [1, 1] (bodyOf Try.f59))] .normal ⟨[(1, .c (.lit (.bool (a1)))), (2, .c (.lit (.int .u32 (a2)))), (3, .c (.box 3 0)), (6, .c (.box 6 0))], [(3, .box [.lit (.int .i64 (a0.State)), .lit (.int .i64 (a0.Busy)), .lit (.int .i64 (a0.Exponent)), .lit (.int .i64 (a0.Clear)), .lit (.int .i64 (a0.Wait))]), (6, .box [.lit (.int .i64 (0)), .lit (.int .i64 (0)), .lit (.int .i64 (0)), .lit (.int .i64 (0)), .lit (.int .i64 (0))])]⟩) (by kernel_rfl) (by kernel_rfl) ?_
    refine TS_joinB ⟨[(3, []), (6, [])], [(3, (3, [])), (6, (6, []))]⟩ (fun (v3 : S_Backoff) => []) (fun (v3 : S_Backoff) => [(3, .box (S_Backoff.cs v3))]) (F_backoff_Step_j1) r ?_ ?_
    · clear h
      intro v3 h
      unfold F_backoff_Step_j1 at h
      refine TS_go 6 ?_
      have ret := Option.some.inj h
      subst ret
      exact TS_ret (by kernel_rfl) (by kernel_rfl) (by kernel_rfl)
    · refine TS_go 11 ?_
      replace h := condO h
      rcases h with ⟨hb4, h⟩ | ⟨hb4, h⟩
      · refine TS_know 14 (b := true) hb4 (by kernel_rfl) (by kernel_rfl) ?_
        refine TS_know 13 (b := true) hb4 (by kernel_rfl) (by kernel_rfl) ?_
        refine TS_T (by kernel_rfl) rfl ?_
        refine TS_go 14 ?_
        replace h := condO h
        rcases h with ⟨hb5, h⟩ | ⟨hb5, h⟩
        · refine TS_know 21 (b := true) hb5 (by kernel_rfl) (by kernel_rfl) ?_
          refine TS_T (by kernel_rfl) rfl ?_
          refine TS_go 5 ?_
          exact TS_meet (S_Backoff.mk 2 a0.Busy a0.Exponent a0.Clear (IntKind.wrap .i64 (a0.Wait - 1))) ⟨[(3, []), (6, [])], [(3, (3, [])), (6, (6, []))]⟩ h (by kernel_rfl) (by kernel_rfl)
        · refine TS_know 21 (b := false) hb5 (by kernel_rfl) (by kernel_rfl) ?_
          refine TS_F (by kernel_rfl) rfl ?_
          refine TS_go 2 ?_
          exact TS_meet (S_Backoff.mk a0.State a0.Busy a0.Exponent a0.Clear (IntKind.wrap .i64 (a0.Wait - 1))) ⟨[(3, []), (6, [])], [(3, (3, [])), (6, (6, []))]⟩ h (by kernel_rfl) (by kernel_rfl)
      · refine TS_know 14 (b := false) hb4 (by kernel_rfl) (by kernel_rfl) ?_
        refine TS_know 13 (b := false) hb4 (by kernel_rfl) (by kernel_rfl) ?_
        refine TS_F (by kernel_rfl) rfl ?_
        refine TS_go 5 ?_
        replace h := condO h
        rcases h with ⟨hb6, h⟩ | ⟨hb6, h⟩
        · refine TS_know 24 (b := true) hb6 (by kernel_rfl) (by kernel_rfl) ?_
          refine TS_know 23 (b := true) hb6 (by kernel_rfl) (by kernel_rfl) ?_
          refine TS_T (by kernel_rfl) rfl ?_
          refine TS_go 5 ?_
          replace h := bindO h
          obtain ⟨v7, hv7, h⟩ := h
          refine TS_call [] (ok_backoff_sense a0 a1 a2 v7 hv7) (by kernel_rfl) (by kernel_rfl) ?_
          refine TS_go 4 ?_
          refine TS_outJ (by kernel_rfl) ?_
          have ret := Option.some.inj h
          subst ret
          exact TS_ret (by kernel_rfl) (by kernel_rfl) (by kernel_rfl)
        · refine TS_know 24 (b := false) hb6 (by kernel_rfl) (by kernel_rfl) ?_
          refine TS_know 23 (b := false) hb6 (by kernel_rfl) (by kernel_rfl) ?_
          refine TS_F (by kernel_rfl) rfl ?_
          refine TS_go 2 ?_
          exact TS_meet a0 ⟨[(3, []), (6, [])], [(3, (3, [])), (6, (6, []))]⟩ h (by kernel_rfl) (by kernel_rfl)
  · subst hb2
    refine TS_T (by kernel_rfl) rfl ?_
    refine TS_go 7 ?_
    have ret := Option.some.inj h
    subst ret
    exact TS_ret (by kernel_rfl) (by kernel_rfl) (by kernel_rfl)

/-- multihop/transmit.Step -/
noncomputable def F_transmit_Step_j1  (v4 : Bool × S_transmit_machine) : Option (S_Link × Bool × (List S_Outcome)) :=
  some ((v4.2.Link, v4.1, v4.2.outcomes))
noncomputable def F_transmit_Step_j2  (v6 : Bool × S_transmit_machine) : Option (S_Link × Bool × (List S_Outcome)) :=
  (F_transmit_Step_j1) (v6.1, v6.2)
noncomputable def F_transmit_Step_j3  (v8 : S_transmit_machine) : Option (S_Link × Bool × (List S_Outcome)) :=
  (F_transmit_Step_j2) (false, v8)
noncomputable def F_transmit_Step (a0 : S_Link) (a1 : S_Slot) : Option (S_Link × Bool × (List S_Outcome)) :=
  (F_transmit_Valid a0).bind fun v1 =>
  bif v1 then
    (F_transmit_own a0).bind fun v3 =>
    bif (v3.Phase == 1) then
      (F_backoff_Step v3.Backoff a1.Busy a1.Draw).bind fun v7 =>
      bif (v7.State == 3) then
        (idx v3.Queue 0).bind fun e10 =>
        bif e10.AckRequest then
          (F_transmit_Step_j2) (true, (S_transmit_machine.mk (S_Link.mk v3.Queue 2 (IntKind.wrap .i64 (v3.Attempts + 1)) (S_Backoff.mk 0 0 0 0 0) 3) a1.Draw ([] : List S_Outcome)))
        else
          (idx v3.Queue 0).bind fun e12 =>
          (appO 136 ([] : List S_Outcome) (Cut.app .whole ([(S_Outcome.mk e12 true (IntKind.wrap .i64 (v3.Attempts + 1)))] : List S_Outcome))).bind fun l13 =>
          (subO v3.Queue 1 (List.length v3.Queue : Int)).bind fun l14 =>
          (appO 120 ([] : List S_Frame) (Cut.app .whole l14)).bind fun l15 =>
          bif ((List.length l15 : Int) == 0) then
            (F_transmit_Step_j2) (true, (S_transmit_machine.mk (S_Link.mk ([] : List S_Frame) 0 0 (S_Backoff.mk 0 0 0 0 0) 0) a1.Draw l13))
          else
            (F_backoff_Begin a1.Draw).bind fun v17 =>
            (F_transmit_Step_j2) (true, (S_transmit_machine.mk (S_Link.mk l15 1 0 v17 0) a1.Draw l13))
      else
        bif (v7.State == 4) then
          bif (decide ((IntKind.wrap .i64 (v3.Attempts + 1)) > 3)) then
            (idx v3.Queue 0).bind fun e23 =>
            (appO 136 ([] : List S_Outcome) (Cut.app .whole ([(S_Outcome.mk e23 false (IntKind.wrap .i64 (v3.Attempts + 1)))] : List S_Outcome))).bind fun l24 =>
            (subO v3.Queue 1 (List.length v3.Queue : Int)).bind fun l25 =>
            (appO 120 ([] : List S_Frame) (Cut.app .whole l25)).bind fun l26 =>
            bif ((List.length l26 : Int) == 0) then
              (F_transmit_Step_j3) (S_transmit_machine.mk (S_Link.mk ([] : List S_Frame) 0 0 (S_Backoff.mk 0 0 0 0 0) 0) a1.Draw l24)
            else
              (F_backoff_Begin a1.Draw).bind fun v28 =>
              (F_transmit_Step_j3) (S_transmit_machine.mk (S_Link.mk l26 1 0 v28 0) a1.Draw l24)
          else
            (F_backoff_Begin a1.Draw).bind fun v32 =>
            (F_transmit_Step_j3) (S_transmit_machine.mk (S_Link.mk v3.Queue 1 (IntKind.wrap .i64 (v3.Attempts + 1)) v32 0) a1.Draw ([] : List S_Outcome))
        else
          (F_transmit_Step_j3) (S_transmit_machine.mk (S_Link.mk v3.Queue v3.Phase v3.Attempts v7 v3.Left) a1.Draw ([] : List S_Outcome))
    else
      bif (v3.Phase == 2) then
        bif a1.Ack then
          (idx v3.Queue 0).bind fun e38 =>
          bif (a1.Seq == e38.Seq) then
            (idx v3.Queue 0).bind fun e40 =>
            (appO 136 ([] : List S_Outcome) (Cut.app .whole ([(S_Outcome.mk e40 true v3.Attempts)] : List S_Outcome))).bind fun l41 =>
            (subO v3.Queue 1 (List.length v3.Queue : Int)).bind fun l42 =>
            (appO 120 ([] : List S_Frame) (Cut.app .whole l42)).bind fun l43 =>
            bif ((List.length l43 : Int) == 0) then
              (F_transmit_Step_j1) (false, (S_transmit_machine.mk (S_Link.mk ([] : List S_Frame) 0 0 (S_Backoff.mk 0 0 0 0 0) 0) a1.Draw l41))
            else
              (F_backoff_Begin a1.Draw).bind fun v45 =>
              (F_transmit_Step_j1) (false, (S_transmit_machine.mk (S_Link.mk l43 1 0 v45 0) a1.Draw l41))
          else
            bif ((IntKind.wrap .i64 (v3.Left - 1)) == 0) then
              bif (decide (v3.Attempts > 3)) then
                (idx v3.Queue 0).bind fun e51 =>
                (appO 136 ([] : List S_Outcome) (Cut.app .whole ([(S_Outcome.mk e51 false v3.Attempts)] : List S_Outcome))).bind fun l52 =>
                (subO v3.Queue 1 (List.length v3.Queue : Int)).bind fun l53 =>
                (appO 120 ([] : List S_Frame) (Cut.app .whole l53)).bind fun l54 =>
                bif ((List.length l54 : Int) == 0) then
                  (F_transmit_Step_j1) (false, (S_transmit_machine.mk (S_Link.mk ([] : List S_Frame) 0 0 (S_Backoff.mk 0 0 0 0 0) 0) a1.Draw l52))
                else
                  (F_backoff_Begin a1.Draw).bind fun v56 =>
                  (F_transmit_Step_j1) (false, (S_transmit_machine.mk (S_Link.mk l54 1 0 v56 0) a1.Draw l52))
              else
                (F_backoff_Begin a1.Draw).bind fun v60 =>
                (F_transmit_Step_j1) (false, (S_transmit_machine.mk (S_Link.mk v3.Queue 1 v3.Attempts v60 0) a1.Draw ([] : List S_Outcome)))
            else
              (F_transmit_Step_j1) (false, (S_transmit_machine.mk (S_Link.mk v3.Queue v3.Phase v3.Attempts v3.Backoff (IntKind.wrap .i64 (v3.Left - 1))) a1.Draw ([] : List S_Outcome)))
        else
          bif ((IntKind.wrap .i64 (v3.Left - 1)) == 0) then
            bif (decide (v3.Attempts > 3)) then
              (idx v3.Queue 0).bind fun e65 =>
              (appO 136 ([] : List S_Outcome) (Cut.app .whole ([(S_Outcome.mk e65 false v3.Attempts)] : List S_Outcome))).bind fun l66 =>
              (subO v3.Queue 1 (List.length v3.Queue : Int)).bind fun l67 =>
              (appO 120 ([] : List S_Frame) (Cut.app .whole l67)).bind fun l68 =>
              bif ((List.length l68 : Int) == 0) then
                (F_transmit_Step_j1) (false, (S_transmit_machine.mk (S_Link.mk ([] : List S_Frame) 0 0 (S_Backoff.mk 0 0 0 0 0) 0) a1.Draw l66))
              else
                (F_backoff_Begin a1.Draw).bind fun v70 =>
                (F_transmit_Step_j1) (false, (S_transmit_machine.mk (S_Link.mk l68 1 0 v70 0) a1.Draw l66))
            else
              (F_backoff_Begin a1.Draw).bind fun v74 =>
              (F_transmit_Step_j1) (false, (S_transmit_machine.mk (S_Link.mk v3.Queue 1 v3.Attempts v74 0) a1.Draw ([] : List S_Outcome)))
          else
            (F_transmit_Step_j1) (false, (S_transmit_machine.mk (S_Link.mk v3.Queue v3.Phase v3.Attempts v3.Backoff (IntKind.wrap .i64 (v3.Left - 1))) a1.Draw ([] : List S_Outcome)))
      else
        (F_transmit_Step_j1) (false, (S_transmit_machine.mk v3 a1.Draw ([] : List S_Outcome)))
  else
    some (((S_Link.mk ([] : List S_Frame) 0 0 (S_Backoff.mk 0 0 0 0 0) 0), false, ([] : List S_Outcome)))
set_option maxRecDepth 100000 in
set_option maxHeartbeats 40000000 in
theorem ok_transmit_Step (a0 : S_Link) (a1 : S_Slot) (r : S_Link × Bool × (List S_Outcome)) (h : F_transmit_Step a0 a1 = some r) : Con Try.prog 17 [.agg (S_Link.cs a0), .agg (S_Slot.cs a1)] [] (.tup [(true, S_Link.cs r.1), (false, [.lit (.bool (r.2.1))]), (false, [eS 18 S_Outcome.cs (r.2.2)])]) [] := by
  unfold F_transmit_Step at h
  refine con_of [[17], [], [19]] [] 38 Try.func17 rfl rfl (by kernel_rfl) (fun K => ?_)
  refine TS_go 12 ?_
  replace h := bindO h
  obtain ⟨v1, hv1, h⟩ := h
  refine TS_call [] (ok_transmit_Valid a0 v1 hv1) (by kernel_rfl) (by kernel_rfl) ?_
  refine TS_go 2 ?_
  replace h := condO h
  rcases h with ⟨hb2, h⟩ | ⟨hb2, h⟩
  · subst hb2
    refine TS_F (by kernel_rfl) rfl ?_
    refine TS_go 2 ?_
    refine TS_draw (by kernel_rfl) ?_
    refine TD_go 1 ?_
    replace h := bindO h
    obtain ⟨v3, hv3, h⟩ := h
    refine TD_conX (d := 14) (e := 900000) [] (okT_transmit_own a0 v3 hv3) (by kernel_rfl) (by kernel_rfl) ?_
    refine TD_go 5 ?_
    refine TD_end (by kernel_rfl) ?_
    refine TS_go 4 ?_
    refine TS_nilB 7 10 600000 65 18 (by kernel_rfl) ?_
    refine TS_cut ⟨[(3, []), (4, []), (7, []), (8, [])], [(3, (3, [])), (4, (4, [])), (14, (14, [])), (7, (7, [])), (600000, (600000, []))]⟩ (.mk [.code (codeAt [1, 1, 1, 1] (bodyOf Try.f17))] .normal ⟨[(3, .c (.box 3 0)), (4, .c (.box 4 0)), (7, .c (.box 7 0)), (8, .c (.lit (.bool (false))))], [(3, .box [.lit (.bool (a1.Busy)), .lit (.bool (a1.Ack)), .lit (.int .u8 (a1.Seq)), .lit (.int .u32 (a1.Draw))]), (4, .box [.lit (.slice none 0 0), .lit (.int .i64 (0)), .lit (.int .i64 (0)), .lit (.int .i64 (0)), .lit (.int .i64 (0)), .lit (.int .i64 (0)), .lit (.int .i64 (0)), .lit (.int .i64 (0)), .lit (.int .i64 (0))]), (14, .spare 36 16 (List.length v3.Queue)), (7, .box [.slc 16 16 (List.length v3.Queue) (List.map S_Frame.cs v3.Queue), .lit (.int .i64 (v3.Phase)), .lit (.int .i64 (v3.Attempts)), .lit (.int .i64 (v3.Backoff.State)), .lit (.int .i64 (v3.Backoff.Busy)), .lit (.int .i64 (v3.Backoff.Exponent)), .lit (.int .i64 (v3.Backoff.Clear)), .lit (.int .i64 (v3.Backoff.Wait)), .lit (.int .i64 (v3.Left)), .lit (.int .u32 (a1.Draw)), .slc 18 600002 (List.length ([] : List S_Outcome)) (List.map S_Outcome.cs ([] : List S_Outcome))]), (600000, .spare 65 18 (List.length ([] : List S_Outcome)))]⟩) (by kernel_rfl) (by kernel_rfl) ?_
    refine TS_joinB ⟨[(4, []), (7, []), (8, [])], [(4, (4, [])), (7, (7, [17, 0, 0, 0, 0, 0, 0, 0, 0, 0, 19]))]⟩ (fun (v4 : Bool × S_transmit_machine) => [(4, .c (.box 4 0)), (7, .c (.box 7 0)), (8, .c (.lit (.bool (v4.1))))]) (fun (v4 : Bool × S_transmit_machine) => [(4, .box [.lit (.slice none 0 0), .lit (.int .i64 (0)), .lit (.int .i64 (0)), .lit (.int .i64 (0)), .lit (.int .i64 (0)), .lit (.int .i64 (0)), .lit (.int .i64 (0)), .lit (.int .i64 (0)), .lit (.int .i64 (0))]), (7, .box (S_transmit_machine.cs v4.2))]) (F_transmit_Step_j1) r ?_ ?_
    · clear h
      intro v4 h
      unfold F_transmit_Step_j1 at h
      refine TS_go 1 ?_
      refine TS_draw (by kernel_rfl) ?_
      refine TD_go 8 ?_
      refine TD_end (by kernel_rfl) ?_
      refine TS_go 1 ?_
      have ret := Option.some.inj h
      subst ret
      exact TS_ret (by kernel_rfl) (by kernel_rfl) (by kernel_rfl)
    · refine TS_go 12 ?_
      replace h := condO h
      rcases h with ⟨hb5, h⟩ | ⟨hb5, h⟩
      · refine TS_know 22 (b := true) hb5 (by kernel_rfl) (by kernel_rfl) ?_
        refine TS_know 21 (b := true) hb5 (by kernel_rfl) (by kernel_rfl) ?_
        refine TS_T (by kernel_rfl) rfl ?_
        refine TS_go 3 ?_
        refine TS_cut ⟨[(4, []), (7, []), (24, [])], [(4, (4, [])), (14, (14, [])), (7, (7, [])), (600000, (600000, []))]⟩ (.mk [opsFr (codeAt [1, 1, 1, 1, 0, 1, 0, 1, 0] (bodyOf Try.f17)) 2, .blk 0] .normal ⟨[(4, .c (.box 4 0)), (7, .c (.box 7 0)), (24, .c (.lit (.bool (a1.Busy))))], [(4, .box [.lit (.slice none 0 0), .lit (.int .i64 (0)), .lit (.int .i64 (0)), .lit (.int .i64 (0)), .lit (.int .i64 (0)), .lit (.int .i64 (0)), .lit (.int .i64 (0)), .lit (.int .i64 (0)), .lit (.int .i64 (0))]), (14, .spare 36 16 (List.length v3.Queue)), (7, .box [.slc 16 16 (List.length v3.Queue) (List.map S_Frame.cs v3.Queue), .lit (.int .i64 (v3.Phase)), .lit (.int .i64 (v3.Attempts)), .lit (.int .i64 (v3.Backoff.State)), .lit (.int .i64 (v3.Backoff.Busy)), .lit (.int .i64 (v3.Backoff.Exponent)), .lit (.int .i64 (v3.Backoff.Clear)), .lit (.int .i64 (v3.Backoff.Wait)), .lit (.int .i64 (v3.Left)), .lit (.int .u32 (a1.Draw)), .slc 18 600002 (List.length ([] : List S_Outcome)) (List.map S_Outcome.cs ([] : List S_Outcome))]), (600000, .spare 65 18 (List.length ([] : List S_Outcome)))]⟩) (by kernel_rfl) (by kernel_rfl) ?_
        refine TS_bump 2000 (by kernel_rfl) ?_
        refine TS_inlJ 74 Try.func44 rfl rfl ⟨[(4, []), (7, [])], [(2004, (2004, [])), (2007, (2007, [17, 0, 0, 0, 0, 0, 0, 0, 0, 0, 19]))]⟩ (fun (v6 : Bool × S_transmit_machine) => [(4, .c (.box 2004 0)), (7, .c (.box 2007 0)), (25, .c (.lit (.bool (v6.1))))]) (fun (v6 : Bool × S_transmit_machine) => [(2004, .box [.lit (.slice none 0 0), .lit (.int .i64 (0)), .lit (.int .i64 (0)), .lit (.int .i64 (0)), .lit (.int .i64 (0)), .lit (.int .i64 (0)), .lit (.int .i64 (0)), .lit (.int .i64 (0)), .lit (.int .i64 (0))]), (2007, .box (S_transmit_machine.cs v6.2))]) (F_transmit_Step_j2) r (by kernel_rfl) ?_ (fun K35 => ?_)
        · clear h
          intro v6 h
          unfold F_transmit_Step_j2 at h
          refine TS_go 3 ?_
          exact TS_meet (v6.1, v6.2) ⟨[(4, []), (7, []), (8, [])], [(2004, (4, [])), (2007, (7, []))]⟩ h (by kernel_rfl) (by kernel_rfl)
        · refine TS_go 5 ?_
          refine TS_draw (by kernel_rfl) ?_
          refine TD_go 11 ?_
          replace h := bindO h
          obtain ⟨v7, hv7, h⟩ := h
          refine TD_call [] (ok_backoff_Step v3.Backoff a1.Busy a1.Draw v7 hv7) (by kernel_rfl) (by kernel_rfl) ?_
          refine TD_go 4 ?_
          refine TD_end (by kernel_rfl) ?_
          refine TS_cut ⟨[(0, []), (2000004, []), (2000007, [])], [(2004, (2004, [])), (2014, (2014, [])), (2007, (2007, [])), (602000, (602000, []))]⟩ (.mk [.code (codeAt [1, 1] (bodyOf Try.f44))] .normal ⟨[(0, .c (.box 2007 0)), (2000004, .c (.box 2004 0)), (2000007, .c (.box 2007 0))], [(2004, .box [.lit (.slice none 0 0), .lit (.int .i64 (0)), .lit (.int .i64 (0)), .lit (.int .i64 (0)), .lit (.int .i64 (0)), .lit (.int .i64 (0)), .lit (.int .i64 (0)), .lit (.int .i64 (0)), .lit (.int .i64 (0))]), (2014, .spare 36 16 (List.length v3.Queue)), (2007, .box [.slc 16 2016 (List.length v3.Queue) (List.map S_Frame.cs v3.Queue), .lit (.int .i64 (v3.Phase)), .lit (.int .i64 (v3.Attempts)), .lit (.int .i64 (v7.State)), .lit (.int .i64 (v7.Busy)), .lit (.int .i64 (v7.Exponent)), .lit (.int .i64 (v7.Clear)), .lit (.int .i64 (v7.Wait)), .lit (.int .i64 (v3.Left)), .lit (.int .u32 (a1.Draw)), .slc 18 602002 (List.length ([] : List S_Outcome)) (List.map S_Outcome.cs ([] : List S_Outcome))]), (602000, .spare 65 18 (List.length ([] : List S_Outcome)))]⟩) (by kernel_rfl) (by kernel_rfl) ?_
          refine TS_joinB ⟨[(2000004, []), (2000007, [])], [(2004, (2004, [])), (2007, (2007, [17, 0, 0, 0, 0, 0, 0, 0, 0, 0, 19]))]⟩ (fun (v8 : S_transmit_machine) => [(2000004, .c (.box 2004 0)), (2000007, .c (.box 2007 0))]) (fun (v8 : S_transmit_machine) => [(2004, .box [.lit (.slice none 0 0), .lit (.int .i64 (0)), .lit (.int .i64 (0)), .lit (.int .i64 (0)), .lit (.int .i64 (0)), .lit (.int .i64 (0)), .lit (.int .i64 (0)), .lit (.int .i64 (0)), .lit (.int .i64 (0))]), (2007, .box (S_transmit_machine.cs v8))]) (F_transmit_Step_j3) r ?_ ?_
          · clear h
            intro v8 h
            unfold F_transmit_Step_j3 at h
            refine TS_go 5 ?_
            exact TS_inlM (false, v8) ⟨[(4, []), (7, []), (25, [])], [(2004, (2004, [])), (2007, (2007, []))]⟩ h (by kernel_rfl) (by kernel_rfl) (by kernel_rfl)
          · refine TS_go 15 ?_
            replace h := condO h
            rcases h with ⟨hb9, h⟩ | ⟨hb9, h⟩
            · refine TS_know 27 (b := true) hb9 (by kernel_rfl) (by kernel_rfl) ?_
              refine TS_know 26 (b := true) hb9 (by kernel_rfl) (by kernel_rfl) ?_
              refine TS_T (by kernel_rfl) rfl ?_
              refine TS_go 21 ?_
              replace h := bindO h
              obtain ⟨_e10, he10, h⟩ := h
              refine TS_idx S_Frame.cs he10 (by kernel_rfl) (by kernel_rfl) ?_
              refine TS_go 4 ?_
              replace h := condO h
              rcases h with ⟨hb11, h⟩ | ⟨hb11, h⟩
              · refine TS_know 44 (b := true) hb11 (by kernel_rfl) (by kernel_rfl) ?_
                refine TS_know 45 (b := false) (notF hb11) (by kernel_rfl) (by kernel_rfl) ?_
                refine TS_F (by kernel_rfl) rfl ?_
                refine TS_go 32 ?_
                refine TS_outJ (by kernel_rfl) ?_
                exact TS_inlM (true, (S_transmit_machine.mk (S_Link.mk v3.Queue 2 (IntKind.wrap .i64 (v3.Attempts + 1)) (S_Backoff.mk 0 0 0 0 0) 3) a1.Draw ([] : List S_Outcome))) ⟨[(4, []), (7, []), (25, [])], [(2004, (2004, [])), (2007, (2007, [17, 0, 0, 0, 0, 0, 0, 0, 0, 0, 19]))]⟩ h (by kernel_rfl) (by kernel_rfl) (by kernel_rfl)
              · refine TS_know 44 (b := false) hb11 (by kernel_rfl) (by kernel_rfl) ?_
                refine TS_know 45 (b := true) (notT hb11) (by kernel_rfl) (by kernel_rfl) ?_
                refine TS_T (by kernel_rfl) rfl ?_
                refine TS_go 3 ?_
                refine TS_cut ⟨[(2000004, []), (2000007, []), (46, [])], [(2004, (2004, [])), (2014, (2014, [])), (2007, (2007, [])), (602000, (602000, []))]⟩ (.mk [opsFr (codeAt [1, 1, 0, 1, 0, 1, 0, 1, 0, 1, 0, 0] (bodyOf Try.f44)) 1, .code (codeAt [1, 1, 0, 1, 0, 1, 0, 1, 0, 1, 0, 1] (bodyOf Try.f44)), .code (codeAt [1, 1, 0, 1, 0, 1, 0, 1, 1] (bodyOf Try.f44)), .blk 0] .normal ⟨[(2000004, .c (.box 2004 0)), (2000007, .c (.box 2007 0)), (46, .c (.box 2007 0))], [(2004, .box [.lit (.slice none 0 0), .lit (.int .i64 (0)), .lit (.int .i64 (0)), .lit (.int .i64 (0)), .lit (.int .i64 (0)), .lit (.int .i64 (0)), .lit (.int .i64 (0)), .lit (.int .i64 (0)), .lit (.int .i64 (0))]), (2014, .spare 36 16 (List.length v3.Queue)), (2007, .box [.slc 16 2016 (List.length v3.Queue) (List.map S_Frame.cs v3.Queue), .lit (.int .i64 (v3.Phase)), .lit (.int .i64 (IntKind.wrap .i64 (v3.Attempts + 1))), .lit (.int .i64 (v7.State)), .lit (.int .i64 (v7.Busy)), .lit (.int .i64 (v7.Exponent)), .lit (.int .i64 (v7.Clear)), .lit (.int .i64 (v7.Wait)), .lit (.int .i64 (v3.Left)), .lit (.int .u32 (a1.Draw)), .slc 18 602002 (List.length ([] : List S_Outcome)) (List.map S_Outcome.cs ([] : List S_Outcome))]), (602000, .spare 65 18 (List.length ([] : List S_Outcome)))]⟩) (by kernel_rfl) (by kernel_rfl) ?_
                refine TS_bump 2000 (by kernel_rfl) ?_
                refine TS_inl 51 Try.func60 rfl rfl (by kernel_rfl) (fun K20 => ?_)
                refine TS_go 1 ?_
                refine TS_draw (by kernel_rfl) ?_
                refine TD_go 10 ?_
                replace h := bindO h
                obtain ⟨e12, he12, h⟩ := h
                refine TD_idx S_Frame.cs he12 (by kernel_rfl) (by kernel_rfl) ?_
                refine TD_go 8 ?_
                refine TD_litNT 23 65 18 S_Outcome.cs [0, 0, 0, 0, 0, 0, 0, 0, 0, 0, 0, 0, 0, 0, 2, 2] ([(S_Outcome.mk e12 true (IntKind.wrap .i64 (v3.Attempts + 1)))] : List S_Outcome) (by kernel_rfl) (by kernel_rfl) ?_
                replace h := bindO h
                obtain ⟨l13, hl13, h⟩ := h
                refine TD_appT (d := 604000) (e := 65) (sz := 18) (N := List.length ([] : List S_Outcome)) S_Outcome.cs (fun _ => by kernel_rfl) (l1 := ([] : List S_Outcome)) (l2 := ([(S_Outcome.mk e12 true (IntKind.wrap .i64 (v3.Attempts + 1)))] : List S_Outcome)) (c := .whole) hl13 (by kernel_rfl) (by kernel_rfl) ?_
                refine TD_go 3 ?_
                refine TD_end (by kernel_rfl) ?_
                refine TS_go 8 ?_
                replace h := bindO h
                obtain ⟨l14, hl14, h⟩ := h
                refine TS_sub S_Frame.cs 16 hl14 (by kernel_rfl) (by kernel_rfl) ?_
                replace h := bindO h
                obtain ⟨l15, hl15, h⟩ := h
                refine TS_appNT 34 36 16 S_Frame.cs (fun _ => by kernel_rfl) (l2 := l14) .whole hl15 (by kernel_rfl) (by kernel_rfl) ?_
                refine TS_go 16 ?_
                replace h := condO h
                rcases h with ⟨hb16, h⟩ | ⟨hb16, h⟩
                · refine TS_know 44 (b := true) hb16 (by kernel_rfl) (by kernel_rfl) ?_
                  refine TS_T (by kernel_rfl) rfl ?_
                  refine TS_go 10 ?_
                  refine TS_inlR (by kernel_rfl) (by kernel_rfl) ?_
                  refine TS_go 8 ?_
                  refine TS_outJ (by kernel_rfl) ?_
                  exact TS_inlM (true, (S_transmit_machine.mk (S_Link.mk ([] : List S_Frame) 0 0 (S_Backoff.mk 0 0 0 0 0) 0) a1.Draw l13)) ⟨[(4, []), (7, []), (25, [])], [(4004, (2004, [])), (4007, (2007, [17, 0, 0, 0, 0, 0, 0, 0, 0, 0, 19]))]⟩ h (by kernel_rfl) (by kernel_rfl) (by kernel_rfl)
                · refine TS_know 44 (b := false) hb16 (by kernel_rfl) (by kernel_rfl) ?_
                  refine TS_F (by kernel_rfl) rfl ?_
                  refine TS_go 3 ?_
                  refine TS_cut ⟨[(4000004, []), (4000007, []), (49, [])], [(4004, (4004, [])), (4007, (4007, [])), (604000, (604000, [])), (34, (34, []))]⟩ (.mk [opsFr (codeAt [1, 1, 1] (bodyOf Try.f60)) 1] .normal ⟨[(4000004, .c (.box 4004 0)), (4000007, .c (.box 4007 0)), (49, .c (.box 4007 0))], [(4004, .box [.lit (.slice none 0 0), .lit (.int .i64 (0)), .lit (.int .i64 (0)), .lit (.int .i64 (0)), .lit (.int .i64 (0)), .lit (.int .i64 (0)), .lit (.int .i64 (0)), .lit (.int .i64 (0)), .lit (.int .i64 (0))]), (4007, .box [.slc 16 36 (List.length l15) (List.map S_Frame.cs l15), .lit (.int .i64 (v3.Phase)), .lit (.int .i64 (IntKind.wrap .i64 (v3.Attempts + 1))), .lit (.int .i64 (v7.State)), .lit (.int .i64 (v7.Busy)), .lit (.int .i64 (v7.Exponent)), .lit (.int .i64 (v7.Clear)), .lit (.int .i64 (v7.Wait)), .lit (.int .i64 (v3.Left)), .lit (.int .u32 (a1.Draw)), .slc 18 604002 (List.length l13) (List.map S_Outcome.cs l13)]), (604000, .spare 65 18 (List.length l13)), (34, .spare 36 16 (List.length l15))]⟩) (by kernel_rfl) (by kernel_rfl) ?_
                  refine TS_bump 2000 (by kernel_rfl) ?_
                  refine TS_inl 8 Try.func39 rfl rfl (by kernel_rfl) (fun K19 => ?_)
                  refine TS_go 3 ?_
                  refine TS_cut ⟨[(0, []), (6000004, []), (6000007, []), (2, [])], [(6004, (6004, [])), (6007, (6007, [])), (606000, (606000, [])), (2034, (2034, []))]⟩ (.mk [opsFr (codeAt [0] (bodyOf Try.f39)) 1, .code (codeAt [1] (bodyOf Try.f39))] .normal ⟨[(0, .c (.box 6007 0)), (6000004, .c (.box 6004 0)), (6000007, .c (.box 6007 0)), (2, .c (.box 6007 0))], [(6004, .box [.lit (.slice none 0 0), .lit (.int .i64 (0)), .lit (.int .i64 (0)), .lit (.int .i64 (0)), .lit (.int .i64 (0)), .lit (.int .i64 (0)), .lit (.int .i64 (0)), .lit (.int .i64 (0)), .lit (.int .i64 (0))]), (6007, .box [.slc 16 2036 (List.length l15) (List.map S_Frame.cs l15), .lit (.int .i64 (v3.Phase)), .lit (.int .i64 (IntKind.wrap .i64 (v3.Attempts + 1))), .lit (.int .i64 (v7.State)), .lit (.int .i64 (v7.Busy)), .lit (.int .i64 (v7.Exponent)), .lit (.int .i64 (v7.Clear)), .lit (.int .i64 (v7.Wait)), .lit (.int .i64 (v3.Left)), .lit (.int .u32 (a1.Draw)), .slc 18 606002 (List.length l13) (List.map S_Outcome.cs l13)]), (606000, .spare 65 18 (List.length l13)), (2034, .spare 36 16 (List.length l15))]⟩) (by kernel_rfl) (by kernel_rfl) ?_
                  refine TS_bump 2000 (by kernel_rfl) ?_
                  refine TS_inl 19 Try.func57 rfl rfl (by kernel_rfl) (fun K18 => ?_)
                  refine TS_go 15 ?_
                  replace h := bindO h
                  obtain ⟨v17, hv17, h⟩ := h
                  refine TS_call [] (ok_backoff_Begin a1.Draw v17 hv17) (by kernel_rfl) (by kernel_rfl) ?_
                  refine TS_go 12 ?_
                  refine TS_inlR (by kernel_rfl) (by kernel_rfl) ?_
                  refine TS_go 8 ?_
                  refine TS_inlR (by kernel_rfl) (by kernel_rfl) ?_
                  refine TS_go 1 ?_
                  refine TS_inlR (by kernel_rfl) (by kernel_rfl) ?_
                  refine TS_go 8 ?_
                  refine TS_outJ (by kernel_rfl) ?_
                  exact TS_inlM (true, (S_transmit_machine.mk (S_Link.mk l15 1 0 v17 0) a1.Draw l13)) ⟨[(4, []), (7, []), (25, [])], [(8004, (2004, [])), (8007, (2007, [17, 0, 0, 0, 0, 0, 0, 0, 0, 0, 19]))]⟩ h (by kernel_rfl) (by kernel_rfl) (by kernel_rfl)
            · refine TS_know 27 (b := false) hb9 (by kernel_rfl) (by kernel_rfl) ?_
              refine TS_know 26 (b := false) hb9 (by kernel_rfl) (by kernel_rfl) ?_
              refine TS_F (by kernel_rfl) rfl ?_
              refine TS_go 5 ?_
              replace h := condO h
              rcases h with ⟨hb21, h⟩ | ⟨hb21, h⟩
              · refine TS_know 62 (b := true) hb21 (by kernel_rfl) (by kernel_rfl) ?_
                refine TS_know 61 (b := true) hb21 (by kernel_rfl) (by kernel_rfl) ?_
                refine TS_T (by kernel_rfl) rfl ?_
                refine TS_go 15 ?_
                refine TS_cut ⟨[(2000004, []), (2000007, []), (72, [])], [(2004, (2004, [])), (2014, (2014, [])), (2007, (2007, [])), (602000, (602000, []))]⟩ (.mk [opsFr (codeAt [1, 1, 0, 1, 0, 1, 1, 1, 0, 1] (bodyOf Try.f44)) 1, .blk 0] .normal ⟨[(2000004, .c (.box 2004 0)), (2000007, .c (.box 2007 0)), (72, .c (.box 2007 0))], [(2004, .box [.lit (.slice none 0 0), .lit (.int .i64 (0)), .lit (.int .i64 (0)), .lit (.int .i64 (0)), .lit (.int .i64 (0)), .lit (.int .i64 (0)), .lit (.int .i64 (0)), .lit (.int .i64 (0)), .lit (.int .i64 (0))]), (2014, .spare 36 16 (List.length v3.Queue)), (2007, .box [.slc 16 2016 (List.length v3.Queue) (List.map S_Frame.cs v3.Queue), .lit (.int .i64 (v3.Phase)), .lit (.int .i64 (IntKind.wrap .i64 (v3.Attempts + 1))), .lit (.int .i64 (v7.State)), .lit (.int .i64 (v7.Busy)), .lit (.int .i64 (v7.Exponent)), .lit (.int .i64 (v7.Clear)), .lit (.int .i64 (v7.Wait)), .lit (.int .i64 (v3.Left)), .lit (.int .u32 (a1.Draw)), .slc 18 602002 (List.length ([] : List S_Outcome)) (List.map S_Outcome.cs ([] : List S_Outcome))]), (602000, .spare 65 18 (List.length ([] : List S_Outcome)))]⟩) (by kernel_rfl) (by kernel_rfl) ?_
                refine TS_bump 2000 (by kernel_rfl) ?_
                refine TS_inl 12 Try.func61 rfl rfl (by kernel_rfl) (fun K34 => ?_)
                refine TS_go 10 ?_
                replace h := condO h
                rcases h with ⟨hb22, h⟩ | ⟨hb22, h⟩
                · refine TS_know 7 (b := true) hb22 (by kernel_rfl) (by kernel_rfl) ?_
                  refine TS_T (by kernel_rfl) rfl ?_
                  refine TS_go 3 ?_
                  refine TS_cut ⟨[(4000004, []), (4000007, []), (8, [])], [(4004, (4004, [])), (4014, (4014, [])), (4007, (4007, [])), (604000, (604000, []))]⟩ (.mk [opsFr (codeAt [0, 1, 0, 0] (bodyOf Try.f61)) 1, .code (codeAt [0, 1, 0, 1] (bodyOf Try.f61)), .code (codeAt [1] (bodyOf Try.f61))] .normal ⟨[(4000004, .c (.box 4004 0)), (4000007, .c (.box 4007 0)), (8, .c (.box 4007 0))], [(4004, .box [.lit (.slice none 0 0), .lit (.int .i64 (0)), .lit (.int .i64 (0)), .lit (.int .i64 (0)), .lit (.int .i64 (0)), .lit (.int .i64 (0)), .lit (.int .i64 (0)), .lit (.int .i64 (0)), .lit (.int .i64 (0))]), (4014, .spare 36 16 (List.length v3.Queue)), (4007, .box [.slc 16 4016 (List.length v3.Queue) (List.map S_Frame.cs v3.Queue), .lit (.int .i64 (v3.Phase)), .lit (.int .i64 (IntKind.wrap .i64 (v3.Attempts + 1))), .lit (.int .i64 (v7.State)), .lit (.int .i64 (v7.Busy)), .lit (.int .i64 (v7.Exponent)), .lit (.int .i64 (v7.Clear)), .lit (.int .i64 (v7.Wait)), .lit (.int .i64 (v3.Left)), .lit (.int .u32 (a1.Draw)), .slc 18 604002 (List.length ([] : List S_Outcome)) (List.map S_Outcome.cs ([] : List S_Outcome))]), (604000, .spare 65 18 (List.length ([] : List S_Outcome)))]⟩) (by kernel_rfl) (by kernel_rfl) ?_
                  refine TS_bump 2000 (by kernel_rfl) ?_
                  refine TS_inl 51 Try.func60 rfl rfl (by kernel_rfl) (fun K31 => ?_)
                  refine TS_go 1 ?_
                  refine TS_draw (by kernel_rfl) ?_
                  refine TD_go 10 ?_
                  replace h := bindO h
                  obtain ⟨e23, he23, h⟩ := h
                  refine TD_idx S_Frame.cs he23 (by kernel_rfl) (by kernel_rfl) ?_
                  refine TD_go 8 ?_
                  refine TD_litNT 23 65 18 S_Outcome.cs [0, 0, 0, 0, 0, 0, 0, 0, 0, 0, 0, 0, 0, 0, 2, 2] ([(S_Outcome.mk e23 false (IntKind.wrap .i64 (v3.Attempts + 1)))] : List S_Outcome) (by kernel_rfl) (by kernel_rfl) ?_
                  replace h := bindO h
                  obtain ⟨l24, hl24, h⟩ := h
                  refine TD_appT (d := 606000) (e := 65) (sz := 18) (N := List.length ([] : List S_Outcome)) S_Outcome.cs (fun _ => by kernel_rfl) (l1 := ([] : List S_Outcome)) (l2 := ([(S_Outcome.mk e23 false (IntKind.wrap .i64 (v3.Attempts + 1)))] : List S_Outcome)) (c := .whole) hl24 (by kernel_rfl) (by kernel_rfl) ?_
                  refine TD_go 3 ?_
                  refine TD_end (by kernel_rfl) ?_
                  refine TS_go 8 ?_
                  replace h := bindO h
                  obtain ⟨l25, hl25, h⟩ := h
                  refine TS_sub S_Frame.cs 16 hl25 (by kernel_rfl) (by kernel_rfl) ?_
                  replace h := bindO h
                  obtain ⟨l26, hl26, h⟩ := h
                  refine TS_appNT 34 36 16 S_Frame.cs (fun _ => by kernel_rfl) (l2 := l25) .whole hl26 (by kernel_rfl) (by kernel_rfl) ?_
                  refine TS_go 16 ?_
                  replace h := condO h
                  rcases h with ⟨hb27, h⟩ | ⟨hb27, h⟩
                  · refine TS_know 44 (b := true) hb27 (by kernel_rfl) (by kernel_rfl) ?_
                    refine TS_T (by kernel_rfl) rfl ?_
                    refine TS_go 10 ?_
                    refine TS_inlR (by kernel_rfl) (by kernel_rfl) ?_
                    refine TS_go 3 ?_
                    refine TS_inlR (by kernel_rfl) (by kernel_rfl) ?_
                    refine TS_go 2 ?_
                    exact TS_meet (S_transmit_machine.mk (S_Link.mk ([] : List S_Frame) 0 0 (S_Backoff.mk 0 0 0 0 0) 0) a1.Draw l24) ⟨[(2000004, []), (2000007, [])], [(6004, (2004, [])), (6007, (2007, [17, 0, 0, 0, 0, 0, 0, 0, 0, 0, 19]))]⟩ h (by kernel_rfl) (by kernel_rfl)
                  · refine TS_know 44 (b := false) hb27 (by kernel_rfl) (by kernel_rfl) ?_
                    refine TS_F (by kernel_rfl) rfl ?_
                    refine TS_go 3 ?_
                    refine TS_cut ⟨[(6000004, []), (6000007, []), (49, [])], [(6004, (6004, [])), (6007, (6007, [])), (606000, (606000, [])), (34, (34, []))]⟩ (.mk [opsFr (codeAt [1, 1, 1] (bodyOf Try.f60)) 1] .normal ⟨[(6000004, .c (.box 6004 0)), (6000007, .c (.box 6007 0)), (49, .c (.box 6007 0))], [(6004, .box [.lit (.slice none 0 0), .lit (.int .i64 (0)), .lit (.int .i64 (0)), .lit (.int .i64 (0)), .lit (.int .i64 (0)), .lit (.int .i64 (0)), .lit (.int .i64 (0)), .lit (.int .i64 (0)), .lit (.int .i64 (0))]), (6007, .box [.slc 16 36 (List.length l26) (List.map S_Frame.cs l26), .lit (.int .i64 (v3.Phase)), .lit (.int .i64 (IntKind.wrap .i64 (v3.Attempts + 1))), .lit (.int .i64 (v7.State)), .lit (.int .i64 (v7.Busy)), .lit (.int .i64 (v7.Exponent)), .lit (.int .i64 (v7.Clear)), .lit (.int .i64 (v7.Wait)), .lit (.int .i64 (v3.Left)), .lit (.int .u32 (a1.Draw)), .slc 18 606002 (List.length l24) (List.map S_Outcome.cs l24)]), (606000, .spare 65 18 (List.length l24)), (34, .spare 36 16 (List.length l26))]⟩) (by kernel_rfl) (by kernel_rfl) ?_
                    refine TS_bump 2000 (by kernel_rfl) ?_
                    refine TS_inl 8 Try.func39 rfl rfl (by kernel_rfl) (fun K30 => ?_)
                    refine TS_go 3 ?_
                    refine TS_cut ⟨[(0, []), (8000004, []), (8000007, []), (2, [])], [(8004, (8004, [])), (8007, (8007, [])), (608000, (608000, [])), (2034, (2034, []))]⟩ (.mk [opsFr (codeAt [0] (bodyOf Try.f39)) 1, .code (codeAt [1] (bodyOf Try.f39))] .normal ⟨[(0, .c (.box 8007 0)), (8000004, .c (.box 8004 0)), (8000007, .c (.box 8007 0)), (2, .c (.box 8007 0))], [(8004, .box [.lit (.slice none 0 0), .lit (.int .i64 (0)), .lit (.int .i64 (0)), .lit (.int .i64 (0)), .lit (.int .i64 (0)), .lit (.int .i64 (0)), .lit (.int .i64 (0)), .lit (.int .i64 (0)), .lit (.int .i64 (0))]), (8007, .box [.slc 16 2036 (List.length l26) (List.map S_Frame.cs l26), .lit (.int .i64 (v3.Phase)), .lit (.int .i64 (IntKind.wrap .i64 (v3.Attempts + 1))), .lit (.int .i64 (v7.State)), .lit (.int .i64 (v7.Busy)), .lit (.int .i64 (v7.Exponent)), .lit (.int .i64 (v7.Clear)), .lit (.int .i64 (v7.Wait)), .lit (.int .i64 (v3.Left)), .lit (.int .u32 (a1.Draw)), .slc 18 608002 (List.length l24) (List.map S_Outcome.cs l24)]), (608000, .spare 65 18 (List.length l24)), (2034, .spare 36 16 (List.length l26))]⟩) (by kernel_rfl) (by kernel_rfl) ?_
                    refine TS_bump 2000 (by kernel_rfl) ?_
                    refine TS_inl 19 Try.func57 rfl rfl (by kernel_rfl) (fun K29 => ?_)
                    refine TS_go 15 ?_
                    replace h := bindO h
                    obtain ⟨v28, hv28, h⟩ := h
                    refine TS_call [] (ok_backoff_Begin a1.Draw v28 hv28) (by kernel_rfl) (by kernel_rfl) ?_
                    refine TS_go 12 ?_
                    refine TS_inlR (by kernel_rfl) (by kernel_rfl) ?_
                    refine TS_go 8 ?_
                    refine TS_inlR (by kernel_rfl) (by kernel_rfl) ?_
                    refine TS_go 1 ?_
                    refine TS_inlR (by kernel_rfl) (by kernel_rfl) ?_
                    refine TS_go 3 ?_
                    refine TS_inlR (by kernel_rfl) (by kernel_rfl) ?_
                    refine TS_go 2 ?_
                    exact TS_meet (S_transmit_machine.mk (S_Link.mk l26 1 0 v28 0) a1.Draw l24) ⟨[(2000004, []), (2000007, [])], [(10004, (2004, [])), (10007, (2007, [17, 0, 0, 0, 0, 0, 0, 0, 0, 0, 19]))]⟩ h (by kernel_rfl) (by kernel_rfl)
                · refine TS_know 7 (b := false) hb22 (by kernel_rfl) (by kernel_rfl) ?_
                  refine TS_F (by kernel_rfl) rfl ?_
                  refine TS_go 3 ?_
                  refine TS_cut ⟨[(4000004, []), (4000007, []), (10, [])], [(4004, (4004, [])), (4014, (4014, [])), (4007, (4007, [])), (604000, (604000, []))]⟩ (.mk [opsFr (codeAt [1] (bodyOf Try.f61)) 1] .normal ⟨[(4000004, .c (.box 4004 0)), (4000007, .c (.box 4007 0)), (10, .c (.box 4007 0))], [(4004, .box [.lit (.slice none 0 0), .lit (.int .i64 (0)), .lit (.int .i64 (0)), .lit (.int .i64 (0)), .lit (.int .i64 (0)), .lit (.int .i64 (0)), .lit (.int .i64 (0)), .lit (.int .i64 (0)), .lit (.int .i64 (0))]), (4014, .spare 36 16 (List.length v3.Queue)), (4007, .box [.slc 16 4016 (List.length v3.Queue) (List.map S_Frame.cs v3.Queue), .lit (.int .i64 (v3.Phase)), .lit (.int .i64 (IntKind.wrap .i64 (v3.Attempts + 1))), .lit (.int .i64 (v7.State)), .lit (.int .i64 (v7.Busy)), .lit (.int .i64 (v7.Exponent)), .lit (.int .i64 (v7.Clear)), .lit (.int .i64 (v7.Wait)), .lit (.int .i64 (v3.Left)), .lit (.int .u32 (a1.Draw)), .slc 18 604002 (List.length ([] : List S_Outcome)) (List.map S_Outcome.cs ([] : List S_Outcome))]), (604000, .spare 65 18 (List.length ([] : List S_Outcome)))]⟩) (by kernel_rfl) (by kernel_rfl) ?_
                  refine TS_bump 2000 (by kernel_rfl) ?_
                  refine TS_inl 19 Try.func57 rfl rfl (by kernel_rfl) (fun K33 => ?_)
                  refine TS_go 15 ?_
                  replace h := bindO h
                  obtain ⟨v32, hv32, h⟩ := h
                  refine TS_call [] (ok_backoff_Begin a1.Draw v32 hv32) (by kernel_rfl) (by kernel_rfl) ?_
                  refine TS_go 12 ?_
                  refine TS_inlR (by kernel_rfl) (by kernel_rfl) ?_
                  refine TS_go 1 ?_
                  refine TS_inlR (by kernel_rfl) (by kernel_rfl) ?_
                  refine TS_go 2 ?_
                  exact TS_meet (S_transmit_machine.mk (S_Link.mk v3.Queue 1 (IntKind.wrap .i64 (v3.Attempts + 1)) v32 0) a1.Draw ([] : List S_Outcome)) ⟨[(2000004, []), (2000007, [])], [(6004, (2004, [])), (6007, (2007, [17, 0, 0, 0, 0, 0, 0, 0, 0, 0, 19]))]⟩ h (by kernel_rfl) (by kernel_rfl)
              · refine TS_know 62 (b := false) hb21 (by kernel_rfl) (by kernel_rfl) ?_
                refine TS_know 61 (b := false) hb21 (by kernel_rfl) (by kernel_rfl) ?_
                refine TS_F (by kernel_rfl) rfl ?_
                refine TS_go 2 ?_
                exact TS_meet (S_transmit_machine.mk (S_Link.mk v3.Queue v3.Phase v3.Attempts v7 v3.Left) a1.Draw ([] : List S_Outcome)) ⟨[(2000004, []), (2000007, [])], [(2004, (2004, [])), (2007, (2007, [17, 0, 0, 0, 0, 0, 0, 0, 0, 0, 19]))]⟩ h (by kernel_rfl) (by kernel_rfl)
      · refine TS_know 22 (b := false) hb5 (by kernel_rfl) (by kernel_rfl) ?_
        refine TS_know 21 (b := false) hb5 (by kernel_rfl) (by kernel_rfl) ?_
        refine TS_F (by kernel_rfl) rfl ?_
        refine TS_go 5 ?_
        replace h := condO h
        rcases h with ⟨hb36, h⟩ | ⟨hb36, h⟩
        · refine TS_know 27 (b := true) hb36 (by kernel_rfl) (by kernel_rfl) ?_
          refine TS_know 26 (b := true) hb36 (by kernel_rfl) (by kernel_rfl) ?_
          refine TS_T (by kernel_rfl) rfl ?_
          refine TS_go 5 ?_
          refine TS_cut ⟨[(4, []), (7, []), (8, []), (29, []), (31, [])], [(4, (4, [])), (14, (14, [])), (7, (7, [])), (600000, (600000, []))]⟩ (.mk [opsFr (codeAt [1, 1, 1, 1, 0, 1, 0, 1, 1, 1, 0] (bodyOf Try.f17)) 4, .blk 0] .normal ⟨[(4, .c (.box 4 0)), (7, .c (.box 7 0)), (8, .c (.lit (.bool (false)))), (29, .c (.lit (.bool (a1.Ack)))), (31, .c (.lit (.int .u8 (a1.Seq))))], [(4, .box [.lit (.slice none 0 0), .lit (.int .i64 (0)), .lit (.int .i64 (0)), .lit (.int .i64 (0)), .lit (.int .i64 (0)), .lit (.int .i64 (0)), .lit (.int .i64 (0)), .lit (.int .i64 (0)), .lit (.int .i64 (0))]), (14, .spare 36 16 (List.length v3.Queue)), (7, .box [.slc 16 16 (List.length v3.Queue) (List.map S_Frame.cs v3.Queue), .lit (.int .i64 (v3.Phase)), .lit (.int .i64 (v3.Attempts)), .lit (.int .i64 (v3.Backoff.State)), .lit (.int .i64 (v3.Backoff.Busy)), .lit (.int .i64 (v3.Backoff.Exponent)), .lit (.int .i64 (v3.Backoff.Clear)), .lit (.int .i64 (v3.Backoff.Wait)), .lit (.int .i64 (v3.Left)), .lit (.int .u32 (a1.Draw)), .slc 18 600002 (List.length ([] : List S_Outcome)) (List.map S_Outcome.cs ([] : List S_Outcome))]), (600000, .spare 65 18 (List.length ([] : List S_Outcome)))]⟩) (by kernel_rfl) (by kernel_rfl) ?_
          refine TS_bump 2000 (by kernel_rfl) ?_
          refine TS_inl 38 Try.func45 rfl rfl (by kernel_rfl) (fun K77 => ?_)
          refine TS_go 5 ?_
          replace h := condO h
          rcases h with ⟨hb37, h⟩ | ⟨hb37, h⟩
          · refine TS_know 1 (b := true) hb37 (by kernel_rfl) (by kernel_rfl) ?_
            refine TS_know 2000029 (b := true) hb37 (by kernel_rfl) (by kernel_rfl) ?_
            refine TS_know 6 (b := true) hb37 (by kernel_rfl) (by kernel_rfl) ?_
            refine TS_know 7 (b := true) hb37 (by kernel_rfl) (by kernel_rfl) ?_
            refine TS_go 6 ?_
            replace h := bindO h
            obtain ⟨_e38, he38, h⟩ := h
            refine TS_idx S_Frame.cs he38 (by kernel_rfl) (by kernel_rfl) ?_
            refine TS_go 5 ?_
            replace h := condO h
            rcases h with ⟨hb39, h⟩ | ⟨hb39, h⟩
            · refine TS_know 17 (b := true) hb39 (by kernel_rfl) (by kernel_rfl) ?_
              refine TS_know 18 (b := true) hb39 (by kernel_rfl) (by kernel_rfl) ?_
              refine TS_T (by kernel_rfl) rfl ?_
              refine TS_go 3 ?_
              refine TS_cut ⟨[(2000004, []), (2000007, []), (2000008, []), (19, [])], [(2004, (2004, [])), (2014, (2014, [])), (2007, (2007, [])), (602000, (602000, []))]⟩ (.mk [opsFr (codeAt [0, 1, 0, 0] (bodyOf Try.f45)) 1, .code (codeAt [0, 1, 0, 1] (bodyOf Try.f45)), .code (codeAt [1] (bodyOf Try.f45))] .normal ⟨[(2000004, .c (.box 2004 0)), (2000007, .c (.box 2007 0)), (2000008, .c (.lit (.bool (false)))), (19, .c (.box 2007 0))], [(2004, .box [.lit (.slice none 0 0), .lit (.int .i64 (0)), .lit (.int .i64 (0)), .lit (.int .i64 (0)), .lit (.int .i64 (0)), .lit (.int .i64 (0)), .lit (.int .i64 (0)), .lit (.int .i64 (0)), .lit (.int .i64 (0))]), (2014, .spare 36 16 (List.length v3.Queue)), (2007, .box [.slc 16 2016 (List.length v3.Queue) (List.map S_Frame.cs v3.Queue), .lit (.int .i64 (v3.Phase)), .lit (.int .i64 (v3.Attempts)), .lit (.int .i64 (v3.Backoff.State)), .lit (.int .i64 (v3.Backoff.Busy)), .lit (.int .i64 (v3.Backoff.Exponent)), .lit (.int .i64 (v3.Backoff.Clear)), .lit (.int .i64 (v3.Backoff.Wait)), .lit (.int .i64 (v3.Left)), .lit (.int .u32 (a1.Draw)), .slc 18 602002 (List.length ([] : List S_Outcome)) (List.map S_Outcome.cs ([] : List S_Outcome))]), (602000, .spare 65 18 (List.length ([] : List S_Outcome)))]⟩) (by kernel_rfl) (by kernel_rfl) ?_
              refine TS_bump 2000 (by kernel_rfl) ?_
              refine TS_inl 51 Try.func60 rfl rfl (by kernel_rfl) (fun K48 => ?_)
              refine TS_go 1 ?_
              refine TS_draw (by kernel_rfl) ?_
              refine TD_go 10 ?_
              replace h := bindO h
              obtain ⟨e40, he40, h⟩ := h
              refine TD_idx S_Frame.cs he40 (by kernel_rfl) (by kernel_rfl) ?_
              refine TD_go 8 ?_
              refine TD_litNT 23 65 18 S_Outcome.cs [0, 0, 0, 0, 0, 0, 0, 0, 0, 0, 0, 0, 0, 0, 2, 2] ([(S_Outcome.mk e40 true v3.Attempts)] : List S_Outcome) (by kernel_rfl) (by kernel_rfl) ?_
              replace h := bindO h
              obtain ⟨l41, hl41, h⟩ := h
              refine TD_appT (d := 604000) (e := 65) (sz := 18) (N := List.length ([] : List S_Outcome)) S_Outcome.cs (fun _ => by kernel_rfl) (l1 := ([] : List S_Outcome)) (l2 := ([(S_Outcome.mk e40 true v3.Attempts)] : List S_Outcome)) (c := .whole) hl41 (by kernel_rfl) (by kernel_rfl) ?_
              refine TD_go 3 ?_
              refine TD_end (by kernel_rfl) ?_
              refine TS_go 8 ?_
              replace h := bindO h
              obtain ⟨l42, hl42, h⟩ := h
              refine TS_sub S_Frame.cs 16 hl42 (by kernel_rfl) (by kernel_rfl) ?_
              replace h := bindO h
              obtain ⟨l43, hl43, h⟩ := h
              refine TS_appNT 34 36 16 S_Frame.cs (fun _ => by kernel_rfl) (l2 := l42) .whole hl43 (by kernel_rfl) (by kernel_rfl) ?_
              refine TS_go 16 ?_
              replace h := condO h
              rcases h with ⟨hb44, h⟩ | ⟨hb44, h⟩
              · refine TS_know 44 (b := true) hb44 (by kernel_rfl) (by kernel_rfl) ?_
                refine TS_T (by kernel_rfl) rfl ?_
                refine TS_go 10 ?_
                refine TS_inlR (by kernel_rfl) (by kernel_rfl) ?_
                refine TS_go 3 ?_
                refine TS_inlR (by kernel_rfl) (by kernel_rfl) ?_
                refine TS_go 2 ?_
                exact TS_meet (false, (S_transmit_machine.mk (S_Link.mk ([] : List S_Frame) 0 0 (S_Backoff.mk 0 0 0 0 0) 0) a1.Draw l41)) ⟨[(4, []), (7, []), (8, [])], [(4004, (4, [])), (4007, (7, [17, 0, 0, 0, 0, 0, 0, 0, 0, 0, 19]))]⟩ h (by kernel_rfl) (by kernel_rfl)
              · refine TS_know 44 (b := false) hb44 (by kernel_rfl) (by kernel_rfl) ?_
                refine TS_F (by kernel_rfl) rfl ?_
                refine TS_go 3 ?_
                refine TS_cut ⟨[(4000004, []), (4000007, []), (4000008, []), (49, [])], [(4004, (4004, [])), (4007, (4007, [])), (604000, (604000, [])), (34, (34, []))]⟩ (.mk [opsFr (codeAt [1, 1, 1] (bodyOf Try.f60)) 1] .normal ⟨[(4000004, .c (.box 4004 0)), (4000007, .c (.box 4007 0)), (4000008, .c (.lit (.bool (false)))), (49, .c (.box 4007 0))], [(4004, .box [.lit (.slice none 0 0), .lit (.int .i64 (0)), .lit (.int .i64 (0)), .lit (.int .i64 (0)), .lit (.int .i64 (0)), .lit (.int .i64 (0)), .lit (.int .i64 (0)), .lit (.int .i64 (0)), .lit (.int .i64 (0))]), (4007, .box [.slc 16 36 (List.length l43) (List.map S_Frame.cs l43), .lit (.int .i64 (v3.Phase)), .lit (.int .i64 (v3.Attempts)), .lit (.int .i64 (v3.Backoff.State)), .lit (.int .i64 (v3.Backoff.Busy)), .lit (.int .i64 (v3.Backoff.Exponent)), .lit (.int .i64 (v3.Backoff.Clear)), .lit (.int .i64 (v3.Backoff.Wait)), .lit (.int .i64 (v3.Left)), .lit (.int .u32 (a1.Draw)), .slc 18 604002 (List.length l41) (List.map S_Outcome.cs l41)]), (604000, .spare 65 18 (List.length l41)), (34, .spare 36 16 (List.length l43))]⟩) (by kernel_rfl) (by kernel_rfl) ?_
                refine TS_bump 2000 (by kernel_rfl) ?_
                refine TS_inl 8 Try.func39 rfl rfl (by kernel_rfl) (fun K47 => ?_)
                refine TS_go 3 ?_
                refine TS_cut ⟨[(0, []), (6000004, []), (6000007, []), (6000008, []), (2, [])], [(6004, (6004, [])), (6007, (6007, [])), (606000, (606000, [])), (2034, (2034, []))]⟩ (.mk [opsFr (codeAt [0] (bodyOf Try.f39)) 1, .code (codeAt [1] (bodyOf Try.f39))] .normal ⟨[(0, .c (.box 6007 0)), (6000004, .c (.box 6004 0)), (6000007, .c (.box 6007 0)), (6000008, .c (.lit (.bool (false)))), (2, .c (.box 6007 0))], [(6004, .box [.lit (.slice none 0 0), .lit (.int .i64 (0)), .lit (.int .i64 (0)), .lit (.int .i64 (0)), .lit (.int .i64 (0)), .lit (.int .i64 (0)), .lit (.int .i64 (0)), .lit (.int .i64 (0)), .lit (.int .i64 (0))]), (6007, .box [.slc 16 2036 (List.length l43) (List.map S_Frame.cs l43), .lit (.int .i64 (v3.Phase)), .lit (.int .i64 (v3.Attempts)), .lit (.int .i64 (v3.Backoff.State)), .lit (.int .i64 (v3.Backoff.Busy)), .lit (.int .i64 (v3.Backoff.Exponent)), .lit (.int .i64 (v3.Backoff.Clear)), .lit (.int .i64 (v3.Backoff.Wait)), .lit (.int .i64 (v3.Left)), .lit (.int .u32 (a1.Draw)), .slc 18 606002 (List.length l41) (List.map S_Outcome.cs l41)]), (606000, .spare 65 18 (List.length l41)), (2034, .spare 36 16 (List.length l43))]⟩) (by kernel_rfl) (by kernel_rfl) ?_
                refine TS_bump 2000 (by kernel_rfl) ?_
                refine TS_inl 19 Try.func57 rfl rfl (by kernel_rfl) (fun K46 => ?_)
                refine TS_go 15 ?_
                replace h := bindO h
                obtain ⟨v45, hv45, h⟩ := h
                refine TS_call [] (ok_backoff_Begin a1.Draw v45 hv45) (by kernel_rfl) (by kernel_rfl) ?_
                refine TS_go 12 ?_
                refine TS_inlR (by kernel_rfl) (by kernel_rfl) ?_
                refine TS_go 8 ?_
                refine TS_inlR (by kernel_rfl) (by kernel_rfl) ?_
                refine TS_go 1 ?_
                refine TS_inlR (by kernel_rfl) (by kernel_rfl) ?_
                refine TS_go 3 ?_
                refine TS_inlR (by kernel_rfl) (by kernel_rfl) ?_
                refine TS_go 2 ?_
                exact TS_meet (false, (S_transmit_machine.mk (S_Link.mk l43 1 0 v45 0) a1.Draw l41)) ⟨[(4, []), (7, []), (8, [])], [(8004, (4, [])), (8007, (7, [17, 0, 0, 0, 0, 0, 0, 0, 0, 0, 19]))]⟩ h (by kernel_rfl) (by kernel_rfl)
            · refine TS_know 17 (b := false) hb39 (by kernel_rfl) (by kernel_rfl) ?_
              refine TS_know 18 (b := false) hb39 (by kernel_rfl) (by kernel_rfl) ?_
              refine TS_F (by kernel_rfl) rfl ?_
              refine TS_go 23 ?_
              replace h := condO h
              rcases h with ⟨hb49, h⟩ | ⟨hb49, h⟩
              · refine TS_know 35 (b := true) hb49 (by kernel_rfl) (by kernel_rfl) ?_
                refine TS_T (by kernel_rfl) rfl ?_
                refine TS_go 2 ?_
                refine TS_cut ⟨[(2000004, []), (2000007, []), (2000008, []), (36, [])], [(2004, (2004, [])), (2014, (2014, [])), (2007, (2007, [])), (602000, (602000, []))]⟩ (.mk [opsFr (codeAt [1, 1, 1, 0] (bodyOf Try.f45)) 1] .normal ⟨[(2000004, .c (.box 2004 0)), (2000007, .c (.box 2007 0)), (2000008, .c (.lit (.bool (false)))), (36, .c (.box 2007 0))], [(2004, .box [.lit (.slice none 0 0), .lit (.int .i64 (0)), .lit (.int .i64 (0)), .lit (.int .i64 (0)), .lit (.int .i64 (0)), .lit (.int .i64 (0)), .lit (.int .i64 (0)), .lit (.int .i64 (0)), .lit (.int .i64 (0))]), (2014, .spare 36 16 (List.length v3.Queue)), (2007, .box [.slc 16 2016 (List.length v3.Queue) (List.map S_Frame.cs v3.Queue), .lit (.int .i64 (v3.Phase)), .lit (.int .i64 (v3.Attempts)), .lit (.int .i64 (v3.Backoff.State)), .lit (.int .i64 (v3.Backoff.Busy)), .lit (.int .i64 (v3.Backoff.Exponent)), .lit (.int .i64 (v3.Backoff.Clear)), .lit (.int .i64 (v3.Backoff.Wait)), .lit (.int .i64 (IntKind.wrap .i64 (v3.Left - 1))), .lit (.int .u32 (a1.Draw)), .slc 18 602002 (List.length ([] : List S_Outcome)) (List.map S_Outcome.cs ([] : List S_Outcome))]), (602000, .spare 65 18 (List.length ([] : List S_Outcome)))]⟩) (by kernel_rfl) (by kernel_rfl) ?_
                refine TS_bump 2000 (by kernel_rfl) ?_
                refine TS_inl 12 Try.func61 rfl rfl (by kernel_rfl) (fun K62 => ?_)
                refine TS_go 10 ?_
                replace h := condO h
                rcases h with ⟨hb50, h⟩ | ⟨hb50, h⟩
                · refine TS_know 7 (b := true) hb50 (by kernel_rfl) (by kernel_rfl) ?_
                  refine TS_T (by kernel_rfl) rfl ?_
                  refine TS_go 3 ?_
                  refine TS_cut ⟨[(4000004, []), (4000007, []), (4000008, []), (8, [])], [(4004, (4004, [])), (4014, (4014, [])), (4007, (4007, [])), (604000, (604000, []))]⟩ (.mk [opsFr (codeAt [0, 1, 0, 0] (bodyOf Try.f61)) 1, .code (codeAt [0, 1, 0, 1] (bodyOf Try.f61)), .code (codeAt [1] (bodyOf Try.f61))] .normal ⟨[(4000004, .c (.box 4004 0)), (4000007, .c (.box 4007 0)), (4000008, .c (.lit (.bool (false)))), (8, .c (.box 4007 0))], [(4004, .box [.lit (.slice none 0 0), .lit (.int .i64 (0)), .lit (.int .i64 (0)), .lit (.int .i64 (0)), .lit (.int .i64 (0)), .lit (.int .i64 (0)), .lit (.int .i64 (0)), .lit (.int .i64 (0)), .lit (.int .i64 (0))]), (4014, .spare 36 16 (List.length v3.Queue)), (4007, .box [.slc 16 4016 (List.length v3.Queue) (List.map S_Frame.cs v3.Queue), .lit (.int .i64 (v3.Phase)), .lit (.int .i64 (v3.Attempts)), .lit (.int .i64 (v3.Backoff.State)), .lit (.int .i64 (v3.Backoff.Busy)), .lit (.int .i64 (v3.Backoff.Exponent)), .lit (.int .i64 (v3.Backoff.Clear)), .lit (.int .i64 (v3.Backoff.Wait)), .lit (.int .i64 (IntKind.wrap .i64 (v3.Left - 1))), .lit (.int .u32 (a1.Draw)), .slc 18 604002 (List.length ([] : List S_Outcome)) (List.map S_Outcome.cs ([] : List S_Outcome))]), (604000, .spare 65 18 (List.length ([] : List S_Outcome)))]⟩) (by kernel_rfl) (by kernel_rfl) ?_
                  refine TS_bump 2000 (by kernel_rfl) ?_
                  refine TS_inl 51 Try.func60 rfl rfl (by kernel_rfl) (fun K59 => ?_)
                  refine TS_go 1 ?_
                  refine TS_draw (by kernel_rfl) ?_
                  refine TD_go 10 ?_
                  replace h := bindO h
                  obtain ⟨e51, he51, h⟩ := h
                  refine TD_idx S_Frame.cs he51 (by kernel_rfl) (by kernel_rfl) ?_
                  refine TD_go 8 ?_
                  refine TD_litNT 23 65 18 S_Outcome.cs [0, 0, 0, 0, 0, 0, 0, 0, 0, 0, 0, 0, 0, 0, 2, 2] ([(S_Outcome.mk e51 false v3.Attempts)] : List S_Outcome) (by kernel_rfl) (by kernel_rfl) ?_
                  replace h := bindO h
                  obtain ⟨l52, hl52, h⟩ := h
                  refine TD_appT (d := 606000) (e := 65) (sz := 18) (N := List.length ([] : List S_Outcome)) S_Outcome.cs (fun _ => by kernel_rfl) (l1 := ([] : List S_Outcome)) (l2 := ([(S_Outcome.mk e51 false v3.Attempts)] : List S_Outcome)) (c := .whole) hl52 (by kernel_rfl) (by kernel_rfl) ?_
                  refine TD_go 3 ?_
                  refine TD_end (by kernel_rfl) ?_
                  refine TS_go 8 ?_
                  replace h := bindO h
                  obtain ⟨l53, hl53, h⟩ := h
                  refine TS_sub S_Frame.cs 16 hl53 (by kernel_rfl) (by kernel_rfl) ?_
                  replace h := bindO h
                  obtain ⟨l54, hl54, h⟩ := h
                  refine TS_appNT 34 36 16 S_Frame.cs (fun _ => by kernel_rfl) (l2 := l53) .whole hl54 (by kernel_rfl) (by kernel_rfl) ?_
                  refine TS_go 16 ?_
                  replace h := condO h
                  rcases h with ⟨hb55, h⟩ | ⟨hb55, h⟩
                  · refine TS_know 44 (b := true) hb55 (by kernel_rfl) (by kernel_rfl) ?_
                    refine TS_T (by kernel_rfl) rfl ?_
                    refine TS_go 10 ?_
                    refine TS_inlR (by kernel_rfl) (by kernel_rfl) ?_
                    refine TS_go 3 ?_
                    refine TS_inlR (by kernel_rfl) (by kernel_rfl) ?_
                    refine TS_go 1 ?_
                    refine TS_inlR (by kernel_rfl) (by kernel_rfl) ?_
                    refine TS_go 2 ?_
                    exact TS_meet (false, (S_transmit_machine.mk (S_Link.mk ([] : List S_Frame) 0 0 (S_Backoff.mk 0 0 0 0 0) 0) a1.Draw l52)) ⟨[(4, []), (7, []), (8, [])], [(6004, (4, [])), (6007, (7, [17, 0, 0, 0, 0, 0, 0, 0, 0, 0, 19]))]⟩ h (by kernel_rfl) (by kernel_rfl)
                  · refine TS_know 44 (b := false) hb55 (by kernel_rfl) (by kernel_rfl) ?_
                    refine TS_F (by kernel_rfl) rfl ?_
                    refine TS_go 3 ?_
                    refine TS_cut ⟨[(6000004, []), (6000007, []), (6000008, []), (49, [])], [(6004, (6004, [])), (6007, (6007, [])), (606000, (606000, [])), (34, (34, []))]⟩ (.mk [opsFr (codeAt [1, 1, 1] (bodyOf Try.f60)) 1] .normal ⟨[(6000004, .c (.box 6004 0)), (6000007, .c (.box 6007 0)), (6000008, .c (.lit (.bool (false)))), (49, .c (.box 6007 0))], [(6004, .box [.lit (.slice none 0 0), .lit (.int .i64 (0)), .lit (.int .i64 (0)), .lit (.int .i64 (0)), .lit (.int .i64 (0)), .lit (.int .i64 (0)), .lit (.int .i64 (0)), .lit (.int .i64 (0)), .lit (.int .i64 (0))]), (6007, .box [.slc 16 36 (List.length l54) (List.map S_Frame.cs l54), .lit (.int .i64 (v3.Phase)), .lit (.int .i64 (v3.Attempts)), .lit (.int .i64 (v3.Backoff.State)), .lit (.int .i64 (v3.Backoff.Busy)), .lit (.int .i64 (v3.Backoff.Exponent)), .lit (.int .i64 (v3.Backoff.Clear)), .lit (.int .i64 (v3.Backoff.Wait)), .lit (.int .i64 (IntKind.wrap .i64 (v3.Left - 1))), .lit (.int .u32 (a1.Draw)), .slc 18 606002 (List.length l52) (List.map S_Outcome.cs l52)]), (606000, .spare 65 18 (List.length l52)), (34, .spare 36 16 (List.length l54))]⟩) (by kernel_rfl) (by kernel_rfl) ?_
                    refine TS_bump 2000 (by kernel_rfl) ?_
                    refine TS_inl 8 Try.func39 rfl rfl (by kernel_rfl) (fun K58 => ?_)
                    refine TS_go 3 ?_
                    refine TS_cut ⟨[(0, []), (8000004, []), (8000007, []), (8000008, []), (2, [])], [(8004, (8004, [])), (8007, (8007, [])), (608000, (608000, [])), (2034, (2034, []))]⟩ (.mk [opsFr (codeAt [0] (bodyOf Try.f39)) 1, .code (codeAt [1] (bodyOf Try.f39))] .normal ⟨[(0, .c (.box 8007 0)), (8000004, .c (.box 8004 0)), (8000007, .c (.box 8007 0)), (8000008, .c (.lit (.bool (false)))), (2, .c (.box 8007 0))], [(8004, .box [.lit (.slice none 0 0), .lit (.int .i64 (0)), .lit (.int .i64 (0)), .lit (.int .i64 (0)), .lit (.int .i64 (0)), .lit (.int .i64 (0)), .lit (.int .i64 (0)), .lit (.int .i64 (0)), .lit (.int .i64 (0))]), (8007, .box [.slc 16 2036 (List.length l54) (List.map S_Frame.cs l54), .lit (.int .i64 (v3.Phase)), .lit (.int .i64 (v3.Attempts)), .lit (.int .i64 (v3.Backoff.State)), .lit (.int .i64 (v3.Backoff.Busy)), .lit (.int .i64 (v3.Backoff.Exponent)), .lit (.int .i64 (v3.Backoff.Clear)), .lit (.int .i64 (v3.Backoff.Wait)), .lit (.int .i64 (IntKind.wrap .i64 (v3.Left - 1))), .lit (.int .u32 (a1.Draw)), .slc 18 608002 (List.length l52) (List.map S_Outcome.cs l52)]), (608000, .spare 65 18 (List.length l52)), (2034, .spare 36 16 (List.length l54))]⟩) (by kernel_rfl) (by kernel_rfl) ?_
                    refine TS_bump 2000 (by kernel_rfl) ?_
                    refine TS_inl 19 Try.func57 rfl rfl (by kernel_rfl) (fun K57 => ?_)
                    refine TS_go 15 ?_
                    replace h := bindO h
                    obtain ⟨v56, hv56, h⟩ := h
                    refine TS_call [] (ok_backoff_Begin a1.Draw v56 hv56) (by kernel_rfl) (by kernel_rfl) ?_
                    refine TS_go 12 ?_
                    refine TS_inlR (by kernel_rfl) (by kernel_rfl) ?_
                    refine TS_go 8 ?_
                    refine TS_inlR (by kernel_rfl) (by kernel_rfl) ?_
                    refine TS_go 1 ?_
                    refine TS_inlR (by kernel_rfl) (by kernel_rfl) ?_
                    refine TS_go 3 ?_
                    refine TS_inlR (by kernel_rfl) (by kernel_rfl) ?_
                    refine TS_go 1 ?_
                    refine TS_inlR (by kernel_rfl) (by kernel_rfl) ?_
                    refine TS_go 2 ?_
                    exact TS_meet (false, (S_transmit_machine.mk (S_Link.mk l54 1 0 v56 0) a1.Draw l52)) ⟨[(4, []), (7, []), (8, [])], [(10004, (4, [])), (10007, (7, [17, 0, 0, 0, 0, 0, 0, 0, 0, 0, 19]))]⟩ h (by kernel_rfl) (by kernel_rfl)
                · refine TS_know 7 (b := false) hb50 (by kernel_rfl) (by kernel_rfl) ?_
                  refine TS_F (by kernel_rfl) rfl ?_
                  refine TS_go 3 ?_
                  refine TS_cut ⟨[(4000004, []), (4000007, []), (4000008, []), (10, [])], [(4004, (4004, [])), (4014, (4014, [])), (4007, (4007, [])), (604000, (604000, []))]⟩ (.mk [opsFr (codeAt [1] (bodyOf Try.f61)) 1] .normal ⟨[(4000004, .c (.box 4004 0)), (4000007, .c (.box 4007 0)), (4000008, .c (.lit (.bool (false)))), (10, .c (.box 4007 0))], [(4004, .box [.lit (.slice none 0 0), .lit (.int .i64 (0)), .lit (.int .i64 (0)), .lit (.int .i64 (0)), .lit (.int .i64 (0)), .lit (.int .i64 (0)), .lit (.int .i64 (0)), .lit (.int .i64 (0)), .lit (.int .i64 (0))]), (4014, .spare 36 16 (List.length v3.Queue)), (4007, .box [.slc 16 4016 (List.length v3.Queue) (List.map S_Frame.cs v3.Queue), .lit (.int .i64 (v3.Phase)), .lit (.int .i64 (v3.Attempts)), .lit (.int .i64 (v3.Backoff.State)), .lit (.int .i64 (v3.Backoff.Busy)), .lit (.int .i64 (v3.Backoff.Exponent)), .lit (.int .i64 (v3.Backoff.Clear)), .lit (.int .i64 (v3.Backoff.Wait)), .lit (.int .i64 (IntKind.wrap .i64 (v3.Left - 1))), .lit (.int .u32 (a1.Draw)), .slc 18 604002 (List.length ([] : List S_Outcome)) (List.map S_Outcome.cs ([] : List S_Outcome))]), (604000, .spare 65 18 (List.length ([] : List S_Outcome)))]⟩) (by kernel_rfl) (by kernel_rfl) ?_
                  refine TS_bump 2000 (by kernel_rfl) ?_
                  refine TS_inl 19 Try.func57 rfl rfl (by kernel_rfl) (fun K61 => ?_)
                  refine TS_go 15 ?_
                  replace h := bindO h
                  obtain ⟨v60, hv60, h⟩ := h
                  refine TS_call [] (ok_backoff_Begin a1.Draw v60 hv60) (by kernel_rfl) (by kernel_rfl) ?_
                  refine TS_go 12 ?_
                  refine TS_inlR (by kernel_rfl) (by kernel_rfl) ?_
                  refine TS_go 1 ?_
                  refine TS_inlR (by kernel_rfl) (by kernel_rfl) ?_
                  refine TS_go 1 ?_
                  refine TS_inlR (by kernel_rfl) (by kernel_rfl) ?_
                  refine TS_go 2 ?_
                  exact TS_meet (false, (S_transmit_machine.mk (S_Link.mk v3.Queue 1 v3.Attempts v60 0) a1.Draw ([] : List S_Outcome))) ⟨[(4, []), (7, []), (8, [])], [(6004, (4, [])), (6007, (7, [17, 0, 0, 0, 0, 0, 0, 0, 0, 0, 19]))]⟩ h (by kernel_rfl) (by kernel_rfl)
              · refine TS_know 35 (b := false) hb49 (by kernel_rfl) (by kernel_rfl) ?_
                refine TS_F (by kernel_rfl) rfl ?_
                refine TS_go 1 ?_
                refine TS_inlR (by kernel_rfl) (by kernel_rfl) ?_
                refine TS_go 2 ?_
                exact TS_meet (false, (S_transmit_machine.mk (S_Link.mk v3.Queue v3.Phase v3.Attempts v3.Backoff (IntKind.wrap .i64 (v3.Left - 1))) a1.Draw ([] : List S_Outcome))) ⟨[(4, []), (7, []), (8, [])], [(2004, (4, [])), (2007, (7, [17, 0, 0, 0, 0, 0, 0, 0, 0, 0, 19]))]⟩ h (by kernel_rfl) (by kernel_rfl)
          · refine TS_know 1 (b := false) hb37 (by kernel_rfl) (by kernel_rfl) ?_
            refine TS_know 2000029 (b := false) hb37 (by kernel_rfl) (by kernel_rfl) ?_
            refine TS_know 6 (b := false) hb37 (by kernel_rfl) (by kernel_rfl) ?_
            refine TS_know 7 (b := false) hb37 (by kernel_rfl) (by kernel_rfl) ?_
            refine TS_go 12 ?_
            refine TS_F (by kernel_rfl) rfl ?_
            refine TS_go 23 ?_
            replace h := condO h
            rcases h with ⟨hb63, h⟩ | ⟨hb63, h⟩
            · refine TS_know 35 (b := true) hb63 (by kernel_rfl) (by kernel_rfl) ?_
              refine TS_T (by kernel_rfl) rfl ?_
              refine TS_go 2 ?_
              refine TS_cut ⟨[(2000004, []), (2000007, []), (2000008, []), (36, [])], [(2004, (2004, [])), (2014, (2014, [])), (2007, (2007, [])), (602000, (602000, []))]⟩ (.mk [opsFr (codeAt [1, 1, 1, 0] (bodyOf Try.f45)) 1] .normal ⟨[(2000004, .c (.box 2004 0)), (2000007, .c (.box 2007 0)), (2000008, .c (.lit (.bool (false)))), (36, .c (.box 2007 0))], [(2004, .box [.lit (.slice none 0 0), .lit (.int .i64 (0)), .lit (.int .i64 (0)), .lit (.int .i64 (0)), .lit (.int .i64 (0)), .lit (.int .i64 (0)), .lit (.int .i64 (0)), .lit (.int .i64 (0)), .lit (.int .i64 (0))]), (2014, .spare 36 16 (List.length v3.Queue)), (2007, .box [.slc 16 2016 (List.length v3.Queue) (List.map S_Frame.cs v3.Queue), .lit (.int .i64 (v3.Phase)), .lit (.int .i64 (v3.Attempts)), .lit (.int .i64 (v3.Backoff.State)), .lit (.int .i64 (v3.Backoff.Busy)), .lit (.int .i64 (v3.Backoff.Exponent)), .lit (.int .i64 (v3.Backoff.Clear)), .lit (.int .i64 (v3.Backoff.Wait)), .lit (.int .i64 (IntKind.wrap .i64 (v3.Left - 1))), .lit (.int .u32 (a1.Draw)), .slc 18 602002 (List.length ([] : List S_Outcome)) (List.map S_Outcome.cs ([] : List S_Outcome))]), (602000, .spare 65 18 (List.length ([] : List S_Outcome)))]⟩) (by kernel_rfl) (by kernel_rfl) ?_
              refine TS_bump 2000 (by kernel_rfl) ?_
              refine TS_inl 12 Try.func61 rfl rfl (by kernel_rfl) (fun K76 => ?_)
              refine TS_go 10 ?_
              replace h := condO h
              rcases h with ⟨hb64, h⟩ | ⟨hb64, h⟩
              · refine TS_know 7 (b := true) hb64 (by kernel_rfl) (by kernel_rfl) ?_
                refine TS_T (by kernel_rfl) rfl ?_
                refine TS_go 3 ?_
                refine TS_cut ⟨[(4000004, []), (4000007, []), (4000008, []), (8, [])], [(4004, (4004, [])), (4014, (4014, [])), (4007, (4007, [])), (604000, (604000, []))]⟩ (.mk [opsFr (codeAt [0, 1, 0, 0] (bodyOf Try.f61)) 1, .code (codeAt [0, 1, 0, 1] (bodyOf Try.f61)), .code (codeAt [1] (bodyOf Try.f61))] .normal ⟨[(4000004, .c (.box 4004 0)), (4000007, .c (.box 4007 0)), (4000008, .c (.lit (.bool (false)))), (8, .c (.box 4007 0))], [(4004, .box [.lit (.slice none 0 0), .lit (.int .i64 (0)), .lit (.int .i64 (0)), .lit (.int .i64 (0)), .lit (.int .i64 (0)), .lit (.int .i64 (0)), .lit (.int .i64 (0)), .lit (.int .i64 (0)), .lit (.int .i64 (0))]), (4014, .spare 36 16 (List.length v3.Queue)), (4007, .box [.slc 16 4016 (List.length v3.Queue) (List.map S_Frame.cs v3.Queue), .lit (.int .i64 (v3.Phase)), .lit (.int .i64 (v3.Attempts)), .lit (.int .i64 (v3.Backoff.State)), .lit (.int .i64 (v3.Backoff.Busy)), .lit (.int .i64 (v3.Backoff.Exponent)), .lit (.int .i64 (v3.Backoff.Clear)), .lit (.int .i64 (v3.Backoff.Wait)), .lit (.int .i64 (IntKind.wrap .i64 (v3.Left - 1))), .lit (.int .u32 (a1.Draw)), .slc 18 604002 (List.length ([] : List S_Outcome)) (List.map S_Outcome.cs ([] : List S_Outcome))]), (604000, .spare 65 18 (List.length ([] : List S_Outcome)))]⟩) (by kernel_rfl) (by kernel_rfl) ?_
                refine TS_bump 2000 (by kernel_rfl) ?_
                refine TS_inl 51 Try.func60 rfl rfl (by kernel_rfl) (fun K73 => ?_)
                refine TS_go 1 ?_
                refine TS_draw (by kernel_rfl) ?_
                refine TD_go 10 ?_
                replace h := bindO h
                obtain ⟨e65, he65, h⟩ := h
                refine TD_idx S_Frame.cs he65 (by kernel_rfl) (by kernel_rfl) ?_
                refine TD_go 8 ?_
                refine TD_litNT 23 65 18 S_Outcome.cs [0, 0, 0, 0, 0, 0, 0, 0, 0, 0, 0, 0, 0, 0, 2, 2] ([(S_Outcome.mk e65 false v3.Attempts)] : List S_Outcome) (by kernel_rfl) (by kernel_rfl) ?_
                replace h := bindO h
                obtain ⟨l66, hl66, h⟩ := h
                refine TD_appT (d := 606000) (e := 65) (sz := 18) (N := List.length ([] : List S_Outcome)) S_Outcome.cs (fun _ => by kernel_rfl) (l1 := ([] : List S_Outcome)) (l2 := ([(S_Outcome.mk e65 false v3.Attempts)] : List S_Outcome)) (c := .whole) hl66 (by kernel_rfl) (by kernel_rfl) ?_
                refine TD_go 3 ?_
                refine TD_end (by kernel_rfl) ?_
                refine TS_go 8 ?_
                replace h := bindO h
                obtain ⟨l67, hl67, h⟩ := h
                refine TS_sub S_Frame.cs 16 hl67 (by kernel_rfl) (by kernel_rfl) ?_
                replace h := bindO h
                obtain ⟨l68, hl68, h⟩ := h
                refine TS_appNT 34 36 16 S_Frame.cs (fun _ => by kernel_rfl) (l2 := l67) .whole hl68 (by kernel_rfl) (by kernel_rfl) ?_
                refine TS_go 16 ?_
                replace h := condO h
                rcases h with ⟨hb69, h⟩ | ⟨hb69, h⟩
                · refine TS_know 44 (b := true) hb69 (by kernel_rfl) (by kernel_rfl) ?_
                  refine TS_T (by kernel_rfl) rfl ?_
                  refine TS_go 10 ?_
                  refine TS_inlR (by kernel_rfl) (by kernel_rfl) ?_
                  refine TS_go 3 ?_
                  refine TS_inlR (by kernel_rfl) (by kernel_rfl) ?_
                  refine TS_go 1 ?_
                  refine TS_inlR (by kernel_rfl) (by kernel_rfl) ?_
                  refine TS_go 2 ?_
                  exact TS_meet (false, (S_transmit_machine.mk (S_Link.mk ([] : List S_Frame) 0 0 (S_Backoff.mk 0 0 0 0 0) 0) a1.Draw l66)) ⟨[(4, []), (7, []), (8, [])], [(6004, (4, [])), (6007, (7, [17, 0, 0, 0, 0, 0, 0, 0, 0, 0, 19]))]⟩ h (by kernel_rfl) (by kernel_rfl)
                · refine TS_know 44 (b := false) hb69 (by kernel_rfl) (by kernel_rfl) ?_
                  refine TS_F (by kernel_rfl) rfl ?_
                  refine TS_go 3 ?_
                  refine TS_cut ⟨[(6000004, []), (6000007, []), (6000008, []), (49, [])], [(6004, (6004, [])), (6007, (6007, [])), (606000, (606000, [])), (34, (34, []))]⟩ (.mk [opsFr (codeAt [1, 1, 1] (bodyOf Try.f60)) 1] .normal ⟨[(6000004, .c (.box 6004 0)), (6000007, .c (.box 6007 0)), (6000008, .c (.lit (.bool (false)))), (49, .c (.box 6007 0))], [(6004, .box [.lit (.slice none 0 0), .lit (.int .i64 (0)), .lit (.int .i64 (0)), .lit (.int .i64 (0)), .lit (.int .i64 (0)), .lit (.int .i64 (0)), .lit (.int .i64 (0)), .lit (.int .i64 (0)), .lit (.int .i64 (0))]), (6007, .box [.slc 16 36 (List.length l68) (List.map S_Frame.cs l68), .lit (.int .i64 (v3.Phase)), .lit (.int .i64 (v3.Attempts)), .lit (.int .i64 (v3.Backoff.State)), .lit (.int .i64 (v3.Backoff.Busy)), .lit (.int .i64 (v3.Backoff.Exponent)), .lit (.int .i64 (v3.Backoff.Clear)), .lit (.int .i64 (v3.Backoff.Wait)), .lit (.int .i64 (IntKind.wrap .i64 (v3.Left - 1))), .lit (.int .u32 (a1.Draw)), .slc 18 606002 (List.length l66) (List.map S_Outcome.cs l66)]), (606000, .spare 65 18 (List.length l66)), (34, .spare 36 16 (List.length l68))]⟩) (by kernel_rfl) (by kernel_rfl) ?_
                  refine TS_bump 2000 (by kernel_rfl) ?_
                  refine TS_inl 8 Try.func39 rfl rfl (by kernel_rfl) (fun K72 => ?_)
                  refine TS_go 3 ?_
                  refine TS_cut ⟨[(0, []), (8000004, []), (8000007, []), (8000008, []), (2, [])], [(8004, (8004, [])), (8007, (8007, [])), (608000, (608000, [])), (2034, (2034, []))]⟩ (.mk [opsFr (codeAt [0] (bodyOf Try.f39)) 1, .code (codeAt [1] (bodyOf Try.f39))] .normal ⟨[(0, .c (.box 8007 0)), (8000004, .c (.box 8004 0)), (8000007, .c (.box 8007 0)), (8000008, .c (.lit (.bool (false)))), (2, .c (.box 8007 0))], [(8004, .box [.lit (.slice none 0 0), .lit (.int .i64 (0)), .lit (.int .i64 (0)), .lit (.int .i64 (0)), .lit (.int .i64 (0)), .lit (.int .i64 (0)), .lit (.int .i64 (0)), .lit (.int .i64 (0)), .lit (.int .i64 (0))]), (8007, .box [.slc 16 2036 (List.length l68) (List.map S_Frame.cs l68), .lit (.int .i64 (v3.Phase)), .lit (.int .i64 (v3.Attempts)), .lit (.int .i64 (v3.Backoff.State)), .lit (.int .i64 (v3.Backoff.Busy)), .lit (.int .i64 (v3.Backoff.Exponent)), .lit (.int .i64 (v3.Backoff.Clear)), .lit (.int .i64 (v3.Backoff.Wait)), .lit (.int .i64 (IntKind.wrap .i64 (v3.Left - 1))), .lit (.int .u32 (a1.Draw)), .slc 18 608002 (List.length l66) (List.map S_Outcome.cs l66)]), (608000, .spare 65 18 (List.length l66)), (2034, .spare 36 16 (List.length l68))]⟩) (by kernel_rfl) (by kernel_rfl) ?_
                  refine TS_bump 2000 (by kernel_rfl) ?_
                  refine TS_inl 19 Try.func57 rfl rfl (by kernel_rfl) (fun K71 => ?_)
                  refine TS_go 15 ?_
                  replace h := bindO h
                  obtain ⟨v70, hv70, h⟩ := h
                  refine TS_call [] (ok_backoff_Begin a1.Draw v70 hv70) (by kernel_rfl) (by kernel_rfl) ?_
                  refine TS_go 12 ?_
                  refine TS_inlR (by kernel_rfl) (by kernel_rfl) ?_
                  refine TS_go 8 ?_
                  refine TS_inlR (by kernel_rfl) (by kernel_rfl) ?_
                  refine TS_go 1 ?_
                  refine TS_inlR (by kernel_rfl) (by kernel_rfl) ?_
                  refine TS_go 3 ?_
                  refine TS_inlR (by kernel_rfl) (by kernel_rfl) ?_
                  refine TS_go 1 ?_
                  refine TS_inlR (by kernel_rfl) (by kernel_rfl) ?_
                  refine TS_go 2 ?_
                  exact TS_meet (false, (S_transmit_machine.mk (S_Link.mk l68 1 0 v70 0) a1.Draw l66)) ⟨[(4, []), (7, []), (8, [])], [(10004, (4, [])), (10007, (7, [17, 0, 0, 0, 0, 0, 0, 0, 0, 0, 19]))]⟩ h (by kernel_rfl) (by kernel_rfl)
              · refine TS_know 7 (b := false) hb64 (by kernel_rfl) (by kernel_rfl) ?_
                refine TS_F (by kernel_rfl) rfl ?_
                refine TS_go 3 ?_
                refine TS_cut ⟨[(4000004, []), (4000007, []), (4000008, []), (10, [])], [(4004, (4004, [])), (4014, (4014, [])), (4007, (4007, [])), (604000, (604000, []))]⟩ (.mk [opsFr (codeAt [1] (bodyOf Try.f61)) 1] .normal ⟨[(4000004, .c (.box 4004 0)), (4000007, .c (.box 4007 0)), (4000008, .c (.lit (.bool (false)))), (10, .c (.box 4007 0))], [(4004, .box [.lit (.slice none 0 0), .lit (.int .i64 (0)), .lit (.int .i64 (0)), .lit (.int .i64 (0)), .lit (.int .i64 (0)), .lit (.int .i64 (0)), .lit (.int .i64 (0)), .lit (.int .i64 (0)), .lit (.int .i64 (0))]), (4014, .spare 36 16 (List.length v3.Queue)), (4007, .box [.slc 16 4016 (List.length v3.Queue) (List.map S_Frame.cs v3.Queue), .lit (.int .i64 (v3.Phase)), .lit (.int .i64 (v3.Attempts)), .lit (.int .i64 (v3.Backoff.State)), .lit (.int .i64 (v3.Backoff.Busy)), .lit (.int .i64 (v3.Backoff.Exponent)), .lit (.int .i64 (v3.Backoff.Clear)), .lit (.int .i64 (v3.Backoff.Wait)), .lit (.int .i64 (IntKind.wrap .i64 (v3.Left - 1))), .lit (.int .u32 (a1.Draw)), .slc 18 604002 (List.length ([] : List S_Outcome)) (List.map S_Outcome.cs ([] : List S_Outcome))]), (604000, .spare 65 18 (List.length ([] : List S_Outcome)))]⟩) (by kernel_rfl) (by kernel_rfl) ?_
                refine TS_bump 2000 (by kernel_rfl) ?_
                refine TS_inl 19 Try.func57 rfl rfl (by kernel_rfl) (fun K75 => ?_)
                refine TS_go 15 ?_
                replace h := bindO h
                obtain ⟨v74, hv74, h⟩ := h
                refine TS_call [] (ok_backoff_Begin a1.Draw v74 hv74) (by kernel_rfl) (by kernel_rfl) ?_
                refine TS_go 12 ?_
                refine TS_inlR (by kernel_rfl) (by kernel_rfl) ?_
                refine TS_go 1 ?_
                refine TS_inlR (by kernel_rfl) (by kernel_rfl) ?_
                refine TS_go 1 ?_
                refine TS_inlR (by kernel_rfl) (by kernel_rfl) ?_
                refine TS_go 2 ?_
                exact TS_meet (false, (S_transmit_machine.mk (S_Link.mk v3.Queue 1 v3.Attempts v74 0) a1.Draw ([] : List S_Outcome))) ⟨[(4, []), (7, []), (8, [])], [(6004, (4, [])), (6007, (7, [17, 0, 0, 0, 0, 0, 0, 0, 0, 0, 19]))]⟩ h (by kernel_rfl) (by kernel_rfl)
            · refine TS_know 35 (b := false) hb63 (by kernel_rfl) (by kernel_rfl) ?_
              refine TS_F (by kernel_rfl) rfl ?_
              refine TS_go 1 ?_
              refine TS_inlR (by kernel_rfl) (by kernel_rfl) ?_
              refine TS_go 2 ?_
              exact TS_meet (false, (S_transmit_machine.mk (S_Link.mk v3.Queue v3.Phase v3.Attempts v3.Backoff (IntKind.wrap .i64 (v3.Left - 1))) a1.Draw ([] : List S_Outcome))) ⟨[(4, []), (7, []), (8, [])], [(2004, (4, [])), (2007, (7, [17, 0, 0, 0, 0, 0, 0, 0, 0, 0, 19]))]⟩ h (by kernel_rfl) (by kernel_rfl)
        · refine TS_know 27 (b := false) hb36 (by kernel_rfl) (by kernel_rfl) ?_
          refine TS_know 26 (b := false) hb36 (by kernel_rfl) (by kernel_rfl) ?_
          refine TS_F (by kernel_rfl) rfl ?_
          refine TS_go 2 ?_
          exact TS_meet (false, (S_transmit_machine.mk v3 a1.Draw ([] : List S_Outcome))) ⟨[(4, []), (7, []), (8, [])], [(4, (4, [])), (7, (7, [17, 0, 0, 0, 0, 0, 0, 0, 0, 0, 19]))]⟩ h (by kernel_rfl) (by kernel_rfl)
  · subst hb2
    refine TS_T (by kernel_rfl) rfl ?_
    refine TS_go 9 ?_
    have ret := Option.some.inj h
    subst ret
    exact TS_ret (by kernel_rfl) (by kernel_rfl) (by kernel_rfl)

/-- multihop/multihopref01.Same -/
noncomputable def F_ref01_Same_l1 (a0 : List Int) (a1 : List Int) (s2 : Int) : Option ((Int) ⊕ ((Unit) ⊕ (Bool))) :=
  bif (decide (s2 < (List.length a0 : Int))) then
    (idx a0 s2).bind fun e6 =>
    (idx a1 s2).bind fun e7 =>
    bif (e6 != e7) then
      some (Sum.inr (Sum.inr false))
    else
      some (Sum.inl (IntKind.wrap .i64 (s2 + 1)))
  else
    some (Sum.inr (Sum.inl ()))
noncomputable def F_ref01_Same (a0 : List Int) (a1 : List Int) : Option (Bool) :=
  bif ((List.length a0 : Int) != (List.length a1 : Int)) then
    some (false)
  else
    (loopO (F_ref01_Same_l1 a0 a1) 0).bind (Sum.elim (fun b3 =>
      some (true)
    ) (fun w9 => some w9))
set_option maxRecDepth 100000 in
set_option maxHeartbeats 40000000 in
theorem ok_ref01_Same (a0 : List Int) (a1 : List Int) (r : Bool) (h : F_ref01_Same a0 a1 = some r) : Con Try.prog 53 [.c (eS 1 (ecI .u8) (a0)), .c (eS 1 (ecI .u8) (a1))] [] (.c (.lit (.bool (r)))) [] := by
  unfold F_ref01_Same at h
  refine con_of [] [] 26 Try.func53 rfl rfl (by kernel_rfl) (fun K => ?_)
  refine TS_go 13 ?_
  replace h := condO h
  rcases h with ⟨hb1, h⟩ | ⟨hb1, h⟩
  · refine TS_know 10 (b := true) hb1 (by kernel_rfl) (by kernel_rfl) ?_
    refine TS_T (by kernel_rfl) rfl ?_
    refine TS_go 6 ?_
    have ret := Option.some.inj h
    subst ret
    exact TS_ret (by kernel_rfl) (by kernel_rfl) (by kernel_rfl)
  · refine TS_know 10 (b := false) hb1 (by kernel_rfl) (by kernel_rfl) ?_
    refine TS_F (by kernel_rfl) rfl ?_
    refine TS_go 7 ?_
    refine TS_cut ⟨[(0, []), (1, []), (5, [])], []⟩ (.mk [.code (codeAt [1, 1, 0, 1, 0] (bodyOf Try.f53)), .blk 0, .code (codeAt [1, 1, 1] (bodyOf Try.f53))] .normal ⟨[(0, .c (.slc 1 0 (List.length a0) (List.map (ecI .u8) a0))), (1, .c (.slc 1 0 (List.length a1) (List.map (ecI .u8) a1))), (5, .c (.lit (.int .i64 (0))))], []⟩) (by kernel_rfl) (by kernel_rfl) ?_
    replace h := bindO h
    obtain ⟨y4, hl1, hK1⟩ := h
    refine TS_loopB (F_ref01_Same_l1 a0 a1) ⟨[(0, []), (1, []), (5, [])], []⟩ (fun (s2 : Int) => [(5, .c (.lit (.int .i64 (s2))))]) (fun (s2 : Int) => []) 0 y4 (.exit 0) (fun (b : Unit) => (Sum.inl b : (Unit) ⊕ (Bool))) ⟨[], []⟩ (fun (b3 : Unit) => []) (fun (b3 : Unit) => []) hl1 (by kernel_rfl) (by kernel_rfl) ?_ ?_
    · intro s2 x h hy1
      unfold F_ref01_Same_l1 at h
      refine TS_go 8 ?_
      replace h := condO h
      rcases h with ⟨hb5, h⟩ | ⟨hb5, h⟩
      · refine TS_know 14 (b := true) hb5 (by kernel_rfl) (by kernel_rfl) ?_
        refine TS_T (by kernel_rfl) rfl ?_
        refine TS_go 4 ?_
        refine TS_draw (by kernel_rfl) ?_
        refine TD_go 2 ?_
        replace h := bindO h
        obtain ⟨_e6, he6, h⟩ := h
        refine TD_idx (ecI .u8) he6 (by kernel_rfl) (by kernel_rfl) ?_
        refine TD_go 3 ?_
        replace h := bindO h
        obtain ⟨_e7, he7, h⟩ := h
        refine TD_idx (ecI .u8) he7 (by kernel_rfl) (by kernel_rfl) ?_
        refine TD_go 2 ?_
        refine TD_end (by kernel_rfl) ?_
        replace h := condO h
        rcases h with ⟨hb8, h⟩ | ⟨hb8, h⟩
        · refine TS_know 25 (b := true) hb8 (by kernel_rfl) (by kernel_rfl) ?_
          refine TS_T (by kernel_rfl) rfl ?_
          refine TS_go 7 ?_
          have ret := Option.some.inj h
          subst ret
          have hy1q := hy1 _ rfl
          subst hy1q
          replace h := (elimR hK1)
          refine TS_retB rfl (by kernel_rfl) ?_
          refine TS_go 2 ?_
          have ret := Option.some.inj h
          subst ret
          exact TS_ret (by kernel_rfl) (by kernel_rfl) (by kernel_rfl)
        · refine TS_know 25 (b := false) hb8 (by kernel_rfl) (by kernel_rfl) ?_
          refine TS_F (by kernel_rfl) rfl ?_
          refine TS_go 7 ?_
          have ret := Option.some.inj h
          subst ret
          exact TS_againB _ ⟨[(0, []), (1, []), (5, [])], []⟩ rfl (by kernel_rfl) (by kernel_rfl)
      · refine TS_know 14 (b := false) hb5 (by kernel_rfl) (by kernel_rfl) ?_
        refine TS_F (by kernel_rfl) rfl ?_
        refine TS_go 2 ?_
        have ret := Option.some.inj h
        subst ret
        exact TS_brkB () ⟨[], []⟩ rfl (by kernel_rfl) (by kernel_rfl) (by kernel_rfl)
    · intro b3 hb
      subst y4
      have h := elimL hK1
      refine TS_go 6 ?_
      have ret := Option.some.inj h
      subst ret
      exact TS_ret (by kernel_rfl) (by kernel_rfl) (by kernel_rfl)

/-- multihop/multihopref05.Same -/
noncomputable def F_ref05_Same (a0 : S_Frame) (a1 : S_Frame) : Option (Bool) :=
  bif (a0.Kind == a1.Kind) then
    bif (a0.AckRequest == a1.AckRequest) then
      bif (a0.Pending == a1.Pending) then
        bif (a0.Secure == a1.Secure) then
          bif (a0.Seq == a1.Seq) then
            bif (a0.Pan == a1.Pan) then
              bif (S_Addr.eqb a0.Dst a1.Dst) then
                bif (S_Addr.eqb a0.Src a1.Src) then
                  bif (a0.Counter == a1.Counter) then
                    bif (a0.Key == a1.Key) then
                      (F_ref01_Same a0.Payload a1.Payload).bind fun v11 =>
                      bif v11 then
                        (F_ref01_Same a0.MIC a1.MIC).bind fun v13 =>
                        some (v13)
                      else
                        some (false)
                    else
                      some (false)
                  else
                    some (false)
                else
                  some (false)
              else
                some (false)
            else
              some (false)
          else
            some (false)
        else
          some (false)
      else
        some (false)
    else
      some (false)
  else
    some (false)
set_option maxRecDepth 100000 in
set_option maxHeartbeats 40000000 in
theorem ok_ref05_Same (a0 : S_Frame) (a1 : S_Frame) (r : Bool) (h : F_ref05_Same a0 a1 = some r) : Con Try.prog 28 [.agg (S_Frame.cs a0), .agg (S_Frame.cs a1)] [] (.c (.lit (.bool (r)))) [] := by
  unfold F_ref05_Same at h
  refine con_of [] [] 87 Try.func28 rfl rfl (by kernel_rfl) (fun K => ?_)
  refine TS_go 14 ?_
  replace h := condO h
  rcases h with ⟨hb1, h⟩ | ⟨hb1, h⟩
  · refine TS_know 9 (b := true) hb1 (by kernel_rfl) (by kernel_rfl) ?_
    refine TS_know 10 (b := true) hb1 (by kernel_rfl) (by kernel_rfl) ?_
    refine TS_go 7 ?_
    replace h := condO h
    rcases h with ⟨hb2, h⟩ | ⟨hb2, h⟩
    · refine TS_know 15 (b := true) hb2 (by kernel_rfl) (by kernel_rfl) ?_
      refine TS_know 16 (b := true) hb2 (by kernel_rfl) (by kernel_rfl) ?_
      refine TS_know 17 (b := true) hb2 (by kernel_rfl) (by kernel_rfl) ?_
      refine TS_go 7 ?_
      replace h := condO h
      rcases h with ⟨hb3, h⟩ | ⟨hb3, h⟩
      · refine TS_know 22 (b := true) hb3 (by kernel_rfl) (by kernel_rfl) ?_
        refine TS_know 23 (b := true) hb3 (by kernel_rfl) (by kernel_rfl) ?_
        refine TS_know 24 (b := true) hb3 (by kernel_rfl) (by kernel_rfl) ?_
        refine TS_go 7 ?_
        replace h := condO h
        rcases h with ⟨hb4, h⟩ | ⟨hb4, h⟩
        · refine TS_know 29 (b := true) hb4 (by kernel_rfl) (by kernel_rfl) ?_
          refine TS_know 30 (b := true) hb4 (by kernel_rfl) (by kernel_rfl) ?_
          refine TS_know 31 (b := true) hb4 (by kernel_rfl) (by kernel_rfl) ?_
          refine TS_go 7 ?_
          replace h := condO h
          rcases h with ⟨hb5, h⟩ | ⟨hb5, h⟩
          · refine TS_know 36 (b := true) hb5 (by kernel_rfl) (by kernel_rfl) ?_
            refine TS_know 37 (b := true) hb5 (by kernel_rfl) (by kernel_rfl) ?_
            refine TS_know 38 (b := true) hb5 (by kernel_rfl) (by kernel_rfl) ?_
            refine TS_go 7 ?_
            replace h := condO h
            rcases h with ⟨hb6, h⟩ | ⟨hb6, h⟩
            · refine TS_know 43 (b := true) hb6 (by kernel_rfl) (by kernel_rfl) ?_
              refine TS_know 44 (b := true) hb6 (by kernel_rfl) (by kernel_rfl) ?_
              refine TS_know 45 (b := true) hb6 (by kernel_rfl) (by kernel_rfl) ?_
              refine TS_go 7 ?_
              replace h := condO h
              rcases h with ⟨hb7, h⟩ | ⟨hb7, h⟩
              · refine TS_know 50 (b := true) hb7 (by kernel_rfl) (by kernel_rfl) ?_
                refine TS_know 51 (b := true) hb7 (by kernel_rfl) (by kernel_rfl) ?_
                refine TS_know 52 (b := true) hb7 (by kernel_rfl) (by kernel_rfl) ?_
                refine TS_go 7 ?_
                replace h := condO h
                rcases h with ⟨hb8, h⟩ | ⟨hb8, h⟩
                · refine TS_know 57 (b := true) hb8 (by kernel_rfl) (by kernel_rfl) ?_
                  refine TS_know 58 (b := true) hb8 (by kernel_rfl) (by kernel_rfl) ?_
                  refine TS_know 59 (b := true) hb8 (by kernel_rfl) (by kernel_rfl) ?_
                  refine TS_go 7 ?_
                  replace h := condO h
                  rcases h with ⟨hb9, h⟩ | ⟨hb9, h⟩
                  · refine TS_know 64 (b := true) hb9 (by kernel_rfl) (by kernel_rfl) ?_
                    refine TS_know 65 (b := true) hb9 (by kernel_rfl) (by kernel_rfl) ?_
                    refine TS_know 66 (b := true) hb9 (by kernel_rfl) (by kernel_rfl) ?_
                    refine TS_go 7 ?_
                    replace h := condO h
                    rcases h with ⟨hb10, h⟩ | ⟨hb10, h⟩
                    · refine TS_know 71 (b := true) hb10 (by kernel_rfl) (by kernel_rfl) ?_
                      refine TS_know 72 (b := true) hb10 (by kernel_rfl) (by kernel_rfl) ?_
                      refine TS_know 73 (b := true) hb10 (by kernel_rfl) (by kernel_rfl) ?_
                      refine TS_go 4 ?_
                      replace h := bindO h
                      obtain ⟨v11, hv11, h⟩ := h
                      refine TS_call [] (ok_ref01_Same a0.Payload a1.Payload v11 hv11) (by kernel_rfl) (by kernel_rfl) ?_
                      refine TS_go 2 ?_
                      replace h := condO h
                      rcases h with ⟨hb12, h⟩ | ⟨hb12, h⟩
                      · subst hb12
                        refine TS_go 4 ?_
                        replace h := bindO h
                        obtain ⟨v13, hv13, h⟩ := h
                        refine TS_call [] (ok_ref01_Same a0.MIC a1.MIC v13 hv13) (by kernel_rfl) (by kernel_rfl) ?_
                        refine TS_go 4 ?_
                        have ret := Option.some.inj h
                        subst ret
                        exact TS_ret (by kernel_rfl) (by kernel_rfl) (by kernel_rfl)
                      · subst hb12
                        refine TS_go 9 ?_
                        have ret := Option.some.inj h
                        subst ret
                        exact TS_ret (by kernel_rfl) (by kernel_rfl) (by kernel_rfl)
                    · refine TS_know 71 (b := false) hb10 (by kernel_rfl) (by kernel_rfl) ?_
                      refine TS_know 72 (b := false) hb10 (by kernel_rfl) (by kernel_rfl) ?_
                      refine TS_know 73 (b := false) hb10 (by kernel_rfl) (by kernel_rfl) ?_
                      refine TS_go 16 ?_
                      have ret := Option.some.inj h
                      subst ret
                      exact TS_ret (by kernel_rfl) (by kernel_rfl) (by kernel_rfl)
                  · refine TS_know 64 (b := false) hb9 (by kernel_rfl) (by kernel_rfl) ?_
                    refine TS_know 65 (b := false) hb9 (by kernel_rfl) (by kernel_rfl) ?_
                    refine TS_know 66 (b := false) hb9 (by kernel_rfl) (by kernel_rfl) ?_
                    refine TS_go 23 ?_
                    have ret := Option.some.inj h
                    subst ret
                    exact TS_ret (by kernel_rfl) (by kernel_rfl) (by kernel_rfl)
                · refine TS_know 57 (b := false) hb8 (by kernel_rfl) (by kernel_rfl) ?_
                  refine TS_know 58 (b := false) hb8 (by kernel_rfl) (by kernel_rfl) ?_
                  refine TS_know 59 (b := false) hb8 (by kernel_rfl) (by kernel_rfl) ?_
                  refine TS_go 30 ?_
                  have ret := Option.some.inj h
                  subst ret
                  exact TS_ret (by kernel_rfl) (by kernel_rfl) (by kernel_rfl)
              · refine TS_know 50 (b := false) hb7 (by kernel_rfl) (by kernel_rfl) ?_
                refine TS_know 51 (b := false) hb7 (by kernel_rfl) (by kernel_rfl) ?_
                refine TS_know 52 (b := false) hb7 (by kernel_rfl) (by kernel_rfl) ?_
                refine TS_go 37 ?_
                have ret := Option.some.inj h
                subst ret
                exact TS_ret (by kernel_rfl) (by kernel_rfl) (by kernel_rfl)
            · refine TS_know 43 (b := false) hb6 (by kernel_rfl) (by kernel_rfl) ?_
              refine TS_know 44 (b := false) hb6 (by kernel_rfl) (by kernel_rfl) ?_
              refine TS_know 45 (b := false) hb6 (by kernel_rfl) (by kernel_rfl) ?_
              refine TS_go 44 ?_
              have ret := Option.some.inj h
              subst ret
              exact TS_ret (by kernel_rfl) (by kernel_rfl) (by kernel_rfl)
          · refine TS_know 36 (b := false) hb5 (by kernel_rfl) (by kernel_rfl) ?_
            refine TS_know 37 (b := false) hb5 (by kernel_rfl) (by kernel_rfl) ?_
            refine TS_know 38 (b := false) hb5 (by kernel_rfl) (by kernel_rfl) ?_
            refine TS_go 51 ?_
            have ret := Option.some.inj h
            subst ret
            exact TS_ret (by kernel_rfl) (by kernel_rfl) (by kernel_rfl)
        · refine TS_know 29 (b := false) hb4 (by kernel_rfl) (by kernel_rfl) ?_
          refine TS_know 30 (b := false) hb4 (by kernel_rfl) (by kernel_rfl) ?_
          refine TS_know 31 (b := false) hb4 (by kernel_rfl) (by kernel_rfl) ?_
          refine TS_go 58 ?_
          have ret := Option.some.inj h
          subst ret
          exact TS_ret (by kernel_rfl) (by kernel_rfl) (by kernel_rfl)
      · refine TS_know 22 (b := false) hb3 (by kernel_rfl) (by kernel_rfl) ?_
        refine TS_know 23 (b := false) hb3 (by kernel_rfl) (by kernel_rfl) ?_
        refine TS_know 24 (b := false) hb3 (by kernel_rfl) (by kernel_rfl) ?_
        refine TS_go 65 ?_
        have ret := Option.some.inj h
        subst ret
        exact TS_ret (by kernel_rfl) (by kernel_rfl) (by kernel_rfl)
    · refine TS_know 15 (b := false) hb2 (by kernel_rfl) (by kernel_rfl) ?_
      refine TS_know 16 (b := false) hb2 (by kernel_rfl) (by kernel_rfl) ?_
      refine TS_know 17 (b := false) hb2 (by kernel_rfl) (by kernel_rfl) ?_
      refine TS_go 72 ?_
      have ret := Option.some.inj h
      subst ret
      exact TS_ret (by kernel_rfl) (by kernel_rfl) (by kernel_rfl)
  · refine TS_know 9 (b := false) hb1 (by kernel_rfl) (by kernel_rfl) ?_
    refine TS_know 10 (b := false) hb1 (by kernel_rfl) (by kernel_rfl) ?_
    refine TS_go 79 ?_
    have ret := Option.some.inj h
    subst ret
    exact TS_ret (by kernel_rfl) (by kernel_rfl) (by kernel_rfl)
end
section
open Go.RowKit
attribute [local irreducible] TS go TD goD

/-- multihop/multihoplaw09.sample -/
noncomputable def F_law09_sample (a0 : Int) (a1 : Bool) : Option (S_Frame) :=
  some ((S_Frame.mk 1 a1 false false a0 0 (S_Addr.mk 2 2 0) (S_Addr.mk 2 1 0) 0 0 ([] : List Int) ([] : List Int)))
set_option maxRecDepth 100000 in
set_option maxHeartbeats 40000000 in
theorem ok_law09_sample (a0 : Int) (a1 : Bool) (r : S_Frame) (h : F_law09_sample a0 a1 = some r) : Con Try.prog 27 [.c (.lit (.int .u8 (a0))), .c (.lit (.bool (a1)))] [] (.agg (S_Frame.cs r)) [] := by
  unfold F_law09_sample at h
  refine con_of [[0, 0, 0, 0, 0, 0, 0, 0, 0, 0, 0, 0, 0, 0, 2, 2]] [] 10 Try.func27 rfl rfl (by kernel_rfl) (fun K => ?_)
  refine TS_go 14 ?_
  have ret := Option.some.inj h
  subst ret
  exact TS_ret (by kernel_rfl) (by kernel_rfl) (by kernel_rfl)

/-- multihop/multihoplaw09.known -/
noncomputable def F_law09_known  : Option (Bool) :=
  (F_law09_sample 1 false).bind fun v1 =>
  (F_transmit_Enqueue (S_Link.mk ([] : List S_Frame) 0 0 (S_Backoff.mk 0 0 0 0 0) 0) v1 0).bind fun v2 =>
  (F_transmit_Step v2.1 (S_Slot.mk false false 0 0)).bind fun v3 =>
  (F_transmit_Step v3.1 (S_Slot.mk false false 0 0)).bind fun v4 =>
  bif (v2.2 == 0) then
    bif v3.2.1 then
      some (false)
    else
      bif v4.2.1 then
        bif ((List.length v4.2.2 : Int) == 1) then
          (idx v4.2.2 0).bind fun e9 =>
          bif e9.Sent then
            some ((v4.1.Phase == 0))
          else
            some (false)
        else
          some (false)
      else
        some (false)
  else
    some (false)
set_option maxRecDepth 100000 in
set_option maxHeartbeats 40000000 in
theorem ok_law09_known  (r : Bool) (h : F_law09_known  = some r) : Con Try.prog 23 [] [] (.c (.lit (.bool (r)))) [] := by
  unfold F_law09_known at h
  refine con_of [] [] 52 Try.func23 rfl rfl (by kernel_rfl) (fun K => ?_)
  refine TS_go 7 ?_
  replace h := bindO h
  obtain ⟨v1, hv1, h⟩ := h
  refine TS_call [] (ok_law09_sample 1 false v1 hv1) (by kernel_rfl) (by kernel_rfl) ?_
  replace h := bindO h
  obtain ⟨v2, hv2, h⟩ := h
  refine TS_con [[17]] [(10, 900000)] none (okT_transmit_Enqueue (S_Link.mk ([] : List S_Frame) 0 0 (S_Backoff.mk 0 0 0 0 0) 0) v1 0 v2 hv2) (by kernel_rfl) (by kernel_rfl) (by kernel_rfl) ?_
  refine TS_go 11 ?_
  replace h := bindO h
  obtain ⟨v3, hv3, h⟩ := h
  refine TS_call [[17]] (ok_transmit_Step v2.1 (S_Slot.mk false false 0 0) v3 hv3) (by kernel_rfl) (by kernel_rfl) ?_
  refine TS_go 12 ?_
  replace h := bindO h
  obtain ⟨v4, hv4, h⟩ := h
  refine TS_call [] (ok_transmit_Step v3.1 (S_Slot.mk false false 0 0) v4 hv4) (by kernel_rfl) (by kernel_rfl) ?_
  refine TS_go 13 ?_
  replace h := condO h
  rcases h with ⟨hb5, h⟩ | ⟨hb5, h⟩
  · refine TS_know 28 (b := true) hb5 (by kernel_rfl) (by kernel_rfl) ?_
    refine TS_know 29 (b := true) hb5 (by kernel_rfl) (by kernel_rfl) ?_
    refine TS_go 4 ?_
    replace h := condO h
    rcases h with ⟨hb6, h⟩ | ⟨hb6, h⟩
    · refine TS_know 18 (b := true) hb6 (by kernel_rfl) (by kernel_rfl) ?_
      refine TS_know 3 (b := true) hb6 (by kernel_rfl) (by kernel_rfl) ?_
      refine TS_know 30 (b := true) hb6 (by kernel_rfl) (by kernel_rfl) ?_
      refine TS_know 31 (b := false) (notF hb6) (by kernel_rfl) (by kernel_rfl) ?_
      refine TS_know 32 (b := false) (notF hb6) (by kernel_rfl) (by kernel_rfl) ?_
      refine TS_know 33 (b := false) (notF hb6) (by kernel_rfl) (by kernel_rfl) ?_
      refine TS_go 21 ?_
      have ret := Option.some.inj h
      subst ret
      exact TS_ret (by kernel_rfl) (by kernel_rfl) (by kernel_rfl)
    · refine TS_know 18 (b := false) hb6 (by kernel_rfl) (by kernel_rfl) ?_
      refine TS_know 3 (b := false) hb6 (by kernel_rfl) (by kernel_rfl) ?_
      refine TS_know 30 (b := false) hb6 (by kernel_rfl) (by kernel_rfl) ?_
      refine TS_know 31 (b := true) (notT hb6) (by kernel_rfl) (by kernel_rfl) ?_
      refine TS_know 32 (b := true) (notT hb6) (by kernel_rfl) (by kernel_rfl) ?_
      refine TS_know 33 (b := true) (notT hb6) (by kernel_rfl) (by kernel_rfl) ?_
      refine TS_go 3 ?_
      replace h := condO h
      rcases h with ⟨hb7, h⟩ | ⟨hb7, h⟩
      · refine TS_know 25 (b := true) hb7 (by kernel_rfl) (by kernel_rfl) ?_
        refine TS_know 5 (b := true) hb7 (by kernel_rfl) (by kernel_rfl) ?_
        refine TS_know 34 (b := true) hb7 (by kernel_rfl) (by kernel_rfl) ?_
        refine TS_know 35 (b := true) hb7 (by kernel_rfl) (by kernel_rfl) ?_
        refine TS_know 36 (b := true) hb7 (by kernel_rfl) (by kernel_rfl) ?_
        refine TS_go 5 ?_
        replace h := condO h
        rcases h with ⟨hb8, h⟩ | ⟨hb8, h⟩
        · refine TS_know 39 (b := true) hb8 (by kernel_rfl) (by kernel_rfl) ?_
          refine TS_know 40 (b := true) hb8 (by kernel_rfl) (by kernel_rfl) ?_
          refine TS_know 41 (b := true) hb8 (by kernel_rfl) (by kernel_rfl) ?_
          refine TS_go 1 ?_
          replace h := bindO h
          obtain ⟨_e9, he9, h⟩ := h
          refine TS_idx S_Outcome.cs he9 (by kernel_rfl) (by kernel_rfl) ?_
          refine TS_go 4 ?_
          replace h := condO h
          rcases h with ⟨hb10, h⟩ | ⟨hb10, h⟩
          · refine TS_know 45 (b := true) hb10 (by kernel_rfl) (by kernel_rfl) ?_
            refine TS_know 46 (b := true) hb10 (by kernel_rfl) (by kernel_rfl) ?_
            refine TS_know 47 (b := true) hb10 (by kernel_rfl) (by kernel_rfl) ?_
            refine TS_go 7 ?_
            have ret := Option.some.inj h
            subst ret
            exact TS_ret (by kernel_rfl) (by kernel_rfl) (by kernel_rfl)
          · refine TS_know 45 (b := false) hb10 (by kernel_rfl) (by kernel_rfl) ?_
            refine TS_know 46 (b := false) hb10 (by kernel_rfl) (by kernel_rfl) ?_
            refine TS_know 47 (b := false) hb10 (by kernel_rfl) (by kernel_rfl) ?_
            refine TS_go 7 ?_
            have ret := Option.some.inj h
            subst ret
            exact TS_ret (by kernel_rfl) (by kernel_rfl) (by kernel_rfl)
        · refine TS_know 39 (b := false) hb8 (by kernel_rfl) (by kernel_rfl) ?_
          refine TS_know 40 (b := false) hb8 (by kernel_rfl) (by kernel_rfl) ?_
          refine TS_know 41 (b := false) hb8 (by kernel_rfl) (by kernel_rfl) ?_
          refine TS_go 13 ?_
          have ret := Option.some.inj h
          subst ret
          exact TS_ret (by kernel_rfl) (by kernel_rfl) (by kernel_rfl)
      · refine TS_know 25 (b := false) hb7 (by kernel_rfl) (by kernel_rfl) ?_
        refine TS_know 5 (b := false) hb7 (by kernel_rfl) (by kernel_rfl) ?_
        refine TS_know 34 (b := false) hb7 (by kernel_rfl) (by kernel_rfl) ?_
        refine TS_know 35 (b := false) hb7 (by kernel_rfl) (by kernel_rfl) ?_
        refine TS_know 36 (b := false) hb7 (by kernel_rfl) (by kernel_rfl) ?_
        refine TS_go 18 ?_
        have ret := Option.some.inj h
        subst ret
        exact TS_ret (by kernel_rfl) (by kernel_rfl) (by kernel_rfl)
  · refine TS_know 28 (b := false) hb5 (by kernel_rfl) (by kernel_rfl) ?_
    refine TS_know 29 (b := false) hb5 (by kernel_rfl) (by kernel_rfl) ?_
    refine TS_go 25 ?_
    have ret := Option.some.inj h
    subst ret
    exact TS_ret (by kernel_rfl) (by kernel_rfl) (by kernel_rfl)

/-- multihop/multihoplaw09.slot -/
noncomputable def F_law09_slot (a0 : Int) : Option (S_Slot) :=
  some ((S_Slot.mk ((iand .i64 a0 3) == 1) ((iand .i64 a0 12) == 4) (IntKind.wrap .u8 (iand .i64 (ishr .i64 a0 4) 3)) (IntKind.wrap .u32 (iand .i64 (ishr .i64 a0 6) 1023))))
set_option maxRecDepth 100000 in
set_option maxHeartbeats 40000000 in
theorem ok_law09_slot (a0 : Int) (r : S_Slot) (h : F_law09_slot a0 = some r) : Con Try.prog 24 [.c (.lit (.int .i64 (a0)))] [] (.agg (S_Slot.cs r)) [] := by
  unfold F_law09_slot at h
  refine con_of [] [] 18 Try.func24 rfl rfl (by kernel_rfl) (fun K => ?_)
  refine TS_go 24 ?_
  have ret := Option.some.inj h
  subst ret
  exact TS_ret (by kernel_rfl) (by kernel_rfl) (by kernel_rfl)

/-- multihop/multihoplaw09.TransmitAcked -/
noncomputable def F_law09_TransmitAcked_j3 (v12 : S_Link × Bool × (List S_Outcome)) (s4 : Int × Int × S_Link) (a2 : Int) (v15 : Int) : Option ((Int × Int × S_Link) ⊕ ((Unit) ⊕ (Bool))) :=
  bif (decide ((List.length v12.2.2 : Int) > 0)) then
    (F_law09_known ).bind fun v17 =>
    bif v17 then
      (idx v12.2.2 0).bind fun e19 =>
      bif (e19.Sent == (decide ((IntKind.wrap .i64 (s4.1 + 1)) ≤ 3))) then
        bif (v12.1.Phase == 0) then
          (idx v12.2.2 0).bind fun e22 =>
          (F_law09_sample a2 true).bind fun v23 =>
          (F_ref05_Same e22.Frame v23).bind fun v24 =>
          some (Sum.inr (Sum.inr v24))
        else
          some (Sum.inr (Sum.inr false))
      else
        some (Sum.inr (Sum.inr false))
    else
      some (Sum.inr (Sum.inr false))
  else
    bif (decide ((IntKind.wrap .i64 (s4.1 + 1)) ≤ 3)) then
      some (Sum.inr (Sum.inr false))
    else
      some (Sum.inl (v15, IntKind.wrap .i64 (s4.2.1 + 1), v12.1))
noncomputable def F_law09_TransmitAcked_j4 (v12 : S_Link × Bool × (List S_Outcome)) (a2 : Int) (s4 : Int × Int × S_Link) (v27 : Int) : Option ((Int × Int × S_Link) ⊕ ((Unit) ⊕ (Bool))) :=
  bif (decide ((List.length v12.2.2 : Int) > 0)) then
    (F_law09_known ).bind fun v29 =>
    bif v29 then
      (idx v12.2.2 0).bind fun e31 =>
      bif (e31.Sent == false) then
        bif (v12.1.Phase == 0) then
          (idx v12.2.2 0).bind fun e34 =>
          (F_law09_sample a2 true).bind fun v35 =>
          (F_ref05_Same e34.Frame v35).bind fun v36 =>
          some (Sum.inr (Sum.inr v36))
        else
          some (Sum.inr (Sum.inr false))
      else
        some (Sum.inr (Sum.inr false))
    else
      some (Sum.inr (Sum.inr false))
  else
    some (Sum.inl (v27, IntKind.wrap .i64 (s4.2.1 + 1), v12.1))
noncomputable def F_law09_TransmitAcked_j5 (v12 : S_Link × Bool × (List S_Outcome)) (a2 : Int) (s4 : Int × Int × S_Link) (v38 : Int) : Option ((Int × Int × S_Link) ⊕ ((Unit) ⊕ (Bool))) :=
  bif (decide ((List.length v12.2.2 : Int) > 0)) then
    (F_law09_known ).bind fun v40 =>
    bif v40 then
      (idx v12.2.2 0).bind fun e42 =>
      bif (e42.Sent == false) then
        bif (v12.1.Phase == 0) then
          (idx v12.2.2 0).bind fun e45 =>
          (F_law09_sample a2 true).bind fun v46 =>
          (F_ref05_Same e45.Frame v46).bind fun v47 =>
          some (Sum.inr (Sum.inr v47))
        else
          some (Sum.inr (Sum.inr false))
      else
        some (Sum.inr (Sum.inr false))
    else
      some (Sum.inr (Sum.inr false))
  else
    some (Sum.inl (v38, IntKind.wrap .i64 (s4.2.1 + 1), v12.1))
noncomputable def F_law09_TransmitAcked_j2 (s4 : Int × Int × S_Link) (a2 : Int) (v11 : S_Slot) : Option ((Int × Int × S_Link) ⊕ ((Unit) ⊕ (Bool))) :=
  (F_transmit_Step s4.2.2 v11).bind fun v12 =>
  bif v11.Ack then
    bif (v11.Seq == a2) then
      bif v12.2.1 then
        (F_law09_TransmitAcked_j3 v12 s4 a2) 0
      else
        (F_law09_TransmitAcked_j3 v12 s4 a2) (IntKind.wrap .i64 (s4.1 + 1))
    else
      bif v12.2.1 then
        (F_law09_TransmitAcked_j4 v12 a2 s4) 0
      else
        (F_law09_TransmitAcked_j4 v12 a2 s4) (IntKind.wrap .i64 (s4.1 + 1))
  else
    bif v12.2.1 then
      (F_law09_TransmitAcked_j5 v12 a2 s4) 0
    else
      (F_law09_TransmitAcked_j5 v12 a2 s4) (IntKind.wrap .i64 (s4.1 + 1))
noncomputable def F_law09_TransmitAcked_l1 (a1 : List Int) (a2 : Int) (s4 : Int × Int × S_Link) : Option ((Int × Int × S_Link) ⊕ ((Unit) ⊕ (Bool))) :=
  bif (decide (s4.2.1 < (List.length a1 : Int))) then
    bif (decide (s4.2.1 < 600)) then
      (idx a1 s4.2.1).bind fun e9 =>
      (F_law09_slot e9).bind fun v10 =>
      (idx a1 s4.2.1).bind fun e49 =>
      bif ((Int.tmod e49 5) == 0) then
        (F_law09_TransmitAcked_j2 s4 a2) (S_Slot.mk v10.Busy v10.Ack a2 v10.Draw)
      else
        (F_law09_TransmitAcked_j2 s4 a2) v10
    else
      some (Sum.inr (Sum.inl ()))
  else
    some (Sum.inr (Sum.inl ()))
noncomputable def F_law09_TransmitAcked (a0 : Int) (a1 : List Int) (a2 : Int) : Option (Bool) :=
  (F_law09_sample a2 true).bind fun v1 =>
  (F_transmit_Enqueue (S_Link.mk ([] : List S_Frame) 0 0 (S_Backoff.mk 0 0 0 0 0) 0) v1 a0).bind fun v2 =>
  bif (v2.2 != 0) then
    some (false)
  else
    (loopO (F_law09_TransmitAcked_l1 a1 a2) (4, 0, v2.1)).bind (Sum.elim (fun b5 =>
      (F_law09_known ).bind fun v52 =>
      some (v52)
    ) (fun w51 => some w51))
set_option maxRecDepth 100000 in
set_option maxHeartbeats 40000000 in
theorem ok_law09_TransmitAcked (a0 : Int) (a1 : List Int) (a2 : Int) (r : Bool) (h : F_law09_TransmitAcked a0 a1 a2 = some r) : Con Try.prog 6 [.c (.lit (.int .u32 (a0))), .c (eS 1 (ecI .i64) (a1)), .c (.lit (.int .u8 (a2)))] [] (.c (.lit (.bool (r)))) [] := by
  unfold F_law09_TransmitAcked at h
  refine con_of [] [] 100 Try.func6 rfl rfl (by kernel_rfl) (fun K => ?_)
  refine TS_go 8 ?_
  replace h := bindO h
  obtain ⟨v1, hv1, h⟩ := h
  refine TS_call [] (ok_law09_sample a2 true v1 hv1) (by kernel_rfl) (by kernel_rfl) ?_
  refine TS_go 1 ?_
  replace h := bindO h
  obtain ⟨v2, hv2, h⟩ := h
  refine TS_con [[17]] [(21, 900000)] none (okT_transmit_Enqueue (S_Link.mk ([] : List S_Frame) 0 0 (S_Backoff.mk 0 0 0 0 0) 0) v1 a0 v2 hv2) (by kernel_rfl) (by kernel_rfl) (by kernel_rfl) ?_
  refine TS_go 13 ?_
  replace h := condO h
  rcases h with ⟨hb3, h⟩ | ⟨hb3, h⟩
  · refine TS_know 25 (b := true) hb3 (by kernel_rfl) (by kernel_rfl) ?_
    refine TS_T (by kernel_rfl) rfl ?_
    refine TS_go 6 ?_
    have ret := Option.some.inj h
    subst ret
    exact TS_ret (by kernel_rfl) (by kernel_rfl) (by kernel_rfl)
  · refine TS_know 25 (b := false) hb3 (by kernel_rfl) (by kernel_rfl) ?_
    refine TS_F (by kernel_rfl) rfl ?_
    refine TS_go 11 ?_
    refine TS_cut ⟨[(1, []), (2, []), (7, []), (9, []), (10, [])], [(21, (21, [])), (7, (7, []))]⟩ (.mk [.code (codeAt [1, 1, 1, 1, 0, 1, 0] (bodyOf Try.f6)), .blk 0, .code (codeAt [1, 1, 1, 1, 1] (bodyOf Try.f6))] .normal ⟨[(1, .c (.slc 1 0 (List.length a1) (List.map (ecI .i64) a1))), (2, .c (.lit (.int .u8 (a2)))), (7, .c (.box 7 0)), (9, .c (.lit (.int .i64 (4)))), (10, .c (.lit (.int .i64 (0))))], [(21, .spare 36 16 (List.length v2.1.Queue)), (7, .box [.slc 16 23 (List.length v2.1.Queue) (List.map S_Frame.cs v2.1.Queue), .lit (.int .i64 (v2.1.Phase)), .lit (.int .i64 (v2.1.Attempts)), .lit (.int .i64 (v2.1.Backoff.State)), .lit (.int .i64 (v2.1.Backoff.Busy)), .lit (.int .i64 (v2.1.Backoff.Exponent)), .lit (.int .i64 (v2.1.Backoff.Clear)), .lit (.int .i64 (v2.1.Backoff.Wait)), .lit (.int .i64 (v2.1.Left))])]⟩) (by kernel_rfl) (by kernel_rfl) ?_
    replace h := bindO h
    obtain ⟨y6, hl1, hK1⟩ := h
    refine TS_loopB (F_law09_TransmitAcked_l1 a1 a2) ⟨[(1, []), (2, []), (7, []), (9, []), (10, [])], [(7, (7, [17]))]⟩ (fun (s4 : Int × Int × S_Link) => [(9, .c (.lit (.int .i64 (s4.1)))), (10, .c (.lit (.int .i64 (s4.2.1))))]) (fun (s4 : Int × Int × S_Link) => [(7, .box (S_Link.cs s4.2.2))]) (4, 0, v2.1) y6 (.exit 0) (fun (b : Unit) => (Sum.inl b : (Unit) ⊕ (Bool))) ⟨[], []⟩ (fun (b5 : Unit) => []) (fun (b5 : Unit) => []) hl1 (by kernel_rfl) (by kernel_rfl) ?_ ?_
    · intro s4 x h hy1
      unfold F_law09_TransmitAcked_l1 at h
      refine TS_go 8 ?_
      replace h := condO h
      rcases h with ⟨hb7, h⟩ | ⟨hb7, h⟩
      · refine TS_know 29 (b := true) hb7 (by kernel_rfl) (by kernel_rfl) ?_
        refine TS_know 30 (b := true) hb7 (by kernel_rfl) (by kernel_rfl) ?_
        refine TS_go 4 ?_
        replace h := condO h
        rcases h with ⟨hb8, h⟩ | ⟨hb8, h⟩
        · refine TS_know 32 (b := true) hb8 (by kernel_rfl) (by kernel_rfl) ?_
          refine TS_know 33 (b := true) hb8 (by kernel_rfl) (by kernel_rfl) ?_
          refine TS_T (by kernel_rfl) rfl ?_
          refine TS_go 7 ?_
          replace h := bindO h
          obtain ⟨e9, he9, h⟩ := h
          refine TS_idx (ecI .i64) he9 (by kernel_rfl) (by kernel_rfl) ?_
          refine TS_go 1 ?_
          replace h := bindO h
          obtain ⟨v10, hv10, h⟩ := h
          refine TS_call [] (ok_law09_slot e9 v10 hv10) (by kernel_rfl) (by kernel_rfl) ?_
          refine TS_go 3 ?_
          refine TS_cut ⟨[(1, []), (2, []), (7, []), (9, []), (10, []), (11, [])], [(7, (7, [])), (11, (11, []))]⟩ (.mk [.code (codeAt [1, 1, 1, 1, 0, 1, 0, 0, 1, 0, 0, 1] (bodyOf Try.f6)), .blk 1, .code (codeAt [1, 1, 1, 1, 0, 1, 0, 0, 1, 1] (bodyOf Try.f6))] .normal ⟨[(1, .c (.slc 1 0 (List.length a1) (List.map (ecI .i64) a1))), (2, .c (.lit (.int .u8 (a2)))), (7, .c (.box 7 0)), (9, .c (.lit (.int .i64 (s4.1)))), (10, .c (.lit (.int .i64 (s4.2.1)))), (11, .c (.box 11 0))], [(7, .box [.slc 16 0 (List.length s4.2.2.Queue) (List.map S_Frame.cs s4.2.2.Queue), .lit (.int .i64 (s4.2.2.Phase)), .lit (.int .i64 (s4.2.2.Attempts)), .lit (.int .i64 (s4.2.2.Backoff.State)), .lit (.int .i64 (s4.2.2.Backoff.Busy)), .lit (.int .i64 (s4.2.2.Backoff.Exponent)), .lit (.int .i64 (s4.2.2.Backoff.Clear)), .lit (.int .i64 (s4.2.2.Backoff.Wait)), .lit (.int .i64 (s4.2.2.Left))]), (11, .box [.lit (.bool (v10.Busy)), .lit (.bool (v10.Ack)), .lit (.int .u8 (v10.Seq)), .lit (.int .u32 (v10.Draw))])]⟩) (by kernel_rfl) (by kernel_rfl) ?_
          refine TS_joinB ⟨[(1, []), (2, []), (7, []), (9, []), (10, []), (11, [])], [(7, (7, [])), (11, (11, []))]⟩ (fun (v11 : S_Slot) => []) (fun (v11 : S_Slot) => [(11, .box (S_Slot.cs v11))]) (F_law09_TransmitAcked_j2 s4 a2) x ?_ ?_
          · clear h
            intro v11 h
            unfold F_law09_TransmitAcked_j2 at h
            refine TS_go 4 ?_
            replace h := bindO h
            obtain ⟨v12, hv12, h⟩ := h
            refine TS_call [] (ok_transmit_Step s4.2.2 v11 v12 hv12) (by kernel_rfl) (by kernel_rfl) ?_
            refine TS_go 20 ?_
            replace h := condO h
            rcases h with ⟨hb13, h⟩ | ⟨hb13, h⟩
            · refine TS_know 59 (b := true) hb13 (by kernel_rfl) (by kernel_rfl) ?_
              refine TS_know 60 (b := true) hb13 (by kernel_rfl) (by kernel_rfl) ?_
              refine TS_go 6 ?_
              replace h := condO h
              rcases h with ⟨hb14, h⟩ | ⟨hb14, h⟩
              · refine TS_know 64 (b := true) hb14 (by kernel_rfl) (by kernel_rfl) ?_
                refine TS_know 65 (b := true) hb14 (by kernel_rfl) (by kernel_rfl) ?_
                refine TS_know 66 (b := true) hb14 (by kernel_rfl) (by kernel_rfl) ?_
                refine TS_go 5 ?_
                refine TS_cut ⟨[(1, []), (2, []), (7, []), (9, []), (10, []), (12, []), (13, []), (14, []), (15, [])], [(7, (7, [])), (12, (12, []))]⟩ (.mk [.code (codeAt [1, 1, 1, 1, 0, 1, 0, 0, 1, 0, 0, 1, 1, 1, 1, 1] (bodyOf Try.f6)), .blk 1, .code (codeAt [1, 1, 1, 1, 0, 1, 0, 0, 1, 1] (bodyOf Try.f6))] .normal ⟨[(1, .c (.slc 1 0 (List.length a1) (List.map (ecI .i64) a1))), (2, .c (.lit (.int .u8 (a2)))), (7, .c (.box 7 0)), (9, .c (.lit (.int .i64 (IntKind.wrap .i64 (s4.1 + 1))))), (10, .c (.lit (.int .i64 (s4.2.1)))), (12, .c (.box 12 0)), (13, .c (.lit (.bool (v12.2.1)))), (14, .c (.slc 18 0 (List.length v12.2.2) (List.map S_Outcome.cs v12.2.2))), (15, .c (.lit (.bool ((decide ((IntKind.wrap .i64 (s4.1 + 1)) ≤ 3))))))], [(7, .box [.slc 16 0 (List.length s4.2.2.Queue) (List.map S_Frame.cs s4.2.2.Queue), .lit (.int .i64 (s4.2.2.Phase)), .lit (.int .i64 (s4.2.2.Attempts)), .lit (.int .i64 (s4.2.2.Backoff.State)), .lit (.int .i64 (s4.2.2.Backoff.Busy)), .lit (.int .i64 (s4.2.2.Backoff.Exponent)), .lit (.int .i64 (s4.2.2.Backoff.Clear)), .lit (.int .i64 (s4.2.2.Backoff.Wait)), .lit (.int .i64 (s4.2.2.Left))]), (12, .box [.slc 16 0 (List.length v12.1.Queue) (List.map S_Frame.cs v12.1.Queue), .lit (.int .i64 (v12.1.Phase)), .lit (.int .i64 (v12.1.Attempts)), .lit (.int .i64 (v12.1.Backoff.State)), .lit (.int .i64 (v12.1.Backoff.Busy)), .lit (.int .i64 (v12.1.Backoff.Exponent)), .lit (.int .i64 (v12.1.Backoff.Clear)), .lit (.int .i64 (v12.1.Backoff.Wait)), .lit (.int .i64 (v12.1.Left))])]⟩) (by kernel_rfl) (by kernel_rfl) ?_
                refine TS_joinB ⟨[(1, []), (2, []), (7, []), (9, []), (10, []), (12, []), (14, []), (15, [])], [(7, (7, [])), (12, (12, []))]⟩ (fun (v15 : Int) => [(9, .c (.lit (.int .i64 (v15))))]) (fun (v15 : Int) => []) (F_law09_TransmitAcked_j3 v12 s4 a2) x ?_ ?_
                · clear h
                  intro v15 h
                  unfold F_law09_TransmitAcked_j3 at h
                  refine TS_go 7 ?_
                  replace h := condO h
                  rcases h with ⟨hb16, h⟩ | ⟨hb16, h⟩
                  · refine TS_know 73 (b := true) hb16 (by kernel_rfl) (by kernel_rfl) ?_
                    refine TS_T (by kernel_rfl) rfl ?_
                    refine TS_go 1 ?_
                    refine TS_draw (by kernel_rfl) ?_
                    replace h := bindO h
                    obtain ⟨v17, hv17, h⟩ := h
                    refine TD_call [] (ok_law09_known  v17 hv17) (by kernel_rfl) (by kernel_rfl) ?_
                    refine TD_go 1 ?_
                    replace h := condO h
                    rcases h with ⟨hb18, h⟩ | ⟨hb18, h⟩
                    · subst hb18
                      refine TD_go 1 ?_
                      replace h := bindO h
                      obtain ⟨_e19, he19, h⟩ := h
                      refine TD_idx S_Outcome.cs he19 (by kernel_rfl) (by kernel_rfl) ?_
                      refine TD_go 5 ?_
                      replace h := condO h
                      rcases h with ⟨hb20, h⟩ | ⟨hb20, h⟩
                      · refine TD_know 83 (b := true) hb20 trivial (by kernel_rfl) (by kernel_rfl) ?_
                        refine TD_go 4 ?_
                        replace h := condO h
                        rcases h with ⟨hb21, h⟩ | ⟨hb21, h⟩
                        · refine TD_know 88 (b := true) hb21 trivial (by kernel_rfl) (by kernel_rfl) ?_
                          refine TD_go 1 ?_
                          replace h := bindO h
                          obtain ⟨e22, he22, h⟩ := h
                          refine TD_idx S_Outcome.cs he22 (by kernel_rfl) (by kernel_rfl) ?_
                          refine TD_go 3 ?_
                          replace h := bindO h
                          obtain ⟨v23, hv23, h⟩ := h
                          refine TD_call [] (ok_law09_sample a2 true v23 hv23) (by kernel_rfl) (by kernel_rfl) ?_
                          replace h := bindO h
                          obtain ⟨v24, hv24, h⟩ := h
                          refine TD_call [] (ok_ref05_Same e22.Frame v23 v24 hv24) (by kernel_rfl) (by kernel_rfl) ?_
                          refine TD_go 2 ?_
                          refine TD_end (by kernel_rfl) ?_
                          refine TS_go 4 ?_
                          have ret := Option.some.inj h
                          subst ret
                          have hy1q := hy1 _ rfl
                          subst hy1q
                          replace h := (elimR hK1)
                          refine TS_retB rfl (by kernel_rfl) ?_
                          refine TS_go 2 ?_
                          have ret := Option.some.inj h
                          subst ret
                          exact TS_ret (by kernel_rfl) (by kernel_rfl) (by kernel_rfl)
                        · refine TD_know 88 (b := false) hb21 trivial (by kernel_rfl) (by kernel_rfl) ?_
                          refine TD_go 9 ?_
                          refine TD_end (by kernel_rfl) ?_
                          refine TS_go 4 ?_
                          have ret := Option.some.inj h
                          subst ret
                          have hy1q := hy1 _ rfl
                          subst hy1q
                          replace h := (elimR hK1)
                          refine TS_retB rfl (by kernel_rfl) ?_
                          refine TS_go 2 ?_
                          have ret := Option.some.inj h
                          subst ret
                          exact TS_ret (by kernel_rfl) (by kernel_rfl) (by kernel_rfl)
                      · refine TD_know 83 (b := false) hb20 trivial (by kernel_rfl) (by kernel_rfl) ?_
                        refine TD_go 14 ?_
                        refine TD_end (by kernel_rfl) ?_
                        refine TS_go 4 ?_
                        have ret := Option.some.inj h
                        subst ret
                        have hy1q := hy1 _ rfl
                        subst hy1q
                        replace h := (elimR hK1)
                        refine TS_retB rfl (by kernel_rfl) ?_
                        refine TS_go 2 ?_
                        have ret := Option.some.inj h
                        subst ret
                        exact TS_ret (by kernel_rfl) (by kernel_rfl) (by kernel_rfl)
                    · subst hb18
                      refine TD_go 22 ?_
                      refine TD_end (by kernel_rfl) ?_
                      refine TS_go 4 ?_
                      have ret := Option.some.inj h
                      subst ret
                      have hy1q := hy1 _ rfl
                      subst hy1q
                      replace h := (elimR hK1)
                      refine TS_retB rfl (by kernel_rfl) ?_
                      refine TS_go 2 ?_
                      have ret := Option.some.inj h
                      subst ret
                      exact TS_ret (by kernel_rfl) (by kernel_rfl) (by kernel_rfl)
                  · refine TS_know 73 (b := false) hb16 (by kernel_rfl) (by kernel_rfl) ?_
                    refine TS_F (by kernel_rfl) rfl ?_
                    refine TS_go 6 ?_
                    replace h := condO h
                    rcases h with ⟨hb25, h⟩ | ⟨hb25, h⟩
                    · refine TS_know 15 (b := true) hb25 (by kernel_rfl) (by kernel_rfl) ?_
                      refine TS_know 97 (b := true) hb25 (by kernel_rfl) (by kernel_rfl) ?_
                      refine TS_T (by kernel_rfl) rfl ?_
                      refine TS_go 8 ?_
                      have ret := Option.some.inj h
                      subst ret
                      have hy1q := hy1 _ rfl
                      subst hy1q
                      replace h := (elimR hK1)
                      refine TS_retB rfl (by kernel_rfl) ?_
                      refine TS_go 2 ?_
                      have ret := Option.some.inj h
                      subst ret
                      exact TS_ret (by kernel_rfl) (by kernel_rfl) (by kernel_rfl)
                    · refine TS_know 15 (b := false) hb25 (by kernel_rfl) (by kernel_rfl) ?_
                      refine TS_know 97 (b := false) hb25 (by kernel_rfl) (by kernel_rfl) ?_
                      refine TS_F (by kernel_rfl) rfl ?_
                      refine TS_go 11 ?_
                      have ret := Option.some.inj h
                      subst ret
                      exact TS_againB _ ⟨[(1, []), (2, []), (7, []), (9, []), (10, [])], [(7, (7, []))]⟩ rfl (by kernel_rfl) (by kernel_rfl)
                · refine TS_go 4 ?_
                  replace h := condO h
                  rcases h with ⟨hb26, h⟩ | ⟨hb26, h⟩
                  · refine TS_know 13 (b := true) hb26 (by kernel_rfl) (by kernel_rfl) ?_
                    refine TS_know 70 (b := true) hb26 (by kernel_rfl) (by kernel_rfl) ?_
                    refine TS_T (by kernel_rfl) rfl ?_
                    refine TS_go 3 ?_
                    exact TS_meet 0 ⟨[(1, []), (2, []), (7, []), (9, []), (10, []), (12, []), (14, []), (15, [])], [(7, (7, [])), (12, (12, []))]⟩ h (by kernel_rfl) (by kernel_rfl)
                  · refine TS_know 13 (b := false) hb26 (by kernel_rfl) (by kernel_rfl) ?_
                    refine TS_know 70 (b := false) hb26 (by kernel_rfl) (by kernel_rfl) ?_
                    refine TS_F (by kernel_rfl) rfl ?_
                    refine TS_go 1 ?_
                    exact TS_meet (IntKind.wrap .i64 (s4.1 + 1)) ⟨[(1, []), (2, []), (7, []), (9, []), (10, []), (12, []), (14, []), (15, [])], [(7, (7, [])), (12, (12, []))]⟩ h (by kernel_rfl) (by kernel_rfl)
              · refine TS_know 64 (b := false) hb14 (by kernel_rfl) (by kernel_rfl) ?_
                refine TS_know 65 (b := false) hb14 (by kernel_rfl) (by kernel_rfl) ?_
                refine TS_know 66 (b := false) hb14 (by kernel_rfl) (by kernel_rfl) ?_
                refine TS_go 5 ?_
                refine TS_cut ⟨[(1, []), (2, []), (7, []), (9, []), (10, []), (12, []), (13, []), (14, []), (15, [])], [(7, (7, [])), (12, (12, []))]⟩ (.mk [.code (codeAt [1, 1, 1, 1, 0, 1, 0, 0, 1, 0, 0, 1, 1, 1, 1, 1] (bodyOf Try.f6)), .blk 1, .code (codeAt [1, 1, 1, 1, 0, 1, 0, 0, 1, 1] (bodyOf Try.f6))] .normal ⟨[(1, .c (.slc 1 0 (List.length a1) (List.map (ecI .i64) a1))), (2, .c (.lit (.int .u8 (a2)))), (7, .c (.box 7 0)), (9, .c (.lit (.int .i64 (IntKind.wrap .i64 (s4.1 + 1))))), (10, .c (.lit (.int .i64 (s4.2.1)))), (12, .c (.box 12 0)), (13, .c (.lit (.bool (v12.2.1)))), (14, .c (.slc 18 0 (List.length v12.2.2) (List.map S_Outcome.cs v12.2.2))), (15, .c (.lit (.bool (false))))], [(7, .box [.slc 16 0 (List.length s4.2.2.Queue) (List.map S_Frame.cs s4.2.2.Queue), .lit (.int .i64 (s4.2.2.Phase)), .lit (.int .i64 (s4.2.2.Attempts)), .lit (.int .i64 (s4.2.2.Backoff.State)), .lit (.int .i64 (s4.2.2.Backoff.Busy)), .lit (.int .i64 (s4.2.2.Backoff.Exponent)), .lit (.int .i64 (s4.2.2.Backoff.Clear)), .lit (.int .i64 (s4.2.2.Backoff.Wait)), .lit (.int .i64 (s4.2.2.Left))]), (12, .box [.slc 16 0 (List.length v12.1.Queue) (List.map S_Frame.cs v12.1.Queue), .lit (.int .i64 (v12.1.Phase)), .lit (.int .i64 (v12.1.Attempts)), .lit (.int .i64 (v12.1.Backoff.State)), .lit (.int .i64 (v12.1.Backoff.Busy)), .lit (.int .i64 (v12.1.Backoff.Exponent)), .lit (.int .i64 (v12.1.Backoff.Clear)), .lit (.int .i64 (v12.1.Backoff.Wait)), .lit (.int .i64 (v12.1.Left))])]⟩) (by kernel_rfl) (by kernel_rfl) ?_
                refine TS_joinB ⟨[(1, []), (2, []), (7, []), (9, []), (10, []), (12, []), (14, []), (15, [])], [(7, (7, [])), (12, (12, []))]⟩ (fun (v27 : Int) => [(9, .c (.lit (.int .i64 (v27))))]) (fun (v27 : Int) => []) (F_law09_TransmitAcked_j4 v12 a2 s4) x ?_ ?_
                · clear h
                  intro v27 h
                  unfold F_law09_TransmitAcked_j4 at h
                  refine TS_go 7 ?_
                  replace h := condO h
                  rcases h with ⟨hb28, h⟩ | ⟨hb28, h⟩
                  · refine TS_know 73 (b := true) hb28 (by kernel_rfl) (by kernel_rfl) ?_
                    refine TS_T (by kernel_rfl) rfl ?_
                    refine TS_go 1 ?_
                    refine TS_draw (by kernel_rfl) ?_
                    replace h := bindO h
                    obtain ⟨v29, hv29, h⟩ := h
                    refine TD_call [] (ok_law09_known  v29 hv29) (by kernel_rfl) (by kernel_rfl) ?_
                    refine TD_go 1 ?_
                    replace h := condO h
                    rcases h with ⟨hb30, h⟩ | ⟨hb30, h⟩
                    · subst hb30
                      refine TD_go 1 ?_
                      replace h := bindO h
                      obtain ⟨_e31, he31, h⟩ := h
                      refine TD_idx S_Outcome.cs he31 (by kernel_rfl) (by kernel_rfl) ?_
                      refine TD_go 5 ?_
                      replace h := condO h
                      rcases h with ⟨hb32, h⟩ | ⟨hb32, h⟩
                      · refine TD_know 83 (b := true) hb32 trivial (by kernel_rfl) (by kernel_rfl) ?_
                        refine TD_go 4 ?_
                        replace h := condO h
                        rcases h with ⟨hb33, h⟩ | ⟨hb33, h⟩
                        · refine TD_know 88 (b := true) hb33 trivial (by kernel_rfl) (by kernel_rfl) ?_
                          refine TD_go 1 ?_
                          replace h := bindO h
                          obtain ⟨e34, he34, h⟩ := h
                          refine TD_idx S_Outcome.cs he34 (by kernel_rfl) (by kernel_rfl) ?_
                          refine TD_go 3 ?_
                          replace h := bindO h
                          obtain ⟨v35, hv35, h⟩ := h
                          refine TD_call [] (ok_law09_sample a2 true v35 hv35) (by kernel_rfl) (by kernel_rfl) ?_
                          replace h := bindO h
                          obtain ⟨v36, hv36, h⟩ := h
                          refine TD_call [] (ok_ref05_Same e34.Frame v35 v36 hv36) (by kernel_rfl) (by kernel_rfl) ?_
                          refine TD_go 2 ?_
                          refine TD_end (by kernel_rfl) ?_
                          refine TS_go 4 ?_
                          have ret := Option.some.inj h
                          subst ret
                          have hy1q := hy1 _ rfl
                          subst hy1q
                          replace h := (elimR hK1)
                          refine TS_retB rfl (by kernel_rfl) ?_
                          refine TS_go 2 ?_
                          have ret := Option.some.inj h
                          subst ret
                          exact TS_ret (by kernel_rfl) (by kernel_rfl) (by kernel_rfl)
                        · refine TD_know 88 (b := false) hb33 trivial (by kernel_rfl) (by kernel_rfl) ?_
                          refine TD_go 9 ?_
                          refine TD_end (by kernel_rfl) ?_
                          refine TS_go 4 ?_
                          have ret := Option.some.inj h
                          subst ret
                          have hy1q := hy1 _ rfl
                          subst hy1q
                          replace h := (elimR hK1)
                          refine TS_retB rfl (by kernel_rfl) ?_
                          refine TS_go 2 ?_
                          have ret := Option.some.inj h
                          subst ret
                          exact TS_ret (by kernel_rfl) (by kernel_rfl) (by kernel_rfl)
                      · refine TD_know 83 (b := false) hb32 trivial (by kernel_rfl) (by kernel_rfl) ?_
                        refine TD_go 14 ?_
                        refine TD_end (by kernel_rfl) ?_
                        refine TS_go 4 ?_
                        have ret := Option.some.inj h
                        subst ret
                        have hy1q := hy1 _ rfl
                        subst hy1q
                        replace h := (elimR hK1)
                        refine TS_retB rfl (by kernel_rfl) ?_
                        refine TS_go 2 ?_
                        have ret := Option.some.inj h
                        subst ret
                        exact TS_ret (by kernel_rfl) (by kernel_rfl) (by kernel_rfl)
                    · subst hb30
                      refine TD_go 22 ?_
                      refine TD_end (by kernel_rfl) ?_
                      refine TS_go 4 ?_
                      have ret := Option.some.inj h
                      subst ret
                      have hy1q := hy1 _ rfl
                      subst hy1q
                      replace h := (elimR hK1)
                      refine TS_retB rfl (by kernel_rfl) ?_
                      refine TS_go 2 ?_
                      have ret := Option.some.inj h
                      subst ret
                      exact TS_ret (by kernel_rfl) (by kernel_rfl) (by kernel_rfl)
                  · refine TS_know 73 (b := false) hb28 (by kernel_rfl) (by kernel_rfl) ?_
                    refine TS_F (by kernel_rfl) rfl ?_
                    refine TS_go 6 ?_
                    refine TS_F (by kernel_rfl) rfl ?_
                    refine TS_go 11 ?_
                    have ret := Option.some.inj h
                    subst ret
                    exact TS_againB _ ⟨[(1, []), (2, []), (7, []), (9, []), (10, [])], [(7, (7, []))]⟩ rfl (by kernel_rfl) (by kernel_rfl)
                · refine TS_go 4 ?_
                  replace h := condO h
                  rcases h with ⟨hb37, h⟩ | ⟨hb37, h⟩
                  · refine TS_know 13 (b := true) hb37 (by kernel_rfl) (by kernel_rfl) ?_
                    refine TS_know 70 (b := true) hb37 (by kernel_rfl) (by kernel_rfl) ?_
                    refine TS_T (by kernel_rfl) rfl ?_
                    refine TS_go 3 ?_
                    exact TS_meet 0 ⟨[(1, []), (2, []), (7, []), (9, []), (10, []), (12, []), (14, []), (15, [])], [(7, (7, [])), (12, (12, []))]⟩ h (by kernel_rfl) (by kernel_rfl)
                  · refine TS_know 13 (b := false) hb37 (by kernel_rfl) (by kernel_rfl) ?_
                    refine TS_know 70 (b := false) hb37 (by kernel_rfl) (by kernel_rfl) ?_
                    refine TS_F (by kernel_rfl) rfl ?_
                    refine TS_go 1 ?_
                    exact TS_meet (IntKind.wrap .i64 (s4.1 + 1)) ⟨[(1, []), (2, []), (7, []), (9, []), (10, []), (12, []), (14, []), (15, [])], [(7, (7, [])), (12, (12, []))]⟩ h (by kernel_rfl) (by kernel_rfl)
            · refine TS_know 59 (b := false) hb13 (by kernel_rfl) (by kernel_rfl) ?_
              refine TS_know 60 (b := false) hb13 (by kernel_rfl) (by kernel_rfl) ?_
              refine TS_go 11 ?_
              refine TS_cut ⟨[(1, []), (2, []), (7, []), (9, []), (10, []), (12, []), (13, []), (14, []), (15, [])], [(7, (7, [])), (12, (12, []))]⟩ (.mk [.code (codeAt [1, 1, 1, 1, 0, 1, 0, 0, 1, 0, 0, 1, 1, 1, 1, 1] (bodyOf Try.f6)), .blk 1, .code (codeAt [1, 1, 1, 1, 0, 1, 0, 0, 1, 1] (bodyOf Try.f6))] .normal ⟨[(1, .c (.slc 1 0 (List.length a1) (List.map (ecI .i64) a1))), (2, .c (.lit (.int .u8 (a2)))), (7, .c (.box 7 0)), (9, .c (.lit (.int .i64 (IntKind.wrap .i64 (s4.1 + 1))))), (10, .c (.lit (.int .i64 (s4.2.1)))), (12, .c (.box 12 0)), (13, .c (.lit (.bool (v12.2.1)))), (14, .c (.slc 18 0 (List.length v12.2.2) (List.map S_Outcome.cs v12.2.2))), (15, .c (.lit (.bool (false))))], [(7, .box [.slc 16 0 (List.length s4.2.2.Queue) (List.map S_Frame.cs s4.2.2.Queue), .lit (.int .i64 (s4.2.2.Phase)), .lit (.int .i64 (s4.2.2.Attempts)), .lit (.int .i64 (s4.2.2.Backoff.State)), .lit (.int .i64 (s4.2.2.Backoff.Busy)), .lit (.int .i64 (s4.2.2.Backoff.Exponent)), .lit (.int .i64 (s4.2.2.Backoff.Clear)), .lit (.int .i64 (s4.2.2.Backoff.Wait)), .lit (.int .i64 (s4.2.2.Left))]), (12, .box [.slc 16 0 (List.length v12.1.Queue) (List.map S_Frame.cs v12.1.Queue), .lit (.int .i64 (v12.1.Phase)), .lit (.int .i64 (v12.1.Attempts)), .lit (.int .i64 (v12.1.Backoff.State)), .lit (.int .i64 (v12.1.Backoff.Busy)), .lit (.int .i64 (v12.1.Backoff.Exponent)), .lit (.int .i64 (v12.1.Backoff.Clear)), .lit (.int .i64 (v12.1.Backoff.Wait)), .lit (.int .i64 (v12.1.Left))])]⟩) (by kernel_rfl) (by kernel_rfl) ?_
              refine TS_joinB ⟨[(1, []), (2, []), (7, []), (9, []), (10, []), (12, []), (14, []), (15, [])], [(7, (7, [])), (12, (12, []))]⟩ (fun (v38 : Int) => [(9, .c (.lit (.int .i64 (v38))))]) (fun (v38 : Int) => []) (F_law09_TransmitAcked_j5 v12 a2 s4) x ?_ ?_
              · clear h
                intro v38 h
                unfold F_law09_TransmitAcked_j5 at h
                refine TS_go 7 ?_
                replace h := condO h
                rcases h with ⟨hb39, h⟩ | ⟨hb39, h⟩
                · refine TS_know 73 (b := true) hb39 (by kernel_rfl) (by kernel_rfl) ?_
                  refine TS_T (by kernel_rfl) rfl ?_
                  refine TS_go 1 ?_
                  refine TS_draw (by kernel_rfl) ?_
                  replace h := bindO h
                  obtain ⟨v40, hv40, h⟩ := h
                  refine TD_call [] (ok_law09_known  v40 hv40) (by kernel_rfl) (by kernel_rfl) ?_
                  refine TD_go 1 ?_
                  replace h := condO h
                  rcases h with ⟨hb41, h⟩ | ⟨hb41, h⟩
                  · subst hb41
                    refine TD_go 1 ?_
                    replace h := bindO h
                    obtain ⟨_e42, he42, h⟩ := h
                    refine TD_idx S_Outcome.cs he42 (by kernel_rfl) (by kernel_rfl) ?_
                    refine TD_go 5 ?_
                    replace h := condO h
                    rcases h with ⟨hb43, h⟩ | ⟨hb43, h⟩
                    · refine TD_know 83 (b := true) hb43 trivial (by kernel_rfl) (by kernel_rfl) ?_
                      refine TD_go 4 ?_
                      replace h := condO h
                      rcases h with ⟨hb44, h⟩ | ⟨hb44, h⟩
                      · refine TD_know 88 (b := true) hb44 trivial (by kernel_rfl) (by kernel_rfl) ?_
                        refine TD_go 1 ?_
                        replace h := bindO h
                        obtain ⟨e45, he45, h⟩ := h
                        refine TD_idx S_Outcome.cs he45 (by kernel_rfl) (by kernel_rfl) ?_
                        refine TD_go 3 ?_
                        replace h := bindO h
                        obtain ⟨v46, hv46, h⟩ := h
                        refine TD_call [] (ok_law09_sample a2 true v46 hv46) (by kernel_rfl) (by kernel_rfl) ?_
                        replace h := bindO h
                        obtain ⟨v47, hv47, h⟩ := h
                        refine TD_call [] (ok_ref05_Same e45.Frame v46 v47 hv47) (by kernel_rfl) (by kernel_rfl) ?_
                        refine TD_go 2 ?_
                        refine TD_end (by kernel_rfl) ?_
                        refine TS_go 4 ?_
                        have ret := Option.some.inj h
                        subst ret
                        have hy1q := hy1 _ rfl
                        subst hy1q
                        replace h := (elimR hK1)
                        refine TS_retB rfl (by kernel_rfl) ?_
                        refine TS_go 2 ?_
                        have ret := Option.some.inj h
                        subst ret
                        exact TS_ret (by kernel_rfl) (by kernel_rfl) (by kernel_rfl)
                      · refine TD_know 88 (b := false) hb44 trivial (by kernel_rfl) (by kernel_rfl) ?_
                        refine TD_go 9 ?_
                        refine TD_end (by kernel_rfl) ?_
                        refine TS_go 4 ?_
                        have ret := Option.some.inj h
                        subst ret
                        have hy1q := hy1 _ rfl
                        subst hy1q
                        replace h := (elimR hK1)
                        refine TS_retB rfl (by kernel_rfl) ?_
                        refine TS_go 2 ?_
                        have ret := Option.some.inj h
                        subst ret
                        exact TS_ret (by kernel_rfl) (by kernel_rfl) (by kernel_rfl)
                    · refine TD_know 83 (b := false) hb43 trivial (by kernel_rfl) (by kernel_rfl) ?_
                      refine TD_go 14 ?_
                      refine TD_end (by kernel_rfl) ?_
                      refine TS_go 4 ?_
                      have ret := Option.some.inj h
                      subst ret
                      have hy1q := hy1 _ rfl
                      subst hy1q
                      replace h := (elimR hK1)
                      refine TS_retB rfl (by kernel_rfl) ?_
                      refine TS_go 2 ?_
                      have ret := Option.some.inj h
                      subst ret
                      exact TS_ret (by kernel_rfl) (by kernel_rfl) (by kernel_rfl)
                  · subst hb41
                    refine TD_go 22 ?_
                    refine TD_end (by kernel_rfl) ?_
                    refine TS_go 4 ?_
                    have ret := Option.some.inj h
                    subst ret
                    have hy1q := hy1 _ rfl
                    subst hy1q
                    replace h := (elimR hK1)
                    refine TS_retB rfl (by kernel_rfl) ?_
                    refine TS_go 2 ?_
                    have ret := Option.some.inj h
                    subst ret
                    exact TS_ret (by kernel_rfl) (by kernel_rfl) (by kernel_rfl)
                · refine TS_know 73 (b := false) hb39 (by kernel_rfl) (by kernel_rfl) ?_
                  refine TS_F (by kernel_rfl) rfl ?_
                  refine TS_go 6 ?_
                  refine TS_F (by kernel_rfl) rfl ?_
                  refine TS_go 11 ?_
                  have ret := Option.some.inj h
                  subst ret
                  exact TS_againB _ ⟨[(1, []), (2, []), (7, []), (9, []), (10, [])], [(7, (7, []))]⟩ rfl (by kernel_rfl) (by kernel_rfl)
              · refine TS_go 4 ?_
                replace h := condO h
                rcases h with ⟨hb48, h⟩ | ⟨hb48, h⟩
                · refine TS_know 13 (b := true) hb48 (by kernel_rfl) (by kernel_rfl) ?_
                  refine TS_know 70 (b := true) hb48 (by kernel_rfl) (by kernel_rfl) ?_
                  refine TS_T (by kernel_rfl) rfl ?_
                  refine TS_go 3 ?_
                  exact TS_meet 0 ⟨[(1, []), (2, []), (7, []), (9, []), (10, []), (12, []), (14, []), (15, [])], [(7, (7, [])), (12, (12, []))]⟩ h (by kernel_rfl) (by kernel_rfl)
                · refine TS_know 13 (b := false) hb48 (by kernel_rfl) (by kernel_rfl) ?_
                  refine TS_know 70 (b := false) hb48 (by kernel_rfl) (by kernel_rfl) ?_
                  refine TS_F (by kernel_rfl) rfl ?_
                  refine TS_go 1 ?_
                  exact TS_meet (IntKind.wrap .i64 (s4.1 + 1)) ⟨[(1, []), (2, []), (7, []), (9, []), (10, []), (12, []), (14, []), (15, [])], [(7, (7, [])), (12, (12, []))]⟩ h (by kernel_rfl) (by kernel_rfl)
          · refine TS_go 4 ?_
            replace h := bindO h
            obtain ⟨_e49, he49, h⟩ := h
            refine TS_idx (ecI .i64) he49 (by kernel_rfl) (by kernel_rfl) ?_
            refine TS_go 4 ?_
            replace h := condO h
            rcases h with ⟨hb50, h⟩ | ⟨hb50, h⟩
            · refine TS_know 46 (b := true) hb50 (by kernel_rfl) (by kernel_rfl) ?_
              refine TS_T (by kernel_rfl) rfl ?_
              refine TS_go 5 ?_
              exact TS_meet (S_Slot.mk v10.Busy v10.Ack a2 v10.Draw) ⟨[(1, []), (2, []), (7, []), (9, []), (10, []), (11, [])], [(7, (7, [])), (11, (11, []))]⟩ h (by kernel_rfl) (by kernel_rfl)
            · refine TS_know 46 (b := false) hb50 (by kernel_rfl) (by kernel_rfl) ?_
              refine TS_F (by kernel_rfl) rfl ?_
              refine TS_go 1 ?_
              exact TS_meet v10 ⟨[(1, []), (2, []), (7, []), (9, []), (10, []), (11, [])], [(7, (7, [])), (11, (11, []))]⟩ h (by kernel_rfl) (by kernel_rfl)
        · refine TS_know 32 (b := false) hb8 (by kernel_rfl) (by kernel_rfl) ?_
          refine TS_know 33 (b := false) hb8 (by kernel_rfl) (by kernel_rfl) ?_
          refine TS_F (by kernel_rfl) rfl ?_
          refine TS_go 2 ?_
          have ret := Option.some.inj h
          subst ret
          exact TS_brkB () ⟨[], []⟩ rfl (by kernel_rfl) (by kernel_rfl) (by kernel_rfl)
      · refine TS_know 29 (b := false) hb7 (by kernel_rfl) (by kernel_rfl) ?_
        refine TS_know 30 (b := false) hb7 (by kernel_rfl) (by kernel_rfl) ?_
        refine TS_go 4 ?_
        refine TS_F (by kernel_rfl) rfl ?_
        refine TS_go 2 ?_
        have ret := Option.some.inj h
        subst ret
        exact TS_brkB () ⟨[], []⟩ rfl (by kernel_rfl) (by kernel_rfl) (by kernel_rfl)
    · intro b5 hb
      subst y6
      have h := elimL hK1
      refine TS_go 3 ?_
      replace h := bindO h
      obtain ⟨v52, hv52, h⟩ := h
      refine TS_call [] (ok_law09_known  v52 hv52) (by kernel_rfl) (by kernel_rfl) ?_
      refine TS_go 3 ?_
      have ret := Option.some.inj h
      subst ret
      exact TS_ret (by kernel_rfl) (by kernel_rfl) (by kernel_rfl)
end
section
open Go.ChangeShapes Go.WideShapes Go.ChangeAt Go.RowKit

theorem own : ownKnob Try.prog.godebug = none := by kernel_rfl
theorem laidOut : laidOutB Try.prog = true := by kernel_rfl

/-- the arguments read as before -/
theorem trodAll_below {H : Type} {enc : TypeId × Value → H} {P : Program} (hl : laidOutB P = true) {W W' : World} (hb : Below W.heap.size W W') :
    ∀ {ts : List TypeId} {vs : List Value} {ds : List (DataW H)} {ps : List MemPlace}, ts.all (fun t => P.readableRec t && decide (t < P.types.size)) = true →
      DataW.TrodAll enc P W 0 (fun _ => true) true ts vs ds ps → DataW.TrodAll enc P W' 0 (fun b => decide (b < W.heap.size)) true ts vs ds ps
  | [], _, _, _, _, h => by
    obtain ⟨rfl, rfl, rfl⟩ := trodAll_nil h
    exact trodAll_mk0
  | t :: ts, vs, ds, ps, hr, h => by
    obtain ⟨v, vs', d, ds', p, q, rfl, rfl, rfl, h1, h2⟩ := trodAll_cons h
    simp only [List.all_cons, Bool.and_eq_true, decide_eq_true_eq] at hr
    have lt : ∀ x ∈ p, x.block < W.heap.size := by obtain ⟨m, hm⟩ := h1; exact DataW.trod_lt m _ _ _ hm
    exact trodAll_cons_mk (Below.trod hl hr.1.1 hr.1.2 h1 hb lt) (trodAll_below hl hb hr.2 h2)

theorem u32_bd {x : Int} (h : (Lit.int .u32 x).wf = true) : 0 ≤ x ∧ x ≤ 4294967295 := by
  simpa [Lit.wf, IntKind.min, IntKind.max, IntKind.signed, IntKind.bits] using h
theorem u8_bd {x : Int} (h : (Lit.int .u8 x).wf = true) : 0 ≤ x ∧ x ≤ 255 := by
  simpa [Lit.wf, IntKind.min, IntKind.max, IntKind.signed, IntKind.bits] using h

/-- the reader that sees all -/
def rdAll (w : World) : Rd := fun b o => w.cell? ⟨b, o, none⟩
def env0 : Env := ⟨fun _ => (0, 0), fun _ => (.slice none 0 0, .slice none 0 0)⟩
theorem vrel_lit (rd : Rd) (g : Env) (v : Value) : VRel rd g v (.c (.lit v)) := IRel.lit v
def ArgsOk (rd : Rd) (g : Env) : List Value → List SV → Prop
  | [], [] => True
  | u :: us, x :: xs => VRel rd g u x ∧ ArgsOk rd g us xs
  | _, _ => False
theorem ArgsOk.get {rd : Rd} {g : Env} : ∀ {us : List Value} {xs : List SV}, ArgsOk rd g us xs → us.length = xs.length ∧ ∀ (i : Nat) (x : SV), xs[i]? = some x → ∃ u, us[i]? = some u ∧ VRel rd g u x
  | [], [], _ => ⟨rfl, fun i x h => by simp at h⟩
  | u :: us, y :: xs, h => by
    obtain ⟨h1, h2⟩ := h
    obtain ⟨k1, k2⟩ := h2.get
    refine ⟨by simp [k1], fun i x hx => ?_⟩
    rcases i with _ | i
    · cases hx; exact ⟨u, rfl, h1⟩
    · exact k2 i x (by simpa using hx)
/-- a law that is true -/
theorem con_true {P : Program} {f : FuncId} {args : List SV} (h : Con P f args [] (.c (.lit (.bool true))) []) {W : World} {us : List Value} (ha : ArgsOk (rdAll W) env0 us args) :
    Calls P f us.toArray W fun e w' => e = .returned (.bool true) ∧ Ext W w' := by
  obtain ⟨h1, h2⟩ := ha.get
  have nol : ∀ d (x : Res), look ([] : Hp) d = some x → False := fun d x hx => by simp [look] at hx
  have noin : ∀ g b o, ¬ InFoot g ([] : Hp) b o := by rintro g b o ⟨d, r, hd, _⟩; exact nol _ _ hd
  refine (h (rdAll W) env0 W us.toArray (fun b o v hv => hv) (by simpa using h1) (fun i x hx => by simpa using h2 i x hx) (fun d x hx => (nol d x hx).elim) (fun d d' r r' b o _ hd => (nol _ _ hd).elim) (fun b o hx => (noin _ _ _ hx).elim)).mono ?_
  rintro e w' ⟨u, g', rfl, hk, _, _, _, _, hu⟩
  have hE : Ext W w' := (hk.weak (fun b o x => noin _ _ _ x)).ext
  refine ⟨?_, hE⟩
  have := (hu (rdAll w') (by
    intro b o v hv
    obtain ⟨g, rfl⟩ := hE
    have hb := World.block_lt_of_cell? _ _ hv
    unfold rdAll
    rw [cell_plus _ _ _ _ _ hb]
    exact hv) (fun b o u _ _ hc => hc)).1
  cases this
  rfl
def wfI (k : IntKind) (n : Int) : Prop := (Lit.int k n).wf = true
def wfB (_ : Bool) : Prop := True
def Seg (rd : Rd) (cs : List Value) (off n : Nat) (l : List SC) : Prop := l.length = n ∧ ∀ (j : Nat) (y : SC), l[j]? = some y → ∃ u, cs[off + j]? = some u ∧ IRel rd u y
theorem Seg.append {rd : Rd} {cs : List Value} {off n m : Nat} {l l' : List SC} (h : Seg rd cs off n l) (k : Seg rd cs (off + n) m l') : Seg rd cs off (n + m) (l ++ l') := by
  refine ⟨by rw [List.length_append, h.1, k.1], fun j y hy => ?_⟩
  by_cases hj : j < l.length
  · rw [List.getElem?_append_left hj] at hy
    exact h.2 j y hy
  · rw [List.getElem?_append_right (by omega)] at hy
    obtain ⟨u, h1, h2⟩ := k.2 _ y hy
    have h3 := h.1
    refine ⟨u, ?_, h2⟩
    rw [← h1]
    congr 1
    omega

/-- a value of the type t is the shadow of an α -/
def Opens (P : Program) (t : TypeId) {α : Type} (f : α → List SC) (wf : α → Prop) : Prop :=
  ∀ (H : Type) (enc : TypeId × Value → H) (W : World) (fuel : Nat) (cs : List Value) (x : DataW H × List MemPlace), DataW.trod enc P W 0 (fun _ => true) true fuel t cs = some x → ∃ a : α, Seg (rdAll W) cs 0 cs.length (f a) ∧ wf a

theorem opens_int {P : Program} {t : TypeId} {k : IntKind} (ht : P.underlying t = some (.int k)) : Opens P t (ecI k) (wfI k) := by
  intro H enc W fuel cs x h
  obtain ⟨n, rfl, _, hw⟩ := DataW.trod_int ht h
  refine ⟨n, ⟨rfl, fun j y hy => ?_⟩, hw⟩
  rcases j with _ | j
  · simp only [ecI, List.getElem?_cons_zero, Option.some.injEq] at hy
    subst hy
    exact ⟨_, rfl, .lit _⟩
  · simp [ecI] at hy
end
section
open Go.ChangeShapes Go.WideShapes Go.ChangeAt Go.RowKit

def Wt (P : Program) (t : TypeId) {H : Type} (d : DataW H) : Prop := ∀ n ∈ d.weights P t, n ≤ reachBytes
def OpensR (P : Program) (t : TypeId) {α : Type} (f : α → List SC) (wf : α → Prop) : Prop :=
  ∀ (H : Type) (enc : TypeId × Value → H) (W : World) (fuel : Nat) (cs : List Value) (x : DataW H × List MemPlace), DataW.trod enc P W 0 (fun _ => true) true fuel t cs = some x → Wt P t x.1 → ∃ a : α, Seg (rdAll W) cs 0 cs.length (f a) ∧ wf a
theorem Opens.r {P : Program} {t : TypeId} {α : Type} {f : α → List SC} {wf : α → Prop} (h : Opens P t f wf) : OpensR P t f wf := fun H enc W fuel cs x h1 _ => h H enc W fuel cs x h1
def wfR {α : Type} (p : α → Prop) (l : List α) : Prop := l.length ≤ 140737488351232 ∧ ∀ z ∈ l, p z
theorem mem_weightsAll {H : Type} {P : Program} {e : TypeId} : ∀ {l : List (DataW H)} {d : DataW H}, d ∈ l → ∀ n ∈ d.weights P e, n ∈ DataW.weightsAll P e l
  | x :: l, d, h, n, hn => by
    simp only [DataW.weightsAll, List.mem_append]
    rcases List.mem_cons.1 h with rfl | h
    · exact Or.inl hn
    · exact Or.inr (mem_weightsAll h n hn)
theorem wt_of {H : Type} {P : Program} {ts : List TypeId} {ds : List (DataW H)} (h : (DataW.weightsEach P ts ds).all (· ≤ reachBytes) = true) {j : Nat} {t : TypeId} {d : DataW H} (ht : ts[j]? = some t) (hd : ds[j]? = some d) : Wt P t d := fun n hn => by
  have := List.all_eq_true.1 h _ (DataW.weights_mem_each ht hd n hn)
  simpa using this
theorem opens_sliceR {P : Program} {t e : TypeId} {sz : Nat} (ht : P.underlying t = some (.slice e)) (hsz : P.cellsOf e = sz) {α : Type} {f : α → List SC} {wf : α → Prop} (hop : OpensR P e f wf) (hlen : ∀ a, (f a).length = sz) (hpos : decide (0 < sz) = true) (hby : decide (0 < P.bytesOf e) = true) : OpensR P t (ecS sz f) (wfR wf) := by
  intro H enc W fuel cs x h hw
  have hb := of_decide_eq_true hby
  have hp := of_decide_eq_true hpos
  rcases DataW.trod_slice ht h with ⟨rfl, _⟩ | ⟨a, len, cap, elems, rest, m, _, rfl, rfl, _, hlc, hcm, hel, hg, _⟩
  · refine ⟨[], ⟨rfl, fun j y hy => ?_⟩, by simp, fun z hz => absurd hz (by simp)⟩
    rcases j with _ | j
    · simp only [ecS, List.map_nil, List.getElem?_cons_zero, Option.some.injEq] at hy
      subst hy
      exact ⟨_, rfl, .nil _ _ _ (by decide)⟩
    · simp [ecS] at hy
  · have e0 : DataW.weights P t (.slice (elems.map (·.1)) (rest.map (·.1)) : DataW H) = (((elems.map (·.1)).length + (rest.map (·.1)).length) * P.bytesOf e :: (DataW.weightsAll P e (elems.map (·.1)) ++ DataW.weightsAll P e (rest.map (·.1)))) := by simp [DataW.weights, ht]
    have hlen' : len ≤ 140737488351232 := by
      have h2 := hw (((elems.map (·.1)).length + (rest.map (·.1)).length) * P.bytesOf e) (by rw [e0]; exact List.mem_cons_self)
      have h3 : len * 1 ≤ ((elems.map (·.1)).length + (rest.map (·.1)).length) * P.bytesOf e := Nat.mul_le_mul (by rw [List.length_map, hel]; omega) hb
      have h4 : reachBytes = 140737488351232 := rfl
      omega
    have key : ∀ i, i < len → ∃ (us : List Value) (b : α), W.cells? 0 (a.add (i * sz)) sz = some us ∧ Seg (rdAll W) us 0 us.length (f b) ∧ wf b := by
      intro i hi
      have h1 := hg i hi
      rw [hsz] at h1
      obtain ⟨y, hy⟩ : ∃ y, elems[i]? = some y := ⟨_, List.getElem?_eq_getElem (by omega)⟩
      rw [hy] at h1
      obtain ⟨us, k1, k2⟩ := Option.bind_eq_some_iff.1 h1
      obtain ⟨b, k3, k4⟩ := hop H enc W m us y k2 (fun n hn => hw n (by
        rw [e0]
        exact List.mem_cons_of_mem _ (List.mem_append_left _ (mem_weightsAll (d := y.1) (List.mem_map.2 ⟨y, List.mem_of_getElem? hy, rfl⟩) n hn))))
      exact ⟨us, b, k1, k3, k4⟩
    have key2 : ∃ l : List α, l.length = len ∧ ∀ i b, l[i]? = some b → wf b ∧ ∃ us, W.cells? 0 (a.add (i * sz)) sz = some us ∧ Seg (rdAll W) us 0 us.length (f b) := by
      have : ∀ q, q ≤ len → ∃ l : List α, l.length = q ∧ ∀ i b, l[i]? = some b → wf b ∧ ∃ us, W.cells? 0 (a.add (i * sz)) sz = some us ∧ Seg (rdAll W) us 0 us.length (f b) := by
        intro q
        induction q with
        | zero => exact fun _ => ⟨[], rfl, fun i b hb => by simp at hb⟩
        | succ q ih =>
          intro hq
          obtain ⟨l, hl, hall⟩ := ih (by omega)
          obtain ⟨us, b, k1, k2, k3⟩ := key q (by omega)
          refine ⟨l ++ [b], by simp [hl], fun i c hc => ?_⟩
          by_cases hi : i < l.length
          · rw [List.getElem?_append_left hi] at hc
            exact hall i c hc
          · rw [List.getElem?_append_right (by omega)] at hc
            have hi0 : i - l.length = 0 := by
              have := (List.getElem?_eq_some_iff.1 hc).1
              simp at this
              omega
            rw [hi0] at hc
            cases hc
            have : i = q := by omega
            subst this
            exact ⟨k3, us, k1, k2⟩
      exact this len (Nat.le_refl _)
    obtain ⟨l, hl, hall⟩ := key2
    refine ⟨l, ⟨rfl, fun j y hy => ?_⟩, by omega, fun z hz => ?_⟩
    · rcases j with _ | j
      · simp only [ecS, List.getElem?_cons_zero, Option.some.injEq] at hy
        subst hy
        refine ⟨_, rfl, ?_⟩
        rw [hl]
        by_cases hz : len = 0
        · subst hz
          have : l = [] := List.eq_nil_of_length_eq_zero hl
          subst this
          exact .nil _ _ _ hcm
        · obtain ⟨b0, hb0⟩ : ∃ b, l[0]? = some b := ⟨_, List.getElem?_eq_getElem (by omega)⟩
          obtain ⟨_, us0, k0, _⟩ := hall 0 b0 hb0
          obtain ⟨hlen0, _, hc0⟩ := World.cells?_some k0
          have hcell0 := hc0 0 (by omega)
          obtain ⟨bl, off, spot⟩ := a
          have hspot : spot = none := by
            obtain ⟨z, hz0⟩ : ∃ z, us0[0]? = some z := ⟨_, List.getElem?_eq_getElem (by omega)⟩
            rw [hz0] at hcell0
            simpa [Addr.add] using World.cell?_spot hcell0
          subst hspot
          have cellAt : ∀ i b, l[i]? = some b → ∀ j y, (f b)[j]? = some y → ∃ u, W.cell? ⟨bl, off + i * sz + j, none⟩ = some u ∧ IRel (rdAll W) u y := by
            intro i b hb j y hy
            obtain ⟨_, us, k1, k2⟩ := hall i b hb
            obtain ⟨hlen1, _, hc1⟩ := World.cells?_some k1
            obtain ⟨u, q1, q2⟩ := k2.2 j y hy
            rw [Nat.zero_add] at q1
            have hj : j < sz := by have := (List.getElem?_eq_some_iff.1 hy).1; rw [hlen b] at this; exact this
            have := hc1 j (by omega)
            rw [q1] at this
            refine ⟨u, ?_, q2⟩
            rw [Addr.add_mid, Addr.add_mid] at this
            exact this
          refine .slc bl off len cap sz (l.map f) (fun i j => (W.cell? ⟨bl, off + i * sz + j, none⟩).getD (.bool false)) (by simp [hl]) hlc hcm ?_ ?_ ?_
          · intro x hx
            obtain ⟨b, _, rfl⟩ := List.mem_map.1 hx
            exact hlen b
          · intro i x j y hx hy
            rw [List.getElem?_map] at hx
            obtain ⟨b, hb, rfl⟩ := Option.map_eq_some_iff.1 hx
            obtain ⟨u, q1, _⟩ := cellAt i b hb j y hy
            simp only [rdAll, q1, Option.getD_some]
          · intro i x j y hx hy
            rw [List.getElem?_map] at hx
            obtain ⟨b, hb, rfl⟩ := Option.map_eq_some_iff.1 hx
            obtain ⟨u, q1, q2⟩ := cellAt i b hb j y hy
            simp only [q1, Option.getD_some]
            exact q2
      · simp [ecS] at hy
    · obtain ⟨i, hi⟩ := List.getElem?_of_mem hz
      exact (hall i z hi).1

/-- a single cell as an argument -/
theorem open_cellR {P : Program} {t : TypeId} {H : Type} {enc : TypeId × Value → H} {W : World} {v : Value} {d : DataW H} {p : List MemPlace} {α : Type} {f : α → List SC} {wf : α → Prop} {c : α → SC} (hop : OpensR P t f wf) (hc : ∀ a, f a = [c a]) (hv : v.cells = #[v]) (h : DataW.Trod enc P W 0 (fun _ => true) true t v d p) (hw : Wt P t d) : ∃ a, VRel (rdAll W) env0 v (.c (c a)) ∧ wf a := by
  obtain ⟨fuel, hf⟩ := h
  obtain ⟨a, hs, hw2⟩ := hop H enc W fuel _ _ hf hw
  rw [hv] at hs
  refine ⟨a, ?_, hw2⟩
  obtain ⟨u, k1, k2⟩ := hs.2 0 (c a) (by rw [hc]; rfl)
  simp at k1
  subst k1
  exact k2.c
/-- a slice as an argument -/
theorem open_slcR {P : Program} {t e : TypeId} {H : Type} {enc : TypeId × Value → H} {W : World} {v : Value} {d : DataW H} {p : List MemPlace} {r : Reach} {b0 : Nat} {α : Type} {sz : Nat} {f : α → List SC} {wf : List α → Prop} (hop : OpensR P t (ecS sz f) wf) (ht : P.underlying t = some (.slice e))
    (hv : Value.okWide P W r b0 t v) (h : DataW.Trod enc P W 0 (fun _ => true) true t v d p) (hw : Wt P t d) : ∃ a, VRel (rdAll W) env0 v (.c (eS sz f a)) ∧ wf a := by
  obtain ⟨a0, len, cap, rfl⟩ := okWide_slice ht hv
  exact open_cellR hop (fun a => rfl) rfl h hw
end
section
open Go.ChangeShapes Go.WideShapes Go.ChangeAt Go.RowKit

def S_Addr.wf (x : S_Addr) : Prop := wfI .i64 x.Mode ∧ wfI .u16 x.Short ∧ wfI .u64 x.EUI
def S_Frame.wf (x : S_Frame) : Prop := wfI .i64 x.Kind ∧ wfB x.AckRequest ∧ wfB x.Pending ∧ wfB x.Secure ∧ wfI .u8 x.Seq ∧ wfI .u16 x.Pan ∧ S_Addr.wf x.Dst ∧ S_Addr.wf x.Src ∧ wfI .u32 x.Counter ∧ wfI .u8 x.Key ∧ wfR (wfI .u8) x.Payload ∧ wfR (wfI .u8) x.MIC
def S_Backoff.wf (x : S_Backoff) : Prop := wfI .i64 x.State ∧ wfI .i64 x.Busy ∧ wfI .i64 x.Exponent ∧ wfI .i64 x.Clear ∧ wfI .i64 x.Wait
def S_Link.wf (x : S_Link) : Prop := wfR S_Frame.wf x.Queue ∧ wfI .i64 x.Phase ∧ wfI .i64 x.Attempts ∧ S_Backoff.wf x.Backoff ∧ wfI .i64 x.Left
def S_Slot.wf (x : S_Slot) : Prop := wfB x.Busy ∧ wfB x.Ack ∧ wfI .u8 x.Seq ∧ wfI .u32 x.Draw
end
section
open Go.ChangeShapes Go.WideShapes Go.ChangeAt Go.RowKit

set_option maxRecDepth 100000 in
theorem transmitAcked_lifted (hF : ∀ (a0 : Int) (a1 : List Int) (a2 : Int), wfI .u32 a0 → wfR (wfI .i64) a1 → wfI .u8 a2 → F_law09_TransmitAcked a0 a1 a2 = some true) (os : Os) (started : os.Started) (H : Type) (enc : TypeId × Value → H) :
    ReturnsInHanded {} Try.checked os 6 .any (Rows.transmitAckedSpec.pre6 enc Try.prog Try.f6 Rows.transmitAckedRow.domain false) (Rows.transmitAckedSpec.post enc Try.prog Try.f6 false true false false) := by
  refine returnsInHanded_of_change_sized (C := Try.checked) own started (by kernel_rfl) Try.func6
    (ChangeSpec.witness6 (enc := enc) (C := Try.checked) false ⟨#[], #[.int .u32 0, .slice none 0 0, .int .u8 0], []⟩ 8 (by kernel_rfl) (by kernel_rfl) (by kernel_rfl) (by kernel_rfl)) ?_
  intro W base args ds gs before hval0 hW hcnd hsz0 _
  have hval : ∀ (j : Nat) t v, Try.f6.params[j]? = some t → args[j]? = some v → Value.okWide Try.prog W .any base t v := hval0
  have hW' := hW
  obtain ⟨p, q, hA0, hV, rfl, hfz, hnd⟩ := hW
  have hA : DataW.TrodAll enc Try.prog W 0 (fun _ => true) true Try.f6.params.toList args.toList ds p := hA0
  have hAll := hA
  rw [Try.params6] at hA hval hAll
  obtain ⟨v0, vs0, d0, ds0, p0, q0, hargs, rfl, rfl, h0, r0⟩ := trodAll_cons hA
  obtain ⟨v1, vs1, d1, ds1, p1, q1, rfl, rfl, rfl, h1, r1⟩ := trodAll_cons r0
  obtain ⟨v2, vs2, d2, ds2, p2, q2, rfl, rfl, rfl, h2, r2⟩ := trodAll_cons r1
  obtain ⟨rfl, rfl, rfl⟩ := trodAll_nil r2
  obtain rfl : args = #[v0, v1, v2] := by cases args; simp_all
  obtain ⟨rfl, rfl⟩ := trodVars_none hV
  obtain ⟨x0, rfl, rfl, rfl, w0⟩ := open_int Try.underlying33 (hval 0 33 v0 rfl rfl) h0
  obtain ⟨x1, hR1, w1⟩ := open_slcR (opens_sliceR (sz := 1) Try.underlying39 (by kernel_rfl) (opens_int (k := .i64) Try.underlying3).r (fun _ => by kernel_rfl) (by kernel_rfl) (by kernel_rfl)) Try.underlying39 (hval 1 39 v1 rfl rfl) h1 (wt_of hsz0 (j := 1) (by kernel_rfl) rfl)
  obtain ⟨x2, rfl, rfl, rfl, w2⟩ := open_int Try.underlying5 (hval 2 5 v2 rfl rfl) h2
  clear hA0 hval0 hsz0
  refine (con_true (us := [.int .u32 x0, v1, .int .u8 x2]) (ok_law09_TransmitAcked x0 x1 x2 true (hF x0 x1 x2 w0 w1 w2)) ⟨vrel_lit _ _ _, hR1, vrel_lit _ _ _, trivial⟩).mono fun e W' ⟨he, hx⟩ => ?_
  subst he
  have bel := hx.below
  exact ⟨_, rfl, _, _, _, [], _, [], hW', trodAll_mk1 (shut_bool Try.underlying4 _), trodAll_below laidOut bel (by kernel_rfl) hAll, rfl, bel.frame _, fun h => by cases h⟩

theorem transmitAcked_of (hF : ∀ (a0 : Int) (a1 : List Int) (a2 : Int), wfI .u32 a0 → wfR (wfI .i64) a1 → wfI .u8 a2 → F_law09_TransmitAcked a0 a1 a2 = some true) : Rows.TransmitAckedSaid :=
  OpenClaim.holds_of_wide 6 Try.f6 rfl rfl rfl rfl rfl rfl rfl ⟨rfl, rfl, rfl, rfl, rfl⟩ rfl rfl rfl rfl rfl (by kernel_rfl) Try.func6 (by kernel_rfl)
    (of_decide_eq_true (by kernel_rfl)) (by unfold Func.isWrapper; first | (rw [if_pos (by decide +kernel)]; kernel_rfl) | (rw [if_neg (by decide +kernel)]; exact ⟨rfl, rfl⟩))
    (fun os started H enc _ => transmitAcked_lifted hF os started H enc)
end
section
open Go.RowKit

theorem beqF {α : Type} [BEq α] [LawfulBEq α] {a b : α} (h : ¬ a = b) : (a == b) = false := by simpa using h
theorem decT {p : Prop} [Decidable p] (h : p) : decide p = true := by simpa using h
theorem decF {p : Prop} [Decidable p] (h : ¬ p) : decide p = false := by simpa using h
theorem wi {x : Int} (h0 : -9223372036854775808 ≤ x) (h1 : x ≤ 9223372036854775807) : IntKind.wrap .i64 x = x := by
  simp [IntKind.wrap, IntKind.bits, IntKind.signed]
  omega
theorem wk (k : Nat) (h : k < 9223372036854775807) : IntKind.wrap .i64 ((k : Int) + 1) = ((k + 1 : Nat) : Int) := by
  rw [wi (by omega) (by omega)]; rfl
theorem wrap32 (x : Int) : IntKind.wrap .u32 x = x % 4294967296 := by
  simp [IntKind.wrap, IntKind.bits, IntKind.signed]
section
variable {σ ρ : Type} {step : σ → Option (σ ⊕ ρ)}
theorem loop_done {s : σ} {r : ρ} (h : step s = some (.inr r)) : loopO step s = some r := by rw [loopO_eq, h]
theorem loop_next {s s' : σ} (h : step s = some (.inl s')) : loopO step s = loopO step s' := by rw [loopO_eq, h]
/-- a loop that keeps I and ends with Q -/
theorem loop_inv (I : σ → Prop) (Q : ρ → Prop) (m : σ → Nat) (hs : ∀ s, I s → (∃ s', step s = some (.inl s') ∧ I s' ∧ m s' < m s) ∨ (∃ r, step s = some (.inr r) ∧ Q r)) (s : σ) (h : I s) : ∃ r, loopO step s = some r ∧ Q r := by
  induction hn : m s using Nat.strongRecOn generalizing s with
  | ind n ih =>
    subst hn
    rcases hs s h with ⟨s', h1, h2, h3⟩ | ⟨r, h1, h2⟩
    · obtain ⟨r, hr, hq⟩ := ih (m s') h3 s' h2 rfl
      exact ⟨r, by rw [loop_next h1]; exact hr, hq⟩
    · exact ⟨r, loop_done h1, h2⟩
/-- a loop whose states are known -/
theorem loop_to (S : Nat → σ) (n : Nat) (h : ∀ k, k < n → step (S k) = some (.inl (S (k + 1)))) : loopO step (S 0) = loopO step (S n) := by
  induction n with
  | zero => rfl
  | succ n ih => rw [ih (fun k hk => h k (by omega)), loop_next (h n (by omega))]
theorem loop_run (S : Nat → σ) (n : Nat) {r : ρ} (h : ∀ k, k < n → step (S k) = some (.inl (S (k + 1)))) (he : step (S n) = some (.inr r)) : loopO step (S 0) = some r := by
  rw [loop_to S n h, loop_done he]
/-- a loop that is left at the first place where p fails -/
theorem loop_first (S : Nat → σ) (n : Nat) (p : Nat → Bool) (out : Nat → ρ) {re : ρ} (h1 : ∀ k, k < n → p k = true → step (S k) = some (.inl (S (k + 1)))) (h2 : ∀ k, k < n → p k = false → step (S k) = some (.inr (out k))) (h3 : step (S n) = some (.inr re)) :
    (∃ k, k < n ∧ p k = false ∧ (∀ j, j < k → p j = true) ∧ loopO step (S 0) = some (out k)) ∨ ((∀ k, k < n → p k = true) ∧ loopO step (S 0) = some re) := by
  by_cases hx : ∀ k, k < n → p k = true
  · exact .inr ⟨hx, loop_run S n (fun k hk => h1 k hk (hx k hk)) h3⟩
  · have hx' : ∃ k, k < n ∧ p k = false := by
      apply Classical.byContradiction
      intro hno
      apply hx
      intro k hk
      cases hpk : p k with
      | true => rfl
      | false => exact absurd ⟨k, hk, hpk⟩ hno
    have : ∃ k, (k < n ∧ p k = false) ∧ ∀ j, j < k → ¬ (j < n ∧ p j = false) := by
      obtain ⟨k, hk⟩ := hx'
      induction k using Nat.strongRecOn with
      | ind k ih =>
        by_cases hj : ∃ j, j < k ∧ j < n ∧ p j = false
        · obtain ⟨j, hj1, hj2⟩ := hj; exact ih j hj1 hj2
        · exact ⟨k, hk, fun j hjk hh => hj ⟨j, hjk, hh⟩⟩
    obtain ⟨k, ⟨hk, hpk⟩, hmin⟩ := this
    have hall : ∀ j, j < k → p j = true := by
      intro j hj
      cases hpj : p j with
      | true => rfl
      | false => exact absurd ⟨by omega, hpj⟩ (hmin j hj)
    refine .inl ⟨k, hk, hpk, hall, ?_⟩
    rw [loop_to S k (fun j hj => h1 j (by omega) (hall j hj)), loop_done (h2 k hk hpk)]
/-- a loop that answers whether p holds everywhere -/
theorem loop_all (S : Nat → σ) (n : Nat) (p : Nat → Bool) {rt rf : ρ} (h1 : ∀ k, k < n → p k = true → step (S k) = some (.inl (S (k + 1)))) (h2 : ∀ k, k < n → p k = false → step (S k) = some (.inr rf)) (h3 : step (S n) = some (.inr rt)) :
    loopO step (S 0) = some (if ∀ k, k < n → p k = true then rt else rf) := by
  rcases loop_first S n p (fun _ => rf) h1 h2 h3 with ⟨k, hk, hpk, _, h⟩ | ⟨ha, h⟩
  · rw [h, if_neg]
    intro hh
    rw [hh k hk] at hpk
    cases hpk
  · rw [h, if_pos ha]
end
theorem idx_nat {α : Type} (l : List α) (k : Nat) : idx l (k : Int) = l[k]? := by simp [idx]
theorem idx_lt {α : Type} {l : List α} {k : Nat} (h : k < l.length) : idx l (k : Int) = some l[k] := by rw [idx_nat]; exact List.getElem?_eq_getElem h
theorem appO_some {α : Type} {by_ : Nat} {l1 l2 : List α} (h : (l1.length + l2.length) * by_ ≤ 140737488355328) (h' : l1.length + l2.length ≤ 140737488355328) : appO by_ l1 l2 = some (l1 ++ l2) := by
  unfold appO; rw [if_pos ⟨h, h'⟩]
theorem subO_some {α : Type} {l : List α} {a b : Int} (h0 : 0 ≤ a) (h1 : a ≤ b) (h2 : b ≤ l.length) : subO l a b = some ((l.take b.toNat).drop a.toNat) := by
  unfold subO; rw [if_pos ⟨h0, h1, h2⟩]

theorem getD_get {l : List Int} {i : Nat} (h : i < l.length) : l.getD i 0 = l[i] := by simp [List.getD_eq_getElem?_getD, List.getElem?_eq_getElem h]
theorem getD_mem {p : Int → Prop} {l : List Int} (h : ∀ z ∈ l, p z) (h0 : p 0) (i : Nat) : p (l.getD i 0) := by
  rcases Nat.lt_or_ge i l.length with hi | hi
  · rw [getD_get hi]; exact h _ (List.getElem_mem hi)
  · rw [List.getD_eq_getElem?_getD, List.getElem?_eq_none hi]; exact h0
end
section
open Go.RowKit

def okB (l : List Int) : Prop := ∀ z ∈ l, 0 ≤ z ∧ z ≤ 255
theorem okB_nil : okB [] := fun z h => by simp at h
theorem okB.append {a b : List Int} (ha : okB a) (hb : okB b) : okB (a ++ b) := fun z h => (List.mem_append.1 h).elim (ha z) (hb z)
theorem okB.get {l : List Int} (h : okB l) {i : Nat} (hi : i < l.length) : 0 ≤ l[i] ∧ l[i] ≤ 255 := h _ (List.getElem_mem hi)
theorem okB.take {l : List Int} (h : okB l) (n : Nat) : okB (l.take n) := fun z hz => h z (List.mem_of_mem_take hz)
theorem okB.drop {l : List Int} (h : okB l) (n : Nat) : okB (l.drop n) := fun z hz => h z (List.mem_of_mem_drop hz)
theorem okB.set {l : List Int} (h : okB l) (n : Nat) {v : Int} (hv : 0 ≤ v ∧ v ≤ 255) : okB (l.set n v) := fun z hz => (List.mem_or_eq_of_mem_set hz).elim (h z) (fun e => e ▸ hv)
theorem okB.getD {l : List Int} (h : okB l) (n : Nat) : 0 ≤ l.getD n 0 ∧ l.getD n 0 ≤ 255 := getD_mem (p := fun z => 0 ≤ z ∧ z ≤ 255) h (by omega) n
def beB (v : Int) (n : Nat) : List Int := (List.range n).map fun i => v / 2 ^ (8 * (n - 1 - i)) % 256
theorem beB_len (v : Int) (n : Nat) : (beB v n).length = n := by simp [beB]
theorem take_snoc {α : Type} {l : List α} {k : Nat} {x : α} (h : l[k]? = some x) : l.take (k + 1) = l.take k ++ [x] := by
  rw [List.take_add_one, h]; rfl
end
section
open Go.RowKit

structure Bk where
  st : Int
  bu : Int
  ex : Int
  cl : Int
  wt : Int
def Bk.agg (s : Bk) : Value := .agg #[.int .i64 s.st, .int .i64 s.bu, .int .i64 s.ex, .int .i64 s.cl, .int .i64 s.wt]
def expB (b : Int) : Int := min (3 + b) 5
/-- 8.1 -/
def Bk.Valid (s : Bk) : Prop := 0 ≤ s.bu ∧ s.bu ≤ 5 ∧ s.ex = min (3 + s.bu) 5 ∧
  ((s.st = 4 ∧ s.bu = 5 ∧ s.cl = 2 ∧ s.wt = 0) ∨
   (s.bu ≤ 4 ∧ ((s.st = 1 ∧ s.cl = 2 ∧ 1 ≤ s.wt ∧ ((s.ex = 3 ∧ s.wt < 8) ∨ (s.ex = 4 ∧ s.wt < 16) ∨ (s.ex = 5 ∧ s.wt < 32))) ∨
     (s.st = 2 ∧ 1 ≤ s.cl ∧ s.cl ≤ 2 ∧ s.wt = 0) ∨ (s.st = 3 ∧ s.cl = 0 ∧ s.wt = 0))))
instance (s : Bk) : Decidable s.Valid := by unfold Bk.Valid; infer_instance
def bvB (s : Bk) : Bool := decide s.Valid
def endedB (s : Bk) : Bool := decide (s.Valid ∧ (s.st = 3 ∨ s.st = 4))

def powE (ex : Int) : Int := if ex = 3 then 8 else if ex = 4 then 16 else 32
/-- 8.2 -/
def Bk.drawn (s : Bk) (d : Int) : Bk := ⟨if d % powE s.ex = 0 then 2 else 1, s.bu, s.ex, 2, d % powE s.ex⟩
def beginB (d : Int) : Bk := Bk.drawn ⟨0, 0, 3, 0, 0⟩ d
def Bk.sense (s : Bk) (busy : Bool) (d : Int) : Bk :=
  if busy then (if s.bu + 1 ≤ 4 then Bk.drawn ⟨s.st, s.bu + 1, expB (s.bu + 1), s.cl, s.wt⟩ d else ⟨4, s.bu + 1, expB (s.bu + 1), 2, s.wt⟩)
  else ⟨if s.cl - 1 = 0 then 3 else s.st, s.bu, s.ex, s.cl - 1, s.wt⟩
/-- 8.3 -/
def Bk.step (s : Bk) (busy : Bool) (d : Int) : Bk :=
  if bvB s then
    (if s.st = 1 then ⟨if s.wt - 1 = 0 then 2 else s.st, s.bu, s.ex, s.cl, s.wt - 1⟩ else if s.st = 2 then s.sense busy d else s)
  else ⟨0, 0, 0, 0, 0⟩

/-- what may follow after so many busy channels -/
def restB (b : Int) : Int := if b = 0 then 116 else if b = 1 then 99 else if b = 2 then 66 else if b = 3 then 33 else 0
/-- the greatest number of steps that are left -/
def pot (s : Bk) : Int := if s.st = 1 then s.wt + 2 + restB s.bu else if s.st = 2 then s.cl + restB s.bu else 0

theorem powE_cases (ex : Int) (h : ex = 3 ∨ ex = 4 ∨ ex = 5) : (ex = 3 ∧ powE ex = 8) ∨ (ex = 4 ∧ powE ex = 16) ∨ (ex = 5 ∧ powE ex = 32) := by
  rcases h with rfl | rfl | rfl <;> simp [powE]

theorem drawn_valid (s : Bk) (d : Int) (hb : 0 ≤ s.bu ∧ s.bu ≤ 4) (he : s.ex = min (3 + s.bu) 5) : (s.drawn d).Valid ∧ pot (s.drawn d) ≤ (powE s.ex - 1) + 2 + restB s.bu ∧ (s.drawn d).bu = s.bu ∧ ((s.drawn d).st = 1 ∨ (s.drawn d).st = 2) := by
  obtain ⟨st, bu, ex, cl, wt⟩ := s
  dsimp only at hb he
  have hc := powE_cases ex (by omega)
  unfold Bk.drawn
  dsimp only
  generalize powE ex = P at *
  have h1 := Int.emod_nonneg d (by omega : P ≠ 0)
  have h2 := Int.emod_lt_of_pos d (by omega : 0 < P)
  generalize d % P = q at *
  by_cases hq : q = 0
  · subst hq
    simp only [if_true, Bk.Valid, pot]
    refine ⟨⟨hb.1, by omega, he, .inr ⟨hb.2, .inr (.inl ⟨by first | trivial | rfl, by omega, by omega, by first | trivial | rfl⟩)⟩⟩, ?_, by simp, by simp⟩
    simp; omega
  · simp only [hq, if_false, Bk.Valid, pot]
    refine ⟨⟨hb.1, by omega, he, .inr ⟨hb.2, .inl ⟨by first | trivial | rfl, by first | trivial | rfl, by omega, by omega⟩⟩⟩, ?_, by simp, by simp⟩
    simp; omega
theorem begin_valid (d : Int) : (beginB d).Valid ∧ pot (beginB d) ≤ 125 ∧ (beginB d).bu = 0 ∧ ((beginB d).st = 1 ∨ (beginB d).st = 2) := by
  have h := drawn_valid ⟨0, 0, 3, 0, 0⟩ d (by decide) (by decide)
  refine ⟨h.1, Int.le_trans h.2.1 (by decide), h.2.2.1, h.2.2.2⟩

theorem step_one (s : Bk) (b : Bool) (d : Int) (h : s.Valid) (he : s.st = 1) :
    (s.step b d).Valid ∧ pot (s.step b d) ≤ pot s - 1 ∧ (s.step b d).bu = s.bu ∧ (s.step b d).cl = 2 ∧ ((s.step b d).st = 1 ∨ (s.step b d).st = 2) := by
  have e : s.step b d = ⟨if s.wt - 1 = 0 then 2 else s.st, s.bu, s.ex, s.cl, s.wt - 1⟩ := by
    unfold Bk.step bvB
    rw [if_pos (by simpa using h), if_pos he]
  rw [e]
  obtain ⟨st, bu, ex, cl, wt⟩ := s
  simp only [Bk.Valid] at h he ⊢
  subst he
  by_cases hw : wt - 1 = 0
  · have : wt = 1 := by omega
    subst this
    simp [pot]
    omega
  · simp [pot, hw]
    omega

theorem step_busy (s : Bk) (d : Int) (h : s.Valid) (he : s.st = 2) :
    (s.step true d).Valid ∧ pot (s.step true d) ≤ pot s - 1 ∧ (s.step true d).bu = s.bu + 1 ∧ (s.step true d).cl = 2 ∧
      ((s.bu ≤ 3 ∧ ((s.step true d).st = 1 ∨ (s.step true d).st = 2)) ∨ (s.bu = 4 ∧ (s.step true d).st = 4)) := by
  have e : s.step true d = (if s.bu + 1 ≤ 4 then Bk.drawn ⟨s.st, s.bu + 1, expB (s.bu + 1), s.cl, s.wt⟩ d else ⟨4, s.bu + 1, expB (s.bu + 1), 2, s.wt⟩) := by
    unfold Bk.step bvB
    rw [if_pos (by simpa using h), if_neg (by omega), if_pos he]
    rfl
  rw [e]
  have hv := h
  obtain ⟨h0, h5, hx, hr⟩ := h
  by_cases hb : s.bu + 1 ≤ 4
  · rw [if_pos hb]
    have k := drawn_valid ⟨s.st, s.bu + 1, expB (s.bu + 1), s.cl, s.wt⟩ d ⟨by dsimp only; omega, hb⟩ rfl
    refine ⟨k.1, Int.le_trans k.2.1 ?_, k.2.2.1, rfl, .inl ⟨by omega, k.2.2.2⟩⟩
    obtain ⟨st, bu, ex, cl, wt⟩ := s
    dsimp only at *
    subst he
    have hcl : 1 ≤ cl := by omega
    have hbu : bu = 0 ∨ bu = 1 ∨ bu = 2 ∨ bu = 3 := by omega
    clear k e hv hr hx hb h0 h5
    rcases hbu with rfl | rfl | rfl | rfl <;> simp [pot, restB, powE, expB] <;> omega
  · rw [if_neg hb]
    have h4 : s.bu = 4 := by omega
    obtain ⟨st, bu, ex, cl, wt⟩ := s
    dsimp only at *
    subst he h4
    have hw : wt = 0 ∧ 1 ≤ cl := by omega
    refine ⟨?_, ?_, rfl, rfl, .inr ⟨rfl, rfl⟩⟩
    · obtain ⟨rfl, _⟩ := hw
      exact show Bk.Valid ⟨4, 4 + 1, expB (4 + 1), 2, 0⟩ by decide
    · simp [pot, restB]
      omega

theorem step_clear (s : Bk) (d : Int) (h : s.Valid) (he : s.st = 2) :
    (s.step false d).Valid ∧ pot (s.step false d) ≤ pot s - 1 ∧ (s.step false d).bu = s.bu ∧ (s.step false d).cl = s.cl - 1 ∧
      ((s.cl = 2 ∧ (s.step false d).st = 2) ∨ (s.cl = 1 ∧ (s.step false d).st = 3)) := by
  have e : s.step false d = ⟨if s.cl - 1 = 0 then 3 else s.st, s.bu, s.ex, s.cl - 1, s.wt⟩ := by
    unfold Bk.step bvB
    rw [if_pos (by simpa using h), if_neg (by omega), if_pos he]
    rfl
  rw [e]
  obtain ⟨st, bu, ex, cl, wt⟩ := s
  simp only [Bk.Valid] at h he ⊢
  subst he
  have hc : cl = 1 ∨ cl = 2 := by omega
  rcases hc with rfl | rfl
  · simp [pot, restB]
    refine ⟨by omega, ?_⟩
    repeat' split
    all_goals omega
  · simp [pot]
    omega

def bk (s : S_Backoff) : Bk := ⟨s.State, s.Busy, s.Exponent, s.Clear, s.Wait⟩
def sb (b : Bk) : S_Backoff := ⟨b.st, b.bu, b.ex, b.cl, b.wt⟩
@[simp] theorem sb_bk (s : S_Backoff) : sb (bk s) = s := rfl
@[simp] theorem bk_sb (b : Bk) : bk (sb b) = b := rfl
theorem eqb_self (s : S_Backoff) : S_Backoff.eqb s s = true := by simp [S_Backoff.eqb]
theorem exp_eq (b : Int) (h0 : 0 ≤ b) (h5 : b ≤ 5) : F_backoff_exponent b = some (min (3 + b) 5) := by
  unfold F_backoff_exponent
  rw [wi (by omega) (by omega)]
  congr 1
  split <;> omega
theorem shl_cases {ex : Int} (h : 3 ≤ ex ∧ ex ≤ 5) : ishl .i64 1 ex = powE ex ∧ ishl .u32 1 ex = powE ex ∧ (powE ex = 8 ∧ ex = 3 ∨ powE ex = 16 ∧ ex = 4 ∨ powE ex = 32 ∧ ex = 5) := by
  have : ex = 3 ∨ ex = 4 ∨ ex = 5 := by omega
  rcases this with rfl | rfl | rfl <;> decide

theorem valid_eq (s : S_Backoff) : F_backoff_Valid s = some (bvB (bk s)) := by
  obtain ⟨st, bu, ex, cl, wt⟩ := s
  unfold F_backoff_Valid bvB
  simp only [bk, Bk.Valid]
  by_cases h0 : bu < 0
  · simp [h0, show ¬ (0 ≤ bu) by omega]
  by_cases h5 : bu > 5
  · simp [h0, h5, show ¬ (bu ≤ 5) by omega]
  simp only [h0, h5, decide_false, cond_false]
  rw [exp_eq bu (by omega) (by omega)]
  simp only [Option.bind_some]
  by_cases hx : ex = min (3 + bu) 5
  · have hr : 3 ≤ ex ∧ ex ≤ 5 := by omega
    obtain ⟨p1, _, p3⟩ := shl_cases hr
    rw [show (ex != min (3 + bu) 5) = false by simp [hx]]
    simp only [cond_false, p1, show decide (0 ≤ ex) = true by simp; omega, cond_true]
    have hw : IntKind.wrap .i64 (powE ex - 1) = powE ex - 1 := wi (by omega) (by omega)
    rw [hw]
    have e5 : bu ≤ 5 := by omega
    have e0 : 0 ≤ bu := by omega
    simp only [e0, e5, ← hx, true_and]
    repeat' (first | (apply congrArg some; (first | rfl | (symm; simp only [decide_eq_true_eq, decide_eq_false_iff_not, beq_iff_eq, beq_eq_false_iff_ne, ne_eq] at *; first | omega | (apply decide_eq_true; omega) | (apply decide_eq_false; omega) | (apply Bool.eq_iff_iff.2; simp only [decide_eq_true_eq, beq_iff_eq]; omega)))) | (rw [Bool.cond_eq_ite]; split))
  · rw [show (ex != min (3 + bu) 5) = true by simp [hx]]
    simp [hx]

theorem ended_eq (s : S_Backoff) : F_backoff_Ended s = some (endedB (bk s)) := by
  unfold F_backoff_Ended endedB
  rw [valid_eq]
  simp only [Option.bind_some, bvB]
  by_cases hv : (bk s).Valid
  · simp only [hv, decide_true, cond_true, true_and]
    by_cases h3 : s.State = 3
    · simp [h3, bk]
    · have e3 : (s.State == 3) = false := by simpa using h3
      rw [e3]
      simp only [cond_false, bk, h3, false_or]
      exact congrArg some (Bool.eq_iff_iff.2 (by simp))
  · simp [hv]
theorem drawn_eq (s : S_Backoff) (d : Int) (hx : 3 ≤ s.Exponent ∧ s.Exponent ≤ 5) (h0 : 0 ≤ d) (h1 : d ≤ 4294967295) : F_backoff_drawn s d = some (sb ((bk s).drawn d)) := by
  obtain ⟨st, bu, ex, cl, wt⟩ := s
  dsimp only at hx
  obtain ⟨_, p2, p3⟩ := shl_cases hx
  unfold F_backoff_drawn F_backoff_drawn_j1
  dsimp only
  rw [p2]
  simp only [show decide (0 ≤ ex) = true by simp; omega, cond_true, show decide (powE ex ≠ 0) = true by simp; omega, sb, bk, Bk.drawn]
  rw [Int.tmod_eq_emod_of_nonneg h0, wi (by have := Int.emod_nonneg d (show powE ex ≠ 0 by omega); omega) (by have := Int.emod_lt_of_pos d (show 0 < powE ex by omega); omega)]
  have h2 := Int.emod_nonneg d (show powE ex ≠ 0 by omega)
  by_cases hq : d % powE ex = 0
  · simp [hq]
  · rw [show decide (d % powE ex > 0) = true by simp; omega]
    simp [hq]
theorem begin_eq (d : Int) (h0 : 0 ≤ d) (h1 : d ≤ 4294967295) : F_backoff_Begin d = some (sb (beginB d)) := by
  unfold F_backoff_Begin
  rw [exp_eq 0 (by omega) (by omega)]
  simp only [Option.bind_some]
  rw [drawn_eq _ d (by decide) h0 h1]
  rfl
theorem sense_eq (s : S_Backoff) (b : Bool) (d : Int) (hv : (bk s).Valid) (h2 : s.State = 2) (h0 : 0 ≤ d) (h1 : d ≤ 4294967295) : F_backoff_sense s b d = some (sb ((bk s).sense b d)) := by
  obtain ⟨st, bu, ex, cl, wt⟩ := s
  unfold F_backoff_sense F_backoff_sense_j1
  have hv2 : Bk.Valid ⟨st, bu, ex, cl, wt⟩ := hv
  simp only [Bk.Valid] at hv2
  dsimp only at h2 ⊢
  rw [wi (x := bu + 1) (by omega) (by omega), wi (x := cl - 1) (by omega) (by omega)]
  cases b
  · simp only [cond_false, Bk.sense, bk, sb]
    by_cases hc : cl - 1 = 0
    · simp [hc]
    · simp [hc, beqF hc]
  · simp only [cond_true, Bk.sense, bk]
    rw [exp_eq _ (by omega) (by omega)]
    simp only [Option.bind_some, if_true]
    by_cases hb : bu + 1 ≤ 4
    · simp only [hb, decide_true, cond_true, if_true]
      rw [drawn_eq _ d (by dsimp only; omega) h0 h1]
      rfl
    · simp only [hb, decide_false, cond_false, if_false]
      rfl
theorem step_eq (s : S_Backoff) (b : Bool) (d : Int) (h0 : 0 ≤ d) (h1 : d ≤ 4294967295) : F_backoff_Step s b d = some (sb ((bk s).step b d)) := by
  unfold F_backoff_Step F_backoff_Step_j1
  rw [valid_eq]
  simp only [Option.bind_some]
  by_cases hv : (bk s).Valid
  · simp only [Bk.step, bvB, hv, decide_true, cond_true, if_true]
    by_cases e1 : s.State = 1
    · have e1' : (bk s).st = 1 := e1
      rw [if_pos e1', show (s.State == 1) = true by simp [e1]]
      have hv2 := hv
      simp only [Bk.Valid, bk] at hv2
      rw [wi (x := s.Wait - 1) (by omega) (by omega)]
      simp only [cond_true]
      by_cases hw : s.Wait - 1 = 0
      · simp [hw, bk, sb]
      · simp [hw, beqF hw, bk, sb]
    · have e1' : ¬ (bk s).st = 1 := e1
      rw [if_neg e1', show (s.State == 1) = false by simp [e1]]
      simp only [cond_false]
      by_cases e2 : s.State = 2
      · have e2' : (bk s).st = 2 := e2
        rw [if_pos e2', show (s.State == 2) = true by simp [e2]]
        simp only [cond_true]
        rw [sense_eq s b d hv e2 h0 h1]
        rfl
      · have e2' : ¬ (bk s).st = 2 := e2
        rw [if_neg e2', show (s.State == 2) = false by simp [e2]]
        rfl
  · simp [Bk.step, bvB, hv, sb]
end
section
open Go.RowKit

def A00 : S_Addr := S_Addr.mk 0 0 0
def AdrOk (a : S_Addr) : Prop := (a.Mode = 2 ∧ a.EUI = 0 ∧ 0 ≤ a.Short ∧ a.Short ≤ 65535) ∨ (a.Mode = 3 ∧ a.Short = 0 ∧ 0 ≤ a.EUI ∧ a.EUI ≤ 18446744073709551615)
def bcast (a : S_Addr) : Prop := a.Mode = 2 ∧ a.Short = 65535
def adrL (a : S_Addr) : List Int := if a.Mode = 2 then beB a.Short 2 else beB a.EUI 8
def flg (b : Bool) (n : Int) : Int := bif b then n else 0
/-- the first three bytes -/
def hd3 (f : S_Frame) : List Int := [64 * f.Kind + flg f.AckRequest 32 + flg f.Pending 16 + flg f.Secure 8, 64 * f.Dst.Mode + 16 * f.Src.Mode, f.Seq]
def adrs (f : S_Frame) : List Int := if f.Kind = 2 then [] else beB f.Pan 2 ++ adrL f.Dst ++ adrL f.Src
def secs (f : S_Frame) : List Int := bif f.Secure then beB f.Counter 4 ++ [f.Key] else []
def hdL (f : S_Frame) : List Int := hd3 f ++ adrs f ++ secs f ++ f.Payload
structure GoodF (f : S_Frame) : Prop where
  kind : f.Kind = 1 ∨ f.Kind = 2 ∨ f.Kind = 3
  seq : 0 ≤ f.Seq ∧ f.Seq ≤ 255
  ack : f.Kind = 2 → f = S_Frame.mk 2 false f.Pending false f.Seq 0 A00 A00 0 0 [] []
  adr : f.Kind ≠ 2 → AdrOk f.Dst ∧ AdrOk f.Src ∧ ¬ bcast f.Src ∧ (f.AckRequest = true → ¬ bcast f.Dst) ∧ 0 ≤ f.Pan ∧ f.Pan ≤ 65535
  sec : f.Secure = true → 0 ≤ f.Counter ∧ f.Counter ≤ 4294967295 ∧ 0 ≤ f.Key ∧ f.Key ≤ 255 ∧ f.MIC.length = 4
  nos : f.Secure = false → f.Counter = 0 ∧ f.Key = 0 ∧ f.MIC = []
  pay : okB f.Payload
  mic : okB f.MIC
  size : (hdL f).length + f.MIC.length + 2 ≤ 127

theorem adrL_len (a : S_Addr) : (adrL a).length = if a.Mode = 2 then 2 else 8 := by
  unfold adrL
  split <;> rw [beB_len]
theorem adrL_le (a : S_Addr) : (adrL a).length ≤ 8 := by
  unfold adrL
  split <;> rw [beB_len] <;> omega
theorem hd3_len (f : S_Frame) : (hd3 f).length = 3 := rfl
theorem adrs_le (f : S_Frame) : (adrs f).length ≤ 18 := by
  have h1 := adrL_le f.Dst
  have h2 := adrL_le f.Src
  unfold adrs
  split
  · simp
  · simp only [List.length_append, beB_len]; omega
theorem secs_le (f : S_Frame) : (secs f).length ≤ 5 := by
  unfold secs
  cases f.Secure
  · simp
  · simp only [cond_true, List.length_append, beB_len, List.length_singleton]; omega
/-- the length, as the program counts it -/
def lenF (f : S_Frame) : Int := 3 + f.Payload.length + 2 + (if f.Kind = 2 then 0 else 2 + (if f.Dst.Mode = 2 then 2 else 8) + (if f.Src.Mode = 2 then 2 else 8)) + (bif f.Secure then 5 + (f.MIC.length : Int) else 0)
theorem lenF_eq {f : S_Frame} (h : GoodF f) : lenF f = ((hdL f).length : Int) + f.MIC.length + 2 := by
  have hs : ((secs f).length : Int) = (bif f.Secure then 5 else 0) := by
    unfold secs
    cases f.Secure
    · rfl
    · simp only [cond_true, List.length_append, beB_len, List.length_singleton]; rfl
  have ha : ((adrs f).length : Int) = (if f.Kind = 2 then 0 else 2 + (if f.Dst.Mode = 2 then 2 else 8) + (if f.Src.Mode = 2 then 2 else 8)) := by
    unfold adrs
    split
    · rfl
    · rename_i hk
      obtain ⟨d, s, _⟩ := h.adr hk
      simp only [List.length_append, beB_len, adrL_len]
      split <;> split <;> rfl
  have hm : f.Secure = false → f.MIC.length = 0 := fun e => by rw [(h.nos e).2.2]; rfl
  unfold lenF hdL
  simp only [List.length_append, hd3_len]
  cases hc : f.Secure
  · rw [hc] at hs
    simp only [cond_false] at hs ⊢
    have := hm hc
    omega
  · rw [hc] at hs
    simp only [cond_true] at hs ⊢
    omega

theorem f_addrBytes {a : S_Addr} (h : AdrOk a) : F_frame_addrBytes a = some (if a.Mode = 2 then 2 else 8) := by
  unfold F_frame_addrBytes
  rcases h with h | h
  · rw [h.1]; rfl
  · rw [h.1]; rfl
theorem f_length {f : S_Frame} (h : GoodF f) : F_frame_length f = some (lenF f) := by
  have hp : (f.Payload.length : Int) ≤ 127 := by
    have := h.size
    unfold hdL at this
    simp only [List.length_append] at this
    omega
  have hm : (f.MIC.length : Int) ≤ 127 := by have := h.size; omega
  unfold F_frame_length F_frame_length_j1 F_frame_length_j2 lenF
  by_cases hk : f.Kind = 2
  · rw [show (f.Kind != 2) = false by simp [hk], if_pos hk]
    simp only [cond_false]
    cases f.Secure
    · simp only [cond_false]
      rw [wi (x := 3 + (f.Payload.length : Int)) (by omega) (by omega), wi (by omega) (by omega)]
      congr 1
    · simp only [cond_true]
      rw [wi (x := 3 + (f.Payload.length : Int)) (by omega) (by omega), wi (x := 3 + (f.Payload.length : Int) + 2) (by omega) (by omega), wi (x := 5 + (f.MIC.length : Int)) (by omega) (by omega), wi (by omega) (by omega)]
      congr 1
  · obtain ⟨d, s, _⟩ := h.adr hk
    rw [show (f.Kind != 2) = true by simp [hk], if_neg hk, f_addrBytes d, f_addrBytes s]
    simp only [cond_true, Option.bind_some]
    generalize ea : (if f.Dst.Mode = 2 then (2 : Int) else 8) = x
    generalize eb : (if f.Src.Mode = 2 then (2 : Int) else 8) = y
    have hx : 0 ≤ x ∧ x ≤ 8 := by rw [← ea]; split <;> omega
    have hy : 0 ≤ y ∧ y ≤ 8 := by rw [← eb]; split <;> omega
    rw [wi (x := 3 + (f.Payload.length : Int)) (by omega) (by omega), wi (x := 3 + (f.Payload.length : Int) + 2) (by omega) (by omega), wi (x := 2 + x) (by omega) (by omega), wi (x := 2 + x + y) (by omega) (by omega), wi (x := 3 + (f.Payload.length : Int) + 2 + (2 + x + y)) (by omega) (by omega)]
    cases f.Secure
    · simp only [cond_false]
      congr 1; omega
    · simp only [cond_true]
      rw [wi (x := 5 + (f.MIC.length : Int)) (by omega) (by omega), wi (by omega) (by omega)]
theorem f_avalid {a : S_Addr} (h : AdrOk a) : F_address_Valid a = some true := by
  unfold F_address_Valid
  rcases h with h | h
  · rw [h.1, h.2.1]; rfl
  · rw [h.1, h.2.1]; rfl
theorem f_amode {a : S_Addr} (h : AdrOk a) : (a.Mode == 0) = false := by
  rcases h with h | h
  · rw [h.1]; rfl
  · rw [h.1]; rfl
theorem f_abc {a : S_Addr} (h : ¬ bcast a) : F_address_IsBroadcast a = some false := by
  unfold F_address_IsBroadcast S_Addr.eqb
  by_cases h1 : a.Mode = 2
  · have h2 : a.Short ≠ 65535 := fun e => h ⟨h1, e⟩
    simp [h2]
  · simp [h1]
theorem f_valid {f : S_Frame} (h : GoodF f) : F_frame_Valid f = some true := by
  unfold F_frame_Valid F_frame_Valid_j1
  by_cases hk : f.Kind = 2
  · have e := h.ack hk
    rw [e]
    rfl
  · obtain ⟨d, s, nb, na, _⟩ := h.adr hk
    have hv : F_frame_validData f = some true := by
      have hl : decide (lenF f ≤ 127) = true := by
        rw [lenF_eq h]
        have := h.size
        exact decT (by omega)
      unfold F_frame_validData
      rw [f_avalid d, f_avalid s, f_amode d, f_amode s, f_abc nb, f_length h]
      simp only [Option.bind_some, cond_true, cond_false, hl]
      cases ha : f.AckRequest
      · cases hs : f.Secure
        · obtain ⟨c, k, m⟩ := h.nos hs
          rw [c, k, m]
          rfl
        · obtain ⟨_, _, _, _, m⟩ := h.sec hs
          rw [m]
          rfl
      · rw [f_abc (na ha)]
        cases hs : f.Secure
        · obtain ⟨c, k, m⟩ := h.nos hs
          rw [c, k, m]
          rfl
        · obtain ⟨_, _, _, _, m⟩ := h.sec hs
          rw [m]
          rfl
    rw [hv, show (f.Kind == 2) = false by simp [hk]]
    rcases h.kind with e | e | e
    · rw [e]; rfl
    · exact absurd e hk
    · rw [e]; rfl
theorem good_pay {f : S_Frame} (h : GoodF f) : f.Payload.length ≤ 127 ∧ f.MIC.length ≤ 127 := by
  have := h.size
  unfold hdL at this
  simp only [List.length_append] at this
  omega
def tB (a : BitVec 16) : BitVec 16 := bif a.getLsbD 0 then (a >>> 1) ^^^ 33800#16 else a >>> 1
end
section
open Go.RowKit

theorem hd_le (f : S_Frame) : (hdL f).length ≤ 26 + f.Payload.length := by
  have h1 := adrs_le f
  have h2 := secs_le f
  unfold hdL
  simp only [List.length_append, hd3_len]
  omega
/-- a plain frame -/
theorem good_plain {k : Int} (hk : k = 1 ∨ k = 3) {a p : Bool} {s n : Int} {d c : S_Addr} {l : List Int} (hs : 0 ≤ s ∧ s ≤ 255) (hn : 0 ≤ n ∧ n ≤ 65535) (hd : AdrOk d) (hc : AdrOk c) (hb : ¬ bcast c) (ha : a = true → ¬ bcast d) (hl : okB l) (hz : l.length ≤ 60) : GoodF (S_Frame.mk k a p false s n d c 0 0 l []) where
  kind := by dsimp only; omega
  seq := hs
  ack := fun e => by dsimp only at e; omega
  adr := fun _ => ⟨hd, hc, hb, ha, hn⟩
  sec := fun e => by cases e
  nos := fun _ => ⟨rfl, rfl, rfl⟩
  pay := hl
  mic := okB_nil
  size := by
    have := hd_le (S_Frame.mk k a p false s n d c 0 0 l [])
    dsimp only at this
    dsimp only [List.length_nil]
    omega
end
section
open Go.RowKit

theorem addr_refl (a : S_Addr) : S_Addr.eqb a a = true := by
  unfold S_Addr.eqb
  simp
end
section
open Go.RowKit

theorem same_refl (a : List Int) (ha : a.length ≤ 1000000000000) : F_ref01_Same a a = some true := by
  unfold F_ref01_Same
  rw [show ((a.length : Int) != (a.length : Int)) = false by simp]
  simp only [cond_false]
  have hl := loop_run (step := F_ref01_Same_l1 a a) (S := fun k => (k : Int)) a.length (r := Sum.inl ()) (fun k hk => by
    unfold F_ref01_Same_l1
    rw [decT (show (k : Int) < (a.length : Int) by omega), idx_lt hk, wk k (by omega)]
    simp) (by
    unfold F_ref01_Same_l1
    rw [decF (show ¬ (a.length : Int) < (a.length : Int) by omega)]
    rfl)
  simp only [Int.natCast_zero] at hl
  rw [hl]
  rfl
end
section
open Go.RowKit

theorem fsame_refl {f : S_Frame} (h : GoodF f) : F_ref05_Same f f = some true := by
  obtain ⟨hP, hM⟩ := good_pay h
  unfold F_ref05_Same
  rw [addr_refl, addr_refl, same_refl _ (by omega), same_refl _ (by omega)]
  simp
end
section
open Go.RowKit

theorem bF {a b : Int} (h : a ≠ b) : (a == b) = false := beq_eq_false_iff_ne.2 h
theorem bT {a b : Int} (h : a = b) : (a == b) = true := beq_iff_eq.2 h
structure AdrWf (a : S_Addr) : Prop where
  short : 0 ≤ a.Short ∧ a.Short ≤ 65535
  eui : 0 ≤ a.EUI ∧ a.EUI ≤ 18446744073709551615
instance (a : S_Addr) : Decidable (AdrOk a) := by unfold AdrOk; infer_instance
instance (a : S_Addr) : Decidable (bcast a) := by unfold bcast; infer_instance
structure WfF (f : S_Frame) : Prop where
  seq : 0 ≤ f.Seq ∧ f.Seq ≤ 255
  pan : 0 ≤ f.Pan ∧ f.Pan ≤ 65535
  dst : AdrWf f.Dst
  src : AdrWf f.Src
  cnt : 0 ≤ f.Counter ∧ f.Counter ≤ 4294967295
  key : 0 ≤ f.Key ∧ f.Key ≤ 255
  pay : okB f.Payload
  payl : f.Payload.length ≤ 140737488351232
  mic : okB f.MIC
  micl : f.MIC.length ≤ 140737488351232
/-- what the place of a frame allows: the length may be counted, the header may be built -/
structure HdOk (f : S_Frame) : Prop where
  wf : WfF f
  kind : f.Kind = 1 ∨ f.Kind = 3
  dst : AdrOk f.Dst
  src : AdrOk f.Src
theorem HdOk.k2 {f : S_Frame} (h : HdOk f) : f.Kind ≠ 2 := by have := h.kind; omega
theorem avalid_not {a : S_Addr} (w : AdrWf a) (h : ¬ AdrOk a) : F_address_Valid a = some false ∨ (F_address_Valid a = some true ∧ a.Mode = 0) := by
  have h1 := w.short
  have h2 := w.eui
  unfold F_address_Valid
  by_cases m0 : a.Mode = 0
  · rw [m0]
    cases S_Addr.eqb a (S_Addr.mk 0 0 0)
    · exact Or.inl rfl
    · exact Or.inr ⟨rfl, rfl⟩
  refine Or.inl ?_
  rw [bF m0]
  by_cases m2 : a.Mode = 2
  · have : a.EUI ≠ 0 := fun e => h (Or.inl ⟨m2, e, h1⟩)
    rw [bT m2, bF this]; rfl
  by_cases m3 : a.Mode = 3
  · have : a.Short ≠ 0 := fun e => h (Or.inr ⟨m3, e, h2⟩)
    rw [bF m2, bT m3, bF this]; rfl
  · rw [bF m2, bF m3]; rfl
theorem abc_yes {a : S_Addr} (w : AdrOk a) (h : bcast a) : F_address_IsBroadcast a = some true := by
  unfold F_address_IsBroadcast S_Addr.eqb
  rcases w with w | w
  · rw [h.1, h.2, w.2.1]; rfl
  · have := h.1; omega
theorem len_any {f : S_Frame} (h : HdOk f) : F_frame_length f = some (lenF f) ∧ 0 ≤ lenF f ∧ lenF f ≤ 281474976702600 := by
  have hp := h.wf.payl
  have hm := h.wf.micl
  unfold F_frame_length F_frame_length_j1 F_frame_length_j2 lenF
  rw [show (f.Kind != 2) = true by simp [h.k2], if_neg h.k2, f_addrBytes h.dst, f_addrBytes h.src]
  simp only [cond_true, Option.bind_some]
  generalize ea : (if f.Dst.Mode = 2 then (2 : Int) else 8) = x
  generalize eb : (if f.Src.Mode = 2 then (2 : Int) else 8) = y
  have hx : 0 ≤ x ∧ x ≤ 8 := by rw [← ea]; split <;> omega
  have hy : 0 ≤ y ∧ y ≤ 8 := by rw [← eb]; split <;> omega
  rw [wi (x := 3 + (f.Payload.length : Int)) (by omega) (by omega), wi (x := 3 + (f.Payload.length : Int) + 2) (by omega) (by omega), wi (x := 2 + x) (by omega) (by omega), wi (x := 2 + x + y) (by omega) (by omega), wi (x := 3 + (f.Payload.length : Int) + 2 + (2 + x + y)) (by omega) (by omega)]
  cases f.Secure
  · simp only [cond_false]
    exact ⟨by congr 1; omega, by omega, by omega⟩
  · simp only [cond_true]
    rw [wi (x := 5 + (f.MIC.length : Int)) (by omega) (by omega), wi (by omega) (by omega)]
    exact ⟨rfl, by omega, by omega⟩
/-- the rule for the security -/
def secB (f : S_Frame) : Bool := bif f.Secure then (f.MIC.length : Int) == 4 else ((f.Counter == 0) && ((f.Key == 0) && ((f.MIC.length : Int) == 0)))
noncomputable def tailF (f : S_Frame) : Option Bool := bif f.Secure then
                    bif ((List.length f.MIC : Int) != 4) then
                      some (false)
                    else
                      (F_frame_length f).bind fun v14 =>
                      some ((decide (v14 ≤ 127)))
                  else
                    bif (f.Counter != 0) then
                      some (false)
                    else
                      bif (f.Key != 0) then
                        some (false)
                      else
                        bif ((List.length f.MIC : Int) != 0) then
                          some (false)
                        else
                          (F_frame_length f).bind fun v18 =>
                          some ((decide (v18 ≤ 127)))
theorem tailF_eq {f : S_Frame} (h : HdOk f) : tailF f = some (secB f && decide (lenF f ≤ 127)) := by
  unfold tailF secB
  rw [(len_any h).1]
  simp only [Option.bind_some, bne]
  cases f.Secure
  · cases f.Counter == 0
    · rfl
    · cases f.Key == 0
      · rfl
      · cases (f.MIC.length : Int) == 0 <;> simp
  · cases (f.MIC.length : Int) == 4 <;> simp
/-- the rule for data and commands -/
def dataB (f : S_Frame) : Bool := decide (AdrOk f.Dst ∧ AdrOk f.Src ∧ ¬ bcast f.Src ∧ (f.AckRequest = true → ¬ bcast f.Dst)) && (secB f && decide (lenF f ≤ 127))
theorem dataB_of {f : S_Frame} (d : AdrOk f.Dst) (s : AdrOk f.Src) (n : ¬ bcast f.Src) (a : f.AckRequest = true → ¬ bcast f.Dst) : dataB f = (secB f && decide (lenF f ≤ 127)) := by
  unfold dataB
  rw [decide_eq_true (show AdrOk f.Dst ∧ AdrOk f.Src ∧ ¬ bcast f.Src ∧ (f.AckRequest = true → ¬ bcast f.Dst) from ⟨d, s, n, a⟩), Bool.true_and]
theorem dataB_not {f : S_Frame} (h : ¬ (AdrOk f.Dst ∧ AdrOk f.Src ∧ ¬ bcast f.Src ∧ (f.AckRequest = true → ¬ bcast f.Dst))) : dataB f = false := by
  unfold dataB
  rw [decide_eq_false h, Bool.false_and]
theorem vdata_eq {f : S_Frame} (w : WfF f) (hk : f.Kind = 1 ∨ f.Kind = 3) : F_frame_validData f = some (dataB f) := by
  have e : F_frame_validData f = ((F_address_Valid f.Dst).bind fun v1 => bif v1 then bif (f.Dst.Mode == 0) then some false else (F_address_Valid f.Src).bind fun v4 => bif v4 then bif (f.Src.Mode == 0) then some false else (F_address_IsBroadcast f.Src).bind fun v7 => bif v7 then some false else bif f.AckRequest then (F_address_IsBroadcast f.Dst).bind fun v10 => bif v10 then some false else tailF f else tailF f else some false else some false) := rfl
  rw [e]
  by_cases d : AdrOk f.Dst
  · by_cases s : AdrOk f.Src
    · rw [f_avalid d, f_avalid s, f_amode d, f_amode s, tailF_eq ⟨w, hk, d, s⟩]
      simp only [Option.bind_some, cond_true, cond_false]
      by_cases n : bcast f.Src
      · rw [abc_yes s n, dataB_not (fun q => q.2.2.1 n)]; rfl
      · rw [f_abc n]
        simp only [Option.bind_some, cond_false]
        cases ha : f.AckRequest
        · rw [dataB_of d s n (fun e => by rw [ha] at e; cases e)]; rfl
        · by_cases b : bcast f.Dst
          · rw [abc_yes d b, dataB_not (fun q => q.2.2.2 ha b)]; rfl
          · rw [f_abc b, dataB_of d s n (fun _ => b)]; rfl
    · rw [f_avalid d, f_amode d, dataB_not (fun q => s q.2.1)]
      simp only [Option.bind_some, cond_true, cond_false]
      rcases avalid_not w.src s with q | ⟨q, q2⟩
      · rw [q]; rfl
      · rw [q, q2]; rfl
  · rw [dataB_not (fun q => d q.1)]
    rcases avalid_not w.dst d with q | ⟨q, q2⟩
    · rw [q]; rfl
    · rw [q, q2]; rfl
noncomputable def validB (f : S_Frame) : Bool := bif f.Kind == 2 then (F_frame_validAck f).getD false else bif (f.Kind == 1) || (f.Kind == 3) then dataB f else false
theorem ack_some (f : S_Frame) : F_frame_validAck f = some ((F_frame_validAck f).getD false) := by
  unfold F_frame_validAck
  cases f.AckRequest <;> cases f.Secure <;> cases f.Pan == 0 <;> cases f.Counter == 0 <;> cases f.Key == 0 <;> cases S_Addr.eqb f.Dst (S_Addr.mk 0 0 0) <;> cases S_Addr.eqb f.Src (S_Addr.mk 0 0 0) <;> cases (f.Payload.length : Int) == 0 <;> rfl
theorem f_valid_eq {f : S_Frame} (w : WfF f) : F_frame_Valid f = some (validB f) := by
  unfold F_frame_Valid F_frame_Valid_j1 validB
  by_cases k2 : f.Kind = 2
  · rw [k2, ack_some f]; rfl
  · rw [show (f.Kind == 2) = false by simp [k2]]
    by_cases k1 : f.Kind = 1
    · rw [vdata_eq w (Or.inl k1), k1]; rfl
    · by_cases k3 : f.Kind = 3
      · rw [vdata_eq w (Or.inr k3), k3]; rfl
      · rw [show (f.Kind == 1) = false by simp [k1], show (f.Kind == 3) = false by simp [k3]]; rfl
theorem good_wf {f : S_Frame} (h : GoodF f) : WfF f where
  seq := h.seq
  pan := by
    by_cases k : f.Kind = 2
    · rw [h.ack k]; exact ⟨Int.le_refl 0, by show (0 : Int) ≤ 65535; omega⟩
    · exact (h.adr k).2.2.2.2
  dst := by
    by_cases k : f.Kind = 2
    · rw [h.ack k]; exact ⟨⟨Int.le_refl 0, by show (0 : Int) ≤ 65535; omega⟩, Int.le_refl 0, by show (0 : Int) ≤ 18446744073709551615; omega⟩
    · rcases (h.adr k).1 with q | q
      · exact ⟨q.2.2, by omega⟩
      · exact ⟨by omega, q.2.2⟩
  src := by
    by_cases k : f.Kind = 2
    · rw [h.ack k]; exact ⟨⟨Int.le_refl 0, by show (0 : Int) ≤ 65535; omega⟩, Int.le_refl 0, by show (0 : Int) ≤ 18446744073709551615; omega⟩
    · rcases (h.adr k).2.1 with q | q
      · exact ⟨q.2.2, by omega⟩
      · exact ⟨by omega, q.2.2⟩
  cnt := by
    cases e : f.Secure
    · rw [(h.nos e).1]; decide
    · exact ⟨(h.sec e).1, (h.sec e).2.1⟩
  key := by
    cases e : f.Secure
    · rw [(h.nos e).2.1]; decide
    · exact ⟨(h.sec e).2.2.1, (h.sec e).2.2.2.1⟩
  pay := h.pay
  payl := by have := (good_pay h).1; omega
  mic := h.mic
  micl := by have := (good_pay h).2; omega
theorem valid_good {f : S_Frame} (h : GoodF f) : validB f = true := by
  have := f_valid_eq (good_wf h)
  rw [f_valid h] at this
  exact (Option.some.inj this).symm
end
section
open Go.RowKit

def B0 : S_Backoff := S_Backoff.mk 0 0 0 0 0
def L0 : S_Link := S_Link.mk [] 0 0 B0 0
structure WfL (l : S_Link) : Prop where
  fr : ∀ f ∈ l.Queue, WfF f
  len : l.Queue.length ≤ 140737488351232
noncomputable def sendB (f : S_Frame) : Bool := validB f && (f.Kind != 2)
def headAck (q : List S_Frame) : Bool := match q with
  | [] => false
  | f :: _ => f.AckRequest
noncomputable def linkB (l : S_Link) : Bool := decide (l.Queue.length ≤ 16) && l.Queue.all sendB &&
  (if l.Queue.length = 0 then (l.Phase == 0) && (l.Attempts == 0) && S_Backoff.eqb l.Backoff B0 && (l.Left == 0)
   else if l.Phase = 1 then decide (0 ≤ l.Attempts) && decide (l.Attempts ≤ 3) && bvB (bk l.Backoff) && !endedB (bk l.Backoff) && (l.Left == 0)
   else if l.Phase = 2 then headAck l.Queue && decide (1 ≤ l.Attempts) && decide (l.Attempts ≤ 4) && S_Backoff.eqb l.Backoff B0 && decide (1 ≤ l.Left) && decide (l.Left ≤ 3)
   else false)
theorem send_p {f : S_Frame} (w : WfF f) : F_transmit_validFrame f = some (sendB f) := by
  unfold F_transmit_validFrame sendB
  rw [f_valid_eq w]
  cases validB f <;> rfl
/-- a loop that asks something of every element -/
theorem loop_every {α : Type} (q : List α) (p : α → Bool) (hq : q.length ≤ 4611686018427387904) {step : Int → Option (Int ⊕ (Unit ⊕ Bool))}
    (h : ∀ k (hk : k < q.length), step (k : Int) = if p q[k] then some (.inl (IntKind.wrap .i64 ((k : Int) + 1))) else some (.inr (.inr false))) (he : step (q.length : Int) = some (.inr (.inl ()))) : loopO step 0 = some (if q.all p then .inl () else .inr false) := by
  have hl := loop_all (step := step) (S := fun k => (k : Int)) q.length (fun k => if hk : k < q.length then p q[k] else true) (rt := .inl ()) (rf := .inr false) (fun k hk hp => by
    rw [dif_pos hk] at hp
    rw [h k hk, if_pos hp, wk k (by omega)]) (fun k hk hp => by
    rw [dif_pos hk] at hp
    rw [h k hk, if_neg (by rw [hp]; simp)]) he
  simp only [Int.natCast_zero] at hl
  rw [hl]
  congr 1
  by_cases ha : q.all p = true
  · rw [if_pos ha, if_pos]
    intro k hk
    rw [dif_pos hk]
    exact List.all_eq_true.1 ha _ (List.getElem_mem hk)
  · rw [if_neg ha, if_neg]
    intro hh
    apply ha
    rw [List.all_eq_true]
    intro x hx
    obtain ⟨k, hk, rfl⟩ := List.getElem_of_mem hx
    have := hh k hk
    rwa [dif_pos hk] at this
theorem idxK {α : Type} {l : List α} {k : Nat} (h : k < l.length) : idx l (k : Int) = some l[k] := by
  unfold idx
  rw [if_pos (by omega), Int.toNat_natCast, List.getElem?_eq_getElem h]
theorem vl_p {l : S_Link} (w : WfL l) : loopO (F_transmit_Valid_l1 l) 0 = some (if l.Queue.all sendB then .inl () else .inr false) := by
  have hl := w.len
  refine loop_every l.Queue sendB (by omega) (fun k hk => ?_) ?_
  · unfold F_transmit_Valid_l1
    rw [decT (show (k : Int) < (l.Queue.length : Int) by omega), idxK hk, Option.bind_some, send_p (w.fr _ (List.getElem_mem hk))]
    simp only [cond_true, Option.bind_some]
    cases sendB l.Queue[k] <;> rfl
  · unfold F_transmit_Valid_l1
    rw [decF (by omega)]
    rfl
theorem valid_p {l : S_Link} (w : WfL l) : F_transmit_Valid l = some (linkB l) := by
  unfold F_transmit_Valid linkB
  by_cases h16 : l.Queue.length ≤ 16
  · rw [decF (show ¬ (l.Queue.length : Int) > 16 by omega), vl_p w, decT h16]
    simp only [cond_false, Option.bind_some, Bool.true_and]
    cases ha : l.Queue.all sendB
    · rfl
    simp only [if_true, Sum.elim_inl, Bool.true_and, valid_eq, ended_eq, Option.bind_some]
    by_cases h0 : l.Queue.length = 0
    · rw [if_pos h0, show ((l.Queue.length : Int) == 0) = true by simp [h0], cond_true]
      cases (l.Phase == 0) <;> cases (l.Attempts == 0) <;> (unfold B0; cases S_Backoff.eqb l.Backoff (S_Backoff.mk 0 0 0 0 0)) <;> simp
    · rw [if_neg h0, show ((l.Queue.length : Int) == 0) = false from beqF (by omega), cond_false]
      by_cases p1 : l.Phase = 1
      · rw [if_pos p1, show (l.Phase == 1) = true by simp [p1], cond_true]
        cases h1 : decide (0 ≤ l.Attempts) <;> simp only [ge_iff_le, h1, cond_true, cond_false, Bool.false_and, Bool.true_and]
        cases h2 : decide (l.Attempts ≤ 3) <;> simp only [cond_true, cond_false, Bool.false_and, Bool.true_and]
        cases bvB (bk l.Backoff) <;> cases endedB (bk l.Backoff) <;> simp
      · rw [if_neg p1, show (l.Phase == 1) = false by simp [p1], cond_false]
        by_cases p2 : l.Phase = 2
        · rw [if_pos p2, show (l.Phase == 2) = true by simp [p2], cond_true]
          obtain ⟨q, ph, at_, b, lf⟩ := l
          cases q with
          | nil => simp at h0
          | cons f r =>
            have e0 : idx (f :: r) 0 = some f := rfl
            simp only [e0, Option.bind_some, headAck]
            cases f.AckRequest <;> simp only [cond_true, cond_false, Bool.false_and, Bool.true_and]
            cases h1 : decide (1 ≤ at_) <;> simp only [ge_iff_le, h1, cond_true, cond_false, Bool.false_and, Bool.true_and]
            cases h2 : decide (at_ ≤ 4) <;> simp only [cond_true, cond_false, Bool.false_and, Bool.true_and]
            unfold B0
            cases S_Backoff.eqb b (S_Backoff.mk 0 0 0 0 0) <;> simp only [cond_true, cond_false, Bool.false_and, Bool.true_and]
            cases h3 : decide (1 ≤ lf) <;> rfl
        · rw [if_neg p2, show (l.Phase == 2) = false by simp [p2], cond_false]
  · rw [decT (show (l.Queue.length : Int) > 16 by omega), decF h16]
    simp
structure LinkOk (l : S_Link) : Prop where
  len : l.Queue.length ≤ 16
  send : ∀ f ∈ l.Queue, sendB f = true
theorem link_ok {l : S_Link} (h : linkB l = true) : LinkOk l := by
  unfold linkB at h
  simp only [Bool.and_eq_true, decide_eq_true_eq, List.all_eq_true] at h
  exact ⟨h.1.1, h.1.2⟩
theorem own_f {f : S_Frame} (w : WfF f) : F_transmit_ownFrame f = some f := by
  have h1 := w.payl
  have h2 := w.micl
  unfold F_transmit_ownFrame
  simp only [Cut.app]
  rw [appO_some (by simp; omega) (by simp; omega), Option.bind_some, appO_some (by simp; omega) (by simp; omega), Option.bind_some]
  rfl
theorem own_l {l : S_Link} (w : WfL l) (h : l.Queue.length ≤ 16) : F_transmit_own l = some l := by
  unfold F_transmit_own
  have hl := loop_run (step := F_transmit_own_l1 l) (S := fun k => (l.Queue.take k, (k : Int))) l.Queue.length (r := l.Queue) (fun k hk => by
    unfold F_transmit_own_l1
    dsimp only
    rw [decT (show (k : Int) < (l.Queue.length : Int) by omega), idxK hk, Option.bind_some, own_f (w.fr _ (List.getElem_mem hk))]
    simp only [cond_true, Option.bind_some, Cut.app]
    rw [appO_some (by simp; omega) (by simp; omega), Option.bind_some, wk k (by omega), take_snoc (List.getElem?_eq_getElem hk)]) (by
    unfold F_transmit_own_l1
    dsimp only
    rw [decF (by omega), List.take_length]
    rfl)
  simp only [Int.natCast_zero, List.take_zero] at hl
  rw [hl]
  rfl
def startL (q : List S_Frame) (d : Int) : S_Link := if q = [] then L0 else S_Link.mk q 1 0 (sb (beginB d)) 0
noncomputable def enqS (l : S_Link) (f : S_Frame) (d : Int) : S_Link × Int := if linkB l = true ∧ sendB f = true then
    (if l.Queue.length = 16 then (L0, 10) else if l.Queue = [] then (S_Link.mk [f] 1 0 (sb (beginB d)) 0, 0) else (S_Link.mk (l.Queue ++ [f]) l.Phase l.Attempts l.Backoff l.Left, 0))
  else (L0, 1)
theorem enq_p {l : S_Link} (w : WfL l) {f : S_Frame} (wf : WfF f) {d : Int} (d0 : 0 ≤ d) (d1 : d ≤ 4294967295) : F_transmit_Enqueue l f d = some (enqS l f d) := by
  unfold F_transmit_Enqueue F_transmit_Enqueue_j1 enqS
  rw [valid_p w, Option.bind_some]
  cases hv : linkB l
  · simp [L0, B0]
  have hk := link_ok hv
  have hk1 := hk.len
  rw [send_p wf, cond_true, Option.bind_some]
  cases hs : sendB f
  · simp [L0, B0]
  simp only [cond_true, and_self, if_true]
  by_cases h16 : l.Queue.length = 16
  · rw [if_pos h16, show ((l.Queue.length : Int) == 16) = true by simp; omega]
    rfl
  · rw [if_neg h16, show ((l.Queue.length : Int) == 16) = false from beqF (by omega), own_l w hk.len, own_f wf]
    simp only [cond_false, Option.bind_some, Cut.app]
    rw [appO_some (by simp; omega) (by simp; omega), Option.bind_some, begin_eq d d0 d1]
    by_cases h0 : l.Queue = []
    · rw [if_pos h0, h0]
      rfl
    · have hp : 0 < l.Queue.length := List.length_pos_iff.2 h0
      rw [if_neg h0, show (((l.Queue ++ [f]).length : Int) == 1) = false from beqF (by rw [List.length_append, List.length_singleton]; omega)]
      rfl
def failL (f : S_Frame) (r : List S_Frame) (n d : Int) : S_Link × List S_Outcome := if n > 3 then (startL r d, [S_Outcome.mk f false n]) else (S_Link.mk (f :: r) 1 n (sb (beginB d)) 0, [])
noncomputable def stpS (l : S_Link) (x : S_Slot) : S_Link × Bool × List S_Outcome := if linkB l then
    (match l.Queue with
    | [] => (l, false, [])
    | f :: r => if l.Phase = 1 then
        (let b := (bk l.Backoff).step x.Busy x.Draw
         if b.st = 3 then (if f.AckRequest then (S_Link.mk (f :: r) 2 (l.Attempts + 1) B0 3, true, []) else (startL r x.Draw, true, [S_Outcome.mk f true (l.Attempts + 1)]))
         else if b.st = 4 then ((failL f r (l.Attempts + 1) x.Draw).1, false, (failL f r (l.Attempts + 1) x.Draw).2)
         else (S_Link.mk (f :: r) 1 l.Attempts (sb b) l.Left, false, []))
      else if x.Ack = true ∧ x.Seq = f.Seq then (startL r x.Draw, false, [S_Outcome.mk f true l.Attempts])
      else if l.Left - 1 = 0 then ((failL f r l.Attempts x.Draw).1, false, (failL f r l.Attempts x.Draw).2)
      else (S_Link.mk (f :: r) l.Phase l.Attempts l.Backoff (l.Left - 1), false, []))
  else (L0, false, [])
theorem link_cases {f : S_Frame} {r : List S_Frame} {ph a lf : Int} {b : S_Backoff} (h : linkB (S_Link.mk (f :: r) ph a b lf) = true) : (ph = 1 ∧ 0 ≤ a ∧ a ≤ 3 ∧ (bk b).Valid ∧ (b.State = 1 ∨ b.State = 2) ∧ lf = 0) ∨ (ph = 2 ∧ f.AckRequest = true ∧ 1 ≤ a ∧ a ≤ 4 ∧ b = B0 ∧ 1 ≤ lf ∧ lf ≤ 3) := by
  unfold linkB at h
  simp only [Bool.and_eq_true] at h
  have h2 := h.2
  rw [if_neg (by simp)] at h2
  by_cases p1 : ph = 1
  · rw [if_pos p1] at h2
    simp only [Bool.and_eq_true, decide_eq_true_eq, beq_iff_eq, Bool.not_eq_true'] at h2
    obtain ⟨⟨⟨⟨q1, q2⟩, q3⟩, q4⟩, q5⟩ := h2
    have q3' : (bk b).Valid := by simpa [bvB] using q3
    have q4' : ¬ (b.State = 3 ∨ b.State = 4) := by
      intro hh
      have : endedB (bk b) = true := by unfold endedB; exact decide_eq_true ⟨q3', hh⟩
      rw [this] at q4; cases q4
    refine .inl ⟨p1, q1, q2, q3', ?_, q5⟩
    obtain ⟨_, _, _, hs⟩ := q3'
    simp only [bk] at hs
    omega
  · rw [if_neg p1] at h2
    by_cases p2 : ph = 2
    · rw [if_pos p2] at h2
      simp only [Bool.and_eq_true, decide_eq_true_eq, headAck] at h2
      obtain ⟨⟨⟨⟨⟨q1, q2⟩, q3⟩, q4⟩, q5⟩, q6⟩ := h2
      refine .inr ⟨p2, q1, q2, q3, ?_, q5, q6⟩
      obtain ⟨b1, b2, b3, b4, b5⟩ := b
      simp only [S_Backoff.eqb, B0, Bool.and_true, Bool.and_eq_true, beq_iff_eq] at q4
      obtain ⟨rfl, rfl, rfl, rfl, rfl⟩ := q4
      rfl
    · rw [if_neg p2] at h2; cases h2
theorem link_nil {ph a lf : Int} {b : S_Backoff} (h : linkB (S_Link.mk [] ph a b lf) = true) : S_Link.mk [] ph a b lf = L0 := by
  unfold linkB at h
  simp only [Bool.and_eq_true] at h
  have h2 := h.2
  rw [if_pos (by simp)] at h2
  simp only [Bool.and_eq_true, beq_iff_eq] at h2
  obtain ⟨⟨⟨rfl, rfl⟩, q⟩, rfl⟩ := h2
  obtain ⟨b1, b2, b3, b4, b5⟩ := b
  simp only [S_Backoff.eqb, B0, Bool.and_true, Bool.and_eq_true, beq_iff_eq] at q
  obtain ⟨rfl, rfl, rfl, rfl, rfl⟩ := q
  rfl
theorem tail_p (f : S_Frame) (r : List S_Frame) : subO (f :: r) 1 ((f :: r).length : Int) = some r := by
  rw [subO_some (by omega) (by simp; omega) (by omega)]
  simp
theorem head_i (f : S_Frame) (r : List S_Frame) : idx (f :: r) 0 = some f := rfl
theorem one_o (o : S_Outcome) : appO 136 ([] : List S_Outcome) (Cut.app .whole ([o] : List S_Outcome)) = some [o] := rfl
theorem tail_o {r : List S_Frame} (h : r.length ≤ 16) : appO 120 ([] : List S_Frame) (Cut.app .whole r) = some r := by
  simp only [Cut.app]
  rw [appO_some (by simp; omega) (by simp; omega), List.nil_append]
theorem isnil (r : List S_Frame) : ((r.length : Int) == 0) = decide (r = []) := by
  cases r with
  | nil => rfl
  | cons f r => exact beqF (by simp; omega)
theorem stp_p {l : S_Link} (w : WfL l) {x : S_Slot} (d0 : 0 ≤ x.Draw) (d1 : x.Draw ≤ 4294967295) : F_transmit_Step l x = some (stpS l x) := by
  unfold F_transmit_Step F_transmit_Step_j3 F_transmit_Step_j2 F_transmit_Step_j1 stpS
  rw [valid_p w, Option.bind_some]
  cases hv : linkB l
  · rfl
  have hk := link_ok hv
  rw [own_l w hk.len]
  simp only [cond_true, Option.bind_some, if_true]
  obtain ⟨q, ph, a, b, lf⟩ := l
  cases q with
  | nil =>
    have := link_nil hv
    simp only [L0, S_Link.mk.injEq, true_and] at this
    obtain ⟨rfl, rfl, rfl, rfl⟩ := this
    rfl
  | cons f r =>
    have hlen := hk.len
    simp only [List.length_cons] at hlen
    have e2 := tail_o (r := r) (by omega)
    have e3 := tail_p f r
    have eb := begin_eq x.Draw d0 d1
    rcases link_cases hv with ⟨rfl, a0, a3, hb, hbs, rfl⟩ | ⟨rfl, hack, a1, a4, rfl, l1, l3⟩
    · have w1 : IntKind.wrap .i64 (a + 1) = a + 1 := wi (by omega) (by omega)
      simp only [show ((1 : Int) == 1) = true from rfl, cond_true, step_eq b x.Busy x.Draw d0 d1, Option.bind_some, w1, head_i, one_o, e3, e2, eb, isnil, if_true, failL, startL]
      generalize (bk b).step x.Busy x.Draw = B
      by_cases s3 : B.st = 3
      · simp only [sb, s3, show ((3 : Int) == 3) = true from rfl, cond_true, if_true]
        cases f.AckRequest
        · simp only [cond_false, Bool.false_eq_true, if_false]
          by_cases hr : r = [] <;> simp only [hr, decide_true, decide_false, cond_true, cond_false, if_true, if_false, sb, L0, B0]
        · rfl
      · have s3' : (B.st == 3) = false := beqF s3
        simp only [sb, s3', s3, cond_false, if_false]
        by_cases s4 : B.st = 4
        · simp only [s4, show ((4 : Int) == 4) = true from rfl, cond_true, if_true]
          by_cases ha : a + 1 > 3
          · simp only [ha, decide_true, cond_true, if_true]
            by_cases hr : r = [] <;> simp only [hr, decide_true, decide_false, cond_true, cond_false, if_true, if_false, sb, L0, B0]
          · simp only [ha, decide_false, cond_false, if_false, sb]
        · have s4' : (B.st == 4) = false := beqF s4
          simp only [s4', s4, cond_false, if_false]
    · have w1 : IntKind.wrap .i64 (lf - 1) = lf - 1 := wi (by omega) (by omega)
      simp only [show ((2 : Int) == 1) = false from rfl, show ((2 : Int) == 2) = true from rfl, cond_true, cond_false, Option.bind_some, w1, head_i, one_o, e3, e2, eb, isnil, failL, startL, show ¬ ((2 : Int) = 1) by omega, if_false]
      cases hA : x.Ack
      · simp only [cond_false, Bool.false_eq_true, false_and, if_false]
        by_cases h1 : lf - 1 = 0
        · simp only [h1, show ((0 : Int) == 0) = true from rfl, cond_true, if_true]
          by_cases ha : a > 3
          · simp only [ha, decide_true, cond_true, if_true]
            by_cases hr : r = [] <;> simp only [hr, decide_true, decide_false, cond_true, cond_false, if_true, if_false, sb, L0, B0]
          · simp only [ha, decide_false, cond_false, if_false, sb]
        · simp only [beqF h1, h1, cond_false, if_false]
      · simp only [cond_true, true_and]
        by_cases hs : x.Seq = f.Seq
        · simp only [hs, BEq.rfl, cond_true, if_true]
          by_cases hr : r = [] <;> simp only [hr, decide_true, decide_false, cond_true, cond_false, if_true, if_false, sb, L0, B0]
        · simp only [beqF hs, hs, cond_false, if_false]
          by_cases h1 : lf - 1 = 0
          · simp only [h1, show ((0 : Int) == 0) = true from rfl, cond_true, if_true]
            by_cases ha : a > 3
            · simp only [ha, decide_true, cond_true, if_true]
              by_cases hr : r = [] <;> simp only [hr, decide_true, decide_false, cond_true, cond_false, if_true, if_false, sb, L0, B0]
            · simp only [ha, decide_false, cond_false, if_false, sb]
          · simp only [beqF h1, h1, cond_false, if_false]
end
section
open Go.RowKit

structure GoodL (l : S_Link) : Prop where
  fr : ∀ f ∈ l.Queue, GoodF f
  len : l.Queue.length ≤ 16
theorem GoodL.wf {l : S_Link} (h : GoodL l) : WfL l := ⟨fun f hf => good_wf (h.fr f hf), by have := h.len; omega⟩
theorem goodL0 : GoodL L0 := ⟨fun f hf => by simp [L0] at hf, by simp [L0]⟩
theorem samp_eq (s : Int) (a : Bool) : F_law09_sample s a = some (S_Frame.mk 1 a false false s 0 (S_Addr.mk 2 2 0) (S_Addr.mk 2 1 0) 0 0 [] []) := rfl
def samp (s : Int) (a : Bool) : S_Frame := S_Frame.mk 1 a false false s 0 (S_Addr.mk 2 2 0) (S_Addr.mk 2 1 0) 0 0 [] []
theorem samp_good {s : Int} (h : 0 ≤ s ∧ s ≤ 255) (a : Bool) : GoodF (samp s a) := by
  refine good_plain (.inl rfl) h (by omega) (by unfold AdrOk; decide) (by unfold AdrOk; decide) (by unfold bcast; decide) (fun _ => by unfold bcast; decide) okB_nil (by simp)
theorem samp_send {s : Int} (h : 0 ≤ s ∧ s ≤ 255) (a : Bool) : sendB (samp s a) = true := by
  unfold sendB
  rw [valid_good (samp_good h a)]
  rfl
theorem link0 : linkB L0 = true := by simp [linkB, L0, B0, S_Backoff.eqb]
theorem link_back {f : S_Frame} {r : List S_Frame} (hs : ∀ g ∈ f :: r, sendB g = true) (hl : (f :: r).length ≤ 16) {a : Int} (a0 : 0 ≤ a) (a3 : a ≤ 3) {b : Bk} (hb : b.Valid) (hst : b.st = 1 ∨ b.st = 2) : linkB (S_Link.mk (f :: r) 1 a (sb b) 0) = true := by
  have he : endedB b = false := by
    unfold endedB
    refine decide_eq_false ?_
    rintro ⟨_, h⟩
    omega
  have hv : bvB b = true := decide_eq_true hb
  unfold linkB
  dsimp only
  rw [decT hl, List.all_eq_true.2 hs, if_neg (by simp), if_pos rfl, decT a0, decT a3, bk_sb, hv, he]
  rfl
theorem link_wait {f : S_Frame} {r : List S_Frame} (hs : ∀ g ∈ f :: r, sendB g = true) (hl : (f :: r).length ≤ 16) (hk : f.AckRequest = true) {a lf : Int} (a1 : 1 ≤ a) (a4 : a ≤ 4) (l1 : 1 ≤ lf) (l3 : lf ≤ 3) : linkB (S_Link.mk (f :: r) 2 a B0 lf) = true := by
  unfold linkB
  dsimp only
  rw [decT hl, List.all_eq_true.2 hs, if_neg (by simp), if_neg (by omega), if_pos rfl, decT a1, decT a4, decT l1, decT l3]
  simp [headAck, hk, eqb_self]
theorem known_true9 : F_law09_known = some true := by
  unfold F_law09_known
  rw [samp_eq, Option.bind_some]
  have hs := samp_send (s := 1) (by omega) false
  have gs := samp_good (s := 1) (by omega) false
  have e1 : enqS L0 (samp 1 false) 0 = (S_Link.mk [samp 1 false] 1 0 (sb ⟨2, 0, 3, 2, 0⟩) 0, 0) := by
    unfold enqS
    rw [if_pos ⟨link0, hs⟩]
    rfl
  have p1 : F_transmit_Enqueue (S_Link.mk [] 0 0 (S_Backoff.mk 0 0 0 0 0) 0) (S_Frame.mk 1 false false false 1 0 (S_Addr.mk 2 2 0) (S_Addr.mk 2 1 0) 0 0 [] []) 0 = some (S_Link.mk [samp 1 false] 1 0 (sb ⟨2, 0, 3, 2, 0⟩) 0, 0) := by
    rw [← e1]
    exact enq_p goodL0.wf (good_wf gs) (by omega) (by omega)
  rw [p1, Option.bind_some]
  have all1 : ∀ g ∈ [samp 1 false], sendB g = true := fun g hg => by rw [List.mem_singleton.1 hg]; exact hs
  have w1 : ∀ b, WfL (S_Link.mk [samp 1 false] 1 0 b 0) := fun b => ⟨fun g hg => by rw [List.mem_singleton.1 hg]; exact good_wf gs, by simp⟩
  have v1 := link_back all1 (by simp) (a := 0) (by omega) (by omega) (b := ⟨2, 0, 3, 2, 0⟩) (by decide) (by decide)
  have v2 := link_back all1 (by simp) (a := 0) (by omega) (by omega) (b := ⟨2, 0, 3, 1, 0⟩) (by decide) (by decide)
  have s1 : stpS (S_Link.mk [samp 1 false] 1 0 (sb ⟨2, 0, 3, 2, 0⟩) 0) (S_Slot.mk false false 0 0) = (S_Link.mk [samp 1 false] 1 0 (sb ⟨2, 0, 3, 1, 0⟩) 0, false, []) := by
    unfold stpS
    rw [if_pos v1]
    rfl
  have s2 : stpS (S_Link.mk [samp 1 false] 1 0 (sb ⟨2, 0, 3, 1, 0⟩) 0) (S_Slot.mk false false 0 0) = (L0, true, [S_Outcome.mk (samp 1 false) true 1]) := by
    unfold stpS
    rw [if_pos v2]
    rfl
  rw [stp_p (w1 _) (by simp) (by simp), s1, Option.bind_some, stp_p (w1 _) (by simp) (by simp), s2]
  rfl
theorem slot_eq (v : Int) : ∃ x, F_law09_slot v = some x ∧ 0 ≤ x.Draw ∧ x.Draw ≤ 4294967295 := by
  unfold F_law09_slot
  refine ⟨_, rfl, ?_, ?_⟩ <;> (dsimp only; rw [wrap32]; omega)
end
section
open Go.RowKit

theorem bk_step {b : Bk} (h : b.Valid) (hs : b.st = 1 ∨ b.st = 2) (busy : Bool) (d : Int) : (b.step busy d).Valid ∧ pot (b.step busy d) ≤ pot b - 1 ∧ ((b.step busy d).st = 1 ∨ (b.step busy d).st = 2 ∨ (b.step busy d).st = 3 ∨ (b.step busy d).st = 4) := by
  rcases hs with hs | hs
  · obtain ⟨h1, h2, _, _, h5⟩ := step_one b busy d h hs
    exact ⟨h1, h2, by omega⟩
  · cases busy
    · obtain ⟨h1, h2, _, _, h5⟩ := step_clear b d h hs
      exact ⟨h1, h2, by omega⟩
    · obtain ⟨h1, h2, _, _, h5⟩ := step_busy b d h hs
      exact ⟨h1, h2, by omega⟩
theorem stp1 {f : S_Frame} {r : List S_Frame} {a : Int} {b : Bk} (hv : linkB (S_Link.mk (f :: r) 1 a (sb b) 0) = true) (x : S_Slot) : stpS (S_Link.mk (f :: r) 1 a (sb b) 0) x =
    (if (b.step x.Busy x.Draw).st = 3 then (if f.AckRequest then (S_Link.mk (f :: r) 2 (a + 1) B0 3, true, []) else (startL r x.Draw, true, [S_Outcome.mk f true (a + 1)]))
     else if (b.step x.Busy x.Draw).st = 4 then ((failL f r (a + 1) x.Draw).1, false, (failL f r (a + 1) x.Draw).2)
     else (S_Link.mk (f :: r) 1 a (sb (b.step x.Busy x.Draw)) 0, false, [])) := by
  unfold stpS
  rw [if_pos hv]
  rfl
theorem stp2 {f : S_Frame} {r : List S_Frame} {a lf : Int} {b : S_Backoff} (hv : linkB (S_Link.mk (f :: r) 2 a b lf) = true) (x : S_Slot) : stpS (S_Link.mk (f :: r) 2 a b lf) x =
    (if x.Ack = true ∧ x.Seq = f.Seq then (startL r x.Draw, false, [S_Outcome.mk f true a])
      else if lf - 1 = 0 then ((failL f r a x.Draw).1, false, (failL f r a x.Draw).2)
      else (S_Link.mk (f :: r) 2 a b (lf - 1), false, [])) := by
  unfold stpS
  rw [if_pos hv]
  rfl
def fr (k : Nat) : S_Frame := samp k (decide (k % 2 = 0))
end
end Go.Proofs.Ytleadcbdbfjefaa
