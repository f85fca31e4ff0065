/-
  Written by cc3.py: what the Go functions compute, as plain functions, and that they do.
-/
import Derived.Test.YtcjoflgnifafiaaCe3
namespace Go.Proofs.Ytcjoflgnifafiaa
open Go.RowKit
attribute [local irreducible] TS go TD goD

/-- multihop/multihoplaw39.SettingsEncode -/
noncomputable def F_law39_SettingsEncode_l1 (a0 : S_Settings) (v6 : S_Settings × S_multihopmade_Tape) (s7 : Int) : Option ((Int) ⊕ ((Unit) ⊕ (Bool))) :=
  bif (decide (s7 < (List.length ([a0, v6.1] : List S_Settings) : Int))) then
    (idx ([a0, v6.1] : List S_Settings) s7).bind fun e11 =>
    (F_management_EncodeSettings e11).bind fun v12 =>
    (F_ref39_EncodeSettings e11).bind fun v13 =>
    bif (v12.2 != v13.2) then
      some (Sum.inr (Sum.inr false))
    else
      (F_bytes_Equal v12.1 v13.1).bind fun v15 =>
      bif v15 then
        (F_management_DecodeSettings v12.1).bind fun v17 =>
        bif (v12.2 == 0) then
          bif (v17.2 != 0) then
            some (Sum.inr (Sum.inr false))
          else
            (F_world_SameSettings e11 v17.1).bind fun v20 =>
            bif v20 then
              some (Sum.inl (IntKind.wrap .i64 (s7 + 1)))
            else
              some (Sum.inr (Sum.inr false))
        else
          some (Sum.inl (IntKind.wrap .i64 (s7 + 1)))
      else
        some (Sum.inr (Sum.inr false))
  else
    some (Sum.inr (Sum.inl ()))
noncomputable def F_law39_SettingsEncode_l2 (a1 : List Int) (l24 : List Int) (l26 : List Int) (s27 : Int) : Option ((Int) ⊕ ((Unit) ⊕ (Bool))) :=
  bif (decide (s27 < (List.length ([a1, l24, l26] : List (List Int)) : Int))) then
    (idx ([a1, l24, l26] : List (List Int)) s27).bind fun e31 =>
    (F_management_DecodeSettings e31).bind fun v32 =>
    (F_ref39_DecodeSettings e31).bind fun v33 =>
    bif (v32.2 != v33.2) then
      some (Sum.inr (Sum.inr false))
    else
      (F_world_SameSettings v32.1 v33.1).bind fun v35 =>
      bif v35 then
        some (Sum.inl (IntKind.wrap .i64 (s27 + 1)))
      else
        some (Sum.inr (Sum.inr false))
  else
    some (Sum.inr (Sum.inl ()))
noncomputable def F_law39_SettingsEncode (a0 : S_Settings) (a1 : List Int) (a2 : List Int) (a3 : List Int) : Option (Bool) :=
  bif (decide ((List.length a0.Data : Int) > 200)) then
    (F_law39_known ).bind fun v2 =>
    some (v2)
  else
    bif (decide ((List.length a1 : Int) > 200)) then
      (F_law39_known ).bind fun v4 =>
      some (v4)
    else
      (F_made_New a3).bind fun v5 =>
      (F_world_Settings v5 a2).bind fun v6 =>
      (loopO (F_law39_SettingsEncode_l1 a0 v6) 0).bind (Sum.elim (fun b8 =>
        (F_made_Tape_Next v6.2 3).bind fun v23 =>
        (appO 1 ([0, 0, 0, IntKind.wrap .u8 v23.1] : List Int) (Cut.app .whole a1)).bind fun l24 =>
        (F_made_Tape_Next v23.2 2).bind fun v25 =>
        (appO 1 ([64, 0, 0, IntKind.wrap .u8 v25.1] : List Int) (Cut.app .whole a1)).bind fun l26 =>
        (loopO (F_law39_SettingsEncode_l2 a1 l24 l26) 0).bind (Sum.elim (fun b28 =>
          (F_law39_known ).bind fun v38 =>
          some (v38)
        ) (fun w37 => some w37))
      ) (fun w22 => some w22))
set_option maxRecDepth 100000 in
set_option maxHeartbeats 40000000 in
theorem ok_law39_SettingsEncode (a0 : S_Settings) (a1 : List Int) (a2 : List Int) (a3 : List Int) (r : Bool) (h : F_law39_SettingsEncode a0 a1 a2 a3 = some r) : Con Try.prog 8 [.agg (S_Settings.cs a0), .c (eS 1 (ecI .u8) (a1)), .agg (arrS .u8 16 a2), .c (eS 1 (ecI .i64) (a3))] [] (.c (.lit (.bool (r)))) [] := by
  unfold F_law39_SettingsEncode at h
  refine con_of [] [] 125 Try.func8 rfl rfl (by kernel_rfl) (fun K => ?_)
  refine TS_go 14 ?_
  replace h := condO h
  rcases h with ⟨hb1, h⟩ | ⟨hb1, h⟩
  · refine TS_know 28 (b := true) hb1 (by kernel_rfl) (by kernel_rfl) ?_
    refine TS_know 29 (b := true) hb1 (by kernel_rfl) (by kernel_rfl) ?_
    refine TS_go 5 ?_
    refine TS_T (by kernel_rfl) rfl ?_
    refine TS_go 2 ?_
    replace h := bindO h
    obtain ⟨v2, hv2, h⟩ := h
    refine TS_call [] (ok_law39_known  v2 hv2) (by kernel_rfl) (by kernel_rfl) ?_
    refine TS_go 4 ?_
    obtain rfl := Option.some.inj h
    exact TS_ret (by kernel_rfl) (by kernel_rfl) (by kernel_rfl)
  · refine TS_know 28 (b := false) hb1 (by kernel_rfl) (by kernel_rfl) ?_
    refine TS_know 29 (b := false) hb1 (by kernel_rfl) (by kernel_rfl) ?_
    refine TS_go 5 ?_
    replace h := condO h
    rcases h with ⟨hb3, h⟩ | ⟨hb3, h⟩
    · refine TS_know 32 (b := true) hb3 (by kernel_rfl) (by kernel_rfl) ?_
      refine TS_know 33 (b := true) hb3 (by kernel_rfl) (by kernel_rfl) ?_
      refine TS_T (by kernel_rfl) rfl ?_
      refine TS_go 2 ?_
      replace h := bindO h
      obtain ⟨v4, hv4, h⟩ := h
      refine TS_call [] (ok_law39_known  v4 hv4) (by kernel_rfl) (by kernel_rfl) ?_
      refine TS_go 4 ?_
      obtain rfl := Option.some.inj h
      exact TS_ret (by kernel_rfl) (by kernel_rfl) (by kernel_rfl)
    · refine TS_know 32 (b := false) hb3 (by kernel_rfl) (by kernel_rfl) ?_
      refine TS_know 33 (b := false) hb3 (by kernel_rfl) (by kernel_rfl) ?_
      refine TS_F (by kernel_rfl) rfl ?_
      refine TS_go 4 ?_
      replace h := bindO h
      obtain ⟨v5, hv5, h⟩ := h
      refine TS_con [] [(36, 10)] none (ok_made_New a3 v5 hv5) (by kernel_rfl) (by kernel_rfl) (by kernel_rfl) ?_
      refine TS_go 6 ?_
      replace h := bindO h
      obtain ⟨v6, hv6, h⟩ := h
      refine TS_con [] [] (some (36, 0)) (ok_world_Settings v5 a2 v6 hv6) (by kernel_rfl) (by kernel_rfl) (by kernel_rfl) ?_
      refine TS_go 8 ?_
      refine TS_litNT 42 30 10 S_Settings.cs [0, 2] ([a0, v6.1] : List S_Settings) (by kernel_rfl) (by kernel_rfl) ?_
      refine TS_go 4 ?_
      refine TS_cut ⟨[(1, []), (9, []), (42, []), (43, []), (44, [])], [(36, (36, [])), (42, (42, []))]⟩ (.mk [.code (codeAt [1, 1, 1, 1, 0, 1, 0] (bodyOf Try.f8)), .blk 0, .code (codeAt [1, 1, 1, 1, 1] (bodyOf Try.f8))] .normal ⟨[(1, .c (.slc 1 0 (List.length a1) (List.map (ecI .u8) a1))), (9, .c (.box 36 0)), (42, .c (.slc 10 44 (List.length ([a0, v6.1] : List S_Settings)) (List.map S_Settings.cs ([a0, v6.1] : List S_Settings)))), (43, .c (.lit (.int .i64 ((List.length ([a0, v6.1] : List S_Settings) : Int))))), (44, .c (.lit (.int .i64 (0))))], [(36, .box [.slc 1 0 (List.length v6.2.l) (List.map (ecI .i64) v6.2.l), .lit (.int .i64 (v6.2.at_))]), (42, .spare 30 10 (List.length ([a0, v6.1] : List S_Settings)))]⟩) (by kernel_rfl) (by kernel_rfl) ?_
      replace h := bindO h
      obtain ⟨y9, hl1, hK1⟩ := h
      refine TS_loopB (F_law39_SettingsEncode_l1 a0 v6) ⟨[(1, []), (9, []), (42, []), (43, []), (44, [])], [(36, (36, [])), (42, (42, []))]⟩ (fun (s7 : Int) => [(44, .c (.lit (.int .i64 (s7))))]) (fun (s7 : Int) => []) 0 y9 (.exit 0) (fun (b : Unit) => (Sum.inl b : (Unit) ⊕ (Bool))) ⟨[(1, []), (9, [])], [(36, (36, []))]⟩ (fun (b8 : Unit) => []) (fun (b8 : Unit) => []) hl1 (by kernel_rfl) (by kernel_rfl) ?_ ?_
      · intro s7 x h hy1
        unfold F_law39_SettingsEncode_l1 at h
        refine TS_go 5 ?_
        replace h := condO h
        rcases h with ⟨hb10, h⟩ | ⟨hb10, h⟩
        · refine TS_know 45 (b := true) hb10 (by kernel_rfl) (by kernel_rfl) ?_
          refine TS_T (by kernel_rfl) rfl ?_
          refine TS_go 5 ?_
          replace h := bindO h
          obtain ⟨e11, he11, h⟩ := h
          refine TS_idx S_Settings.cs he11 (by kernel_rfl) (by kernel_rfl) ?_
          refine TS_go 7 ?_
          replace h := bindO h
          obtain ⟨v12, hv12, h⟩ := h
          refine TS_con [] [(50, 900000)] none (okT_management_EncodeSettings e11 v12 hv12) (by kernel_rfl) (by kernel_rfl) (by kernel_rfl) ?_
          refine TS_go 9 ?_
          replace h := bindO h
          obtain ⟨v13, hv13, h⟩ := h
          refine TS_con [] [(55, 900000)] none (okT_ref39_EncodeSettings e11 v13 hv13) (by kernel_rfl) (by kernel_rfl) (by kernel_rfl) ?_
          refine TS_go 13 ?_
          replace h := condO h
          rcases h with ⟨hb14, h⟩ | ⟨hb14, h⟩
          · refine TS_know 60 (b := true) hb14 (by kernel_rfl) (by kernel_rfl) ?_
            refine TS_know 61 (b := true) hb14 (by kernel_rfl) (by kernel_rfl) ?_
            refine TS_go 6 ?_
            refine TS_T (by kernel_rfl) rfl ?_
            refine TS_go 8 ?_
            obtain rfl := Option.some.inj h
            have hy1q := hy1 _ rfl
            subst hy1q
            replace h := (elimR hK1)
            refine TS_retB rfl (by kernel_rfl) ?_
            refine TS_go 2 ?_
            obtain rfl := Option.some.inj h
            exact TS_ret (by kernel_rfl) (by kernel_rfl) (by kernel_rfl)
          · refine TS_know 60 (b := false) hb14 (by kernel_rfl) (by kernel_rfl) ?_
            refine TS_know 61 (b := false) hb14 (by kernel_rfl) (by kernel_rfl) ?_
            refine TS_go 2 ?_
            replace h := bindO h
            obtain ⟨v15, hv15, h⟩ := h
            refine TS_call [[2], [2]] (ok_bytes_Equal v12.1 v13.1 v15 hv15) (by kernel_rfl) (by kernel_rfl) ?_
            refine TS_go 3 ?_
            replace h := condO h
            rcases h with ⟨hb16, h⟩ | ⟨hb16, h⟩
            · subst hb16
              refine TS_F (by kernel_rfl) rfl ?_
              refine TS_go 4 ?_
              replace h := bindO h
              obtain ⟨v17, hv17, h⟩ := h
              refine TS_call [[2]] (ok_management_DecodeSettings v12.1 v17 hv17) (by kernel_rfl) (by kernel_rfl) ?_
              refine TS_go 12 ?_
              replace h := condO h
              rcases h with ⟨hb18, h⟩ | ⟨hb18, h⟩
              · refine TS_know 73 (b := true) hb18 (by kernel_rfl) (by kernel_rfl) ?_
                refine TS_know 74 (b := true) hb18 (by kernel_rfl) (by kernel_rfl) ?_
                refine TS_go 3 ?_
                replace h := condO h
                rcases h with ⟨hb19, h⟩ | ⟨hb19, h⟩
                · refine TS_know 76 (b := true) hb19 (by kernel_rfl) (by kernel_rfl) ?_
                  refine TS_know 77 (b := true) hb19 (by kernel_rfl) (by kernel_rfl) ?_
                  refine TS_go 7 ?_
                  refine TS_T (by kernel_rfl) rfl ?_
                  refine TS_go 7 ?_
                  obtain rfl := Option.some.inj h
                  have hy1q := hy1 _ rfl
                  subst hy1q
                  replace h := (elimR hK1)
                  refine TS_retB rfl (by kernel_rfl) ?_
                  refine TS_go 2 ?_
                  obtain rfl := Option.some.inj h
                  exact TS_ret (by kernel_rfl) (by kernel_rfl) (by kernel_rfl)
                · refine TS_know 76 (b := false) hb19 (by kernel_rfl) (by kernel_rfl) ?_
                  refine TS_know 77 (b := false) hb19 (by kernel_rfl) (by kernel_rfl) ?_
                  refine TS_go 2 ?_
                  replace h := bindO h
                  obtain ⟨v20, hv20, h⟩ := h
                  refine TS_call [] (ok_world_SameSettings e11 v17.1 v20 hv20) (by kernel_rfl) (by kernel_rfl) ?_
                  refine TS_go 4 ?_
                  replace h := condO h
                  rcases h with ⟨hb21, h⟩ | ⟨hb21, h⟩
                  · subst hb21
                    refine TS_F (by kernel_rfl) rfl ?_
                    refine TS_go 6 ?_
                    obtain rfl := Option.some.inj h
                    exact TS_againB _ ⟨[(1, []), (9, []), (42, []), (43, []), (44, [])], [(36, (36, [])), (42, (42, []))]⟩ rfl (by kernel_rfl) (by kernel_rfl)
                  · subst hb21
                    refine TS_T (by kernel_rfl) rfl ?_
                    refine TS_go 7 ?_
                    obtain rfl := Option.some.inj h
                    have hy1q := hy1 _ rfl
                    subst hy1q
                    replace h := (elimR hK1)
                    refine TS_retB rfl (by kernel_rfl) ?_
                    refine TS_go 2 ?_
                    obtain rfl := Option.some.inj h
                    exact TS_ret (by kernel_rfl) (by kernel_rfl) (by kernel_rfl)
              · refine TS_know 73 (b := false) hb18 (by kernel_rfl) (by kernel_rfl) ?_
                refine TS_know 74 (b := false) hb18 (by kernel_rfl) (by kernel_rfl) ?_
                refine TS_go 10 ?_
                refine TS_F (by kernel_rfl) rfl ?_
                refine TS_go 6 ?_
                obtain rfl := Option.some.inj h
                exact TS_againB _ ⟨[(1, []), (9, []), (42, []), (43, []), (44, [])], [(36, (36, [])), (42, (42, []))]⟩ rfl (by kernel_rfl) (by kernel_rfl)
            · subst hb16
              refine TS_T (by kernel_rfl) rfl ?_
              refine TS_go 8 ?_
              obtain rfl := Option.some.inj h
              have hy1q := hy1 _ rfl
              subst hy1q
              replace h := (elimR hK1)
              refine TS_retB rfl (by kernel_rfl) ?_
              refine TS_go 2 ?_
              obtain rfl := Option.some.inj h
              exact TS_ret (by kernel_rfl) (by kernel_rfl) (by kernel_rfl)
        · refine TS_know 45 (b := false) hb10 (by kernel_rfl) (by kernel_rfl) ?_
          refine TS_F (by kernel_rfl) rfl ?_
          refine TS_go 2 ?_
          obtain rfl := Option.some.inj h
          exact TS_brkB () ⟨[(1, []), (9, [])], [(36, (36, []))]⟩ rfl (by kernel_rfl) (by kernel_rfl) (by kernel_rfl)
      · intro b8 hb
        subst y9
        have h := elimL hK1
        refine TS_go 6 ?_
        replace h := bindO h
        obtain ⟨v23, hv23, h⟩ := h
        refine TS_con [] [] (some (36, 0)) (ok_made_Tape_Next v6.2 3 v23 hv23) (by kernel_rfl) (by kernel_rfl) (by kernel_rfl) ?_
        refine TS_go 1 ?_
        refine TS_litNT 89 5 1 (ecI .u8) [] ([0, 0, 0, IntKind.wrap .u8 v23.1] : List Int) (by kernel_rfl) (by kernel_rfl) ?_
        refine TS_go 1 ?_
        replace h := bindO h
        obtain ⟨l24, hl24, h⟩ := h
        refine TS_appT (d := 89) (e := 5) (sz := 1) (N := List.length ([0, 0, 0, IntKind.wrap .u8 v23.1] : List Int)) (ecI .u8) (fun _ => by kernel_rfl) (l1 := ([0, 0, 0, IntKind.wrap .u8 v23.1] : List Int)) (l2 := a1) (c := .whole) hl24 (by kernel_rfl) (by kernel_rfl) ?_
        refine TS_go 1 ?_
        replace h := bindO h
        obtain ⟨v25, hv25, h⟩ := h
        refine TS_con [] [] (some (36, 0)) (ok_made_Tape_Next v23.2 2 v25 hv25) (by kernel_rfl) (by kernel_rfl) (by kernel_rfl) ?_
        refine TS_go 1 ?_
        refine TS_litNT 95 5 1 (ecI .u8) [] ([64, 0, 0, IntKind.wrap .u8 v25.1] : List Int) (by kernel_rfl) (by kernel_rfl) ?_
        refine TS_go 1 ?_
        replace h := bindO h
        obtain ⟨l26, hl26, h⟩ := h
        refine TS_appT (d := 95) (e := 5) (sz := 1) (N := List.length ([64, 0, 0, IntKind.wrap .u8 v25.1] : List Int)) (ecI .u8) (fun _ => by kernel_rfl) (l1 := ([64, 0, 0, IntKind.wrap .u8 v25.1] : List Int)) (l2 := a1) (c := .whole) hl26 (by kernel_rfl) (by kernel_rfl) ?_
        refine TS_litNT 98 27 1 (ecS 1 (ecI .u8)) [2] ([a1, l24, l26] : List (List Int)) (by kernel_rfl) (by kernel_rfl) ?_
        refine TS_go 4 ?_
        refine TS_cut ⟨[(98, []), (99, []), (100, [])], [(98, (98, []))]⟩ (.mk [.code (codeAt [1, 1, 1, 1, 1, 0, 1, 0] (bodyOf Try.f8)), .blk 2, .code (codeAt [1, 1, 1, 1, 1, 1] (bodyOf Try.f8))] .normal ⟨[(98, .c (.slc 1 100 (List.length ([a1, l24, l26] : List (List Int))) (List.map (ecS 1 (ecI .u8)) ([a1, l24, l26] : List (List Int))))), (99, .c (.lit (.int .i64 ((List.length ([a1, l24, l26] : List (List Int)) : Int))))), (100, .c (.lit (.int .i64 (0))))], [(98, .spare 27 1 (List.length ([a1, l24, l26] : List (List Int))))]⟩) (by kernel_rfl) (by kernel_rfl) ?_
        replace h := bindO h
        obtain ⟨y29, hl2, hK2⟩ := h
        refine TS_loopB (F_law39_SettingsEncode_l2 a1 l24 l26) ⟨[(98, []), (99, []), (100, [])], [(98, (98, []))]⟩ (fun (s27 : Int) => [(100, .c (.lit (.int .i64 (s27))))]) (fun (s27 : Int) => []) 0 y29 (.exit 2) (fun (b : Unit) => (Sum.inl b : (Unit) ⊕ (Bool))) ⟨[], []⟩ (fun (b28 : Unit) => []) (fun (b28 : Unit) => []) hl2 (by kernel_rfl) (by kernel_rfl) ?_ ?_
        · intro s27 x h hy2
          unfold F_law39_SettingsEncode_l2 at h
          refine TS_go 5 ?_
          replace h := condO h
          rcases h with ⟨hb30, h⟩ | ⟨hb30, h⟩
          · refine TS_know 101 (b := true) hb30 (by kernel_rfl) (by kernel_rfl) ?_
            refine TS_T (by kernel_rfl) rfl ?_
            refine TS_go 5 ?_
            replace h := bindO h
            obtain ⟨e31, he31, h⟩ := h
            refine TS_idx (ecS 1 (ecI .u8)) he31 (by kernel_rfl) (by kernel_rfl) ?_
            refine TS_go 6 ?_
            replace h := bindO h
            obtain ⟨v32, hv32, h⟩ := h
            refine TS_call [] (ok_management_DecodeSettings e31 v32 hv32) (by kernel_rfl) (by kernel_rfl) ?_
            refine TS_go 10 ?_
            replace h := bindO h
            obtain ⟨v33, hv33, h⟩ := h
            refine TS_call [] (ok_ref39_DecodeSettings e31 v33 hv33) (by kernel_rfl) (by kernel_rfl) ?_
            refine TS_go 13 ?_
            replace h := condO h
            rcases h with ⟨hb34, h⟩ | ⟨hb34, h⟩
            · refine TS_know 116 (b := true) hb34 (by kernel_rfl) (by kernel_rfl) ?_
              refine TS_know 117 (b := true) hb34 (by kernel_rfl) (by kernel_rfl) ?_
              refine TS_go 6 ?_
              refine TS_T (by kernel_rfl) rfl ?_
              refine TS_go 7 ?_
              obtain rfl := Option.some.inj h
              have hy2q := hy2 _ rfl
              subst hy2q
              replace h := (elimR hK2)
              refine TS_retB rfl (by kernel_rfl) ?_
              refine TS_go 2 ?_
              obtain rfl := Option.some.inj h
              exact TS_ret (by kernel_rfl) (by kernel_rfl) (by kernel_rfl)
            · refine TS_know 116 (b := false) hb34 (by kernel_rfl) (by kernel_rfl) ?_
              refine TS_know 117 (b := false) hb34 (by kernel_rfl) (by kernel_rfl) ?_
              refine TS_go 2 ?_
              replace h := bindO h
              obtain ⟨v35, hv35, h⟩ := h
              refine TS_call [] (ok_world_SameSettings v32.1 v33.1 v35 hv35) (by kernel_rfl) (by kernel_rfl) ?_
              refine TS_go 3 ?_
              replace h := condO h
              rcases h with ⟨hb36, h⟩ | ⟨hb36, h⟩
              · subst hb36
                refine TS_F (by kernel_rfl) rfl ?_
                refine TS_go 6 ?_
                obtain rfl := Option.some.inj h
                exact TS_againB _ ⟨[(98, []), (99, []), (100, [])], [(98, (98, []))]⟩ rfl (by kernel_rfl) (by kernel_rfl)
              · subst hb36
                refine TS_T (by kernel_rfl) rfl ?_
                refine TS_go 7 ?_
                obtain rfl := Option.some.inj h
                have hy2q := hy2 _ rfl
                subst hy2q
                replace h := (elimR hK2)
                refine TS_retB rfl (by kernel_rfl) ?_
                refine TS_go 2 ?_
                obtain rfl := Option.some.inj h
                exact TS_ret (by kernel_rfl) (by kernel_rfl) (by kernel_rfl)
          · refine TS_know 101 (b := false) hb30 (by kernel_rfl) (by kernel_rfl) ?_
            refine TS_F (by kernel_rfl) rfl ?_
            refine TS_go 2 ?_
            obtain rfl := Option.some.inj h
            exact TS_brkB () ⟨[], []⟩ rfl (by kernel_rfl) (by kernel_rfl) (by kernel_rfl)
        · intro b28 hb
          subst y29
          have h := elimL hK2
          refine TS_go 3 ?_
          replace h := bindO h
          obtain ⟨v38, hv38, h⟩ := h
          refine TS_call [] (ok_law39_known  v38 hv38) (by kernel_rfl) (by kernel_rfl) ?_
          refine TS_go 3 ?_
          obtain rfl := Option.some.inj h
          exact TS_ret (by kernel_rfl) (by kernel_rfl) (by kernel_rfl)

/-- multihop/management.EncodeReports -/
noncomputable def F_management_EncodeReports_l1 (a0 : List S_Diagnostic) (a1 : Int) (s4 : (List Int) × Int) : Option (((List Int) × Int) ⊕ (((List Int)) ⊕ ((List Int) × Int × Int))) :=
  bif (decide (s4.2 < (List.length a0 : Int))) then
    (idx a0 s4.2).bind fun e8 =>
    bif (decide ((IntKind.wrap .i64 (13 + (List.length e8.Data : Int))) > (IntKind.wrap .i64 (a1 - (List.length s4.1 : Int))))) then
      some (Sum.inr (Sum.inr (s4.1, s4.2, 0)))
    else
      (F_octets_Append s4.1 e8.Node 8).bind fun v10 =>
      (F_octets_Append v10 (IntKind.wrap .u64 e8.Number) 4).bind fun v11 =>
      (appO 1 v11 (Cut.app .whole ([IntKind.wrap .u8 (List.length e8.Data : Int)] : List Int))).bind fun l12 =>
      (appO 1 l12 (Cut.app .whole e8.Data)).bind fun l13 =>
      some (Sum.inl (l13, IntKind.wrap .i64 (s4.2 + 1)))
  else
    some (Sum.inr (Sum.inl s4.1))
noncomputable def F_management_EncodeReports (a0 : List S_Diagnostic) (a1 : Int) : Option ((List Int) × Int × Int) :=
  (F_management_ValidReports a0).bind fun v1 =>
  bif v1 then
    bif (decide (a1 < 0)) then
      some ((([] : List Int), 0, 2))
    else
      (loopO (F_management_EncodeReports_l1 a0 a1) (([] : List Int), 0)).bind (Sum.elim (fun b5 =>
        some ((b5, (List.length a0 : Int), 0))
      ) (fun w14 => some w14))
  else
    some ((([] : List Int), 0, 1))
set_option maxRecDepth 100000 in
set_option maxHeartbeats 40000000 in
theorem okT_management_EncodeReports (a0 : List S_Diagnostic) (a1 : Int) (r : (List Int) × Int × Int) (h : F_management_EncodeReports a0 a1 = some r) : Con Try.prog 42 [.c (eS 3 S_Diagnostic.cs (a0)), .c (.lit (.int .i64 (a1)))] [] (.tup [(false, [.slc 1 900002 (List.length r.1) (List.map (ecI .u8) r.1)]), (false, [.lit (.int .i64 (r.2.1))]), (false, [.lit (.int .i64 (r.2.2))])]) [(900000, .spare 5 1 (List.length r.1))] := by
  unfold F_management_EncodeReports at h
  refine con_of [] [(900000, [])] 57 Try.func42 rfl rfl (by kernel_rfl) (fun K => ?_)
  refine TS_go 10 ?_
  replace h := bindO h
  obtain ⟨v1, hv1, h⟩ := h
  refine TS_call [] (ok_management_ValidReports a0 v1 hv1) (by kernel_rfl) (by kernel_rfl) ?_
  refine TS_go 2 ?_
  replace h := condO h
  rcases h with ⟨hb2, h⟩ | ⟨hb2, h⟩
  · subst hb2
    refine TS_F (by kernel_rfl) rfl ?_
    refine TS_go 7 ?_
    replace h := condO h
    rcases h with ⟨hb3, h⟩ | ⟨hb3, h⟩
    · refine TS_know 14 (b := true) hb3 (by kernel_rfl) (by kernel_rfl) ?_
      refine TS_T (by kernel_rfl) rfl ?_
      refine TS_go 6 ?_
      refine TS_nilT 4 600000 5 1 (by kernel_rfl) ?_
      refine TS_fitU ⟨[(4, []), (5, []), (6, [])], [(600000, (900000, []))]⟩ (by kernel_rfl) ?_
      refine TS_go 2 ?_
      obtain rfl := Option.some.inj h
      exact TS_ret (by kernel_rfl) (by kernel_rfl) (by kernel_rfl)
    · refine TS_know 14 (b := false) hb3 (by kernel_rfl) (by kernel_rfl) ?_
      refine TS_F (by kernel_rfl) rfl ?_
      refine TS_go 13 ?_
      refine TS_nilT 7 600000 5 1 (by kernel_rfl) ?_
      refine TS_cut ⟨[(0, []), (1, []), (7, []), (15, []), (16, []), (17, [])], [(600000, (600000, []))]⟩ (.mk [.code (codeAt [1, 1, 1, 1, 0, 1, 0] (bodyOf Try.f42)), .blk 0, .code (codeAt [1, 1, 1, 1, 1] (bodyOf Try.f42))] .normal ⟨[(0, .c (.slc 3 0 (List.length a0) (List.map S_Diagnostic.cs a0))), (1, .c (.lit (.int .i64 (a1)))), (7, .c (.slc 1 600002 (List.length ([] : List Int)) (List.map (ecI .u8) ([] : List Int)))), (15, .c (.slc 3 0 (List.length a0) (List.map S_Diagnostic.cs a0))), (16, .c (.lit (.int .i64 ((List.length a0 : Int))))), (17, .c (.lit (.int .i64 (0))))], [(600000, .spare 5 1 (List.length ([] : List Int)))]⟩) (by kernel_rfl) (by kernel_rfl) ?_
      replace h := bindO h
      obtain ⟨y6, hl1, hK1⟩ := h
      refine TS_loopB (F_management_EncodeReports_l1 a0 a1) ⟨[(0, []), (1, []), (7, []), (15, []), (16, []), (17, [])], [(600000, (600000, []))]⟩ (fun (s4 : (List Int) × Int) => [(7, .c (.slc 1 600002 (List.length s4.1) (List.map (ecI .u8) s4.1))), (17, .c (.lit (.int .i64 (s4.2))))]) (fun (s4 : (List Int) × Int) => [(600000, .spare 5 1 (List.length s4.1))]) (([] : List Int), 0) y6 (.exit 0) (fun (b : (List Int)) => (Sum.inl b : ((List Int)) ⊕ ((List Int) × Int × Int))) ⟨[(0, []), (7, [])], [(600000, (600000, []))]⟩ (fun (b5 : (List Int)) => [(7, .c (.slc 1 600002 (List.length b5) (List.map (ecI .u8) b5)))]) (fun (b5 : (List Int)) => [(600000, .spare 5 1 (List.length b5))]) hl1 (by kernel_rfl) (by kernel_rfl) ?_ ?_
      · intro s4 x h hy1
        unfold F_management_EncodeReports_l1 at h
        refine TS_go 5 ?_
        replace h := condO h
        rcases h with ⟨hb7, h⟩ | ⟨hb7, h⟩
        · refine TS_know 18 (b := true) hb7 (by kernel_rfl) (by kernel_rfl) ?_
          refine TS_T (by kernel_rfl) rfl ?_
          refine TS_go 6 ?_
          replace h := bindO h
          obtain ⟨e8, he8, h⟩ := h
          refine TS_idx S_Diagnostic.cs he8 (by kernel_rfl) (by kernel_rfl) ?_
          refine TS_go 18 ?_
          replace h := condO h
          rcases h with ⟨hb9, h⟩ | ⟨hb9, h⟩
          · refine TS_know 30 (b := true) hb9 (by kernel_rfl) (by kernel_rfl) ?_
            refine TS_T (by kernel_rfl) rfl ?_
            refine TS_go 8 ?_
            refine TS_fitU ⟨[(4, []), (5, []), (6, [])], [(600000, (900000, []))]⟩ (by kernel_rfl) ?_
            refine TS_go 4 ?_
            obtain rfl := Option.some.inj h
            have hy1q := hy1 _ rfl
            subst hy1q
            replace h := (elimR hK1)
            refine TS_retB rfl (by kernel_rfl) ?_
            refine TS_go 2 ?_
            obtain rfl := Option.some.inj h
            exact TS_ret (by kernel_rfl) (by kernel_rfl) (by kernel_rfl)
          · refine TS_know 30 (b := false) hb9 (by kernel_rfl) (by kernel_rfl) ?_
            refine TS_F (by kernel_rfl) rfl ?_
            refine TS_go 6 ?_
            replace h := bindO h
            obtain ⟨v10, hv10, h⟩ := h
            refine TS_con [[2]] [(36, 900000)] none (okT_octets_Append s4.1 e8.Node 8 v10 hv10) (by kernel_rfl) (by kernel_rfl) (by kernel_rfl) ?_
            refine TS_go 8 ?_
            replace h := bindO h
            obtain ⟨v11, hv11, h⟩ := h
            refine TS_con [[2]] [(41, 900000)] none (okT_octets_Append v10 (IntKind.wrap .u64 e8.Number) 4 v11 hv11) (by kernel_rfl) (by kernel_rfl) (by kernel_rfl) ?_
            refine TS_go 9 ?_
            refine TS_litNT 47 5 1 (ecI .u8) [] ([IntKind.wrap .u8 (List.length e8.Data : Int)] : List Int) (by kernel_rfl) (by kernel_rfl) ?_
            replace h := bindO h
            obtain ⟨l12, hl12, h⟩ := h
            refine TS_appT (d := 41) (e := 5) (sz := 1) (N := List.length v11) (ecI .u8) (fun _ => by kernel_rfl) (l1 := v11) (l2 := ([IntKind.wrap .u8 (List.length e8.Data : Int)] : List Int)) (c := .whole) hl12 (by kernel_rfl) (by kernel_rfl) ?_
            refine TS_go 6 ?_
            replace h := bindO h
            obtain ⟨l13, hl13, h⟩ := h
            refine TS_appT (d := 41) (e := 5) (sz := 1) (N := List.length l12) (ecI .u8) (fun _ => by kernel_rfl) (l1 := l12) (l2 := e8.Data) (c := .whole) hl13 (by kernel_rfl) (by kernel_rfl) ?_
            refine TS_go 7 ?_
            obtain rfl := Option.some.inj h
            exact TS_againB _ ⟨[(0, []), (1, []), (7, []), (15, []), (16, []), (17, [])], [(41, (600000, []))]⟩ rfl (by kernel_rfl) (by kernel_rfl)
        · refine TS_know 18 (b := false) hb7 (by kernel_rfl) (by kernel_rfl) ?_
          refine TS_F (by kernel_rfl) rfl ?_
          refine TS_go 2 ?_
          obtain rfl := Option.some.inj h
          exact TS_brkB s4.1 ⟨[(0, []), (7, [])], [(600000, (600000, []))]⟩ rfl (by kernel_rfl) (by kernel_rfl) (by kernel_rfl)
      · intro b5 hb
        subst y6
        have h := elimL hK1
        refine TS_go 10 ?_
        refine TS_fitU ⟨[(4, []), (5, []), (6, [])], [(600000, (900000, []))]⟩ (by kernel_rfl) ?_
        refine TS_go 1 ?_
        obtain rfl := Option.some.inj h
        exact TS_ret (by kernel_rfl) (by kernel_rfl) (by kernel_rfl)
  · subst hb2
    refine TS_T (by kernel_rfl) rfl ?_
    refine TS_go 6 ?_
    refine TS_nilT 4 600000 5 1 (by kernel_rfl) ?_
    refine TS_fitU ⟨[(4, []), (5, []), (6, [])], [(600000, (900000, []))]⟩ (by kernel_rfl) ?_
    refine TS_go 2 ?_
    obtain rfl := Option.some.inj h
    exact TS_ret (by kernel_rfl) (by kernel_rfl) (by kernel_rfl)
theorem ok_management_EncodeReports (a0 : List S_Diagnostic) (a1 : Int) (r : (List Int) × Int × Int) (h : F_management_EncodeReports a0 a1 = some r) : Con Try.prog 42 [.c (eS 3 S_Diagnostic.cs (a0)), .c (.lit (.int .i64 (a1)))] [] (.tup [(false, [eS 1 (ecI .u8) (r.1)]), (false, [.lit (.int .i64 (r.2.1))]), (false, [.lit (.int .i64 (r.2.2))])]) [] :=
  con_drop [[2]] [] (okT_management_EncodeReports a0 a1 r h) (by kernel_rfl) (by kernel_rfl) (by kernel_rfl)

/-- multihop/multihopref29.Put -/
noncomputable def F_ref29_Put_G0_l1 (a1 : Int) (s1 : (List Int) × Int) : Option (((List Int) × Int) ⊕ ((List Int))) :=
  bif (decide (s1.2 ≥ 0)) then
    bif decide (0 ≤ (IntKind.wrap .u64 (IntKind.wrap .i64 (8 * s1.2)))) then
      (appO 1 s1.1 (Cut.app .whole ([IntKind.wrap .u8 (ishr .u64 a1 (IntKind.wrap .u64 (IntKind.wrap .i64 (8 * s1.2))))] : List Int))).bind fun l6 =>
      some (Sum.inl (l6, IntKind.wrap .i64 (s1.2 - 1)))
    else none
  else
    some (Sum.inr s1.1)
noncomputable def F_ref29_Put_G0 (a0 : List Int) (a1 : Int) (a2 : Int) : Option ((List Int)) :=
  (loopO (F_ref29_Put_G0_l1 a1) (a0, IntKind.wrap .i64 (a2 - 1))).bind fun b2 =>
  some (b2)
set_option maxRecDepth 100000 in
set_option maxHeartbeats 40000000 in
theorem ok_ref29_Put_G0 (a0 : List Int) (a1 : Int) (a2 : Int) (r : (List Int)) (h : F_ref29_Put_G0 a0 a1 a2 = some r) : ConG Try.prog 63 [.c (.slc 1 1000003 (List.length a0) (List.map (ecI .u8) a0)), .c (.lit (.int .u64 (a1))), .c (.lit (.int .i64 (a2)))] 5 1 (List.length a0) (.c (.slc 1 1000003 (List.length r) (List.map (ecI .u8) r))) (List.length r) := by
  unfold F_ref29_Put_G0 at h
  refine con_ofG [] 24 0 Try.func63 rfl rfl (by kernel_rfl) rfl (fun K => ?_)
  refine TS_go 12 ?_
  refine TS_cut ⟨[(0, []), (2000000, []), (1, []), (7, [])], [(1000001, (1000001, []))]⟩ (.mk [.code (codeAt [1, 0, 1, 0] (bodyOf Try.f63)), .blk 0, .code (codeAt [1, 1] (bodyOf Try.f63))] .normal ⟨[(0, .c (.slc 1 1000003 (List.length a0) (List.map (ecI .u8) a0))), (2000000, .c (.slc 1 1000003 (List.length a0) (List.map (ecI .u8) a0))), (1, .c (.lit (.int .u64 (a1)))), (7, .c (.lit (.int .i64 (IntKind.wrap .i64 (a2 - 1)))))], [(1000001, .spare 5 1 (List.length a0))]⟩) (by kernel_rfl) (by kernel_rfl) ?_
  replace h := bindO h
  obtain ⟨y3, hl1, hK1⟩ := h
  refine TS_loopB (F_ref29_Put_G0_l1 a1) ⟨[(0, []), (1, []), (7, []), (2000000, [])], [(1000001, (1000001, []))]⟩ (fun (s1 : (List Int) × Int) => [(0, .c (.slc 1 1000003 (List.length s1.1) (List.map (ecI .u8) s1.1))), (7, .c (.lit (.int .i64 (s1.2))))]) (fun (s1 : (List Int) × Int) => [(1000001, .spare 5 1 (List.length s1.1))]) (a0, IntKind.wrap .i64 (a2 - 1)) y3 (.exit 0) (fun (b : (List Int)) => b) ⟨[(0, []), (2000000, [])], [(1000001, (1000001, []))]⟩ (fun (b2 : (List Int)) => [(0, .c (.slc 1 1000003 (List.length b2) (List.map (ecI .u8) b2)))]) (fun (b2 : (List Int)) => [(1000001, .spare 5 1 (List.length b2))]) hl1 (by kernel_rfl) (by kernel_rfl) ?_ ?_
  · intro s1 x h hy1
    unfold F_ref29_Put_G0_l1 at h
    refine TS_go 6 ?_
    replace h := condO h
    rcases h with ⟨hb4, h⟩ | ⟨hb4, h⟩
    · refine TS_know 11 (b := true) hb4 (by kernel_rfl) (by kernel_rfl) ?_
      refine TS_T (by kernel_rfl) rfl ?_
      refine TS_go 9 ?_
      replace h := chkO h
      obtain ⟨hc5, h⟩ := h
      refine TS_num (op := .shr) (k := .u64) (k' := .u64) (m := a1) (i := IntKind.wrap .u64 (IntKind.wrap .i64 (8 * s1.2))) (of_decide_eq_true hc5) rfl (by simp) (by kernel_rfl) (by kernel_rfl) ?_
      refine TS_go 1 ?_
      refine TS_litNT 21 5 1 (ecI .u8) [] ([IntKind.wrap .u8 (ishr .u64 a1 (IntKind.wrap .u64 (IntKind.wrap .i64 (8 * s1.2))))] : List Int) (by kernel_rfl) (by kernel_rfl) ?_
      replace h := bindO h
      obtain ⟨l6, hl6, h⟩ := h
      refine TS_appT (d := 1000001) (e := 5) (sz := 1) (N := List.length s1.1) (ecI .u8) (fun _ => by kernel_rfl) (l1 := s1.1) (l2 := ([IntKind.wrap .u8 (ishr .u64 a1 (IntKind.wrap .u64 (IntKind.wrap .i64 (8 * s1.2))))] : List Int)) (c := .whole) hl6 (by kernel_rfl) (by kernel_rfl) ?_
      refine TS_go 8 ?_
      obtain rfl := Option.some.inj h
      exact TS_againB _ ⟨[(0, []), (1, []), (7, []), (2000000, [])], [(1000001, (1000001, []))]⟩ rfl (by kernel_rfl) (by kernel_rfl)
    · refine TS_know 11 (b := false) hb4 (by kernel_rfl) (by kernel_rfl) ?_
      refine TS_F (by kernel_rfl) rfl ?_
      refine TS_go 2 ?_
      obtain rfl := Option.some.inj h
      exact TS_brkB s1.1 ⟨[(0, []), (2000000, [])], [(1000001, (1000001, []))]⟩ rfl (by kernel_rfl) (by kernel_rfl) (by kernel_rfl)
  · intro b2 hb
    subst y3
    have h := hK1
    refine TS_go 7 ?_
    obtain rfl := Option.some.inj h
    exact TS_retG (sz1 := 1) (xs1 := List.map (ecI .u8) a0) (by kernel_rfl) (by kernel_rfl) (by kernel_rfl) (by kernel_rfl)

/-- multihop/multihopref39.EncodeReports -/
noncomputable def F_ref39_EncodeReports_l1 (a0 : List S_Diagnostic) (a1 : Int) (s4 : (List Int) × Int) : Option (((List Int) × Int) ⊕ ((List Int) × Int)) :=
  bif (decide (s4.2 < (List.length a0 : Int))) then
    (idx a0 s4.2).bind fun e8 =>
    bif (decide ((IntKind.wrap .i64 ((IntKind.wrap .i64 ((List.length s4.1 : Int) + 13)) + (List.length e8.Data : Int))) ≤ a1)) then
      (idx a0 s4.2).bind fun e10 =>
      (F_ref29_Put_G0 s4.1 e10.Node 8).bind fun v11 =>
      (idx a0 s4.2).bind fun e12 =>
      (F_ref29_Put_G0 v11 (IntKind.wrap .u64 e12.Number) 4).bind fun v13 =>
      (idx a0 s4.2).bind fun e14 =>
      (appO 1 v13 (Cut.app .whole ([IntKind.wrap .u8 (List.length e14.Data : Int)] : List Int))).bind fun l15 =>
      (idx a0 s4.2).bind fun e16 =>
      (appO 1 l15 (Cut.app .whole e16.Data)).bind fun l17 =>
      some (Sum.inl (l17, IntKind.wrap .i64 (s4.2 + 1)))
    else
      some (Sum.inr (s4.1, s4.2))
  else
    some (Sum.inr (s4.1, s4.2))
noncomputable def F_ref39_EncodeReports (a0 : List S_Diagnostic) (a1 : Int) : Option ((List Int) × Int × Int) :=
  (F_ref39_ValidReports a0).bind fun v1 =>
  bif v1 then
    bif (decide (a1 < 0)) then
      some ((([] : List Int), 0, 2))
    else
      (loopO (F_ref39_EncodeReports_l1 a0 a1) (([] : List Int), 0)).bind fun b5 =>
      some ((b5.1, b5.2, 0))
  else
    some ((([] : List Int), 0, 1))
set_option maxRecDepth 100000 in
set_option maxHeartbeats 40000000 in
theorem okT_ref39_EncodeReports (a0 : List S_Diagnostic) (a1 : Int) (r : (List Int) × Int × Int) (h : F_ref39_EncodeReports a0 a1 = some r) : Con Try.prog 43 [.c (eS 3 S_Diagnostic.cs (a0)), .c (.lit (.int .i64 (a1)))] [] (.tup [(false, [.slc 1 900002 (List.length r.1) (List.map (ecI .u8) r.1)]), (false, [.lit (.int .i64 (r.2.1))]), (false, [.lit (.int .i64 (r.2.2))])]) [(900000, .spare 5 1 (List.length r.1))] := by
  unfold F_ref39_EncodeReports at h
  refine con_of [] [(900000, [])] 68 Try.func43 rfl rfl (by kernel_rfl) (fun K => ?_)
  refine TS_go 10 ?_
  replace h := bindO h
  obtain ⟨v1, hv1, h⟩ := h
  refine TS_call [] (ok_ref39_ValidReports a0 v1 hv1) (by kernel_rfl) (by kernel_rfl) ?_
  refine TS_go 2 ?_
  replace h := condO h
  rcases h with ⟨hb2, h⟩ | ⟨hb2, h⟩
  · subst hb2
    refine TS_F (by kernel_rfl) rfl ?_
    refine TS_go 7 ?_
    replace h := condO h
    rcases h with ⟨hb3, h⟩ | ⟨hb3, h⟩
    · refine TS_know 13 (b := true) hb3 (by kernel_rfl) (by kernel_rfl) ?_
      refine TS_T (by kernel_rfl) rfl ?_
      refine TS_go 6 ?_
      refine TS_nilT 4 600000 5 1 (by kernel_rfl) ?_
      refine TS_fitU ⟨[(4, []), (5, []), (6, [])], [(600000, (900000, []))]⟩ (by kernel_rfl) ?_
      refine TS_go 2 ?_
      obtain rfl := Option.some.inj h
      exact TS_ret (by kernel_rfl) (by kernel_rfl) (by kernel_rfl)
    · refine TS_know 13 (b := false) hb3 (by kernel_rfl) (by kernel_rfl) ?_
      refine TS_F (by kernel_rfl) rfl ?_
      refine TS_go 11 ?_
      refine TS_nilT 7 600000 5 1 (by kernel_rfl) ?_
      refine TS_cut ⟨[(0, []), (1, []), (7, []), (8, [])], [(600000, (600000, []))]⟩ (.mk [.code (codeAt [1, 1, 1, 1, 1, 0, 0] (bodyOf Try.f43)), .blk 0, .code (codeAt [1, 1, 1, 1, 1, 1] (bodyOf Try.f43))] .normal ⟨[(0, .c (.slc 3 0 (List.length a0) (List.map S_Diagnostic.cs a0))), (1, .c (.lit (.int .i64 (a1)))), (7, .c (.slc 1 600002 (List.length ([] : List Int)) (List.map (ecI .u8) ([] : List Int)))), (8, .c (.lit (.int .i64 (0))))], [(600000, .spare 5 1 (List.length ([] : List Int)))]⟩) (by kernel_rfl) (by kernel_rfl) ?_
      replace h := bindO h
      obtain ⟨y6, hl1, hK1⟩ := h
      refine TS_loopB (F_ref39_EncodeReports_l1 a0 a1) ⟨[(0, []), (1, []), (7, []), (8, [])], [(600000, (600000, []))]⟩ (fun (s4 : (List Int) × Int) => [(7, .c (.slc 1 600002 (List.length s4.1) (List.map (ecI .u8) s4.1))), (8, .c (.lit (.int .i64 (s4.2))))]) (fun (s4 : (List Int) × Int) => [(600000, .spare 5 1 (List.length s4.1))]) (([] : List Int), 0) y6 (.exit 0) (fun (b : (List Int) × Int) => b) ⟨[(7, []), (8, [])], [(600000, (600000, []))]⟩ (fun (b5 : (List Int) × Int) => [(7, .c (.slc 1 600002 (List.length b5.1) (List.map (ecI .u8) b5.1))), (8, .c (.lit (.int .i64 (b5.2))))]) (fun (b5 : (List Int) × Int) => [(600000, .spare 5 1 (List.length b5.1))]) hl1 (by kernel_rfl) (by kernel_rfl) ?_ ?_
      · intro s4 x h hy1
        unfold F_ref39_EncodeReports_l1 at h
        refine TS_go 8 ?_
        replace h := condO h
        rcases h with ⟨hb7, h⟩ | ⟨hb7, h⟩
        · refine TS_know 17 (b := true) hb7 (by kernel_rfl) (by kernel_rfl) ?_
          refine TS_know 18 (b := true) hb7 (by kernel_rfl) (by kernel_rfl) ?_
          refine TS_go 5 ?_
          replace h := bindO h
          obtain ⟨e8, he8, h⟩ := h
          refine TS_idx S_Diagnostic.cs he8 (by kernel_rfl) (by kernel_rfl) ?_
          refine TS_go 8 ?_
          replace h := condO h
          rcases h with ⟨hb9, h⟩ | ⟨hb9, h⟩
          · refine TS_know 30 (b := true) hb9 (by kernel_rfl) (by kernel_rfl) ?_
            refine TS_know 31 (b := true) hb9 (by kernel_rfl) (by kernel_rfl) ?_
            refine TS_T (by kernel_rfl) rfl ?_
            refine TS_go 7 ?_
            replace h := bindO h
            obtain ⟨e10, he10, h⟩ := h
            refine TS_idx S_Diagnostic.cs he10 (by kernel_rfl) (by kernel_rfl) ?_
            refine TS_go 2 ?_
            replace h := bindO h
            obtain ⟨v11, hv11, h⟩ := h
            refine TS_conG 600000 [] (ok_ref29_Put_G0 s4.1 e10.Node 8 v11 hv11) (by kernel_rfl) (by kernel_rfl) (by kernel_rfl) ?_
            refine TS_go 7 ?_
            replace h := bindO h
            obtain ⟨e12, he12, h⟩ := h
            refine TS_idx S_Diagnostic.cs he12 (by kernel_rfl) (by kernel_rfl) ?_
            refine TS_go 3 ?_
            replace h := bindO h
            obtain ⟨v13, hv13, h⟩ := h
            refine TS_conG 600000 [] (ok_ref29_Put_G0 v11 (IntKind.wrap .u64 e12.Number) 4 v13 hv13) (by kernel_rfl) (by kernel_rfl) (by kernel_rfl) ?_
            refine TS_go 7 ?_
            replace h := bindO h
            obtain ⟨e14, he14, h⟩ := h
            refine TS_idx S_Diagnostic.cs he14 (by kernel_rfl) (by kernel_rfl) ?_
            refine TS_go 4 ?_
            refine TS_litNT 55 5 1 (ecI .u8) [] ([IntKind.wrap .u8 (List.length e14.Data : Int)] : List Int) (by kernel_rfl) (by kernel_rfl) ?_
            replace h := bindO h
            obtain ⟨l15, hl15, h⟩ := h
            refine TS_appT (d := 600000) (e := 5) (sz := 1) (N := List.length v13) (ecI .u8) (fun _ => by kernel_rfl) (l1 := v13) (l2 := ([IntKind.wrap .u8 (List.length e14.Data : Int)] : List Int)) (c := .whole) hl15 (by kernel_rfl) (by kernel_rfl) ?_
            refine TS_go 7 ?_
            replace h := bindO h
            obtain ⟨e16, he16, h⟩ := h
            refine TS_idx S_Diagnostic.cs he16 (by kernel_rfl) (by kernel_rfl) ?_
            refine TS_go 2 ?_
            replace h := bindO h
            obtain ⟨l17, hl17, h⟩ := h
            refine TS_appT (d := 600000) (e := 5) (sz := 1) (N := List.length l15) (ecI .u8) (fun _ => by kernel_rfl) (l1 := l15) (l2 := e16.Data) (c := .whole) hl17 (by kernel_rfl) (by kernel_rfl) ?_
            refine TS_go 8 ?_
            obtain rfl := Option.some.inj h
            exact TS_againB _ ⟨[(0, []), (1, []), (7, []), (8, [])], [(600000, (600000, []))]⟩ rfl (by kernel_rfl) (by kernel_rfl)
          · refine TS_know 30 (b := false) hb9 (by kernel_rfl) (by kernel_rfl) ?_
            refine TS_know 31 (b := false) hb9 (by kernel_rfl) (by kernel_rfl) ?_
            refine TS_F (by kernel_rfl) rfl ?_
            refine TS_go 2 ?_
            obtain rfl := Option.some.inj h
            exact TS_brkB (s4.1, s4.2) ⟨[(7, []), (8, [])], [(600000, (600000, []))]⟩ rfl (by kernel_rfl) (by kernel_rfl) (by kernel_rfl)
        · refine TS_know 17 (b := false) hb7 (by kernel_rfl) (by kernel_rfl) ?_
          refine TS_know 18 (b := false) hb7 (by kernel_rfl) (by kernel_rfl) ?_
          refine TS_go 14 ?_
          refine TS_F (by kernel_rfl) rfl ?_
          refine TS_go 2 ?_
          obtain rfl := Option.some.inj h
          exact TS_brkB (s4.1, s4.2) ⟨[(7, []), (8, [])], [(600000, (600000, []))]⟩ rfl (by kernel_rfl) (by kernel_rfl) (by kernel_rfl)
      · intro b5 hb
        subst y6
        have h := hK1
        refine TS_go 9 ?_
        refine TS_fitU ⟨[(4, []), (5, []), (6, [])], [(600000, (900000, []))]⟩ (by kernel_rfl) ?_
        refine TS_go 1 ?_
        obtain rfl := Option.some.inj h
        exact TS_ret (by kernel_rfl) (by kernel_rfl) (by kernel_rfl)
  · subst hb2
    refine TS_T (by kernel_rfl) rfl ?_
    refine TS_go 6 ?_
    refine TS_nilT 4 600000 5 1 (by kernel_rfl) ?_
    refine TS_fitU ⟨[(4, []), (5, []), (6, [])], [(600000, (900000, []))]⟩ (by kernel_rfl) ?_
    refine TS_go 2 ?_
    obtain rfl := Option.some.inj h
    exact TS_ret (by kernel_rfl) (by kernel_rfl) (by kernel_rfl)
theorem ok_ref39_EncodeReports (a0 : List S_Diagnostic) (a1 : Int) (r : (List Int) × Int × Int) (h : F_ref39_EncodeReports a0 a1 = some r) : Con Try.prog 43 [.c (eS 3 S_Diagnostic.cs (a0)), .c (.lit (.int .i64 (a1)))] [] (.tup [(false, [eS 1 (ecI .u8) (r.1)]), (false, [.lit (.int .i64 (r.2.1))]), (false, [.lit (.int .i64 (r.2.2))])]) [] :=
  con_drop [[2]] [] (okT_ref39_EncodeReports a0 a1 r h) (by kernel_rfl) (by kernel_rfl) (by kernel_rfl)

/-- slices.Clone[[]bytebyte] -/
noncomputable def F_slices_Clone_byte_byte (a0 : List Int) : Option ((List Int)) :=
  (appO 1 ([] : List Int) (Cut.app .whole a0)).bind fun l1 =>
  some (l1)
set_option maxRecDepth 100000 in
set_option maxHeartbeats 40000000 in
theorem okT_slices_Clone_byte_byte (a0 : List Int) (r : (List Int)) (h : F_slices_Clone_byte_byte a0 = some r) : Con Try.prog 44 [.c (eS 1 (ecI .u8) (a0))] [] (.c (.slc 1 900002 (List.length r) (List.map (ecI .u8) r))) [(900000, .spare 5 1 (List.length r))] := by
  unfold F_slices_Clone_byte_byte at h
  refine con_of [] [(900000, [])] 8 Try.func44 rfl rfl (by kernel_rfl) (fun K => ?_)
  refine TS_go 8 ?_
  refine TS_eqN (xs := List.map (ecI .u8) a0) (by kernel_rfl) (by kernel_rfl) ?_ ?_
  · intro hx
    have hx := List.map_eq_nil_iff.1 hx
    subst hx
    replace h : (some (([] : List Int))) = some r := by simpa [appO, Cut.app] using h
    refine TS_go 1 ?_
    refine TS_T (by kernel_rfl) rfl ?_
    refine TS_go 4 ?_
    refine TS_nilT 2 600000 5 1 (by kernel_rfl) ?_
    refine TS_fitU ⟨[(2, [])], [(600000, (900000, []))]⟩ (by kernel_rfl) ?_
    refine TS_go 2 ?_
    obtain rfl := Option.some.inj h
    exact TS_ret (by kernel_rfl) (by kernel_rfl) (by kernel_rfl)
  · refine TS_go 1 ?_
    refine TS_F (by kernel_rfl) rfl ?_
    refine TS_go 3 ?_
    refine TS_litNT 5 5 1 (ecI .u8) [] ([] : List Int) (by kernel_rfl) (by kernel_rfl) ?_
    refine TS_go 1 ?_
    replace h := bindO h
    obtain ⟨l1, hl1, h⟩ := h
    refine TS_appT (d := 5) (e := 5) (sz := 1) (N := List.length ([] : List Int)) (ecI .u8) (fun _ => by kernel_rfl) (l1 := ([] : List Int)) (l2 := a0) (c := .whole) hl1 (by kernel_rfl) (by kernel_rfl) ?_
    refine TS_go 2 ?_
    refine TS_fitU ⟨[(2, [])], [(5, (900000, []))]⟩ (by kernel_rfl) ?_
    refine TS_go 1 ?_
    obtain rfl := Option.some.inj h
    exact TS_ret (by kernel_rfl) (by kernel_rfl) (by kernel_rfl)
theorem ok_slices_Clone_byte_byte (a0 : List Int) (r : (List Int)) (h : F_slices_Clone_byte_byte a0 = some r) : Con Try.prog 44 [.c (eS 1 (ecI .u8) (a0))] [] (.c (eS 1 (ecI .u8) (r))) [] :=
  con_drop [[2]] [] (okT_slices_Clone_byte_byte a0 r h) (by kernel_rfl) (by kernel_rfl) (by kernel_rfl)

/-- multihop/management.ends -/
noncomputable def F_management_ends_l1  (s1 : (List Int)) : Option (((List Int)) ⊕ ((Unit) ⊕ (Bool))) :=
  bif (decide ((List.length s1 : Int) > 0)) then
    bif (decide ((List.length s1 : Int) < 13)) then
      some (Sum.inr (Sum.inr true))
    else
      (idx s1 12).bind fun e6 =>
      bif (decide ((List.length s1 : Int) < (IntKind.wrap .i64 (13 + (IntKind.wrap .i64 e6))))) then
        some (Sum.inr (Sum.inr true))
      else
        (subO s1 (IntKind.wrap .i64 (13 + (IntKind.wrap .i64 e6))) (List.length s1 : Int)).bind fun l8 =>
        some (Sum.inl l8)
  else
    some (Sum.inr (Sum.inl ()))
noncomputable def F_management_ends (a0 : List Int) : Option (Bool) :=
  (loopO (F_management_ends_l1) a0).bind (Sum.elim (fun b2 =>
    some (false)
  ) (fun w9 => some w9))
set_option maxRecDepth 100000 in
set_option maxHeartbeats 40000000 in
theorem ok_management_ends (a0 : List Int) (r : Bool) (h : F_management_ends a0 = some r) : Con Try.prog 66 [.c (eS 1 (ecI .u8) (a0))] [] (.c (.lit (.bool (r)))) [] := by
  unfold F_management_ends at h
  refine con_of [] [] 22 Try.func66 rfl rfl (by kernel_rfl) (fun K => ?_)
  refine TS_go 6 ?_
  refine TS_cut ⟨[(0, [])], []⟩ (.mk [.code (codeAt [1, 0, 0] (bodyOf Try.f66)), .blk 0, .code (codeAt [1, 1] (bodyOf Try.f66))] .normal ⟨[(0, .c (.slc 1 0 (List.length a0) (List.map (ecI .u8) a0)))], []⟩) (by kernel_rfl) (by kernel_rfl) ?_
  replace h := bindO h
  obtain ⟨y3, hl1, hK1⟩ := h
  refine TS_loopB (F_management_ends_l1) ⟨[(0, [])], []⟩ (fun (s1 : (List Int)) => [(0, .c (eS 1 (ecI .u8) (s1)))]) (fun (s1 : (List Int)) => []) a0 y3 (.exit 0) (fun (b : Unit) => (Sum.inl b : (Unit) ⊕ (Bool))) ⟨[], []⟩ (fun (b2 : Unit) => []) (fun (b2 : Unit) => []) hl1 (by kernel_rfl) (by kernel_rfl) ?_ ?_
  · intro s1 x h hy1
    unfold F_management_ends_l1 at h
    refine TS_go 7 ?_
    replace h := condO h
    rcases h with ⟨hb4, h⟩ | ⟨hb4, h⟩
    · refine TS_know 6 (b := true) hb4 (by kernel_rfl) (by kernel_rfl) ?_
      refine TS_T (by kernel_rfl) rfl ?_
      refine TS_go 9 ?_
      replace h := condO h
      rcases h with ⟨hb5, h⟩ | ⟨hb5, h⟩
      · refine TS_know 9 (b := true) hb5 (by kernel_rfl) (by kernel_rfl) ?_
        refine TS_T (by kernel_rfl) rfl ?_
        refine TS_go 7 ?_
        obtain rfl := Option.some.inj h
        have hy1q := hy1 _ rfl
        subst hy1q
        replace h := (elimR hK1)
        refine TS_retB rfl (by kernel_rfl) ?_
        refine TS_go 2 ?_
        obtain rfl := Option.some.inj h
        exact TS_ret (by kernel_rfl) (by kernel_rfl) (by kernel_rfl)
      · refine TS_know 9 (b := false) hb5 (by kernel_rfl) (by kernel_rfl) ?_
        refine TS_F (by kernel_rfl) rfl ?_
        refine TS_go 4 ?_
        replace h := bindO h
        obtain ⟨e6, he6, h⟩ := h
        refine TS_idx (ecI .u8) he6 (by kernel_rfl) (by kernel_rfl) ?_
        refine TS_go 13 ?_
        replace h := condO h
        rcases h with ⟨hb7, h⟩ | ⟨hb7, h⟩
        · refine TS_know 18 (b := true) hb7 (by kernel_rfl) (by kernel_rfl) ?_
          refine TS_T (by kernel_rfl) rfl ?_
          refine TS_go 7 ?_
          obtain rfl := Option.some.inj h
          have hy1q := hy1 _ rfl
          subst hy1q
          replace h := (elimR hK1)
          refine TS_retB rfl (by kernel_rfl) ?_
          refine TS_go 2 ?_
          obtain rfl := Option.some.inj h
          exact TS_ret (by kernel_rfl) (by kernel_rfl) (by kernel_rfl)
        · refine TS_know 18 (b := false) hb7 (by kernel_rfl) (by kernel_rfl) ?_
          refine TS_F (by kernel_rfl) rfl ?_
          refine TS_go 4 ?_
          replace h := bindO h
          obtain ⟨l8, hl8, h⟩ := h
          refine TS_sub (ecI .u8) 1 hl8 (by kernel_rfl) (by kernel_rfl) ?_
          refine TS_go 3 ?_
          obtain rfl := Option.some.inj h
          exact TS_againB _ ⟨[(0, [])], []⟩ rfl (by kernel_rfl) (by kernel_rfl)
    · refine TS_know 6 (b := false) hb4 (by kernel_rfl) (by kernel_rfl) ?_
      refine TS_F (by kernel_rfl) rfl ?_
      refine TS_go 2 ?_
      obtain rfl := Option.some.inj h
      exact TS_brkB () ⟨[], []⟩ rfl (by kernel_rfl) (by kernel_rfl) (by kernel_rfl)
  · intro b2 hb
    subst y3
    have h := elimL hK1
    refine TS_go 6 ?_
    obtain rfl := Option.some.inj h
    exact TS_ret (by kernel_rfl) (by kernel_rfl) (by kernel_rfl)

/-- multihop/management.DecodeReports -/
noncomputable def F_management_DecodeReports_l1  (s3 : (List Int) × (List S_Diagnostic)) : Option (((List Int) × (List S_Diagnostic)) ⊕ (((List S_Diagnostic)) ⊕ ((List S_Diagnostic) × Int))) :=
  bif (decide ((List.length s3.1 : Int) > 0)) then
    bif (decide ((List.length s3.2 : Int) ≥ 64)) then
      some (Sum.inr (Sum.inr (([] : List S_Diagnostic), 5)))
    else
      (F_octets_Uint s3.1 0 8).bind fun v8 =>
      (F_octets_Uint s3.1 8 4).bind fun v9 =>
      (idx s3.1 12).bind fun e10 =>
      (subO s3.1 13 (IntKind.wrap .i64 (13 + (IntKind.wrap .i64 e10)))).bind fun l11 =>
      (appO 1 ([] : List Int) (Cut.app .whole l11)).bind fun l12 =>
      (appO 40 s3.2 (Cut.app .whole ([(S_Diagnostic.mk v8.1 (IntKind.wrap .i64 v9.1) l12)] : List S_Diagnostic))).bind fun l13 =>
      (subO s3.1 (IntKind.wrap .i64 (13 + (IntKind.wrap .i64 e10))) (List.length s3.1 : Int)).bind fun l14 =>
      some (Sum.inl (l14, l13))
  else
    some (Sum.inr (Sum.inl s3.2))
noncomputable def F_management_DecodeReports (a0 : List Int) : Option ((List S_Diagnostic) × Int) :=
  (F_management_ends a0).bind fun v1 =>
  bif v1 then
    some ((([] : List S_Diagnostic), 4))
  else
    (loopO (F_management_DecodeReports_l1) (a0, ([] : List S_Diagnostic))).bind (Sum.elim (fun b4 =>
      (F_management_ValidReports b4).bind fun v16 =>
      bif v16 then
        some ((b4, 0))
      else
        some ((([] : List S_Diagnostic), 5))
    ) (fun w15 => some w15))
set_option maxRecDepth 100000 in
set_option maxHeartbeats 40000000 in
theorem okT_management_DecodeReports (a0 : List Int) (r : (List S_Diagnostic) × Int) (h : F_management_DecodeReports a0 = some r) : Con Try.prog 45 [.c (eS 1 (ecI .u8) (a0))] [] (.tup [(false, [.slc 3 900002 (List.length r.1) (List.map S_Diagnostic.cs r.1)]), (false, [.lit (.int .i64 (r.2))])]) [(900000, .spare 56 3 (List.length r.1))] := by
  unfold F_management_DecodeReports at h
  refine con_of [] [(900000, [])] 53 Try.func45 rfl rfl (by kernel_rfl) (fun K => ?_)
  refine TS_go 9 ?_
  replace h := bindO h
  obtain ⟨v1, hv1, h⟩ := h
  refine TS_call [] (ok_management_ends a0 v1 hv1) (by kernel_rfl) (by kernel_rfl) ?_
  refine TS_go 1 ?_
  replace h := condO h
  rcases h with ⟨hb2, h⟩ | ⟨hb2, h⟩
  · subst hb2
    refine TS_T (by kernel_rfl) rfl ?_
    refine TS_go 5 ?_
    refine TS_nilT 2 600000 56 3 (by kernel_rfl) ?_
    refine TS_fitU ⟨[(2, []), (3, [])], [(600000, (900000, []))]⟩ (by kernel_rfl) ?_
    refine TS_go 2 ?_
    obtain rfl := Option.some.inj h
    exact TS_ret (by kernel_rfl) (by kernel_rfl) (by kernel_rfl)
  · subst hb2
    refine TS_F (by kernel_rfl) rfl ?_
    refine TS_go 7 ?_
    refine TS_nilT 4 600000 56 3 (by kernel_rfl) ?_
    refine TS_cut ⟨[(0, []), (4, [])], [(600000, (600000, []))]⟩ (.mk [.code (codeAt [1, 1, 1, 0, 0] (bodyOf Try.f45)), .blk 0, .code (codeAt [1, 1, 1, 1] (bodyOf Try.f45))] .normal ⟨[(0, .c (.slc 1 0 (List.length a0) (List.map (ecI .u8) a0))), (4, .c (.slc 3 600002 (List.length ([] : List S_Diagnostic)) (List.map S_Diagnostic.cs ([] : List S_Diagnostic))))], [(600000, .spare 56 3 (List.length ([] : List S_Diagnostic)))]⟩) (by kernel_rfl) (by kernel_rfl) ?_
    replace h := bindO h
    obtain ⟨y5, hl1, hK1⟩ := h
    refine TS_loopB (F_management_DecodeReports_l1) ⟨[(0, []), (4, [])], [(600000, (600000, []))]⟩ (fun (s3 : (List Int) × (List S_Diagnostic)) => [(0, .c (eS 1 (ecI .u8) (s3.1))), (4, .c (.slc 3 600002 (List.length s3.2) (List.map S_Diagnostic.cs s3.2)))]) (fun (s3 : (List Int) × (List S_Diagnostic)) => [(600000, .spare 56 3 (List.length s3.2))]) (a0, ([] : List S_Diagnostic)) y5 (.exit 0) (fun (b : (List S_Diagnostic)) => (Sum.inl b : ((List S_Diagnostic)) ⊕ ((List S_Diagnostic) × Int))) ⟨[(4, [])], [(600000, (600000, []))]⟩ (fun (b4 : (List S_Diagnostic)) => [(4, .c (.slc 3 600002 (List.length b4) (List.map S_Diagnostic.cs b4)))]) (fun (b4 : (List S_Diagnostic)) => [(600000, .spare 56 3 (List.length b4))]) hl1 (by kernel_rfl) (by kernel_rfl) ?_ ?_
    · intro s3 x h hy1
      unfold F_management_DecodeReports_l1 at h
      refine TS_go 7 ?_
      replace h := condO h
      rcases h with ⟨hb6, h⟩ | ⟨hb6, h⟩
      · refine TS_know 15 (b := true) hb6 (by kernel_rfl) (by kernel_rfl) ?_
        refine TS_T (by kernel_rfl) rfl ?_
        refine TS_go 9 ?_
        replace h := condO h
        rcases h with ⟨hb7, h⟩ | ⟨hb7, h⟩
        · refine TS_know 18 (b := true) hb7 (by kernel_rfl) (by kernel_rfl) ?_
          refine TS_T (by kernel_rfl) rfl ?_
          refine TS_go 5 ?_
          refine TS_nilT 2 600001 56 3 (by kernel_rfl) ?_
          refine TS_fitU ⟨[(2, []), (3, [])], [(600001, (900000, []))]⟩ (by kernel_rfl) ?_
          refine TS_go 3 ?_
          obtain rfl := Option.some.inj h
          have hy1q := hy1 _ rfl
          subst hy1q
          replace h := (elimR hK1)
          refine TS_retB rfl (by kernel_rfl) ?_
          refine TS_go 2 ?_
          obtain rfl := Option.some.inj h
          exact TS_ret (by kernel_rfl) (by kernel_rfl) (by kernel_rfl)
        · refine TS_know 18 (b := false) hb7 (by kernel_rfl) (by kernel_rfl) ?_
          refine TS_F (by kernel_rfl) rfl ?_
          refine TS_go 4 ?_
          replace h := bindO h
          obtain ⟨v8, hv8, h⟩ := h
          refine TS_call [] (ok_octets_Uint s3.1 0 8 v8 hv8) (by kernel_rfl) (by kernel_rfl) ?_
          refine TS_go 9 ?_
          replace h := bindO h
          obtain ⟨v9, hv9, h⟩ := h
          refine TS_call [] (ok_octets_Uint s3.1 8 4 v9 hv9) (by kernel_rfl) (by kernel_rfl) ?_
          refine TS_go 9 ?_
          replace h := bindO h
          obtain ⟨e10, he10, h⟩ := h
          refine TS_idx (ecI .u8) he10 (by kernel_rfl) (by kernel_rfl) ?_
          refine TS_go 9 ?_
          replace h := bindO h
          obtain ⟨l11, hl11, h⟩ := h
          refine TS_sub (ecI .u8) 1 hl11 (by kernel_rfl) (by kernel_rfl) ?_
          replace h := bindO h
          obtain ⟨l12, hl12, h⟩ := h
          refine TS_appNT 37 5 1 (ecI .u8) (fun _ => by kernel_rfl) (l2 := l11) .whole hl12 (by kernel_rfl) (by kernel_rfl) ?_
          refine TS_go 10 ?_
          refine TS_litNT 44 56 3 S_Diagnostic.cs [0, 0, 2] ([(S_Diagnostic.mk v8.1 (IntKind.wrap .i64 v9.1) l12)] : List S_Diagnostic) (by kernel_rfl) (by kernel_rfl) ?_
          replace h := bindO h
          obtain ⟨l13, hl13, h⟩ := h
          refine TS_appT (d := 600000) (e := 56) (sz := 3) (N := List.length s3.2) S_Diagnostic.cs (fun _ => by kernel_rfl) (l1 := s3.2) (l2 := ([(S_Diagnostic.mk v8.1 (IntKind.wrap .i64 v9.1) l12)] : List S_Diagnostic)) (c := .whole) hl13 (by kernel_rfl) (by kernel_rfl) ?_
          refine TS_go 5 ?_
          replace h := bindO h
          obtain ⟨l14, hl14, h⟩ := h
          refine TS_sub (ecI .u8) 1 hl14 (by kernel_rfl) (by kernel_rfl) ?_
          refine TS_go 3 ?_
          obtain rfl := Option.some.inj h
          exact TS_againB _ ⟨[(0, []), (4, [])], [(600000, (600000, []))]⟩ rfl (by kernel_rfl) (by kernel_rfl)
      · refine TS_know 15 (b := false) hb6 (by kernel_rfl) (by kernel_rfl) ?_
        refine TS_F (by kernel_rfl) rfl ?_
        refine TS_go 2 ?_
        obtain rfl := Option.some.inj h
        exact TS_brkB s3.2 ⟨[(4, [])], [(600000, (600000, []))]⟩ rfl (by kernel_rfl) (by kernel_rfl) (by kernel_rfl)
    · intro b4 hb
      subst y5
      have h := elimL hK1
      refine TS_go 5 ?_
      replace h := bindO h
      obtain ⟨v16, hv16, h⟩ := h
      refine TS_call [[4]] (ok_management_ValidReports b4 v16 hv16) (by kernel_rfl) (by kernel_rfl) ?_
      refine TS_go 2 ?_
      replace h := condO h
      rcases h with ⟨hb17, h⟩ | ⟨hb17, h⟩
      · subst hb17
        refine TS_F (by kernel_rfl) rfl ?_
        refine TS_go 7 ?_
        refine TS_fitU ⟨[(2, []), (3, [])], [(600000, (900000, []))]⟩ (by kernel_rfl) ?_
        refine TS_go 1 ?_
        obtain rfl := Option.some.inj h
        exact TS_ret (by kernel_rfl) (by kernel_rfl) (by kernel_rfl)
      · subst hb17
        refine TS_T (by kernel_rfl) rfl ?_
        refine TS_go 5 ?_
        refine TS_nilT 2 600001 56 3 (by kernel_rfl) ?_
        refine TS_fitU ⟨[(2, []), (3, [])], [(600001, (900000, []))]⟩ (by kernel_rfl) ?_
        refine TS_go 2 ?_
        obtain rfl := Option.some.inj h
        exact TS_ret (by kernel_rfl) (by kernel_rfl) (by kernel_rfl)
theorem ok_management_DecodeReports (a0 : List Int) (r : (List S_Diagnostic) × Int) (h : F_management_DecodeReports a0 = some r) : Con Try.prog 45 [.c (eS 1 (ecI .u8) (a0))] [] (.tup [(false, [eS 3 S_Diagnostic.cs (r.1)]), (false, [.lit (.int .i64 (r.2))])]) [] :=
  con_drop [[4]] [] (okT_management_DecodeReports a0 r h) (by kernel_rfl) (by kernel_rfl) (by kernel_rfl)

/-- multihop/multihopref39.DecodeReports -/
noncomputable def F_ref39_DecodeReports_l1  (s1 : (List Int) × (List S_Diagnostic)) : Option (((List Int) × (List S_Diagnostic)) ⊕ (((List S_Diagnostic)) ⊕ ((List S_Diagnostic) × Int))) :=
  bif (decide ((List.length s1.1 : Int) > 0)) then
    bif (decide ((List.length s1.1 : Int) < 13)) then
      some (Sum.inr (Sum.inr (([] : List S_Diagnostic), 4)))
    else
      (idx s1.1 12).bind fun e6 =>
      bif (decide ((List.length s1.1 : Int) < (IntKind.wrap .i64 (13 + (IntKind.wrap .i64 e6))))) then
        some (Sum.inr (Sum.inr (([] : List S_Diagnostic), 4)))
      else
        (idx s1.1 12).bind fun e8 =>
        (F_ref29_Get s1.1 0 8).bind fun v9 =>
        (F_ref29_Get s1.1 8 4).bind fun v10 =>
        (subO s1.1 13 (IntKind.wrap .i64 (13 + (IntKind.wrap .i64 e8)))).bind fun l11 =>
        (appO 1 ([] : List Int) (Cut.app .whole l11)).bind fun l12 =>
        (appO 40 s1.2 (Cut.app .whole ([(S_Diagnostic.mk v9 (IntKind.wrap .i64 v10) l12)] : List S_Diagnostic))).bind fun l13 =>
        (subO s1.1 (IntKind.wrap .i64 (13 + (IntKind.wrap .i64 e8))) (List.length s1.1 : Int)).bind fun l14 =>
        some (Sum.inl (l14, l13))
  else
    some (Sum.inr (Sum.inl s1.2))
noncomputable def F_ref39_DecodeReports (a0 : List Int) : Option ((List S_Diagnostic) × Int) :=
  (loopO (F_ref39_DecodeReports_l1) (a0, ([] : List S_Diagnostic))).bind (Sum.elim (fun b2 =>
    (F_ref39_ValidReports b2).bind fun v16 =>
    bif v16 then
      some ((b2, 0))
    else
      some ((([] : List S_Diagnostic), 5))
  ) (fun w15 => some w15))
set_option maxRecDepth 100000 in
set_option maxHeartbeats 40000000 in
theorem okT_ref39_DecodeReports (a0 : List Int) (r : (List S_Diagnostic) × Int) (h : F_ref39_DecodeReports a0 = some r) : Con Try.prog 46 [.c (eS 1 (ecI .u8) (a0))] [] (.tup [(false, [.slc 3 900002 (List.length r.1) (List.map S_Diagnostic.cs r.1)]), (false, [.lit (.int .i64 (r.2))])]) [(900000, .spare 56 3 (List.length r.1))] := by
  unfold F_ref39_DecodeReports at h
  refine con_of [] [(900000, [])] 47 Try.func46 rfl rfl (by kernel_rfl) (fun K => ?_)
  refine TS_go 11 ?_
  refine TS_nilT 4 600000 56 3 (by kernel_rfl) ?_
  refine TS_cut ⟨[(0, []), (4, [])], [(600000, (600000, []))]⟩ (.mk [.code (codeAt [1, 1, 0, 0] (bodyOf Try.f46)), .blk 0, .code (codeAt [1, 1, 1] (bodyOf Try.f46))] .normal ⟨[(0, .c (.slc 1 0 (List.length a0) (List.map (ecI .u8) a0))), (4, .c (.slc 3 600002 (List.length ([] : List S_Diagnostic)) (List.map S_Diagnostic.cs ([] : List S_Diagnostic))))], [(600000, .spare 56 3 (List.length ([] : List S_Diagnostic)))]⟩) (by kernel_rfl) (by kernel_rfl) ?_
  replace h := bindO h
  obtain ⟨y3, hl1, hK1⟩ := h
  refine TS_loopB (F_ref39_DecodeReports_l1) ⟨[(0, []), (4, [])], [(600000, (600000, []))]⟩ (fun (s1 : (List Int) × (List S_Diagnostic)) => [(0, .c (eS 1 (ecI .u8) (s1.1))), (4, .c (.slc 3 600002 (List.length s1.2) (List.map S_Diagnostic.cs s1.2)))]) (fun (s1 : (List Int) × (List S_Diagnostic)) => [(600000, .spare 56 3 (List.length s1.2))]) (a0, ([] : List S_Diagnostic)) y3 (.exit 0) (fun (b : (List S_Diagnostic)) => (Sum.inl b : ((List S_Diagnostic)) ⊕ ((List S_Diagnostic) × Int))) ⟨[(4, [])], [(600000, (600000, []))]⟩ (fun (b2 : (List S_Diagnostic)) => [(4, .c (.slc 3 600002 (List.length b2) (List.map S_Diagnostic.cs b2)))]) (fun (b2 : (List S_Diagnostic)) => [(600000, .spare 56 3 (List.length b2))]) hl1 (by kernel_rfl) (by kernel_rfl) ?_ ?_
  · intro s1 x h hy1
    unfold F_ref39_DecodeReports_l1 at h
    refine TS_go 7 ?_
    replace h := condO h
    rcases h with ⟨hb4, h⟩ | ⟨hb4, h⟩
    · refine TS_know 8 (b := true) hb4 (by kernel_rfl) (by kernel_rfl) ?_
      refine TS_T (by kernel_rfl) rfl ?_
      refine TS_go 9 ?_
      replace h := condO h
      rcases h with ⟨hb5, h⟩ | ⟨hb5, h⟩
      · refine TS_know 11 (b := true) hb5 (by kernel_rfl) (by kernel_rfl) ?_
        refine TS_know 12 (b := true) hb5 (by kernel_rfl) (by kernel_rfl) ?_
        refine TS_go 10 ?_
        refine TS_T (by kernel_rfl) rfl ?_
        refine TS_go 5 ?_
        refine TS_nilT 2 600001 56 3 (by kernel_rfl) ?_
        refine TS_fitU ⟨[(2, []), (3, [])], [(600001, (900000, []))]⟩ (by kernel_rfl) ?_
        refine TS_go 3 ?_
        obtain rfl := Option.some.inj h
        have hy1q := hy1 _ rfl
        subst hy1q
        replace h := (elimR hK1)
        refine TS_retB rfl (by kernel_rfl) ?_
        refine TS_go 2 ?_
        obtain rfl := Option.some.inj h
        exact TS_ret (by kernel_rfl) (by kernel_rfl) (by kernel_rfl)
      · refine TS_know 11 (b := false) hb5 (by kernel_rfl) (by kernel_rfl) ?_
        refine TS_know 12 (b := false) hb5 (by kernel_rfl) (by kernel_rfl) ?_
        refine TS_go 3 ?_
        replace h := bindO h
        obtain ⟨e6, he6, h⟩ := h
        refine TS_idx (ecI .u8) he6 (by kernel_rfl) (by kernel_rfl) ?_
        refine TS_go 6 ?_
        replace h := condO h
        rcases h with ⟨hb7, h⟩ | ⟨hb7, h⟩
        · refine TS_know 20 (b := true) hb7 (by kernel_rfl) (by kernel_rfl) ?_
          refine TS_know 21 (b := true) hb7 (by kernel_rfl) (by kernel_rfl) ?_
          refine TS_T (by kernel_rfl) rfl ?_
          refine TS_go 5 ?_
          refine TS_nilT 2 600001 56 3 (by kernel_rfl) ?_
          refine TS_fitU ⟨[(2, []), (3, [])], [(600001, (900000, []))]⟩ (by kernel_rfl) ?_
          refine TS_go 3 ?_
          obtain rfl := Option.some.inj h
          have hy1q := hy1 _ rfl
          subst hy1q
          replace h := (elimR hK1)
          refine TS_retB rfl (by kernel_rfl) ?_
          refine TS_go 2 ?_
          obtain rfl := Option.some.inj h
          exact TS_ret (by kernel_rfl) (by kernel_rfl) (by kernel_rfl)
        · refine TS_know 20 (b := false) hb7 (by kernel_rfl) (by kernel_rfl) ?_
          refine TS_know 21 (b := false) hb7 (by kernel_rfl) (by kernel_rfl) ?_
          refine TS_F (by kernel_rfl) rfl ?_
          refine TS_go 4 ?_
          replace h := bindO h
          obtain ⟨e8, he8, h⟩ := h
          refine TS_idx (ecI .u8) he8 (by kernel_rfl) (by kernel_rfl) ?_
          refine TS_go 6 ?_
          refine TS_draw (by kernel_rfl) ?_
          refine TD_go 2 ?_
          replace h := bindO h
          obtain ⟨v9, hv9, h⟩ := h
          refine TD_call [] (ok_ref29_Get s1.1 0 8 v9 hv9) (by kernel_rfl) (by kernel_rfl) ?_
          refine TD_go 1 ?_
          replace h := bindO h
          obtain ⟨v10, hv10, h⟩ := h
          refine TD_call [] (ok_ref29_Get s1.1 8 4 v10 hv10) (by kernel_rfl) (by kernel_rfl) ?_
          refine TD_go 3 ?_
          replace h := bindO h
          obtain ⟨l11, hl11, h⟩ := h
          refine TD_sub (ecI .u8) 1 hl11 (by kernel_rfl) (by kernel_rfl) ?_
          replace h := bindO h
          obtain ⟨l12, hl12, h⟩ := h
          refine TD_appNT 36 5 1 (ecI .u8) (fun _ => by kernel_rfl) (l2 := l11) .whole hl12 (by kernel_rfl) (by kernel_rfl) ?_
          refine TD_go 1 ?_
          refine TD_litNT 38 56 3 S_Diagnostic.cs [0, 0, 2] ([(S_Diagnostic.mk v9 (IntKind.wrap .i64 v10) l12)] : List S_Diagnostic) (by kernel_rfl) (by kernel_rfl) ?_
          replace h := bindO h
          obtain ⟨l13, hl13, h⟩ := h
          refine TD_appT (d := 600000) (e := 56) (sz := 3) (N := List.length s1.2) S_Diagnostic.cs (fun _ => by kernel_rfl) (l1 := s1.2) (l2 := ([(S_Diagnostic.mk v9 (IntKind.wrap .i64 v10) l12)] : List S_Diagnostic)) (c := .whole) hl13 (by kernel_rfl) (by kernel_rfl) ?_
          refine TD_go 1 ?_
          refine TD_end (by kernel_rfl) ?_
          refine TS_go 3 ?_
          replace h := bindO h
          obtain ⟨l14, hl14, h⟩ := h
          refine TS_sub (ecI .u8) 1 hl14 (by kernel_rfl) (by kernel_rfl) ?_
          refine TS_go 3 ?_
          obtain rfl := Option.some.inj h
          exact TS_againB _ ⟨[(0, []), (4, [])], [(600000, (600000, []))]⟩ rfl (by kernel_rfl) (by kernel_rfl)
    · refine TS_know 8 (b := false) hb4 (by kernel_rfl) (by kernel_rfl) ?_
      refine TS_F (by kernel_rfl) rfl ?_
      refine TS_go 2 ?_
      obtain rfl := Option.some.inj h
      exact TS_brkB s1.2 ⟨[(4, [])], [(600000, (600000, []))]⟩ rfl (by kernel_rfl) (by kernel_rfl) (by kernel_rfl)
  · intro b2 hb
    subst y3
    have h := elimL hK1
    refine TS_go 5 ?_
    replace h := bindO h
    obtain ⟨v16, hv16, h⟩ := h
    refine TS_call [[4]] (ok_ref39_ValidReports b2 v16 hv16) (by kernel_rfl) (by kernel_rfl) ?_
    refine TS_go 2 ?_
    replace h := condO h
    rcases h with ⟨hb17, h⟩ | ⟨hb17, h⟩
    · subst hb17
      refine TS_F (by kernel_rfl) rfl ?_
      refine TS_go 7 ?_
      refine TS_fitU ⟨[(2, []), (3, [])], [(600000, (900000, []))]⟩ (by kernel_rfl) ?_
      refine TS_go 1 ?_
      obtain rfl := Option.some.inj h
      exact TS_ret (by kernel_rfl) (by kernel_rfl) (by kernel_rfl)
    · subst hb17
      refine TS_T (by kernel_rfl) rfl ?_
      refine TS_go 5 ?_
      refine TS_nilT 2 600001 56 3 (by kernel_rfl) ?_
      refine TS_fitU ⟨[(2, []), (3, [])], [(600001, (900000, []))]⟩ (by kernel_rfl) ?_
      refine TS_go 2 ?_
      obtain rfl := Option.some.inj h
      exact TS_ret (by kernel_rfl) (by kernel_rfl) (by kernel_rfl)
theorem ok_ref39_DecodeReports (a0 : List Int) (r : (List S_Diagnostic) × Int) (h : F_ref39_DecodeReports a0 = some r) : Con Try.prog 46 [.c (eS 1 (ecI .u8) (a0))] [] (.tup [(false, [eS 3 S_Diagnostic.cs (r.1)]), (false, [.lit (.int .i64 (r.2))])]) [] :=
  con_drop [[4]] [] (okT_ref39_DecodeReports a0 r h) (by kernel_rfl) (by kernel_rfl) (by kernel_rfl)

/-- multihop/multihoplaw39.ReportsEncode -/
noncomputable def F_law39_ReportsEncode_l2 (a1 : Int) (v13 : Int) (e12 : List S_Diagnostic) (s14 : Int) : Option ((Int) ⊕ ((Unit) ⊕ (Bool))) :=
  bif (decide (s14 < (List.length ([a1, v13, 94, 10000] : List Int) : Int))) then
    (idx ([a1, v13, 94, 10000] : List Int) s14).bind fun e18 =>
    (F_management_EncodeReports e12 e18).bind fun v19 =>
    (F_ref39_EncodeReports e12 e18).bind fun v20 =>
    bif (v19.2.2 != v20.2.2) then
      some (Sum.inr (Sum.inr false))
    else
      bif (v19.2.1 != v20.2.1) then
        some (Sum.inr (Sum.inr false))
      else
        (F_bytes_Equal v19.1 v20.1).bind fun v23 =>
        bif v23 then
          some (Sum.inl (IntKind.wrap .i64 (s14 + 1)))
        else
          some (Sum.inr (Sum.inr false))
  else
    some (Sum.inr (Sum.inl ()))
noncomputable def F_law39_ReportsEncode_l1 (a0 : List S_Diagnostic) (v6 : (List S_Diagnostic) × S_multihopmade_Tape) (v7 : (List S_Diagnostic) × S_multihopmade_Tape) (a1 : Int) (s8 : Int) : Option ((Int) ⊕ ((Unit) ⊕ (Bool))) :=
  bif (decide (s8 < (List.length ([a0, v6.1, v7.1] : List (List S_Diagnostic)) : Int))) then
    (idx ([a0, v6.1, v7.1] : List (List S_Diagnostic)) s8).bind fun e12 =>
    (F_made_Mod a1 120).bind fun v13 =>
    (loopO (F_law39_ReportsEncode_l2 a1 v13 e12) 0).bind (Sum.elim (fun b15 =>
      some (Sum.inl (IntKind.wrap .i64 (s8 + 1)))
    ) (fun w25 => some (Sum.inr (Sum.inr w25))))
  else
    some (Sum.inr (Sum.inl ()))
noncomputable def F_law39_ReportsEncode_l3 (a2 : List Int) (v27 : (List Int) × Int × Int) (l29 : List Int) (l31 : List Int) (l33 : List Int) (s34 : Int) : Option ((Int) ⊕ ((Unit) ⊕ (Bool))) :=
  bif (decide (s34 < (List.length ([a2, v27.1, l29, l31, l33] : List (List Int)) : Int))) then
    (idx ([a2, v27.1, l29, l31, l33] : List (List Int)) s34).bind fun e38 =>
    (F_management_DecodeReports e38).bind fun v39 =>
    (F_ref39_DecodeReports e38).bind fun v40 =>
    bif (v39.2 != v40.2) then
      some (Sum.inr (Sum.inr false))
    else
      (F_world_SameReports v39.1 v40.1).bind fun v42 =>
      bif v42 then
        some (Sum.inl (IntKind.wrap .i64 (s34 + 1)))
      else
        some (Sum.inr (Sum.inr false))
  else
    some (Sum.inr (Sum.inl ()))
noncomputable def F_law39_ReportsEncode (a0 : List S_Diagnostic) (a1 : Int) (a2 : List Int) (a3 : List Int) : Option (Bool) :=
  (F_law39_small a0).bind fun v1 =>
  bif v1 then
    bif (decide ((List.length a2 : Int) > 400)) then
      (F_law39_known ).bind fun v4 =>
      some (v4)
    else
      (F_made_New a3).bind fun v5 =>
      (F_world_Reports v5).bind fun v6 =>
      (F_law39_spoiled v6.2 v6.1).bind fun v7 =>
      (loopO (F_law39_ReportsEncode_l1 a0 v6 v7 a1) 0).bind (Sum.elim (fun b9 =>
        (F_ref39_EncodeReports v6.1 10000).bind fun v27 =>
        (F_made_Mod a1 (IntKind.wrap .i64 ((List.length v27.1 : Int) + 1))).bind fun v28 =>
        (subO v27.1 0 v28).bind fun l29 =>
        (F_slices_Clone_byte_byte v27.1).bind fun v30 =>
        (appO 1 v30 (Cut.app .whole v27.1)).bind fun l31 =>
        (F_slices_Clone_byte_byte v27.1).bind fun v32 =>
        (appO 1 v32 (Cut.app .whole a2)).bind fun l33 =>
        (loopO (F_law39_ReportsEncode_l3 a2 v27 l29 l31 l33) 0).bind (Sum.elim (fun b35 =>
          (F_law39_known ).bind fun v45 =>
          some (v45)
        ) (fun w44 => some w44))
      ) (fun w26 => some w26))
  else
    (F_law39_known ).bind fun v46 =>
    some (v46)
set_option maxRecDepth 100000 in
set_option maxHeartbeats 40000000 in
theorem ok_law39_ReportsEncode (a0 : List S_Diagnostic) (a1 : Int) (a2 : List Int) (a3 : List Int) (r : Bool) (h : F_law39_ReportsEncode a0 a1 a2 a3 = some r) : Con Try.prog 9 [.c (eS 3 S_Diagnostic.cs (a0)), .c (.lit (.int .i64 (a1))), .c (eS 1 (ecI .u8) (a2)), .c (eS 1 (ecI .i64) (a3))] [] (.c (.lit (.bool (r)))) [] := by
  unfold F_law39_ReportsEncode at h
  refine con_of [] [] 145 Try.func9 rfl rfl (by kernel_rfl) (fun K => ?_)
  refine TS_go 8 ?_
  replace h := bindO h
  obtain ⟨v1, hv1, h⟩ := h
  refine TS_call [] (ok_law39_small a0 v1 hv1) (by kernel_rfl) (by kernel_rfl) ?_
  refine TS_go 2 ?_
  replace h := condO h
  rcases h with ⟨hb2, h⟩ | ⟨hb2, h⟩
  · subst hb2
    refine TS_go 5 ?_
    replace h := condO h
    rcases h with ⟨hb3, h⟩ | ⟨hb3, h⟩
    · refine TS_know 37 (b := true) hb3 (by kernel_rfl) (by kernel_rfl) ?_
      refine TS_know 38 (b := true) hb3 (by kernel_rfl) (by kernel_rfl) ?_
      refine TS_T (by kernel_rfl) rfl ?_
      refine TS_go 2 ?_
      replace h := bindO h
      obtain ⟨v4, hv4, h⟩ := h
      refine TS_call [] (ok_law39_known  v4 hv4) (by kernel_rfl) (by kernel_rfl) ?_
      refine TS_go 4 ?_
      obtain rfl := Option.some.inj h
      exact TS_ret (by kernel_rfl) (by kernel_rfl) (by kernel_rfl)
    · refine TS_know 37 (b := false) hb3 (by kernel_rfl) (by kernel_rfl) ?_
      refine TS_know 38 (b := false) hb3 (by kernel_rfl) (by kernel_rfl) ?_
      refine TS_F (by kernel_rfl) rfl ?_
      refine TS_go 4 ?_
      replace h := bindO h
      obtain ⟨v5, hv5, h⟩ := h
      refine TS_con [] [(41, 10)] none (ok_made_New a3 v5 hv5) (by kernel_rfl) (by kernel_rfl) (by kernel_rfl) ?_
      refine TS_go 5 ?_
      replace h := bindO h
      obtain ⟨v6, hv6, h⟩ := h
      refine TS_con [] [(43, 900000)] (some (41, 0)) (okT_world_Reports v5 v6 hv6) (by kernel_rfl) (by kernel_rfl) (by kernel_rfl) ?_
      refine TS_go 9 ?_
      replace h := bindO h
      obtain ⟨v7, hv7, h⟩ := h
      refine TS_con [[], [4]] [(48, 900000)] (some (41, 0)) (okT_law39_spoiled v6.2 v6.1 v7 hv7) (by kernel_rfl) (by kernel_rfl) (by kernel_rfl) ?_
      refine TS_litNT 49 47 1 (ecS 3 S_Diagnostic.cs) [4] ([a0, v6.1, v7.1] : List (List S_Diagnostic)) (by kernel_rfl) (by kernel_rfl) ?_
      refine TS_go 4 ?_
      refine TS_cut ⟨[(1, []), (2, []), (10, []), (49, []), (50, []), (51, [])], [(43, (43, [])), (49, (49, []))]⟩ (.mk [.code (codeAt [1, 1, 1, 1, 0, 1, 0] (bodyOf Try.f9)), .blk 0, .code (codeAt [1, 1, 1, 1, 1] (bodyOf Try.f9))] .normal ⟨[(1, .c (.lit (.int .i64 (a1)))), (2, .c (.slc 1 0 (List.length a2) (List.map (ecI .u8) a2))), (10, .c (.slc 3 45 (List.length v6.1) (List.map S_Diagnostic.cs v6.1))), (49, .c (.slc 1 51 (List.length ([a0, v6.1, v7.1] : List (List S_Diagnostic))) (List.map (ecS 3 S_Diagnostic.cs) ([a0, v6.1, v7.1] : List (List S_Diagnostic))))), (50, .c (.lit (.int .i64 ((List.length ([a0, v6.1, v7.1] : List (List S_Diagnostic)) : Int))))), (51, .c (.lit (.int .i64 (0))))], [(43, .spare 56 3 (List.length v6.1)), (49, .spare 47 1 (List.length ([a0, v6.1, v7.1] : List (List S_Diagnostic))))]⟩) (by kernel_rfl) (by kernel_rfl) ?_
      replace h := bindO h
      obtain ⟨y10, hl1, hK1⟩ := h
      refine TS_loopB (F_law39_ReportsEncode_l1 a0 v6 v7 a1) ⟨[(1, []), (2, []), (10, []), (49, []), (50, []), (51, [])], [(43, (43, [])), (49, (49, []))]⟩ (fun (s8 : Int) => [(51, .c (.lit (.int .i64 (s8))))]) (fun (s8 : Int) => []) 0 y10 (.exit 0) (fun (b : Unit) => (Sum.inl b : (Unit) ⊕ (Bool))) ⟨[(1, []), (2, []), (10, [])], [(43, (43, []))]⟩ (fun (b9 : Unit) => []) (fun (b9 : Unit) => []) hl1 (by kernel_rfl) (by kernel_rfl) ?_ ?_
      · intro s8 x h hy1
        unfold F_law39_ReportsEncode_l1 at h
        refine TS_go 5 ?_
        replace h := condO h
        rcases h with ⟨hb11, h⟩ | ⟨hb11, h⟩
        · refine TS_know 52 (b := true) hb11 (by kernel_rfl) (by kernel_rfl) ?_
          refine TS_T (by kernel_rfl) rfl ?_
          refine TS_go 5 ?_
          replace h := bindO h
          obtain ⟨e12, he12, h⟩ := h
          refine TS_idx (ecS 3 S_Diagnostic.cs) he12 (by kernel_rfl) (by kernel_rfl) ?_
          refine TS_go 7 ?_
          replace h := bindO h
          obtain ⟨v13, hv13, h⟩ := h
          refine TS_call [] (ok_made_Mod a1 120 v13 hv13) (by kernel_rfl) (by kernel_rfl) ?_
          refine TS_litNT 58 3 1 (ecI .i64) [] ([a1, v13, 94, 10000] : List Int) (by kernel_rfl) (by kernel_rfl) ?_
          refine TS_go 4 ?_
          refine TS_cut ⟨[(1, []), (2, []), (10, []), (49, []), (50, []), (51, []), (12, []), (58, []), (59, []), (60, [])], [(43, (43, [])), (49, (49, [])), (58, (58, []))]⟩ (.mk [.code (codeAt [1, 1, 1, 1, 0, 1, 0, 0, 1, 1, 0, 0, 1, 1, 0] (bodyOf Try.f9)), .blk 2, .blk 1, .code (codeAt [1, 1, 1, 1, 0, 1, 0, 0, 1, 1, 1] (bodyOf Try.f9))] .normal ⟨[(1, .c (.lit (.int .i64 (a1)))), (2, .c (.slc 1 0 (List.length a2) (List.map (ecI .u8) a2))), (10, .c (.slc 3 45 (List.length v6.1) (List.map S_Diagnostic.cs v6.1))), (49, .c (.slc 1 51 (List.length ([a0, v6.1, v7.1] : List (List S_Diagnostic))) (List.map (ecS 3 S_Diagnostic.cs) ([a0, v6.1, v7.1] : List (List S_Diagnostic))))), (50, .c (.lit (.int .i64 ((List.length ([a0, v6.1, v7.1] : List (List S_Diagnostic)) : Int))))), (51, .c (.lit (.int .i64 (s8)))), (12, .c (.slc 3 0 (List.length e12) (List.map S_Diagnostic.cs e12))), (58, .c (.slc 1 60 (List.length ([a1, v13, 94, 10000] : List Int)) (List.map (ecI .i64) ([a1, v13, 94, 10000] : List Int)))), (59, .c (.lit (.int .i64 ((List.length ([a1, v13, 94, 10000] : List Int) : Int))))), (60, .c (.lit (.int .i64 (0))))], [(43, .spare 56 3 (List.length v6.1)), (49, .spare 47 1 (List.length ([a0, v6.1, v7.1] : List (List S_Diagnostic)))), (58, .spare 3 1 (List.length ([a1, v13, 94, 10000] : List Int)))]⟩) (by kernel_rfl) (by kernel_rfl) ?_
          replace h := bindO h
          obtain ⟨y16, hl2, hK2⟩ := h
          refine TS_loopB (F_law39_ReportsEncode_l2 a1 v13 e12) ⟨[(1, []), (2, []), (10, []), (12, []), (49, []), (50, []), (51, []), (58, []), (59, []), (60, [])], [(43, (43, [])), (49, (49, [])), (58, (58, []))]⟩ (fun (s14 : Int) => [(60, .c (.lit (.int .i64 (s14))))]) (fun (s14 : Int) => []) 0 y16 (.exit 2) (fun (b : Unit) => (Sum.inl b : (Unit) ⊕ (Bool))) ⟨[(1, []), (2, []), (10, []), (49, []), (50, []), (51, [])], [(43, (43, [])), (49, (49, []))]⟩ (fun (b15 : Unit) => []) (fun (b15 : Unit) => []) hl2 (by kernel_rfl) (by kernel_rfl) ?_ ?_
          · intro s14 x h hy2
            unfold F_law39_ReportsEncode_l2 at h
            refine TS_go 5 ?_
            replace h := condO h
            rcases h with ⟨hb17, h⟩ | ⟨hb17, h⟩
            · refine TS_know 61 (b := true) hb17 (by kernel_rfl) (by kernel_rfl) ?_
              refine TS_T (by kernel_rfl) rfl ?_
              refine TS_go 5 ?_
              replace h := bindO h
              obtain ⟨e18, he18, h⟩ := h
              refine TS_idx (ecI .i64) he18 (by kernel_rfl) (by kernel_rfl) ?_
              refine TS_go 7 ?_
              replace h := bindO h
              obtain ⟨v19, hv19, h⟩ := h
              refine TS_con [] [(67, 900000)] none (okT_management_EncodeReports e12 e18 v19 hv19) (by kernel_rfl) (by kernel_rfl) (by kernel_rfl) ?_
              refine TS_go 12 ?_
              replace h := bindO h
              obtain ⟨v20, hv20, h⟩ := h
              refine TS_con [] [(74, 900000)] none (okT_ref39_EncodeReports e12 e18 v20 hv20) (by kernel_rfl) (by kernel_rfl) (by kernel_rfl) ?_
              refine TS_go 14 ?_
              replace h := condO h
              rcases h with ⟨hb21, h⟩ | ⟨hb21, h⟩
              · refine TS_know 80 (b := true) hb21 (by kernel_rfl) (by kernel_rfl) ?_
                refine TS_know 81 (b := true) hb21 (by kernel_rfl) (by kernel_rfl) ?_
                refine TS_go 11 ?_
                refine TS_T (by kernel_rfl) rfl ?_
                refine TS_go 7 ?_
                obtain rfl := Option.some.inj h
                have hy2q := hy2 _ rfl
                subst hy2q
                replace h := (elimR hK2)
                refine TS_retB rfl (by kernel_rfl) ?_
                refine TS_go 3 ?_
                obtain rfl := Option.some.inj h
                have hy1q := hy1 _ rfl
                subst hy1q
                replace h := (elimR hK1)
                refine TS_retB rfl (by kernel_rfl) ?_
                refine TS_go 2 ?_
                obtain rfl := Option.some.inj h
                exact TS_ret (by kernel_rfl) (by kernel_rfl) (by kernel_rfl)
              · refine TS_know 80 (b := false) hb21 (by kernel_rfl) (by kernel_rfl) ?_
                refine TS_know 81 (b := false) hb21 (by kernel_rfl) (by kernel_rfl) ?_
                refine TS_go 5 ?_
                replace h := condO h
                rcases h with ⟨hb22, h⟩ | ⟨hb22, h⟩
                · refine TS_know 84 (b := true) hb22 (by kernel_rfl) (by kernel_rfl) ?_
                  refine TS_know 85 (b := true) hb22 (by kernel_rfl) (by kernel_rfl) ?_
                  refine TS_know 86 (b := true) hb22 (by kernel_rfl) (by kernel_rfl) ?_
                  refine TS_go 6 ?_
                  refine TS_T (by kernel_rfl) rfl ?_
                  refine TS_go 7 ?_
                  obtain rfl := Option.some.inj h
                  have hy2q := hy2 _ rfl
                  subst hy2q
                  replace h := (elimR hK2)
                  refine TS_retB rfl (by kernel_rfl) ?_
                  refine TS_go 3 ?_
                  obtain rfl := Option.some.inj h
                  have hy1q := hy1 _ rfl
                  subst hy1q
                  replace h := (elimR hK1)
                  refine TS_retB rfl (by kernel_rfl) ?_
                  refine TS_go 2 ?_
                  obtain rfl := Option.some.inj h
                  exact TS_ret (by kernel_rfl) (by kernel_rfl) (by kernel_rfl)
                · refine TS_know 84 (b := false) hb22 (by kernel_rfl) (by kernel_rfl) ?_
                  refine TS_know 85 (b := false) hb22 (by kernel_rfl) (by kernel_rfl) ?_
                  refine TS_know 86 (b := false) hb22 (by kernel_rfl) (by kernel_rfl) ?_
                  refine TS_go 2 ?_
                  replace h := bindO h
                  obtain ⟨v23, hv23, h⟩ := h
                  refine TS_call [[2], [2]] (ok_bytes_Equal v19.1 v20.1 v23 hv23) (by kernel_rfl) (by kernel_rfl) ?_
                  refine TS_go 3 ?_
                  replace h := condO h
                  rcases h with ⟨hb24, h⟩ | ⟨hb24, h⟩
                  · subst hb24
                    refine TS_F (by kernel_rfl) rfl ?_
                    refine TS_go 6 ?_
                    obtain rfl := Option.some.inj h
                    exact TS_againB _ ⟨[(1, []), (2, []), (10, []), (12, []), (49, []), (50, []), (51, []), (58, []), (59, []), (60, [])], [(43, (43, [])), (49, (49, [])), (58, (58, []))]⟩ rfl (by kernel_rfl) (by kernel_rfl)
                  · subst hb24
                    refine TS_T (by kernel_rfl) rfl ?_
                    refine TS_go 7 ?_
                    obtain rfl := Option.some.inj h
                    have hy2q := hy2 _ rfl
                    subst hy2q
                    replace h := (elimR hK2)
                    refine TS_retB rfl (by kernel_rfl) ?_
                    refine TS_go 3 ?_
                    obtain rfl := Option.some.inj h
                    have hy1q := hy1 _ rfl
                    subst hy1q
                    replace h := (elimR hK1)
                    refine TS_retB rfl (by kernel_rfl) ?_
                    refine TS_go 2 ?_
                    obtain rfl := Option.some.inj h
                    exact TS_ret (by kernel_rfl) (by kernel_rfl) (by kernel_rfl)
            · refine TS_know 61 (b := false) hb17 (by kernel_rfl) (by kernel_rfl) ?_
              refine TS_F (by kernel_rfl) rfl ?_
              refine TS_go 2 ?_
              obtain rfl := Option.some.inj h
              exact TS_brkB () ⟨[(1, []), (2, []), (10, []), (49, []), (50, []), (51, [])], [(43, (43, [])), (49, (49, []))]⟩ rfl (by kernel_rfl) (by kernel_rfl) (by kernel_rfl)
          · intro b15 hb
            subst y16
            have h := elimL hK2
            refine TS_go 6 ?_
            obtain rfl := Option.some.inj h
            exact TS_againB _ ⟨[(1, []), (2, []), (10, []), (49, []), (50, []), (51, [])], [(43, (43, [])), (49, (49, []))]⟩ rfl (by kernel_rfl) (by kernel_rfl)
        · refine TS_know 52 (b := false) hb11 (by kernel_rfl) (by kernel_rfl) ?_
          refine TS_F (by kernel_rfl) rfl ?_
          refine TS_go 2 ?_
          obtain rfl := Option.some.inj h
          exact TS_brkB () ⟨[(1, []), (2, []), (10, [])], [(43, (43, []))]⟩ rfl (by kernel_rfl) (by kernel_rfl) (by kernel_rfl)
      · intro b9 hb
        subst y10
        have h := elimL hK1
        refine TS_go 4 ?_
        replace h := bindO h
        obtain ⟨v27, hv27, h⟩ := h
        refine TS_con [[4]] [(96, 900000)] none (okT_ref39_EncodeReports v6.1 10000 v27 hv27) (by kernel_rfl) (by kernel_rfl) (by kernel_rfl) ?_
        refine TS_go 15 ?_
        replace h := bindO h
        obtain ⟨v28, hv28, h⟩ := h
        refine TS_call [] (ok_made_Mod a1 (IntKind.wrap .i64 ((List.length v27.1 : Int) + 1)) v28 hv28) (by kernel_rfl) (by kernel_rfl) ?_
        replace h := bindO h
        obtain ⟨l29, hl29, h⟩ := h
        refine TS_sub (ecI .u8) 1 hl29 (by kernel_rfl) (by kernel_rfl) ?_
        refine TS_go 9 ?_
        replace h := bindO h
        obtain ⟨v30, hv30, h⟩ := h
        refine TS_con [[2]] [(111, 900000)] none (okT_slices_Clone_byte_byte v27.1 v30 hv30) (by kernel_rfl) (by kernel_rfl) (by kernel_rfl) ?_
        refine TS_go 1 ?_
        replace h := bindO h
        obtain ⟨l31, hl31, h⟩ := h
        refine TS_appT (d := 111) (e := 5) (sz := 1) (N := List.length v30) (ecI .u8) (fun _ => by kernel_rfl) (l1 := v30) (l2 := v27.1) (c := .whole) hl31 (by kernel_rfl) (by kernel_rfl) ?_
        refine TS_go 1 ?_
        replace h := bindO h
        obtain ⟨v32, hv32, h⟩ := h
        refine TS_con [[2]] [(115, 900000)] none (okT_slices_Clone_byte_byte v27.1 v32 hv32) (by kernel_rfl) (by kernel_rfl) (by kernel_rfl) ?_
        refine TS_go 1 ?_
        replace h := bindO h
        obtain ⟨l33, hl33, h⟩ := h
        refine TS_appT (d := 115) (e := 5) (sz := 1) (N := List.length v32) (ecI .u8) (fun _ => by kernel_rfl) (l1 := v32) (l2 := a2) (c := .whole) hl33 (by kernel_rfl) (by kernel_rfl) ?_
        refine TS_litNT 118 27 1 (ecS 1 (ecI .u8)) [2] ([a2, v27.1, l29, l31, l33] : List (List Int)) (by kernel_rfl) (by kernel_rfl) ?_
        refine TS_go 4 ?_
        refine TS_cut ⟨[(118, []), (119, []), (120, [])], [(118, (118, []))]⟩ (.mk [.code (codeAt [1, 1, 1, 1, 1, 1, 1, 0, 1, 0] (bodyOf Try.f9)), .blk 4, .code (codeAt [1, 1, 1, 1, 1, 1, 1, 1] (bodyOf Try.f9))] .normal ⟨[(118, .c (.slc 1 120 (List.length ([a2, v27.1, l29, l31, l33] : List (List Int))) (List.map (ecS 1 (ecI .u8)) ([a2, v27.1, l29, l31, l33] : List (List Int))))), (119, .c (.lit (.int .i64 ((List.length ([a2, v27.1, l29, l31, l33] : List (List Int)) : Int))))), (120, .c (.lit (.int .i64 (0))))], [(118, .spare 27 1 (List.length ([a2, v27.1, l29, l31, l33] : List (List Int))))]⟩) (by kernel_rfl) (by kernel_rfl) ?_
        replace h := bindO h
        obtain ⟨y36, hl3, hK3⟩ := h
        refine TS_loopB (F_law39_ReportsEncode_l3 a2 v27 l29 l31 l33) ⟨[(118, []), (119, []), (120, [])], [(118, (118, []))]⟩ (fun (s34 : Int) => [(120, .c (.lit (.int .i64 (s34))))]) (fun (s34 : Int) => []) 0 y36 (.exit 4) (fun (b : Unit) => (Sum.inl b : (Unit) ⊕ (Bool))) ⟨[], []⟩ (fun (b35 : Unit) => []) (fun (b35 : Unit) => []) hl3 (by kernel_rfl) (by kernel_rfl) ?_ ?_
        · intro s34 x h hy3
          unfold F_law39_ReportsEncode_l3 at h
          refine TS_go 5 ?_
          replace h := condO h
          rcases h with ⟨hb37, h⟩ | ⟨hb37, h⟩
          · refine TS_know 121 (b := true) hb37 (by kernel_rfl) (by kernel_rfl) ?_
            refine TS_T (by kernel_rfl) rfl ?_
            refine TS_go 5 ?_
            replace h := bindO h
            obtain ⟨e38, he38, h⟩ := h
            refine TS_idx (ecS 1 (ecI .u8)) he38 (by kernel_rfl) (by kernel_rfl) ?_
            refine TS_go 6 ?_
            replace h := bindO h
            obtain ⟨v39, hv39, h⟩ := h
            refine TS_con [] [(126, 900000)] none (okT_management_DecodeReports e38 v39 hv39) (by kernel_rfl) (by kernel_rfl) (by kernel_rfl) ?_
            refine TS_go 9 ?_
            replace h := bindO h
            obtain ⟨v40, hv40, h⟩ := h
            refine TS_con [] [(131, 900000)] none (okT_ref39_DecodeReports e38 v40 hv40) (by kernel_rfl) (by kernel_rfl) (by kernel_rfl) ?_
            refine TS_go 12 ?_
            replace h := condO h
            rcases h with ⟨hb41, h⟩ | ⟨hb41, h⟩
            · refine TS_know 136 (b := true) hb41 (by kernel_rfl) (by kernel_rfl) ?_
              refine TS_know 137 (b := true) hb41 (by kernel_rfl) (by kernel_rfl) ?_
              refine TS_go 6 ?_
              refine TS_T (by kernel_rfl) rfl ?_
              refine TS_go 7 ?_
              obtain rfl := Option.some.inj h
              have hy3q := hy3 _ rfl
              subst hy3q
              replace h := (elimR hK3)
              refine TS_retB rfl (by kernel_rfl) ?_
              refine TS_go 2 ?_
              obtain rfl := Option.some.inj h
              exact TS_ret (by kernel_rfl) (by kernel_rfl) (by kernel_rfl)
            · refine TS_know 136 (b := false) hb41 (by kernel_rfl) (by kernel_rfl) ?_
              refine TS_know 137 (b := false) hb41 (by kernel_rfl) (by kernel_rfl) ?_
              refine TS_go 2 ?_
              replace h := bindO h
              obtain ⟨v42, hv42, h⟩ := h
              refine TS_call [[4], [4]] (ok_world_SameReports v39.1 v40.1 v42 hv42) (by kernel_rfl) (by kernel_rfl) ?_
              refine TS_go 3 ?_
              replace h := condO h
              rcases h with ⟨hb43, h⟩ | ⟨hb43, h⟩
              · subst hb43
                refine TS_F (by kernel_rfl) rfl ?_
                refine TS_go 6 ?_
                obtain rfl := Option.some.inj h
                exact TS_againB _ ⟨[(118, []), (119, []), (120, [])], [(118, (118, []))]⟩ rfl (by kernel_rfl) (by kernel_rfl)
              · subst hb43
                refine TS_T (by kernel_rfl) rfl ?_
                refine TS_go 7 ?_
                obtain rfl := Option.some.inj h
                have hy3q := hy3 _ rfl
                subst hy3q
                replace h := (elimR hK3)
                refine TS_retB rfl (by kernel_rfl) ?_
                refine TS_go 2 ?_
                obtain rfl := Option.some.inj h
                exact TS_ret (by kernel_rfl) (by kernel_rfl) (by kernel_rfl)
          · refine TS_know 121 (b := false) hb37 (by kernel_rfl) (by kernel_rfl) ?_
            refine TS_F (by kernel_rfl) rfl ?_
            refine TS_go 2 ?_
            obtain rfl := Option.some.inj h
            exact TS_brkB () ⟨[], []⟩ rfl (by kernel_rfl) (by kernel_rfl) (by kernel_rfl)
        · intro b35 hb
          subst y36
          have h := elimL hK3
          refine TS_go 3 ?_
          replace h := bindO h
          obtain ⟨v45, hv45, h⟩ := h
          refine TS_call [] (ok_law39_known  v45 hv45) (by kernel_rfl) (by kernel_rfl) ?_
          refine TS_go 3 ?_
          obtain rfl := Option.some.inj h
          exact TS_ret (by kernel_rfl) (by kernel_rfl) (by kernel_rfl)
  · subst hb2
    refine TS_go 5 ?_
    refine TS_T (by kernel_rfl) rfl ?_
    refine TS_go 2 ?_
    replace h := bindO h
    obtain ⟨v46, hv46, h⟩ := h
    refine TS_call [] (ok_law39_known  v46 hv46) (by kernel_rfl) (by kernel_rfl) ?_
    refine TS_go 4 ?_
    obtain rfl := Option.some.inj h
    exact TS_ret (by kernel_rfl) (by kernel_rfl) (by kernel_rfl)

end Go.Proofs.Ytcjoflgnifafiaa
