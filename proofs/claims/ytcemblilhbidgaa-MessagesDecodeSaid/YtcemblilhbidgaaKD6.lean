/-
  MessagesDecode, proved for all arguments.
-/
import Derived.Test.YtcemblilhbidgaaKD5
namespace Go.Proofs.Ytcemblilhbidgaa
section
open Go.RowKit
attribute [local irreducible] TS go TD goD

/-- multihop/multihopref29.Decode -/
noncomputable def F_ref29_Decode (a0 : List Int) : Option (Int × (List S_Notice) × Int) :=
  bif (decide ((List.length a0 : Int) < 9)) then
    some ((0, ([] : List S_Notice), 4))
  else
    (F_ref29_Get a0 7 2).bind fun v2 =>
    bif (decide ((IntKind.wrap .i64 ((List.length a0 : Int) - 9)) < (IntKind.wrap .i64 v2))) then
      some ((0, ([] : List S_Notice), 4))
    else
      (subO a0 9 (List.length a0 : Int)).bind fun l4 =>
      (F_ref29_parse l4).bind fun v5 =>
      bif v5.2 then
        (F_ref29_Get a0 2 5).bind fun v7 =>
        (F_ref29_Encode (IntKind.wrap .i64 v7) v5.1).bind fun v8 =>
        bif (v8.2 != 0) then
          some ((0, ([] : List S_Notice), 5))
        else
          bif ((u8L (Cut.app .whole v8.1)) == (u8L (Cut.app .whole a0))) then
            some ((IntKind.wrap .i64 v7, v5.1, 0))
          else
            some ((0, ([] : List S_Notice), 5))
      else
        some ((0, ([] : List S_Notice), 5))
set_option maxRecDepth 100000 in
set_option maxHeartbeats 40000000 in
theorem okT_ref29_Decode (a0 : List Int) (r : Int × (List S_Notice) × Int) (h : F_ref29_Decode a0 = some r) : Con Try.prog 54 [.c (eS 1 (ecI .u8) (a0))] [] (.tup [(false, [.lit (.int .i64 (r.1))]), (false, [.slc 40 900066 (List.length r.2.1) (List.map S_Notice.cs r.2.1)]), (false, [.lit (.int .i64 (r.2.2))])]) [(900064, .spare 39 40 (List.length r.2.1))] := by
  unfold F_ref29_Decode at h
  refine con_of [] [(900064, [])] 50 Try.func54 rfl rfl (by kernel_rfl) (fun K => ?_)
  refine TS_go 13 ?_
  replace h := condO h
  rcases h with ⟨hb1, h⟩ | ⟨hb1, h⟩
  · refine TS_know 12 (b := true) hb1 (by kernel_rfl) (by kernel_rfl) ?_
    refine TS_know 13 (b := true) hb1 (by kernel_rfl) (by kernel_rfl) ?_
    refine TS_go 9 ?_
    refine TS_T (by kernel_rfl) rfl ?_
    refine TS_go 6 ?_
    refine TS_nilT 3 600000 39 40 (by kernel_rfl) ?_
    refine TS_fitU ⟨[(2, []), (3, []), (4, [])], [(600000, (900064, []))]⟩ (by kernel_rfl) ?_
    refine TS_go 2 ?_
    have ret := Option.some.inj h
    subst ret
    exact TS_ret (by kernel_rfl) (by kernel_rfl) (by kernel_rfl)
  · refine TS_know 12 (b := false) hb1 (by kernel_rfl) (by kernel_rfl) ?_
    refine TS_know 13 (b := false) hb1 (by kernel_rfl) (by kernel_rfl) ?_
    refine TS_go 4 ?_
    replace h := bindO h
    obtain ⟨v2, hv2, h⟩ := h
    refine TS_call [] (ok_ref29_Get a0 7 2 v2 hv2) (by kernel_rfl) (by kernel_rfl) ?_
    refine TS_go 4 ?_
    replace h := condO h
    rcases h with ⟨hb3, h⟩ | ⟨hb3, h⟩
    · refine TS_know 20 (b := true) hb3 (by kernel_rfl) (by kernel_rfl) ?_
      refine TS_know 21 (b := true) hb3 (by kernel_rfl) (by kernel_rfl) ?_
      refine TS_T (by kernel_rfl) rfl ?_
      refine TS_go 6 ?_
      refine TS_nilT 3 600000 39 40 (by kernel_rfl) ?_
      refine TS_fitU ⟨[(2, []), (3, []), (4, [])], [(600000, (900064, []))]⟩ (by kernel_rfl) ?_
      refine TS_go 2 ?_
      have ret := Option.some.inj h
      subst ret
      exact TS_ret (by kernel_rfl) (by kernel_rfl) (by kernel_rfl)
    · refine TS_know 20 (b := false) hb3 (by kernel_rfl) (by kernel_rfl) ?_
      refine TS_know 21 (b := false) hb3 (by kernel_rfl) (by kernel_rfl) ?_
      refine TS_F (by kernel_rfl) rfl ?_
      refine TS_go 4 ?_
      replace h := bindO h
      obtain ⟨l4, hl4, h⟩ := h
      refine TS_sub (ecI .u8) 1 hl4 (by kernel_rfl) (by kernel_rfl) ?_
      replace h := bindO h
      obtain ⟨v5, hv5, h⟩ := h
      refine TS_con [] [(25, 900000)] none (okT_ref29_parse l4 v5 hv5) (by kernel_rfl) (by kernel_rfl) (by kernel_rfl) ?_
      refine TS_go 12 ?_
      replace h := condO h
      rcases h with ⟨hb6, h⟩ | ⟨hb6, h⟩
      · refine TS_know 27 (b := true) hb6 (by kernel_rfl) (by kernel_rfl) ?_
        refine TS_know 6 (b := true) hb6 (by kernel_rfl) (by kernel_rfl) ?_
        refine TS_know 28 (b := true) hb6 (by kernel_rfl) (by kernel_rfl) ?_
        refine TS_know 29 (b := false) (notF hb6) (by kernel_rfl) (by kernel_rfl) ?_
        refine TS_F (by kernel_rfl) rfl ?_
        refine TS_go 4 ?_
        replace h := bindO h
        obtain ⟨v7, hv7, h⟩ := h
        refine TS_call [] (ok_ref29_Get a0 2 5 v7 hv7) (by kernel_rfl) (by kernel_rfl) ?_
        refine TS_go 7 ?_
        replace h := bindO h
        obtain ⟨v8, hv8, h⟩ := h
        refine TS_con [[], [41]] [(36, 900000)] none (okT_ref29_Encode (IntKind.wrap .i64 v7) v5.1 v8 hv8) (by kernel_rfl) (by kernel_rfl) (by kernel_rfl) ?_
        refine TS_go 12 ?_
        replace h := condO h
        rcases h with ⟨hb9, h⟩ | ⟨hb9, h⟩
        · refine TS_know 40 (b := true) hb9 (by kernel_rfl) (by kernel_rfl) ?_
          refine TS_know 41 (b := true) hb9 (by kernel_rfl) (by kernel_rfl) ?_
          refine TS_go 7 ?_
          refine TS_T (by kernel_rfl) rfl ?_
          refine TS_go 6 ?_
          refine TS_nilT 3 600000 39 40 (by kernel_rfl) ?_
          refine TS_fitU ⟨[(2, []), (3, []), (4, [])], [(600000, (900064, []))]⟩ (by kernel_rfl) ?_
          refine TS_go 2 ?_
          have ret := Option.some.inj h
          subst ret
          exact TS_ret (by kernel_rfl) (by kernel_rfl) (by kernel_rfl)
        · refine TS_know 40 (b := false) hb9 (by kernel_rfl) (by kernel_rfl) ?_
          refine TS_know 41 (b := false) hb9 (by kernel_rfl) (by kernel_rfl) ?_
          refine TS_go 1 ?_
          refine TS_b2s v8.1 .whole (by kernel_rfl) (by kernel_rfl) ?_
          refine TS_go 1 ?_
          refine TS_b2s a0 .whole (by kernel_rfl) (by kernel_rfl) ?_
          refine TS_str .neq (u8L (Cut.app .whole v8.1)) (u8L (Cut.app .whole a0)) rfl (by kernel_rfl) (by kernel_rfl) ?_
          refine TS_go 2 ?_
          replace h := condO h
          rcases h with ⟨hb10, h⟩ | ⟨hb10, h⟩
          · refine TS_know 46 (b := false) (notF hb10) (by kernel_rfl) (by kernel_rfl) ?_
            refine TS_know 47 (b := false) (notF hb10) (by kernel_rfl) (by kernel_rfl) ?_
            refine TS_F (by kernel_rfl) rfl ?_
            refine TS_go 9 ?_
            refine TS_fitU ⟨[(2, []), (3, []), (4, [])], [(25, (900064, []))]⟩ (by kernel_rfl) ?_
            refine TS_go 1 ?_
            have ret := Option.some.inj h
            subst ret
            exact TS_ret (by kernel_rfl) (by kernel_rfl) (by kernel_rfl)
          · refine TS_know 46 (b := true) (notT hb10) (by kernel_rfl) (by kernel_rfl) ?_
            refine TS_know 47 (b := true) (notT hb10) (by kernel_rfl) (by kernel_rfl) ?_
            refine TS_T (by kernel_rfl) rfl ?_
            refine TS_go 6 ?_
            refine TS_nilT 3 600000 39 40 (by kernel_rfl) ?_
            refine TS_fitU ⟨[(2, []), (3, []), (4, [])], [(600000, (900064, []))]⟩ (by kernel_rfl) ?_
            refine TS_go 2 ?_
            have ret := Option.some.inj h
            subst ret
            exact TS_ret (by kernel_rfl) (by kernel_rfl) (by kernel_rfl)
      · refine TS_know 27 (b := false) hb6 (by kernel_rfl) (by kernel_rfl) ?_
        refine TS_know 6 (b := false) hb6 (by kernel_rfl) (by kernel_rfl) ?_
        refine TS_know 28 (b := false) hb6 (by kernel_rfl) (by kernel_rfl) ?_
        refine TS_know 29 (b := true) (notT hb6) (by kernel_rfl) (by kernel_rfl) ?_
        refine TS_T (by kernel_rfl) rfl ?_
        refine TS_go 6 ?_
        refine TS_nilT 3 600000 39 40 (by kernel_rfl) ?_
        refine TS_fitU ⟨[(2, []), (3, []), (4, [])], [(600000, (900064, []))]⟩ (by kernel_rfl) ?_
        refine TS_go 2 ?_
        have ret := Option.some.inj h
        subst ret
        exact TS_ret (by kernel_rfl) (by kernel_rfl) (by kernel_rfl)
/-- multihop/multihoplaw29.decodes -/
noncomputable def F_law29_decodes (a0 : List Int) : Option (Bool) :=
  (F_messages_Decode a0).bind fun v1 =>
  (F_ref29_Decode a0).bind fun v2 =>
  bif (v1.2.2 == v2.2.2) then
    bif (v1.1 == v2.1) then
      (F_slices_Equal_api_Notice_api_Notice v1.2.1 v2.2.1).bind fun v5 =>
      some (v5)
    else
      some (false)
  else
    some (false)
set_option maxRecDepth 100000 in
set_option maxHeartbeats 40000000 in
theorem ok_law29_decodes (a0 : List Int) (r : Bool) (h : F_law29_decodes a0 = some r) : Con Try.prog 31 [.c (eS 1 (ecI .u8) (a0))] [] (.c (.lit (.bool (r)))) [] := by
  unfold F_law29_decodes at h
  refine con_of [] [] 34 Try.func31 rfl rfl (by kernel_rfl) (fun K => ?_)
  refine TS_go 7 ?_
  replace h := bindO h
  obtain ⟨v1, hv1, h⟩ := h
  refine TS_con [] [(11, 900064)] none (okT_messages_Decode a0 v1 hv1) (by kernel_rfl) (by kernel_rfl) (by kernel_rfl) ?_
  refine TS_go 11 ?_
  replace h := bindO h
  obtain ⟨v2, hv2, h⟩ := h
  refine TS_con [] [(17, 900064)] none (okT_ref29_Decode a0 v2 hv2) (by kernel_rfl) (by kernel_rfl) (by kernel_rfl) ?_
  refine TS_go 14 ?_
  replace h := condO h
  rcases h with ⟨hb3, h⟩ | ⟨hb3, h⟩
  · refine TS_know 23 (b := true) hb3 (by kernel_rfl) (by kernel_rfl) ?_
    refine TS_know 24 (b := true) hb3 (by kernel_rfl) (by kernel_rfl) ?_
    refine TS_go 5 ?_
    replace h := condO h
    rcases h with ⟨hb4, h⟩ | ⟨hb4, h⟩
    · refine TS_know 27 (b := true) hb4 (by kernel_rfl) (by kernel_rfl) ?_
      refine TS_know 28 (b := true) hb4 (by kernel_rfl) (by kernel_rfl) ?_
      refine TS_know 29 (b := true) hb4 (by kernel_rfl) (by kernel_rfl) ?_
      refine TS_go 2 ?_
      replace h := bindO h
      obtain ⟨v5, hv5, h⟩ := h
      refine TS_call [[41], [41]] (ok_slices_Equal_api_Notice_api_Notice v1.2.1 v2.2.1 v5 hv5) (by kernel_rfl) (by kernel_rfl) ?_
      refine TS_go 4 ?_
      have ret := Option.some.inj h
      subst ret
      exact TS_ret (by kernel_rfl) (by kernel_rfl) (by kernel_rfl)
    · refine TS_know 27 (b := false) hb4 (by kernel_rfl) (by kernel_rfl) ?_
      refine TS_know 28 (b := false) hb4 (by kernel_rfl) (by kernel_rfl) ?_
      refine TS_know 29 (b := false) hb4 (by kernel_rfl) (by kernel_rfl) ?_
      refine TS_go 7 ?_
      have ret := Option.some.inj h
      subst ret
      exact TS_ret (by kernel_rfl) (by kernel_rfl) (by kernel_rfl)
  · refine TS_know 23 (b := false) hb3 (by kernel_rfl) (by kernel_rfl) ?_
    refine TS_know 24 (b := false) hb3 (by kernel_rfl) (by kernel_rfl) ?_
    refine TS_go 12 ?_
    have ret := Option.some.inj h
    subst ret
    exact TS_ret (by kernel_rfl) (by kernel_rfl) (by kernel_rfl)

/-- multihop/multihoplaw29.MessagesDecode -/
noncomputable def F_law29_MessagesDecode (a0 : List Int) (a1 : List Int) (a2 : Int) (a3 : Int) : Option (Bool) :=
  bif (decide ((List.length a0 : Int) > 2000)) then
    (F_law29_known ).bind fun v2 =>
    some (v2)
  else
    (F_made_New a1).bind fun v3 =>
    (F_made_Tape_Next v3 1000).bind fun v4 =>
    (F_world_Notices v4.2 8).bind fun v5 =>
    (F_ref29_Encode v4.1 v5.1).bind fun v6 =>
    (F_slices_Clone_byte_byte_R v6.1).bind fun v7 =>
    (F_made_Mod a2 (List.length v7 : Int)).bind fun v8 =>
    (idx (Cut.app .whole v7) v8).bind fun _e9 =>
    (v7[(0 + Int.toNat v8)]?).bind fun e10 =>
    (idx (Cut.app .whole v7) v8).bind fun _e11 =>
    (v7[(0 + Int.toNat v8)]?).bind fun _e12 =>
    (F_slices_Clone_byte_byte_R v6.1).bind fun v13 =>
    (F_made_Mod a2 (List.length v13 : Int)).bind fun v14 =>
    (F_made_Tape_Next v5.2 12).bind fun v15 =>
    (idx (Cut.app .whole v13) v14).bind fun _e16 =>
    (v13[(0 + Int.toNat v14)]?).bind fun _e17 =>
    (F_slices_Concat_byte_byte ([([42, 1, 0, 0, 0, 0, 9, IntKind.wrap .u8 (ishr .i64 (List.length a0 : Int) 8), IntKind.wrap .u8 (List.length a0 : Int)] : List Int), a0] : List (List Int))).bind fun v18 =>
    (F_law29_decodes a0).bind fun v19 =>
    bif v19 then
      (F_law29_decodes v6.1).bind fun v21 =>
      bif v21 then
        (F_law29_decodes (List.set v7 (0 + Int.toNat v8) (ixor .u8 e10 a3))).bind fun v23 =>
        bif v23 then
          (F_law29_decodes (List.set v13 (0 + Int.toNat v14) (IntKind.wrap .u8 v15.1))).bind fun v25 =>
          bif v25 then
            (F_law29_decodes v18).bind fun v27 =>
            bif v27 then
              (F_law29_known ).bind fun v29 =>
              some (v29)
            else
              some (false)
          else
            some (false)
        else
          some (false)
      else
        some (false)
    else
      some (false)
set_option maxRecDepth 100000 in
set_option maxHeartbeats 40000000 in
theorem ok_law29_MessagesDecode (a0 : List Int) (a1 : List Int) (a2 : Int) (a3 : Int) (r : Bool) (h : F_law29_MessagesDecode a0 a1 a2 a3 = some r) : Con Try.prog 9 [.c (eS 1 (ecI .u8) (a0)), .c (eS 1 (ecI .i64) (a1)), .c (.lit (.int .i64 (a2))), .c (.lit (.int .u8 (a3)))] [] (.c (.lit (.bool (r)))) [] := by
  unfold F_law29_MessagesDecode at h
  refine con_of [] [] 84 Try.func9 rfl rfl (by kernel_rfl) (fun K => ?_)
  refine TS_go 11 ?_
  replace h := condO h
  rcases h with ⟨hb1, h⟩ | ⟨hb1, h⟩
  · refine TS_know 17 (b := true) hb1 (by kernel_rfl) (by kernel_rfl) ?_
    refine TS_T (by kernel_rfl) rfl ?_
    refine TS_go 2 ?_
    replace h := bindO h
    obtain ⟨v2, hv2, h⟩ := h
    refine TS_call [] (ok_law29_known  v2 hv2) (by kernel_rfl) (by kernel_rfl) ?_
    refine TS_go 4 ?_
    have ret := Option.some.inj h
    subst ret
    exact TS_ret (by kernel_rfl) (by kernel_rfl) (by kernel_rfl)
  · refine TS_know 17 (b := false) hb1 (by kernel_rfl) (by kernel_rfl) ?_
    refine TS_F (by kernel_rfl) rfl ?_
    refine TS_go 4 ?_
    replace h := bindO h
    obtain ⟨v3, hv3, h⟩ := h
    refine TS_con [] [(20, 10)] none (ok_made_New a1 v3 hv3) (by kernel_rfl) (by kernel_rfl) (by kernel_rfl) ?_
    refine TS_go 5 ?_
    replace h := bindO h
    obtain ⟨v4, hv4, h⟩ := h
    refine TS_con [] [] (some (20, 0)) (ok_made_Tape_Next v3 1000 v4 hv4) (by kernel_rfl) (by kernel_rfl) (by kernel_rfl) ?_
    refine TS_go 1 ?_
    replace h := bindO h
    obtain ⟨v5, hv5, h⟩ := h
    refine TS_con [] [(25, 900000)] (some (20, 0)) (okT_world_Notices v4.2 8 v5 hv5) (by kernel_rfl) (by kernel_rfl) (by kernel_rfl) ?_
    replace h := bindO h
    obtain ⟨v6, hv6, h⟩ := h
    refine TS_con [[], [41]] [(26, 900000)] none (okT_ref29_Encode v4.1 v5.1 v6 hv6) (by kernel_rfl) (by kernel_rfl) (by kernel_rfl) ?_
    refine TS_go 9 ?_
    replace h := bindO h
    obtain ⟨v7, hv7, h⟩ := h
    refine TS_con [[2]] [(30, 900000)] none (okT_slices_Clone_byte_byte_R v6.1 v7 hv7) (by kernel_rfl) (by kernel_rfl) (by kernel_rfl) ?_
    refine TS_go 8 ?_
    replace h := bindO h
    obtain ⟨v8, hv8, h⟩ := h
    refine TS_call [] (ok_made_Mod a2 (List.length v7 : Int) v8 hv8) (by kernel_rfl) (by kernel_rfl) ?_
    replace h := bindO h
    obtain ⟨_e9, he9, h⟩ := h
    refine TS_idxR 30 1 0 (ecI .u8) .whole he9 (by kernel_rfl) (by kernel_rfl) ?_
    replace h := bindO h
    obtain ⟨e10, he10, h⟩ := h
    refine TS_ldE 5 (0 + Int.toNat v8) 0 (ecI .u8) (v := .c (.lit (.int .u8 (e10)))) he10 (by kernel_rfl) (by kernel_rfl) (by kernel_rfl) ?_
    refine TS_go 2 ?_
    replace h := bindO h
    obtain ⟨_e11, he11, h⟩ := h
    refine TS_idxR 30 1 0 (ecI .u8) .whole he11 (by kernel_rfl) (by kernel_rfl) ?_
    replace h := bindO h
    obtain ⟨_e12, he12, h⟩ := h
    refine TS_stE 30 5 1 (List.length v7) (0 + Int.toNat v8) 0 (ecI .u8) (ds := [.lit (.int .u8 (ixor .u8 e10 a3))]) (ixor .u8 e10 a3) he12 (by kernel_rfl) (by kernel_rfl) (by kernel_rfl) (by kernel_rfl) ?_
    refine TS_go 4 ?_
    replace h := bindO h
    obtain ⟨v13, hv13, h⟩ := h
    refine TS_con [[2]] [(42, 900000)] none (okT_slices_Clone_byte_byte_R v6.1 v13 hv13) (by kernel_rfl) (by kernel_rfl) (by kernel_rfl) ?_
    refine TS_go 8 ?_
    replace h := bindO h
    obtain ⟨v14, hv14, h⟩ := h
    refine TS_call [] (ok_made_Mod a2 (List.length v13 : Int) v14 hv14) (by kernel_rfl) (by kernel_rfl) ?_
    refine TS_go 1 ?_
    replace h := bindO h
    obtain ⟨v15, hv15, h⟩ := h
    refine TS_con [] [] (some (20, 0)) (ok_made_Tape_Next v5.2 12 v15 hv15) (by kernel_rfl) (by kernel_rfl) (by kernel_rfl) ?_
    refine TS_go 1 ?_
    replace h := bindO h
    obtain ⟨_e16, he16, h⟩ := h
    refine TS_idxR 42 1 0 (ecI .u8) .whole he16 (by kernel_rfl) (by kernel_rfl) ?_
    replace h := bindO h
    obtain ⟨_e17, he17, h⟩ := h
    refine TS_stE 42 5 1 (List.length v13) (0 + Int.toNat v14) 0 (ecI .u8) (ds := [.lit (.int .u8 (IntKind.wrap .u8 v15.1))]) (IntKind.wrap .u8 v15.1) he17 (by kernel_rfl) (by kernel_rfl) (by kernel_rfl) (by kernel_rfl) ?_
    refine TS_go 10 ?_
    refine TS_litNT 59 5 1 (ecI .u8) [] ([42, 1, 0, 0, 0, 0, 9, IntKind.wrap .u8 (ishr .i64 (List.length a0 : Int) 8), IntKind.wrap .u8 (List.length a0 : Int)] : List Int) (by kernel_rfl) (by kernel_rfl) ?_
    refine TS_go 1 ?_
    refine TS_litNT 61 47 1 (ecS 1 (ecI .u8)) [2] ([([42, 1, 0, 0, 0, 0, 9, IntKind.wrap .u8 (ishr .i64 (List.length a0 : Int) 8), IntKind.wrap .u8 (List.length a0 : Int)] : List Int), a0] : List (List Int)) (by kernel_rfl) (by kernel_rfl) ?_
    replace h := bindO h
    obtain ⟨v18, hv18, h⟩ := h
    refine TS_con [[2]] [(62, 900000)] none (okT_slices_Concat_byte_byte ([([42, 1, 0, 0, 0, 0, 9, IntKind.wrap .u8 (ishr .i64 (List.length a0 : Int) 8), IntKind.wrap .u8 (List.length a0 : Int)] : List Int), a0] : List (List Int)) v18 hv18) (by kernel_rfl) (by kernel_rfl) (by kernel_rfl) ?_
    refine TS_go 5 ?_
    replace h := bindO h
    obtain ⟨v19, hv19, h⟩ := h
    refine TS_call [] (ok_law29_decodes a0 v19 hv19) (by kernel_rfl) (by kernel_rfl) ?_
    refine TS_go 1 ?_
    replace h := condO h
    rcases h with ⟨hb20, h⟩ | ⟨hb20, h⟩
    · subst hb20
      refine TS_go 1 ?_
      replace h := bindO h
      obtain ⟨v21, hv21, h⟩ := h
      refine TS_call [[2]] (ok_law29_decodes v6.1 v21 hv21) (by kernel_rfl) (by kernel_rfl) ?_
      refine TS_go 2 ?_
      replace h := condO h
      rcases h with ⟨hb22, h⟩ | ⟨hb22, h⟩
      · subst hb22
        refine TS_go 1 ?_
        replace h := bindO h
        obtain ⟨v23, hv23, h⟩ := h
        refine TS_callF [] (ok_law29_decodes (List.set v7 (0 + Int.toNat v8) (ixor .u8 e10 a3)) v23 hv23) (by kernel_rfl) (by kernel_rfl) ?_
        refine TS_go 2 ?_
        replace h := condO h
        rcases h with ⟨hb24, h⟩ | ⟨hb24, h⟩
        · subst hb24
          refine TS_go 1 ?_
          replace h := bindO h
          obtain ⟨v25, hv25, h⟩ := h
          refine TS_callF [] (ok_law29_decodes (List.set v13 (0 + Int.toNat v14) (IntKind.wrap .u8 v15.1)) v25 hv25) (by kernel_rfl) (by kernel_rfl) ?_
          refine TS_go 2 ?_
          replace h := condO h
          rcases h with ⟨hb26, h⟩ | ⟨hb26, h⟩
          · subst hb26
            refine TS_go 1 ?_
            replace h := bindO h
            obtain ⟨v27, hv27, h⟩ := h
            refine TS_call [[2]] (ok_law29_decodes v18 v27 hv27) (by kernel_rfl) (by kernel_rfl) ?_
            refine TS_go 2 ?_
            replace h := condO h
            rcases h with ⟨hb28, h⟩ | ⟨hb28, h⟩
            · subst hb28
              replace h := bindO h
              obtain ⟨v29, hv29, h⟩ := h
              refine TS_call [] (ok_law29_known  v29 hv29) (by kernel_rfl) (by kernel_rfl) ?_
              refine TS_go 4 ?_
              have ret := Option.some.inj h
              subst ret
              exact TS_ret (by kernel_rfl) (by kernel_rfl) (by kernel_rfl)
            · subst hb28
              refine TS_go 5 ?_
              have ret := Option.some.inj h
              subst ret
              exact TS_ret (by kernel_rfl) (by kernel_rfl) (by kernel_rfl)
          · subst hb26
            refine TS_go 9 ?_
            have ret := Option.some.inj h
            subst ret
            exact TS_ret (by kernel_rfl) (by kernel_rfl) (by kernel_rfl)
        · subst hb24
          refine TS_go 13 ?_
          have ret := Option.some.inj h
          subst ret
          exact TS_ret (by kernel_rfl) (by kernel_rfl) (by kernel_rfl)
      · subst hb22
        refine TS_go 17 ?_
        have ret := Option.some.inj h
        subst ret
        exact TS_ret (by kernel_rfl) (by kernel_rfl) (by kernel_rfl)
    · subst hb20
      refine TS_go 21 ?_
      have ret := Option.some.inj h
      subst ret
      exact TS_ret (by kernel_rfl) (by kernel_rfl) (by kernel_rfl)
end
section
open Go.ChangeShapes Go.WideShapes Go.ChangeAt Go.RowKit

theorem own : ownKnob Try.prog.godebug = none := by kernel_rfl
theorem laidOut : laidOutB Try.prog = true := by kernel_rfl

/-- the arguments read as before -/
theorem trodAll_below {H : Type} {enc : TypeId × Value → H} {P : Program} (hl : laidOutB P = true) {W W' : World} (hb : Below W.heap.size W W') :
    ∀ {ts : List TypeId} {vs : List Value} {ds : List (DataW H)} {ps : List MemPlace}, ts.all (fun t => P.readableRec t && decide (t < P.types.size)) = true →
      DataW.TrodAll enc P W 0 (fun _ => true) true ts vs ds ps → DataW.TrodAll enc P W' 0 (fun b => decide (b < W.heap.size)) true ts vs ds ps
  | [], _, _, _, _, h => by
    obtain ⟨rfl, rfl, rfl⟩ := trodAll_nil h
    exact trodAll_mk0
  | t :: ts, vs, ds, ps, hr, h => by
    obtain ⟨v, vs', d, ds', p, q, rfl, rfl, rfl, h1, h2⟩ := trodAll_cons h
    simp only [List.all_cons, Bool.and_eq_true, decide_eq_true_eq] at hr
    have lt : ∀ x ∈ p, x.block < W.heap.size := by obtain ⟨m, hm⟩ := h1; exact DataW.trod_lt m _ _ _ hm
    exact trodAll_cons_mk (Below.trod hl hr.1.1 hr.1.2 h1 hb lt) (trodAll_below hl hb hr.2 h2)

/-- the reader that sees all -/
def rdAll (w : World) : Rd := fun b o => w.cell? ⟨b, o, none⟩
def env0 : Env := ⟨fun _ => (0, 0), fun _ => (.slice none 0 0, .slice none 0 0)⟩
theorem vrel_lit (rd : Rd) (g : Env) (v : Value) : VRel rd g v (.c (.lit v)) := IRel.lit v
def ArgsOk (rd : Rd) (g : Env) : List Value → List SV → Prop
  | [], [] => True
  | u :: us, x :: xs => VRel rd g u x ∧ ArgsOk rd g us xs
  | _, _ => False
theorem ArgsOk.get {rd : Rd} {g : Env} : ∀ {us : List Value} {xs : List SV}, ArgsOk rd g us xs → us.length = xs.length ∧ ∀ (i : Nat) (x : SV), xs[i]? = some x → ∃ u, us[i]? = some u ∧ VRel rd g u x
  | [], [], _ => ⟨rfl, fun i x h => by simp at h⟩
  | u :: us, y :: xs, h => by
    obtain ⟨h1, h2⟩ := h
    obtain ⟨k1, k2⟩ := h2.get
    refine ⟨by simp [k1], fun i x hx => ?_⟩
    rcases i with _ | i
    · cases hx; exact ⟨u, rfl, h1⟩
    · exact k2 i x (by simpa using hx)
/-- a law that is true -/
theorem con_true {P : Program} {f : FuncId} {args : List SV} (h : Con P f args [] (.c (.lit (.bool true))) []) {W : World} {us : List Value} (ha : ArgsOk (rdAll W) env0 us args) :
    Calls P f us.toArray W fun e w' => e = .returned (.bool true) ∧ Ext W w' := by
  obtain ⟨h1, h2⟩ := ha.get
  have nol : ∀ d (x : Res), look ([] : Hp) d = some x → False := fun d x hx => by simp [look] at hx
  have noin : ∀ g b o, ¬ InFoot g ([] : Hp) b o := by rintro g b o ⟨d, r, hd, _⟩; exact nol _ _ hd
  refine (h (rdAll W) env0 W us.toArray (fun b o v hv => hv) (by simpa using h1) (fun i x hx => by simpa using h2 i x hx) (fun d x hx => (nol d x hx).elim) (fun d d' r r' b o _ hd => (nol _ _ hd).elim) (fun b o hx => (noin _ _ _ hx).elim)).mono ?_
  rintro e w' ⟨u, g', rfl, hk, _, _, _, _, hu⟩
  have hE : Ext W w' := (hk.weak (fun b o x => noin _ _ _ x)).ext
  refine ⟨?_, hE⟩
  have := (hu (rdAll w') (by
    intro b o v hv
    obtain ⟨g, rfl⟩ := hE
    have hb := World.block_lt_of_cell? _ _ hv
    unfold rdAll
    rw [cell_plus _ _ _ _ _ hb]
    exact hv) (fun b o u _ _ hc => hc)).1
  cases this
  rfl
def wfI (k : IntKind) (n : Int) : Prop := (Lit.int k n).wf = true
def wfA (k : IntKind) (n : Nat) (l : List Int) : Prop := l.length = n ∧ ∀ z ∈ l, wfI k z
def Seg (rd : Rd) (cs : List Value) (off n : Nat) (l : List SC) : Prop := l.length = n ∧ ∀ (j : Nat) (y : SC), l[j]? = some y → ∃ u, cs[off + j]? = some u ∧ IRel rd u y
theorem Seg.append {rd : Rd} {cs : List Value} {off n m : Nat} {l l' : List SC} (h : Seg rd cs off n l) (k : Seg rd cs (off + n) m l') : Seg rd cs off (n + m) (l ++ l') := by
  refine ⟨by rw [List.length_append, h.1, k.1], fun j y hy => ?_⟩
  by_cases hj : j < l.length
  · rw [List.getElem?_append_left hj] at hy
    exact h.2 j y hy
  · rw [List.getElem?_append_right (by omega)] at hy
    obtain ⟨u, h1, h2⟩ := k.2 _ y hy
    have h3 := h.1
    refine ⟨u, ?_, h2⟩
    rw [← h1]
    congr 1
    omega

/-- a value of the type t is the shadow of an α -/
def Opens (P : Program) (t : TypeId) {α : Type} (f : α → List SC) (wf : α → Prop) : Prop :=
  ∀ (H : Type) (enc : TypeId × Value → H) (W : World) (fuel : Nat) (cs : List Value) (x : DataW H × List MemPlace), DataW.trod enc P W 0 (fun _ => true) true fuel t cs = some x → ∃ a : α, Seg (rdAll W) cs 0 cs.length (f a) ∧ wf a

theorem opens_int {P : Program} {t : TypeId} {k : IntKind} (ht : P.underlying t = some (.int k)) : Opens P t (ecI k) (wfI k) := by
  intro H enc W fuel cs x h
  obtain ⟨n, rfl, _, hw⟩ := DataW.trod_int ht h
  refine ⟨n, ⟨rfl, fun j y hy => ?_⟩, hw⟩
  rcases j with _ | j
  · simp only [ecI, List.getElem?_cons_zero, Option.some.injEq] at hy
    subst hy
    exact ⟨_, rfl, .lit _⟩
  · simp [ecI] at hy
end
section
open Go.ChangeShapes Go.WideShapes Go.ChangeAt Go.RowKit

def Wt (P : Program) (t : TypeId) {H : Type} (d : DataW H) : Prop := ∀ n ∈ d.weights P t, n ≤ reachBytes
def OpensR (P : Program) (t : TypeId) {α : Type} (f : α → List SC) (wf : α → Prop) : Prop :=
  ∀ (H : Type) (enc : TypeId × Value → H) (W : World) (fuel : Nat) (cs : List Value) (x : DataW H × List MemPlace), DataW.trod enc P W 0 (fun _ => true) true fuel t cs = some x → Wt P t x.1 → ∃ a : α, Seg (rdAll W) cs 0 cs.length (f a) ∧ wf a
theorem Opens.r {P : Program} {t : TypeId} {α : Type} {f : α → List SC} {wf : α → Prop} (h : Opens P t f wf) : OpensR P t f wf := fun H enc W fuel cs x h1 _ => h H enc W fuel cs x h1
def wfR {α : Type} (p : α → Prop) (l : List α) : Prop := l.length ≤ 140737488351232 ∧ ∀ z ∈ l, p z
theorem mem_weightsAll {H : Type} {P : Program} {e : TypeId} : ∀ {l : List (DataW H)} {d : DataW H}, d ∈ l → ∀ n ∈ d.weights P e, n ∈ DataW.weightsAll P e l
  | x :: l, d, h, n, hn => by
    simp only [DataW.weightsAll, List.mem_append]
    rcases List.mem_cons.1 h with rfl | h
    · exact Or.inl hn
    · exact Or.inr (mem_weightsAll h n hn)
theorem wt_of {H : Type} {P : Program} {ts : List TypeId} {ds : List (DataW H)} (h : (DataW.weightsEach P ts ds).all (· ≤ reachBytes) = true) {j : Nat} {t : TypeId} {d : DataW H} (ht : ts[j]? = some t) (hd : ds[j]? = some d) : Wt P t d := fun n hn => by
  have := List.all_eq_true.1 h _ (DataW.weights_mem_each ht hd n hn)
  simpa using this
theorem opens_sliceR {P : Program} {t e : TypeId} {sz : Nat} (ht : P.underlying t = some (.slice e)) (hsz : P.cellsOf e = sz) {α : Type} {f : α → List SC} {wf : α → Prop} (hop : OpensR P e f wf) (hlen : ∀ a, (f a).length = sz) (hpos : decide (0 < sz) = true) (hby : decide (0 < P.bytesOf e) = true) : OpensR P t (ecS sz f) (wfR wf) := by
  intro H enc W fuel cs x h hw
  have hb := of_decide_eq_true hby
  have hp := of_decide_eq_true hpos
  rcases DataW.trod_slice ht h with ⟨rfl, _⟩ | ⟨a, len, cap, elems, rest, m, _, rfl, rfl, _, hlc, hcm, hel, hg, _⟩
  · refine ⟨[], ⟨rfl, fun j y hy => ?_⟩, by simp, fun z hz => absurd hz (by simp)⟩
    rcases j with _ | j
    · simp only [ecS, List.map_nil, List.getElem?_cons_zero, Option.some.injEq] at hy
      subst hy
      exact ⟨_, rfl, .nil _ _ _ (by decide)⟩
    · simp [ecS] at hy
  · have e0 : DataW.weights P t (.slice (elems.map (·.1)) (rest.map (·.1)) : DataW H) = (((elems.map (·.1)).length + (rest.map (·.1)).length) * P.bytesOf e :: (DataW.weightsAll P e (elems.map (·.1)) ++ DataW.weightsAll P e (rest.map (·.1)))) := by simp [DataW.weights, ht]
    have hlen' : len ≤ 140737488351232 := by
      have h2 := hw (((elems.map (·.1)).length + (rest.map (·.1)).length) * P.bytesOf e) (by rw [e0]; exact List.mem_cons_self)
      have h3 : len * 1 ≤ ((elems.map (·.1)).length + (rest.map (·.1)).length) * P.bytesOf e := Nat.mul_le_mul (by rw [List.length_map, hel]; omega) hb
      have h4 : reachBytes = 140737488351232 := rfl
      omega
    have key : ∀ i, i < len → ∃ (us : List Value) (b : α), W.cells? 0 (a.add (i * sz)) sz = some us ∧ Seg (rdAll W) us 0 us.length (f b) ∧ wf b := by
      intro i hi
      have h1 := hg i hi
      rw [hsz] at h1
      obtain ⟨y, hy⟩ : ∃ y, elems[i]? = some y := ⟨_, List.getElem?_eq_getElem (by omega)⟩
      rw [hy] at h1
      obtain ⟨us, k1, k2⟩ := Option.bind_eq_some_iff.1 h1
      obtain ⟨b, k3, k4⟩ := hop H enc W m us y k2 (fun n hn => hw n (by
        rw [e0]
        exact List.mem_cons_of_mem _ (List.mem_append_left _ (mem_weightsAll (d := y.1) (List.mem_map.2 ⟨y, List.mem_of_getElem? hy, rfl⟩) n hn))))
      exact ⟨us, b, k1, k3, k4⟩
    have key2 : ∃ l : List α, l.length = len ∧ ∀ i b, l[i]? = some b → wf b ∧ ∃ us, W.cells? 0 (a.add (i * sz)) sz = some us ∧ Seg (rdAll W) us 0 us.length (f b) := by
      have : ∀ q, q ≤ len → ∃ l : List α, l.length = q ∧ ∀ i b, l[i]? = some b → wf b ∧ ∃ us, W.cells? 0 (a.add (i * sz)) sz = some us ∧ Seg (rdAll W) us 0 us.length (f b) := by
        intro q
        induction q with
        | zero => exact fun _ => ⟨[], rfl, fun i b hb => by simp at hb⟩
        | succ q ih =>
          intro hq
          obtain ⟨l, hl, hall⟩ := ih (by omega)
          obtain ⟨us, b, k1, k2, k3⟩ := key q (by omega)
          refine ⟨l ++ [b], by simp [hl], fun i c hc => ?_⟩
          by_cases hi : i < l.length
          · rw [List.getElem?_append_left hi] at hc
            exact hall i c hc
          · rw [List.getElem?_append_right (by omega)] at hc
            have hi0 : i - l.length = 0 := by
              have := (List.getElem?_eq_some_iff.1 hc).1
              simp at this
              omega
            rw [hi0] at hc
            cases hc
            have : i = q := by omega
            subst this
            exact ⟨k3, us, k1, k2⟩
      exact this len (Nat.le_refl _)
    obtain ⟨l, hl, hall⟩ := key2
    refine ⟨l, ⟨rfl, fun j y hy => ?_⟩, by omega, fun z hz => ?_⟩
    · rcases j with _ | j
      · simp only [ecS, List.getElem?_cons_zero, Option.some.injEq] at hy
        subst hy
        refine ⟨_, rfl, ?_⟩
        rw [hl]
        by_cases hz : len = 0
        · subst hz
          have : l = [] := List.eq_nil_of_length_eq_zero hl
          subst this
          exact .nil _ _ _ hcm
        · obtain ⟨b0, hb0⟩ : ∃ b, l[0]? = some b := ⟨_, List.getElem?_eq_getElem (by omega)⟩
          obtain ⟨_, us0, k0, _⟩ := hall 0 b0 hb0
          obtain ⟨hlen0, _, hc0⟩ := World.cells?_some k0
          have hcell0 := hc0 0 (by omega)
          obtain ⟨bl, off, spot⟩ := a
          have hspot : spot = none := by
            obtain ⟨z, hz0⟩ : ∃ z, us0[0]? = some z := ⟨_, List.getElem?_eq_getElem (by omega)⟩
            rw [hz0] at hcell0
            simpa [Addr.add] using World.cell?_spot hcell0
          subst hspot
          have cellAt : ∀ i b, l[i]? = some b → ∀ j y, (f b)[j]? = some y → ∃ u, W.cell? ⟨bl, off + i * sz + j, none⟩ = some u ∧ IRel (rdAll W) u y := by
            intro i b hb j y hy
            obtain ⟨_, us, k1, k2⟩ := hall i b hb
            obtain ⟨hlen1, _, hc1⟩ := World.cells?_some k1
            obtain ⟨u, q1, q2⟩ := k2.2 j y hy
            rw [Nat.zero_add] at q1
            have hj : j < sz := by have := (List.getElem?_eq_some_iff.1 hy).1; rw [hlen b] at this; exact this
            have := hc1 j (by omega)
            rw [q1] at this
            refine ⟨u, ?_, q2⟩
            rw [Addr.add_mid, Addr.add_mid] at this
            exact this
          refine .slc bl off len cap sz (l.map f) (fun i j => (W.cell? ⟨bl, off + i * sz + j, none⟩).getD (.bool false)) (by simp [hl]) hlc hcm ?_ ?_ ?_
          · intro x hx
            obtain ⟨b, _, rfl⟩ := List.mem_map.1 hx
            exact hlen b
          · intro i x j y hx hy
            rw [List.getElem?_map] at hx
            obtain ⟨b, hb, rfl⟩ := Option.map_eq_some_iff.1 hx
            obtain ⟨u, q1, _⟩ := cellAt i b hb j y hy
            simp only [rdAll, q1, Option.getD_some]
          · intro i x j y hx hy
            rw [List.getElem?_map] at hx
            obtain ⟨b, hb, rfl⟩ := Option.map_eq_some_iff.1 hx
            obtain ⟨u, q1, q2⟩ := cellAt i b hb j y hy
            simp only [q1, Option.getD_some]
            exact q2
      · simp [ecS] at hy
    · obtain ⟨i, hi⟩ := List.getElem?_of_mem hz
      exact (hall i z hi).1

/-- a single cell as an argument -/
theorem open_cellR {P : Program} {t : TypeId} {H : Type} {enc : TypeId × Value → H} {W : World} {v : Value} {d : DataW H} {p : List MemPlace} {α : Type} {f : α → List SC} {wf : α → Prop} {c : α → SC} (hop : OpensR P t f wf) (hc : ∀ a, f a = [c a]) (hv : v.cells = #[v]) (h : DataW.Trod enc P W 0 (fun _ => true) true t v d p) (hw : Wt P t d) : ∃ a, VRel (rdAll W) env0 v (.c (c a)) ∧ wf a := by
  obtain ⟨fuel, hf⟩ := h
  obtain ⟨a, hs, hw2⟩ := hop H enc W fuel _ _ hf hw
  rw [hv] at hs
  refine ⟨a, ?_, hw2⟩
  obtain ⟨u, k1, k2⟩ := hs.2 0 (c a) (by rw [hc]; rfl)
  simp at k1
  subst k1
  exact k2.c
/-- a slice as an argument -/
theorem open_slcR {P : Program} {t e : TypeId} {H : Type} {enc : TypeId × Value → H} {W : World} {v : Value} {d : DataW H} {p : List MemPlace} {r : Reach} {b0 : Nat} {α : Type} {sz : Nat} {f : α → List SC} {wf : List α → Prop} (hop : OpensR P t (ecS sz f) wf) (ht : P.underlying t = some (.slice e))
    (hv : Value.okWide P W r b0 t v) (h : DataW.Trod enc P W 0 (fun _ => true) true t v d p) (hw : Wt P t d) : ∃ a, VRel (rdAll W) env0 v (.c (eS sz f a)) ∧ wf a := by
  obtain ⟨a0, len, cap, rfl⟩ := okWide_slice ht hv
  exact open_cellR hop (fun a => rfl) rfl h hw
end
section
open Go.ChangeShapes Go.WideShapes Go.ChangeAt Go.RowKit

def S_Prefix.wf (x : S_Prefix) : Prop := wfA .u8 16 x.IP ∧ wfI .i64 x.Bits
def S_Destination.wf (x : S_Destination) : Prop := S_Prefix.wf x.Dst ∧ S_Prefix.wf x.Src ∧ wfI .u64 x.Router
def S_Notice.wf (x : S_Notice) : Prop := wfI .i64 x.Kind ∧ wfI .u16 x.Seq ∧ wfI .i64 x.Metric ∧ wfI .u64 x.Neighbour ∧ S_Destination.wf x.To ∧ wfI .i64 x.Hops
end
section
open Go.ChangeShapes Go.WideShapes Go.ChangeAt Go.RowKit

set_option maxRecDepth 100000 in
theorem messagesDecode_lifted (hF : ∀ (a0 : List Int) (a1 : List Int) (a2 : Int) (a3 : Int), wfR (wfI .u8) a0 → wfR (wfI .i64) a1 → wfI .i64 a2 → wfI .u8 a3 → F_law29_MessagesDecode a0 a1 a2 a3 = some true) (os : Os) (started : os.Started) (H : Type) (enc : TypeId × Value → H) :
    ReturnsInHanded {} Try.checked os 9 .any (Rows.messagesDecodeSpec.pre6 enc Try.prog Try.f9 Rows.messagesDecodeRow.domain false) (Rows.messagesDecodeSpec.post enc Try.prog Try.f9 false true false false) := by
  refine returnsInHanded_of_change_sized (C := Try.checked) own started (by kernel_rfl) Try.func9
    (ChangeSpec.witness6 (enc := enc) (C := Try.checked) false ⟨#[], #[.slice none 0 0, .slice none 0 0, .int .i64 0, .int .u8 0], []⟩ 8 (by kernel_rfl) (by kernel_rfl) (by kernel_rfl) (by kernel_rfl)) ?_
  intro W base args ds gs before hval0 hW hcnd hsz0 _
  have hval : ∀ (j : Nat) t v, Try.f9.params[j]? = some t → args[j]? = some v → Value.okWide Try.prog W .any base t v := hval0
  have hW' := hW
  obtain ⟨p, q, hA0, hV, rfl, hfz, hnd⟩ := hW
  have hA : DataW.TrodAll enc Try.prog W 0 (fun _ => true) true Try.f9.params.toList args.toList ds p := hA0
  have hAll := hA
  rw [Try.params9] at hA hval hAll
  obtain ⟨v0, vs0, d0, ds0, p0, q0, hargs, rfl, rfl, h0, r0⟩ := trodAll_cons hA
  obtain ⟨v1, vs1, d1, ds1, p1, q1, rfl, rfl, rfl, h1, r1⟩ := trodAll_cons r0
  obtain ⟨v2, vs2, d2, ds2, p2, q2, rfl, rfl, rfl, h2, r2⟩ := trodAll_cons r1
  obtain ⟨v3, vs3, d3, ds3, p3, q3, rfl, rfl, rfl, h3, r3⟩ := trodAll_cons r2
  obtain ⟨rfl, rfl, rfl⟩ := trodAll_nil r3
  obtain rfl : args = #[v0, v1, v2, v3] := by cases args; simp_all
  obtain ⟨rfl, rfl⟩ := trodVars_none hV
  obtain ⟨x0, hR0, w0⟩ := open_slcR (opens_sliceR (sz := 1) Try.underlying47 (by kernel_rfl) (opens_int (k := .u8) Try.underlying5).r (fun _ => by kernel_rfl) (by kernel_rfl) (by kernel_rfl)) Try.underlying47 (hval 0 47 v0 rfl rfl) h0 (wt_of hsz0 (j := 0) (by kernel_rfl) rfl)
  obtain ⟨x1, hR1, w1⟩ := open_slcR (opens_sliceR (sz := 1) Try.underlying23 (by kernel_rfl) (opens_int (k := .i64) Try.underlying3).r (fun _ => by kernel_rfl) (by kernel_rfl) (by kernel_rfl)) Try.underlying23 (hval 1 23 v1 rfl rfl) h1 (wt_of hsz0 (j := 1) (by kernel_rfl) rfl)
  obtain ⟨x2, rfl, rfl, rfl, w2⟩ := open_int Try.underlying3 (hval 2 3 v2 rfl rfl) h2
  obtain ⟨x3, rfl, rfl, rfl, w3⟩ := open_int Try.underlying5 (hval 3 5 v3 rfl rfl) h3
  clear hA0 hval0 hsz0
  refine (con_true (us := [v0, v1, .int .i64 x2, .int .u8 x3]) (ok_law29_MessagesDecode x0 x1 x2 x3 true (hF x0 x1 x2 x3 w0 w1 w2 w3)) ⟨hR0, hR1, vrel_lit _ _ _, vrel_lit _ _ _, trivial⟩).mono fun e W' ⟨he, hx⟩ => ?_
  subst he
  have bel := hx.below
  exact ⟨_, rfl, _, _, _, [], _, [], hW', trodAll_mk1 (shut_bool Try.underlying4 _), trodAll_below laidOut bel (by kernel_rfl) hAll, rfl, bel.frame _, fun h => by cases h⟩

theorem messagesDecode_of (hF : ∀ (a0 : List Int) (a1 : List Int) (a2 : Int) (a3 : Int), wfR (wfI .u8) a0 → wfR (wfI .i64) a1 → wfI .i64 a2 → wfI .u8 a3 → F_law29_MessagesDecode a0 a1 a2 a3 = some true) : Rows.MessagesDecodeSaid :=
  OpenClaim.holds_of_wide 9 Try.f9 rfl rfl rfl rfl rfl rfl rfl ⟨rfl, rfl, rfl, rfl, rfl⟩ rfl rfl rfl rfl rfl (by kernel_rfl) Try.func9 (by kernel_rfl)
    (of_decide_eq_true (by kernel_rfl)) (by unfold Func.isWrapper; first | (rw [if_pos (by decide +kernel)]; kernel_rfl) | (rw [if_neg (by decide +kernel)]; exact ⟨rfl, rfl⟩))
    (fun os started H enc _ => messagesDecode_lifted hF os started H enc)
end
section
open Go.RowKit

theorem beqF {α : Type} [BEq α] [LawfulBEq α] {a b : α} (h : ¬ a = b) : (a == b) = false := by simpa using h
theorem decT {p : Prop} [Decidable p] (h : p) : decide p = true := by simpa using h
theorem decF {p : Prop} [Decidable p] (h : ¬ p) : decide p = false := by simpa using h
theorem wi {x : Int} (h0 : -9223372036854775808 ≤ x) (h1 : x ≤ 9223372036854775807) : IntKind.wrap .i64 x = x := by
  simp [IntKind.wrap, IntKind.bits, IntKind.signed]
  omega
theorem wu {x : Int} (h0 : 0 ≤ x) (h1 : x < 18446744073709551616) : IntKind.wrap .u64 x = x := by
  simp [IntKind.wrap, IntKind.bits, IntKind.signed]
  omega
theorem wu16 {x : Int} (h0 : 0 ≤ x) (h1 : x < 65536) : IntKind.wrap .u16 x = x := by
  simp [IntKind.wrap, IntKind.bits, IntKind.signed]
  omega
theorem wu8 {x : Int} (h0 : 0 ≤ x) (h1 : x < 256) : IntKind.wrap .u8 x = x := by
  simp [IntKind.wrap, IntKind.bits, IntKind.signed]
  omega
theorem wk (k : Nat) (h : k < 9223372036854775807) : IntKind.wrap .i64 ((k : Int) + 1) = ((k + 1 : Nat) : Int) := by
  rw [wi (by omega) (by omega)]; rfl
theorem wrap8 (x : Int) : IntKind.wrap .u8 x = x % 256 := by
  simp [IntKind.wrap, IntKind.bits, IntKind.signed]
theorem wrap16 (x : Int) : IntKind.wrap .u16 x = x % 65536 := by
  simp [IntKind.wrap, IntKind.bits, IntKind.signed]
theorem wrap64 (x : Int) : IntKind.wrap .u64 x = x % 18446744073709551616 := by
  simp [IntKind.wrap, IntKind.bits, IntKind.signed]
theorem wrap8_bd (x : Int) : 0 ≤ IntKind.wrap .u8 x ∧ IntKind.wrap .u8 x ≤ 255 := by rw [wrap8]; omega

section
variable {σ ρ : Type} {step : σ → Option (σ ⊕ ρ)}
theorem loop_done {s : σ} {r : ρ} (h : step s = some (.inr r)) : loopO step s = some r := by rw [loopO_eq, h]
theorem loop_next {s s' : σ} (h : step s = some (.inl s')) : loopO step s = loopO step s' := by rw [loopO_eq, h]
/-- a loop that keeps I and ends with Q -/
theorem loop_inv (I : σ → Prop) (Q : ρ → Prop) (m : σ → Nat) (hs : ∀ s, I s → (∃ s', step s = some (.inl s') ∧ I s' ∧ m s' < m s) ∨ (∃ r, step s = some (.inr r) ∧ Q r)) (s : σ) (h : I s) : ∃ r, loopO step s = some r ∧ Q r := by
  induction hn : m s using Nat.strongRecOn generalizing s with
  | ind n ih =>
    subst hn
    rcases hs s h with ⟨s', h1, h2, h3⟩ | ⟨r, h1, h2⟩
    · obtain ⟨r, hr, hq⟩ := ih (m s') h3 s' h2 rfl
      exact ⟨r, by rw [loop_next h1]; exact hr, hq⟩
    · exact ⟨r, loop_done h1, h2⟩
/-- a loop whose states are known -/
theorem loop_to (S : Nat → σ) (n : Nat) (h : ∀ k, k < n → step (S k) = some (.inl (S (k + 1)))) : loopO step (S 0) = loopO step (S n) := by
  induction n with
  | zero => rfl
  | succ n ih => rw [ih (fun k hk => h k (by omega)), loop_next (h n (by omega))]
theorem loop_run (S : Nat → σ) (n : Nat) {r : ρ} (h : ∀ k, k < n → step (S k) = some (.inl (S (k + 1)))) (he : step (S n) = some (.inr r)) : loopO step (S 0) = some r := by
  rw [loop_to S n h, loop_done he]
/-- a loop that is left at the first place where p fails -/
theorem loop_first (S : Nat → σ) (n : Nat) (p : Nat → Bool) (out : Nat → ρ) {re : ρ} (h1 : ∀ k, k < n → p k = true → step (S k) = some (.inl (S (k + 1)))) (h2 : ∀ k, k < n → p k = false → step (S k) = some (.inr (out k))) (h3 : step (S n) = some (.inr re)) :
    (∃ k, k < n ∧ p k = false ∧ (∀ j, j < k → p j = true) ∧ loopO step (S 0) = some (out k)) ∨ ((∀ k, k < n → p k = true) ∧ loopO step (S 0) = some re) := by
  by_cases hx : ∀ k, k < n → p k = true
  · exact .inr ⟨hx, loop_run S n (fun k hk => h1 k hk (hx k hk)) h3⟩
  · have hx' : ∃ k, k < n ∧ p k = false := by
      apply Classical.byContradiction
      intro hno
      apply hx
      intro k hk
      cases hpk : p k with
      | true => rfl
      | false => exact absurd ⟨k, hk, hpk⟩ hno
    have : ∃ k, (k < n ∧ p k = false) ∧ ∀ j, j < k → ¬ (j < n ∧ p j = false) := by
      obtain ⟨k, hk⟩ := hx'
      induction k using Nat.strongRecOn with
      | ind k ih =>
        by_cases hj : ∃ j, j < k ∧ j < n ∧ p j = false
        · obtain ⟨j, hj1, hj2⟩ := hj; exact ih j hj1 hj2
        · exact ⟨k, hk, fun j hjk hh => hj ⟨j, hjk, hh⟩⟩
    obtain ⟨k, ⟨hk, hpk⟩, hmin⟩ := this
    have hall : ∀ j, j < k → p j = true := by
      intro j hj
      cases hpj : p j with
      | true => rfl
      | false => exact absurd ⟨by omega, hpj⟩ (hmin j hj)
    refine .inl ⟨k, hk, hpk, hall, ?_⟩
    rw [loop_to S k (fun j hj => h1 j (by omega) (hall j hj)), loop_done (h2 k hk hpk)]
/-- a loop that answers whether p holds everywhere -/
theorem loop_all (S : Nat → σ) (n : Nat) (p : Nat → Bool) {rt rf : ρ} (h1 : ∀ k, k < n → p k = true → step (S k) = some (.inl (S (k + 1)))) (h2 : ∀ k, k < n → p k = false → step (S k) = some (.inr rf)) (h3 : step (S n) = some (.inr rt)) :
    loopO step (S 0) = some (if ∀ k, k < n → p k = true then rt else rf) := by
  rcases loop_first S n p (fun _ => rf) h1 h2 h3 with ⟨k, hk, hpk, _, h⟩ | ⟨ha, h⟩
  · rw [h, if_neg]
    intro hh
    rw [hh k hk] at hpk
    cases hpk
  · rw [h, if_pos ha]
end
theorem idx_nat {α : Type} (l : List α) (k : Nat) : idx l (k : Int) = l[k]? := by simp [idx]
theorem idx_lt {α : Type} {l : List α} {k : Nat} (h : k < l.length) : idx l (k : Int) = some l[k] := by rw [idx_nat]; exact List.getElem?_eq_getElem h
theorem idx_int {α : Type} {l : List α} {i : Int} (h0 : 0 ≤ i) (h1 : i < l.length) : idx l i = some (l[i.toNat]'(by omega)) := by
  unfold idx; rw [if_pos h0]; exact List.getElem?_eq_getElem _
theorem appO_some {α : Type} {by_ : Nat} {l1 l2 : List α} (h : (l1.length + l2.length) * by_ ≤ 140737488355328) (h' : l1.length + l2.length ≤ 140737488355328) : appO by_ l1 l2 = some (l1 ++ l2) := by
  unfold appO; rw [if_pos ⟨h, h'⟩]
theorem subO_some {α : Type} {l : List α} {a b : Int} (h0 : 0 ≤ a) (h1 : a ≤ b) (h2 : b ≤ l.length) : subO l a b = some ((l.take b.toNat).drop a.toNat) := by
  unfold subO; rw [if_pos ⟨h0, h1, h2⟩]

theorem arrL_id {n : Nat} {l : List Int} (h : l.length = n) : arrL n l = l := by
  apply List.ext_getElem?
  intro i
  unfold arrL
  rcases Nat.lt_or_ge i n with hi | hi
  · rw [List.getElem?_map, List.getElem?_range hi, List.getElem?_eq_getElem (by omega)]
    simp [List.getD_eq_getElem?_getD, List.getElem?_eq_getElem (show i < l.length by omega)]
  · rw [List.getElem?_eq_none (by simpa using hi), List.getElem?_eq_none (by omega)]
theorem arrEq_iff {n : Nat} {a b : List Int} : arrEq n a b = true ↔ ∀ i, i < n → a.getD i 0 = b.getD i 0 := by
  unfold arrEq
  have : ∀ l : List Nat, (l.foldr (fun i r => (a.getD i 0 == b.getD i 0) && r) true) = true ↔ ∀ i ∈ l, a.getD i 0 = b.getD i 0 := by
    intro l
    induction l with
    | nil => simp
    | cons x l ih => simp only [List.foldr_cons, Bool.and_eq_true, beq_iff_eq, ih, List.mem_cons, forall_eq_or_imp]
  rw [this]
  simp
theorem arrEq_eq {n : Nat} {a b : List Int} (ha : a.length = n) (hb : b.length = n) : arrEq n a b = decide (a = b) := by
  rw [Bool.eq_iff_iff, arrEq_iff, decide_eq_true_iff]
  constructor
  · intro h
    apply List.ext_getElem (by omega)
    intro i h1 h2
    have := h i (by omega)
    simpa [List.getD_eq_getElem?_getD, List.getElem?_eq_getElem h1, List.getElem?_eq_getElem h2] using this
  · rintro rfl _ _; rfl
theorem setA_set {n : Nat} {l : List Int} {i : Nat} {v : Int} (h : l.length = n) : setA n l i v = l.set i v := by
  apply List.ext_getElem?
  intro j
  unfold setA
  rcases Nat.lt_or_ge j n with hj | hj
  · rw [List.getElem?_map, List.getElem?_range hj, List.getElem?_set]
    by_cases hij : i = j
    · subst hij; simp; omega
    · simp [hij, Ne.symm hij, List.getD_eq_getElem?_getD, List.getElem?_eq_getElem (show j < l.length by omega)]
  · rw [List.getElem?_eq_none (by simpa using hj), List.getElem?_eq_none (by simp; omega)]
theorem setA_len (n : Nat) (l : List Int) (i : Nat) (v : Int) : (setA n l i v).length = n := by simp [setA]

theorem getD_get {l : List Int} {i : Nat} (h : i < l.length) : l.getD i 0 = l[i] := by simp [List.getD_eq_getElem?_getD, List.getElem?_eq_getElem h]
theorem getD_mem {p : Int → Prop} {l : List Int} (h : ∀ z ∈ l, p z) (h0 : p 0) (i : Nat) : p (l.getD i 0) := by
  rcases Nat.lt_or_ge i l.length with hi | hi
  · rw [getD_get hi]; exact h _ (List.getElem_mem hi)
  · rw [List.getD_eq_getElem?_getD, List.getElem?_eq_none hi]; exact h0
end
section
open Go.RowKit

def okB (l : List Int) : Prop := ∀ z ∈ l, 0 ≤ z ∧ z ≤ 255
theorem okB_nil : okB [] := fun z h => by simp at h
theorem okB.append {a b : List Int} (ha : okB a) (hb : okB b) : okB (a ++ b) := fun z h => (List.mem_append.1 h).elim (ha z) (hb z)
theorem okB.get {l : List Int} (h : okB l) {i : Nat} (hi : i < l.length) : 0 ≤ l[i] ∧ l[i] ≤ 255 := h _ (List.getElem_mem hi)
theorem okB.take {l : List Int} (h : okB l) (n : Nat) : okB (l.take n) := fun z hz => h z (List.mem_of_mem_take hz)
theorem okB.drop {l : List Int} (h : okB l) (n : Nat) : okB (l.drop n) := fun z hz => h z (List.mem_of_mem_drop hz)
theorem okB.set {l : List Int} (h : okB l) (n : Nat) {v : Int} (hv : 0 ≤ v ∧ v ≤ 255) : okB (l.set n v) := fun z hz => (List.mem_or_eq_of_mem_set hz).elim (h z) (fun e => e ▸ hv)
theorem okB.getD {l : List Int} (h : okB l) (n : Nat) : 0 ≤ l.getD n 0 ∧ l.getD n 0 ≤ 255 := getD_mem (p := fun z => 0 ≤ z ∧ z ≤ 255) h (by omega) n
theorem okB_one {v : Int} (h : 0 ≤ v ∧ v ≤ 255) : okB [v] := fun z hz => by rw [List.mem_singleton.1 hz]; exact h
theorem okB_cons {v : Int} {l : List Int} (h : 0 ≤ v ∧ v ≤ 255) (k : okB l) : okB (v :: l) := fun z hz => (List.mem_cons.1 hz).elim (fun e => e ▸ h) (k z)
theorem okB_wf {l : List Int} (h : ∀ z ∈ l, wfI .u8 z) : okB l := fun z hz => by
  have := h z hz
  simp [wfI, Lit.wf, IntKind.min, IntKind.max, IntKind.bits, IntKind.signed] at this
  omega
theorem u8_inj {a b : Int} (ha : 0 ≤ a ∧ a ≤ 255) (hb : 0 ≤ b ∧ b ≤ 255) (h : a.toNat.toUInt8 = b.toNat.toUInt8) : a = b := by
  have e1 : (a.toNat.toUInt8).toNat = a.toNat := by simp [Nat.toUInt8]; omega
  have e2 : (b.toNat.toUInt8).toNat = b.toNat := by simp [Nat.toUInt8]; omega
  rw [h] at e1
  omega
theorem u8L_inj : ∀ {a b : List Int}, okB a → okB b → u8L a = u8L b → a = b
  | [], [], _, _, _ => rfl
  | [], _ :: _, _, _, h => by simp [u8L] at h
  | _ :: _, [], _, _, h => by simp [u8L] at h
  | x :: s, y :: t, ha, hb, h => by
    simp only [u8L, List.map_cons, List.cons.injEq] at h
    rw [u8_inj (ha x (by simp)) (hb y (by simp)) h.1, u8L_inj (fun z hz => ha z (by simp [hz])) (fun z hz => hb z (by simp [hz])) h.2]
theorem u8L_beq {a b : List Int} (ha : okB a) (hb : okB b) : (u8L a == u8L b) = decide (a = b) := by
  by_cases h : a = b
  · subst h; simp
  · rw [decF h]
    exact beqF (fun q => h (u8L_inj ha hb q))
theorem ishr_eq {x y : Int} (h0 : 0 ≤ y) (h1 : y < 64) : ishr .u64 x y = x / 2 ^ y.toNat := by
  unfold ishr
  rw [show min y.toNat IntKind.u64.bits = y.toNat by simp [IntKind.bits]; omega]
  exact Int.fdiv_eq_ediv_of_nonneg _ (Int.pow_nonneg (by omega))
theorem ishl_eq {x y : Int} (h0 : 0 ≤ y) (h1 : y < 64) : ishl .u64 x y = (x * 2 ^ y.toNat) % 18446744073709551616 := by
  unfold ishl
  rw [show min y.toNat IntKind.u64.bits = y.toNat by simp [IntKind.bits]; omega, wrap64]
theorem byte_eq {v : Int} {j : Int} (h0 : 0 ≤ j) (h1 : j < 64) : IntKind.wrap .u8 (ishr .u64 v j) = v / 2 ^ j.toNat % 256 := by
  rw [ishr_eq h0 h1, wrap8]
theorem ior_add {x y : Int} (i : Nat) (h0 : 0 ≤ x) (h1 : x < 2 ^ i) (h2 : 0 ≤ y) (h3 : x + y * 2 ^ i < 18446744073709551616) : ior .u64 x (y * 2 ^ i) = x + y * 2 ^ i := by
  obtain ⟨a, rfl⟩ := Int.eq_ofNat_of_zero_le h0
  obtain ⟨b, rfl⟩ := Int.eq_ofNat_of_zero_le h2
  have hp : ((b : Int) * 2 ^ i) = ((b * 2 ^ i : Nat) : Int) := by rw [Int.natCast_mul, Int.natCast_pow]; rfl
  have ha : a < 2 ^ i := by
    have e : ((2 : Int) ^ i) = ((2 ^ i : Nat) : Int) := by rw [Int.natCast_pow]; rfl
    rw [e] at h1
    omega
  rw [hp] at h3 ⊢
  have h3' : a + b * 2 ^ i < 18446744073709551616 := by omega
  unfold ior
  have e1 : (BitVec.ofInt IntKind.u64.bits (a : Int)).toNat = a := by
    rw [BitVec.toNat_ofInt]
    simp only [IntKind.bits]
    omega
  have e2 : (BitVec.ofInt IntKind.u64.bits ((b * 2 ^ i : Nat) : Int)).toNat = b * 2 ^ i := by
    rw [BitVec.toNat_ofInt]
    simp only [IntKind.bits]
    omega
  rw [BitVec.toNat_or, e1, e2, Nat.or_comm, show b * 2 ^ i ||| a = 2 ^ i * b + a by rw [Nat.two_pow_add_eq_or_of_lt ha, Nat.mul_comm]]
  rw [wrap64, Nat.mul_comm]
  omega

def beB (v : Int) (n : Nat) : List Int := (List.range n).map fun i => v / 2 ^ (8 * (n - 1 - i)) % 256
theorem beB_len (v : Int) (n : Nat) : (beB v n).length = n := by simp [beB]
theorem beB_ok (v : Int) (n : Nat) : okB (beB v n) := fun z hz => by
  obtain ⟨i, _, rfl⟩ := List.mem_map.1 hz
  omega
theorem beB_get {v : Int} {n i : Nat} (h : i < n) : (beB v n)[i]? = some (v / 2 ^ (8 * (n - 1 - i)) % 256) := by
  unfold beB
  rw [List.getElem?_map, List.getElem?_range h]; rfl
theorem take_snoc {α : Type} {l : List α} {k : Nat} {x : α} (h : l[k]? = some x) : l.take (k + 1) = l.take k ++ [x] := by
  rw [List.take_add_one, h]; rfl
theorem set_mid {α : Type} (a b : List α) (x y : α) {k : Nat} (h : k = a.length) : (a ++ x :: b).set k y = a ++ y :: b := by
  subst h
  rw [List.set_append_right _ _ (Nat.le_refl _), Nat.sub_self]
  rfl

/-- the number of bytes, the greatest first -/
def beN : List Int → Int := fun l => l.foldl (fun v c => v * 256 + c) 0
theorem beN_snoc (l : List Int) (x : Int) : beN (l ++ [x]) = beN l * 256 + x := by simp [beN]
theorem beN_aux : ∀ (l : List Int) (v : Int), okB l → 0 ≤ v → 0 ≤ l.foldl (fun v c => v * 256 + c) v ∧ l.foldl (fun v c => v * 256 + c) v < (v + 1) * 256 ^ l.length
  | [], v, _, h => by simp; omega
  | x :: l, v, h, hv => by
    have h1 := h x (by simp)
    obtain ⟨a, b⟩ := beN_aux l (v * 256 + x) (fun z hz => h z (by simp [hz])) (by omega)
    refine ⟨a, Int.lt_of_lt_of_le b ?_⟩
    have e : (v + 1) * (256 : Int) ^ (x :: l).length = (v + 1) * 256 * 256 ^ l.length := by
      rw [List.length_cons, Int.pow_succ, Int.mul_comm ((256 : Int) ^ l.length) 256, Int.mul_assoc]
    rw [e]
    exact Int.mul_le_mul_of_nonneg_right (by omega) (Int.pow_nonneg (by omega))
theorem beN_bd {l : List Int} (h : okB l) : 0 ≤ beN l ∧ beN l < 256 ^ l.length := by
  have := beN_aux l 0 h (by omega)
  simpa [beN] using this
end
section
open Go.RowKit

theorem put_n (v : Int) (n : Nat) (hn : n ≤ 8) : F_ref29_Put_N0 v n = some (beB v n) := by
  unfold F_ref29_Put_N0
  rw [wi (by omega) (by omega)]
  have hl := loop_run (step := F_ref29_Put_N0_l1 v) (S := fun k => ((beB v n).take k, (n : Int) - 1 - (k : Int))) n (r := beB v n) (fun k hk => by
    unfold F_ref29_Put_N0_l1
    dsimp only
    have w1 : IntKind.wrap .i64 (8 * ((n : Int) - 1 - (k : Int))) = ((8 * (n - 1 - k) : Nat) : Int) := by rw [wi (by omega) (by omega)]; omega
    have w2 : IntKind.wrap .u64 ((8 * (n - 1 - k) : Nat) : Int) = ((8 * (n - 1 - k) : Nat) : Int) := wu (by omega) (by omega)
    have w3 : IntKind.wrap .i64 ((n : Int) - 1 - (k : Int) - 1) = (n : Int) - 1 - ((k + 1 : Nat) : Int) := by rw [wi (by omega) (by omega)]; omega
    rw [decT (show (n : Int) - 1 - (k : Int) ≥ 0 by omega), w1, w2, w3, decT (show (0 : Int) ≤ ((8 * (n - 1 - k) : Nat) : Int) by omega)]
    simp only [cond_true, Cut.app]
    rw [appO_some (by simp only [List.length_take, beB_len, List.length_singleton]; omega) (by simp only [List.length_take, beB_len, List.length_singleton]; omega), Option.bind_some, byte_eq (by omega) (by omega), Int.toNat_natCast, take_snoc (beB_get hk)]) (by
    unfold F_ref29_Put_N0_l1
    dsimp only
    rw [decF (show ¬ (n : Int) - 1 - (n : Int) ≥ 0 by omega)]
    simp only [cond_false]
    rw [List.take_of_length_le (by rw [beB_len]; exact Nat.le_refl _)])
  simp only [Int.natCast_zero, List.take_zero, Int.sub_zero] at hl
  rw [hl]
  rfl
theorem put_g (a : List Int) (v : Int) (n : Nat) (hn : n ≤ 8) (ha : a.length ≤ 1000000000000) : F_ref29_Put_G0 a v n = some (a ++ beB v n) := by
  unfold F_ref29_Put_G0
  rw [wi (by omega) (by omega)]
  have hl := loop_run (step := F_ref29_Put_G0_l1 v) (S := fun k => (a ++ (beB v n).take k, (n : Int) - 1 - (k : Int))) n (r := a ++ beB v n) (fun k hk => by
    unfold F_ref29_Put_G0_l1
    dsimp only
    have w1 : IntKind.wrap .i64 (8 * ((n : Int) - 1 - (k : Int))) = ((8 * (n - 1 - k) : Nat) : Int) := by rw [wi (by omega) (by omega)]; omega
    have w2 : IntKind.wrap .u64 ((8 * (n - 1 - k) : Nat) : Int) = ((8 * (n - 1 - k) : Nat) : Int) := wu (by omega) (by omega)
    have w3 : IntKind.wrap .i64 ((n : Int) - 1 - (k : Int) - 1) = (n : Int) - 1 - ((k + 1 : Nat) : Int) := by rw [wi (by omega) (by omega)]; omega
    rw [decT (show (n : Int) - 1 - (k : Int) ≥ 0 by omega), w1, w2, w3, decT (show (0 : Int) ≤ ((8 * (n - 1 - k) : Nat) : Int) by omega)]
    simp only [cond_true, Cut.app]
    rw [appO_some (by simp only [List.length_append, List.length_take, beB_len, List.length_singleton]; omega) (by simp only [List.length_append, List.length_take, beB_len, List.length_singleton]; omega), Option.bind_some, byte_eq (by omega) (by omega), Int.toNat_natCast, take_snoc (beB_get hk), List.append_assoc]) (by
    unfold F_ref29_Put_G0_l1
    dsimp only
    rw [decF (show ¬ (n : Int) - 1 - (n : Int) ≥ 0 by omega)]
    simp only [cond_false]
    rw [List.take_of_length_le (by rw [beB_len]; exact Nat.le_refl _)])
  simp only [Int.natCast_zero, List.take_zero, List.append_nil, Int.sub_zero] at hl
  rw [hl]
  rfl
end
section
open Go.RowKit

theorem octets_append_n (a : List Int) (v : Int) (n : Nat) (hn : n ≤ 8) (ha : a.length ≤ 140737488355320) : F_octets_Append_j1 a v n = some (a ++ beB v n) := by
  unfold F_octets_Append_j1
  have e1 : IntKind.wrap .i64 ((a.length : Int) + (n : Int)) = ((a.length + n : Nat) : Int) := by rw [wi (by omega) (by omega)]; rfl
  rw [e1]
  have e2 : mkO 1 ((a.length + n : Nat) : Int) ((a.length + n : Nat) : Int) = some (a.length + n) := by
    unfold mkO
    rw [if_pos ⟨by omega, by omega, by omega, by omega⟩, Int.toNat_natCast]
  rw [e2, Option.bind_some]
  have e3 : cpL (List.replicate (a.length + n) (0 : Int)) 0 (List.length (Cut.app .whole (List.replicate (a.length + n) (0 : Int)))) (Cut.app .whole a) = a ++ (beB v n).take 0 ++ List.replicate (n - 0) 0 := by
    unfold cpL
    simp only [Cut.app, List.length_replicate, List.take_zero, List.nil_append, List.append_nil, Nat.zero_add, Nat.sub_zero]
    rw [show min a.length (a.length + n) = a.length by omega, List.take_length, List.drop_replicate, show a.length + n - a.length = n by omega]
  rw [e3]
  have hl := loop_run (step := F_octets_Append_l2 n a v) (S := fun k => ((k : Int), a ++ (beB v n).take k ++ List.replicate (n - k) 0)) n (r := a ++ beB v n) (fun k hk => by
    unfold F_octets_Append_l2
    dsimp only
    have w1 : IntKind.wrap .i64 ((n : Int) - 1) = (n : Int) - 1 := wi (by omega) (by omega)
    have w2 : IntKind.wrap .i64 ((n : Int) - 1 - (k : Int)) = ((n - 1 - k : Nat) : Int) := by rw [wi (by omega) (by omega)]; omega
    have w3 : IntKind.wrap .i64 (8 * ((n - 1 - k : Nat) : Int)) = ((8 * (n - 1 - k) : Nat) : Int) := by rw [wi (by omega) (by omega)]; omega
    have w4 : IntKind.wrap .i64 ((a.length : Int) + (k : Int)) = ((a.length + k : Nat) : Int) := by rw [wi (by omega) (by omega)]; rfl
    have hlen : (a ++ (beB v n).take k ++ List.replicate (n - k) (0 : Int)).length = a.length + n := by
      simp only [List.length_append, List.length_take, beB_len, List.length_replicate]; omega
    rw [decT (show (k : Int) < (n : Int) by omega), w1, w2, w3, w4, decT (show (0 : Int) ≤ ((8 * (n - 1 - k) : Nat) : Int) by omega)]
    simp only [cond_true, Cut.app, Nat.zero_add, Int.toNat_natCast]
    rw [idx_lt (by omega), Option.bind_some, List.getElem?_eq_getElem (by omega), Option.bind_some, wk k (by omega), byte_eq (by omega) (by omega), Int.toNat_natCast]
    congr 3
    obtain ⟨m, hm⟩ : ∃ m, n - k = m + 1 := ⟨n - k - 1, by omega⟩
    rw [hm, List.replicate_succ, set_mid _ _ _ _ (by simp only [List.length_append, List.length_take, beB_len]; omega), take_snoc (beB_get hk), show n - (k + 1) = m by omega]
    simp) (by
    unfold F_octets_Append_l2
    dsimp only
    rw [decF (show ¬ (n : Int) < (n : Int) by omega)]
    simp only [cond_false]
    rw [List.take_of_length_le (by rw [beB_len]; exact Nat.le_refl _), Nat.sub_self]
    simp)
  simp only [Int.natCast_zero] at hl
  rw [hl]
  rfl
/-- octets.Append -/
theorem octets_append (a : List Int) (v : Int) (n : Nat) (hn : n ≤ 8) (ha : a.length ≤ 140737488355320) : F_octets_Append a v n = some (a ++ beB v n) := by
  unfold F_octets_Append
  rw [decF (show ¬ (n : Int) < 0 by omega), decF (show ¬ (n : Int) > 8 by omega)]
  exact octets_append_n a v n hn ha
end
section
open Go.RowKit

def Bytes (l : List Int) : Prop := ∀ z ∈ l, 0 ≤ z ∧ z ≤ 255
def bit8 (b : Int) (j : Nat) : Int := iand .u8 (ishr .u8 b (7 - (j : Int))) 1
def maskB (b : Int) (c : Nat) : Int := iandNot .u8 b (ishr .u8 255 (c : Int))
theorem byte_fin {b : Int} (h : 0 ≤ b ∧ b ≤ 255) : ∃ x : Fin 256, b = ((x : Nat) : Int) := ⟨⟨b.toNat, by omega⟩, by simp; omega⟩
theorem bit8_sum0 : ∀ x : Fin 256, ((x : Nat) : Int) = 128 * bit8 x 0 + 64 * bit8 x 1 + 32 * bit8 x 2 + 16 * bit8 x 3 + 8 * bit8 x 4 + 4 * bit8 x 5 + 2 * bit8 x 6 + bit8 x 7 := by decide +kernel
theorem bit8_ext {x y : Int} (hx : 0 ≤ x ∧ x ≤ 255) (hy : 0 ≤ y ∧ y ≤ 255) (h : ∀ j, j < 8 → bit8 x j = bit8 y j) : x = y := by
  obtain ⟨a, rfl⟩ := byte_fin hx
  obtain ⟨b, rfl⟩ := byte_fin hy
  rw [bit8_sum0 a, bit8_sum0 b, h 0 (by omega), h 1 (by omega), h 2 (by omega), h 3 (by omega), h 4 (by omega), h 5 (by omega), h 6 (by omega), h 7 (by omega)]
theorem maskB_bit0 : ∀ x : Fin 256, ∀ c : Fin 9, ∀ j : Fin 8, bit8 (maskB x c) j = if (j : Nat) < c then bit8 x j else 0 := by decide +kernel
theorem maskB_bit {x : Int} (hx : 0 ≤ x ∧ x ≤ 255) {c j : Nat} (hc : c ≤ 8) (hj : j < 8) : bit8 (maskB x c) j = if j < c then bit8 x j else 0 := by
  obtain ⟨a, rfl⟩ := byte_fin hx
  exact maskB_bit0 a ⟨c, by omega⟩ ⟨j, hj⟩
theorem maskB_byte0 : ∀ x : Fin 256, ∀ c : Fin 9, 0 ≤ maskB x c ∧ maskB x c ≤ 255 := by decide +kernel
theorem maskB_byte {x : Int} (hx : 0 ≤ x ∧ x ≤ 255) {c : Nat} (hc : c ≤ 8) : 0 ≤ maskB x c ∧ maskB x c ≤ 255 := by
  obtain ⟨a, rfl⟩ := byte_fin hx
  exact maskB_byte0 a ⟨c, by omega⟩
theorem bit8_01_0 : ∀ x : Fin 256, ∀ j : Fin 8, bit8 x j = 0 ∨ bit8 x j = 1 := by decide +kernel
theorem bit8_01 {x : Int} (hx : 0 ≤ x ∧ x ≤ 255) {j : Nat} (hj : j < 8) : bit8 x j = 0 ∨ bit8 x j = 1 := by
  obtain ⟨a, rfl⟩ := byte_fin hx
  exact bit8_01_0 a ⟨j, hj⟩

theorem getD_byte {l : List Int} (h : Bytes l) (i : Nat) : 0 ≤ l.getD i 0 ∧ l.getD i 0 ≤ 255 := getD_mem (p := fun z => 0 ≤ z ∧ z ≤ 255) h ⟨by omega, by omega⟩ i
/-- bit k of a row of bytes -/
def bitA (l : List Int) (k : Nat) : Int := bit8 (l.getD (k / 8) 0) (k % 8)
theorem bitA_ext {a b : List Int} (ha : a.length = 16) (hb : b.length = 16) (Ba : Bytes a) (Bb : Bytes b) (h : ∀ k, k < 128 → bitA a k = bitA b k) : a = b := by
  apply List.ext_getElem (by omega)
  intro i h1 h2
  have e : a.getD i 0 = b.getD i 0 := by
    refine bit8_ext (getD_byte Ba i) (getD_byte Bb i) (fun j hj => ?_)
    have := h (8 * i + j) (by omega)
    unfold bitA at this
    rwa [show (8 * i + j) / 8 = i by omega, show (8 * i + j) % 8 = j by omega] at this
  rwa [getD_get h1, getD_get h2] at e
def clamp (bits i : Nat) : Nat := min 8 (bits - 8 * i)
def maskL (l : List Int) (bits : Nat) : List Int := (List.range 16).map fun i => maskB (l.getD i 0) (clamp bits i)
theorem maskL_len (l : List Int) (bits : Nat) : (maskL l bits).length = 16 := by simp [maskL]
theorem maskL_get (l : List Int) (bits : Nat) {i : Nat} (hi : i < 16) : (maskL l bits).getD i 0 = maskB (l.getD i 0) (clamp bits i) := by
  simp [maskL, List.getD_eq_getElem?_getD, List.getElem?_range hi]
theorem maskL_bytes {l : List Int} (h : Bytes l) (bits : Nat) : Bytes (maskL l bits) := by
  intro z hz
  obtain ⟨i, _, rfl⟩ := List.mem_map.1 hz
  exact maskB_byte (getD_byte h i) (by unfold clamp; omega)
theorem bitA_mask {l : List Int} (h : Bytes l) (bits : Nat) {k : Nat} (hk : k < 128) : bitA (maskL l bits) k = if k < bits then bitA l k else 0 := by
  unfold bitA
  rw [maskL_get l bits (show k / 8 < 16 by omega), maskB_bit (getD_byte h _) (by unfold clamp; omega) (by omega)]
  by_cases hb : k < bits
  · rw [if_pos hb, if_pos (by unfold clamp; omega)]
  · rw [if_neg hb, if_neg (by unfold clamp; omega)]
/-- the bits behind the first ones are zero -/
def zeroFrom (l : List Int) (bits : Nat) : Prop := ∀ k, k < 128 → bits ≤ k → bitA l k = 0
theorem mask_eq_self {l : List Int} (hl : l.length = 16) (h : Bytes l) (bits : Nat) : maskL l bits = l ↔ zeroFrom l bits := by
  constructor
  · intro e k hk hb
    have := bitA_mask h bits hk
    rw [e, if_neg (by omega)] at this
    exact this
  · intro hz
    refine bitA_ext (maskL_len _ _) hl (maskL_bytes h _) h (fun k hk => ?_)
    rw [bitA_mask h bits hk]
    split
    · rfl
    · exact (hz k hk (by omega)).symm
theorem zero_bytes (n : Nat) : Bytes (List.replicate n 0) := by
  intro z hz
  have := (List.mem_replicate.1 hz).2
  omega
theorem set_bytes {l : List Int} (h : Bytes l) (i : Nat) {v : Int} (hv : 0 ≤ v ∧ v ≤ 255) : Bytes (l.set i v) := by
  intro z hz
  rcases List.mem_or_eq_of_mem_set hz with h1 | rfl
  · exact h z h1
  · exact hv
end
section
open Go.RowKit

instance : DecidableEq S_Prefix := fun p q => decidable_of_iff (p.IP = q.IP ∧ p.Bits = q.Bits) (by obtain ⟨i, b⟩ := p; obtain ⟨j, c⟩ := q; simp)
def wfP (p : S_Prefix) : Prop := p.IP.length = 16 ∧ Bytes p.IP
instance (l : List Int) (b : Nat) : Decidable (zeroFrom l b) := by unfold zeroFrom; infer_instance
def vpB (p : S_Prefix) : Bool := decide (0 ≤ p.Bits ∧ p.Bits ≤ 128 ∧ zeroFrom p.IP p.Bits.toNat)
theorem vpB_iff {p : S_Prefix} : vpB p = true ↔ 0 ≤ p.Bits ∧ p.Bits ≤ 128 ∧ zeroFrom p.IP p.Bits.toNat := by simp [vpB]

theorem quo8 (k : Nat) (h : k < 128) : iquo .i64 (k : Int) 8 = ((k / 8 : Nat) : Int) := by
  unfold iquo
  rw [show (k : Int).tdiv 8 = ((k / 8 : Nat) : Int) from rfl, wi (by omega) (by omega)]
theorem sh7 (k : Nat) : IntKind.wrap .u64 (7 - IntKind.wrap .u64 (Int.tmod (k : Int) 8)) = 7 - ((k % 8 : Nat) : Int) := by
  rw [show Int.tmod (k : Int) 8 = ((k % 8 : Nat) : Int) from rfl, wu (x := ((k % 8 : Nat) : Int)) (by omega) (by omega), wu (by omega) (by omega)]
theorem bit_eq (l : List Int) {k : Nat} (h : k < 128) : F_ref04_bit l (k : Int) = some (bitA l k) := by
  unfold F_ref04_bit
  rw [quo8 k h, sh7 k, decT (by omega), decT (by omega)]
  rfl
theorem ref_vp {p : S_Prefix} : F_ref04_ValidPrefix p = some (vpB p) := by
  unfold F_ref04_ValidPrefix
  by_cases h1 : p.Bits < 0
  · rw [decT h1]
    simp [vpB]
    omega
  · rw [decF h1]
    by_cases h2 : p.Bits > 128
    · rw [decT h2]
      simp [vpB]
      omega
    · rw [decF h2]
      simp only [cond_false]
      obtain ⟨b, hb⟩ : ∃ b : Nat, p.Bits = (b : Int) := ⟨p.Bits.toNat, by omega⟩
      have hb128 : b ≤ 128 := by omega
      have e := loop_all (step := F_ref04_ValidPrefix_l1 p) (S := fun k => ((b + k : Nat) : Int)) (128 - b) (fun k => decide (bitA p.IP (b + k) = 0)) (rt := Sum.inl ()) (rf := Sum.inr false) (by
          intro k hk hp
          unfold F_ref04_ValidPrefix_l1
          rw [decT (by omega), bit_eq _ (by omega)]
          simp only [cond_true, Option.bind_some]
          have hp' := of_decide_eq_true hp
          rw [hp', wk _ (by omega)]
          rfl) (by
          intro k hk hp
          unfold F_ref04_ValidPrefix_l1
          rw [decT (by omega), bit_eq _ (by omega)]
          simp only [cond_true, Option.bind_some]
          have hp' := of_decide_eq_false hp
          rw [show (bitA p.IP (b + k) != 0) = true by simpa using hp']
          rfl) (by
          unfold F_ref04_ValidPrefix_l1
          rw [decF (by omega)]
          rfl)
      rw [Nat.add_zero] at e
      rw [hb, e]
      simp only [Option.bind_some]
      unfold vpB
      by_cases hz : zeroFrom p.IP b
      · rw [if_pos (by
          intro k hk
          exact decide_eq_true (hz (b + k) (by omega) (by omega)))]
        simp only [Sum.elim_inl]
        congr 1
        symm
        rw [decide_eq_true_iff, hb]
        exact ⟨by omega, by omega, by simpa using hz⟩
      · rw [if_neg (by
          intro hk
          apply hz
          intro k hk2 hbk
          have := hk (k - b) (by omega)
          rw [show b + (k - b) = k by omega] at this
          exact of_decide_eq_true this)]
        simp only [Sum.elim_inr]
        congr 1
        symm
        rw [decide_eq_false_iff_not, hb]
        rintro ⟨_, _, h3⟩
        exact hz (by simpa using h3)
theorem addr_mask (l : List Int) {b : Int} (h0 : 0 ≤ b) (h1 : b ≤ 128) : F_address_Mask l b = some ⟨maskL l b.toNat, b⟩ := by
  unfold F_address_Mask
  obtain ⟨n, rfl⟩ : ∃ n : Nat, b = (n : Int) := ⟨b.toNat, by omega⟩
  rw [if_neg (show ¬ ((n : Int) < 0) by omega), if_neg (show ¬ ((128 : Int) < (n : Int)) by omega)]
  have e := loop_run (step := F_address_Mask_l1 l) (S := fun k => ((k : Int), S_Prefix.mk ((List.range 16).map fun i => if i < k then maskB (l.getD i 0) (clamp n i) else 0) (n : Int))) 16 (r := ⟨maskL l n, n⟩) (by
    intro k hk
    unfold F_address_Mask_l1
    dsimp only
    have hcl : (if (8 : Int) < if IntKind.wrap .i64 ((n : Int) - IntKind.wrap .i64 (8 * (k : Int))) < 0 then 0 else IntKind.wrap .i64 ((n : Int) - IntKind.wrap .i64 (8 * (k : Int))) then 8 else if IntKind.wrap .i64 ((n : Int) - IntKind.wrap .i64 (8 * (k : Int))) < 0 then 0 else IntKind.wrap .i64 ((n : Int) - IntKind.wrap .i64 (8 * (k : Int)))) = ((clamp n k : Nat) : Int) := by
      rw [wi (x := 8 * (k : Int)) (by omega) (by omega), wi (x := (n : Int) - 8 * (k : Int)) (by omega) (by omega)]
      unfold clamp
      split <;> split at * <;> omega
    rw [hcl, decT (show (k : Int) < 16 by omega), decT (show (0 : Int) ≤ (k : Int) ∧ (k : Int) < 16 by omega), decT (show (0 : Int) ≤ ((clamp n k : Nat) : Int) by omega), wk k (by omega)]
    simp only [cond_true, Int.toNat_natCast]
    congr 3
    congr 1
    apply List.ext_getElem?
    intro i
    unfold setA
    rw [List.getElem?_map, List.getElem?_map]
    rcases Nat.lt_or_ge i 16 with hi | hi
    · rw [List.getElem?_range hi]
      simp only [Option.map_some]
      congr 1
      by_cases hik : i = k
      · subst hik
        rw [if_pos rfl, if_pos (by omega)]
        rfl
      · rw [if_neg hik]
        simp only [List.getD_eq_getElem?_getD, List.getElem?_map, List.getElem?_range hi, Option.map_some, Option.getD_some]
        by_cases h2 : i < k
        · rw [if_pos h2, if_pos (by omega)]
        · rw [if_neg h2, if_neg (by omega)]
    · rw [List.getElem?_eq_none (by simpa using hi)]
      rfl) (by
    unfold F_address_Mask_l1
    rw [decF (by dsimp only; omega)]
    simp only [cond_false]
    congr 3)
  have e0 : ((List.range 16).map fun i => if i < 0 then maskB (l.getD i 0) (clamp n i) else 0) = [0, 0, 0, 0, 0, 0, 0, 0, 0, 0, 0, 0, 0, 0, 0, 0] := by simp [List.range, List.range.loop]
  rw [e0] at e
  rw [show ((0 : Nat) : Int) = 0 from rfl] at e
  rw [e]
  rfl
theorem addr_vp {p : S_Prefix} (h : wfP p) : F_address_ValidPrefix p = some (vpB p) := by
  unfold F_address_ValidPrefix
  by_cases h0 : p.Bits ≥ 0
  · rw [decT h0]
    by_cases h1 : p.Bits ≤ 128
    · rw [decT h1, addr_mask p.IP h0 h1]
      simp only [cond_true, Option.bind_some]
      congr 1
      unfold vpB S_Prefix.eqb
      dsimp only
      rw [arrEq_eq (maskL_len _ _) h.1]
      rw [Bool.eq_iff_iff]
      simp only [Bool.and_eq_true, decide_eq_true_eq, beq_iff_eq, and_true, mask_eq_self h.1 h.2]
      constructor
      · rintro hz; exact ⟨h0, h1, hz⟩
      · rintro ⟨_, _, hz⟩; exact hz
    · rw [decF h1]
      simp [vpB]
      omega
  · rw [decF h0]
    simp [vpB]
    omega
/-- a prefix covers an address -/
def agree (l a : List Int) (b : Nat) : Prop := ∀ k, k < 128 → (k < b → bitA l k = bitA a k)
instance (l a : List Int) (b : Nat) : Decidable (agree l a b) := by unfold agree; infer_instance
theorem eqb_P {p q : S_Prefix} (hp : wfP p) (hq : wfP q) : S_Prefix.eqb p q = decide (p = q) := by
  unfold S_Prefix.eqb
  rw [arrEq_eq hp.1 hq.1, Bool.eq_iff_iff]
  obtain ⟨i, b⟩ := p
  obtain ⟨j, c⟩ := q
  simp
end
section
open Go.RowKit

def ad0 : List Int := [0, 0, 0, 0, 0, 0, 0, 0, 0, 0, 0, 0, 0, 0, 0, 0]
def p0 : S_Prefix := S_Prefix.mk ad0 0
def t0 : S_Destination := S_Destination.mk p0 p0 0
structure WfN (n : S_Notice) : Prop where
  seq : 0 ≤ n.Seq ∧ n.Seq ≤ 65535
  nb : 0 ≤ n.Neighbour ∧ n.Neighbour ≤ 18446744073709551615
  ro : 0 ≤ n.To.Router ∧ n.To.Router ≤ 18446744073709551615
  dst : wfP n.To.Dst
  src : wfP n.To.Src
theorem wfP0 : wfP p0 := ⟨rfl, by intro z hz; simp [p0, ad0] at hz; omega⟩
def toB (t : S_Destination) : Bool := vpB t.Dst && vpB t.Src && (t.Router != 0)
noncomputable def validN (n : S_Notice) : Bool :=
  bif n.Kind == 1 then S_Notice.eqb n (S_Notice.mk n.Kind n.Seq 0 0 t0 0)
  else bif n.Kind == 2 then S_Notice.eqb n (S_Notice.mk n.Kind 0 n.Metric n.Neighbour t0 0) && (n.Neighbour != 0) && decide (0 ≤ n.Metric ∧ n.Metric ≤ 65535)
  else bif n.Kind == 3 then S_Notice.eqb n (S_Notice.mk n.Kind n.Seq n.Metric 0 n.To 0) && toB n.To && decide (0 ≤ n.Metric ∧ n.Metric ≤ 65535)
  else bif n.Kind == 4 then S_Notice.eqb n (S_Notice.mk n.Kind 0 0 0 n.To 0) && (n.To.Router == 0) && vpB n.To.Dst && vpB n.To.Src
  else bif n.Kind == 5 then S_Notice.eqb n (S_Notice.mk n.Kind n.Seq 0 0 n.To n.Hops) && toB n.To && decide (1 ≤ n.Hops ∧ n.Hops ≤ 32)
  else false
theorem metric_p (x : Int) : F_metric_Valid x = some (decide (0 ≤ x ∧ x ≤ 65535)) := by
  unfold F_metric_Valid
  by_cases h : x ≥ 0 <;> by_cases h2 : x ≤ 65535 <;> simp [h, h2] <;> omega
theorem metric_r (x : Int) : F_ref24_Valid x = some (decide (0 ≤ x ∧ x ≤ 65535)) := metric_p x
theorem to_p {t : S_Destination} (h1 : wfP t.Dst) (h2 : wfP t.Src) : F_sources_ValidTo t = some (toB t) := by
  unfold F_sources_ValidTo toB
  rw [addr_vp h1, Option.bind_some, addr_vp h2]
  cases vpB t.Dst <;> cases vpB t.Src <;> rfl
theorem to_r {t : S_Destination} : F_ref26_ValidTo t = some (toB t) := by
  unfold F_ref26_ValidTo toB
  rw [ref_vp, Option.bind_some, ref_vp]
  cases vpB t.Dst <;> cases vpB t.Src <;> rfl
theorem hops_b (h : Int) : (bif decide (h ≥ 1) then some (decide (h ≤ 32)) else some false) = some (decide (1 ≤ h ∧ h ≤ 32)) := by
  by_cases h1 : h ≥ 1 <;> by_cases h2 : h ≤ 32 <;> simp [h1, h2] <;> omega
theorem valid_p {n : S_Notice} (w : WfN n) : F_messages_Valid n = some (validN n) := by
  unfold F_messages_Valid validN
  simp only [metric_p, to_p w.dst w.src, addr_vp w.dst, addr_vp w.src, Option.bind_some, hops_b]
  change (bif n.Kind == 1 then some (S_Notice.eqb n (S_Notice.mk n.Kind n.Seq 0 0 t0 0)) else bif n.Kind == 2 then bif S_Notice.eqb n (S_Notice.mk n.Kind 0 n.Metric n.Neighbour t0 0) then _ else _ else _) = _
  generalize S_Notice.eqb n (S_Notice.mk n.Kind n.Seq 0 0 t0 0) = b1
  generalize S_Notice.eqb n (S_Notice.mk n.Kind 0 n.Metric n.Neighbour t0 0) = b2
  generalize S_Notice.eqb n (S_Notice.mk n.Kind n.Seq n.Metric 0 n.To 0) = b3
  generalize S_Notice.eqb n (S_Notice.mk n.Kind 0 0 0 n.To 0) = b4
  generalize S_Notice.eqb n (S_Notice.mk n.Kind n.Seq 0 0 n.To n.Hops) = b5
  cases n.Kind == 1
  · cases n.Kind == 2
    · cases n.Kind == 3
      · cases n.Kind == 4
        · cases n.Kind == 5
          · rfl
          · cases b5 <;> cases toB n.To <;> simp
        · cases b4 <;> cases n.To.Router == 0 <;> cases vpB n.To.Dst <;> simp
      · cases b3 <;> cases toB n.To <;> simp
    · cases b2 <;> cases n.Neighbour != 0 <;> simp
  · rfl
theorem valid_r {n : S_Notice} : F_ref29_Valid n = some (validN n) := by
  unfold F_ref29_Valid validN
  simp only [metric_r, to_r, ref_vp, Option.bind_some, hops_b]
  change (bif n.Kind == 1 then some (S_Notice.eqb n (S_Notice.mk n.Kind n.Seq 0 0 t0 0)) else bif n.Kind == 2 then bif S_Notice.eqb n (S_Notice.mk n.Kind 0 n.Metric n.Neighbour t0 0) then _ else _ else _) = _
  generalize S_Notice.eqb n (S_Notice.mk n.Kind n.Seq 0 0 t0 0) = b1
  generalize S_Notice.eqb n (S_Notice.mk n.Kind 0 n.Metric n.Neighbour t0 0) = b2
  generalize S_Notice.eqb n (S_Notice.mk n.Kind n.Seq n.Metric 0 n.To 0) = b3
  generalize S_Notice.eqb n (S_Notice.mk n.Kind 0 0 0 n.To 0) = b4
  generalize S_Notice.eqb n (S_Notice.mk n.Kind n.Seq 0 0 n.To n.Hops) = b5
  cases n.Kind == 1
  · cases n.Kind == 2
    · cases n.Kind == 3
      · cases n.Kind == 4
        · cases n.Kind == 5
          · rfl
          · cases b5 <;> cases toB n.To <;> simp
        · cases b4 <;> cases n.To.Router == 0 <;> cases vpB n.To.Dst <;> simp
      · cases b3 <;> cases toB n.To <;> simp
    · cases b2 <;> cases n.Neighbour != 0 <;> simp
  · rfl
theorem eqb_T {a b : S_Destination} (h1 : wfP a.Dst) (h2 : wfP a.Src) (h3 : wfP b.Dst) (h4 : wfP b.Src) : S_Destination.eqb a b = true ↔ a = b := by
  unfold S_Destination.eqb
  rw [eqb_P h1 h3, eqb_P h2 h4]
  obtain ⟨d, s, r⟩ := a
  obtain ⟨d', s', r'⟩ := b
  simp
theorem eqb_N {a b : S_Notice} (ha : WfN a) (hb : WfN b) : S_Notice.eqb a b = true ↔ a = b := by
  unfold S_Notice.eqb
  have := eqb_T ha.dst ha.src hb.dst hb.src
  obtain ⟨k, s, m, n, t, h⟩ := a
  obtain ⟨k', s', m', n', t', h'⟩ := b
  simp only [Bool.and_true, Bool.and_eq_true, beq_iff_eq, this, S_Notice.mk.injEq]
/-- what a valid notice looks like -/
inductive GoodN : S_Notice → Prop where
  | hello (s : Int) (h : 0 ≤ s ∧ s ≤ 65535) : GoodN (S_Notice.mk 1 s 0 0 t0 0)
  | heard (m b : Int) (h : 0 ≤ m ∧ m ≤ 65535) (hb : 0 ≤ b ∧ b ≤ 18446744073709551615) (h0 : b ≠ 0) : GoodN (S_Notice.mk 2 0 m b t0 0)
  | update (s m : Int) (d c : S_Prefix) (r : Int) (hs : 0 ≤ s ∧ s ≤ 65535) (h : 0 ≤ m ∧ m ≤ 65535) (wd : wfP d) (wc : wfP c) (vd : vpB d = true) (vc : vpB c = true) (hr : 0 ≤ r ∧ r ≤ 18446744073709551615) (h0 : r ≠ 0) : GoodN (S_Notice.mk 3 s m 0 (S_Destination.mk d c r) 0)
  | route (d c : S_Prefix) (wd : wfP d) (wc : wfP c) (vd : vpB d = true) (vc : vpB c = true) : GoodN (S_Notice.mk 4 0 0 0 (S_Destination.mk d c 0) 0)
  | seqr (s h : Int) (d c : S_Prefix) (r : Int) (hs : 0 ≤ s ∧ s ≤ 65535) (hh : 1 ≤ h ∧ h ≤ 32) (wd : wfP d) (wc : wfP c) (vd : vpB d = true) (vc : vpB c = true) (hr : 0 ≤ r ∧ r ≤ 18446744073709551615) (h0 : r ≠ 0) : GoodN (S_Notice.mk 5 s 0 0 (S_Destination.mk d c r) h)
theorem eqb_rfl (n : S_Notice) (w : WfN n) : S_Notice.eqb n n = true := (eqb_N w w).2 rfl
theorem good_wf {n : S_Notice} (h : GoodN n) : WfN n := by
  cases h with
  | hello s h => exact ⟨h, ⟨by simp, by simp⟩, ⟨by simp [t0], by simp [t0]⟩, wfP0, wfP0⟩
  | heard m b h hb h0 => exact ⟨⟨by simp, by simp⟩, hb, ⟨by simp [t0], by simp [t0]⟩, wfP0, wfP0⟩
  | update s m d c r hs h wd wc vd vc hr h0 => exact ⟨hs, ⟨by simp, by simp⟩, hr, wd, wc⟩
  | route d c wd wc vd vc => exact ⟨⟨by simp, by simp⟩, ⟨by simp, by simp⟩, ⟨by simp, by simp⟩, wd, wc⟩
  | seqr s h d c r hs hh wd wc vd vc hr h0 => exact ⟨hs, ⟨by simp, by simp⟩, hr, wd, wc⟩
theorem good_valid {n : S_Notice} (h : GoodN n) : validN n = true := by
  have w := good_wf h
  unfold validN
  cases h with
  | hello s h => exact eqb_rfl _ w
  | heard m b h hb h0 =>
    have e := eqb_rfl _ w
    simp only [show ((2 : Int) == 1) = false from rfl, show ((2 : Int) == 2) = true from rfl, cond_false, cond_true, e, decT h, Bool.and_true]
    simp [h0]
  | update s m d c r hs h wd wc vd vc hr h0 =>
    have e := eqb_rfl _ w
    simp only [show ((3 : Int) == 1) = false from rfl, show ((3 : Int) == 2) = false from rfl, show ((3 : Int) == 3) = true from rfl, cond_false, cond_true, e, decT h, Bool.and_true, toB, vd, vc]
    simp [h0]
  | route d c wd wc vd vc =>
    have e := eqb_rfl _ w
    simp only [show ((4 : Int) == 1) = false from rfl, show ((4 : Int) == 2) = false from rfl, show ((4 : Int) == 3) = false from rfl, show ((4 : Int) == 4) = true from rfl, cond_false, cond_true, e, Bool.and_true, vd, vc]
    rfl
  | seqr s h d c r hs hh wd wc vd vc hr h0 =>
    have e := eqb_rfl _ w
    simp only [show ((5 : Int) == 1) = false from rfl, show ((5 : Int) == 2) = false from rfl, show ((5 : Int) == 3) = false from rfl, show ((5 : Int) == 4) = false from rfl, show ((5 : Int) == 5) = true from rfl, cond_false, cond_true, e, decT hh, Bool.and_true, toB, vd, vc]
    simp [h0]
theorem valid_good {n : S_Notice} (w : WfN n) (hv : validN n = true) : GoodN n := by
  unfold validN at hv
  have w0 : (0 : Int) ≤ 0 ∧ (0 : Int) ≤ 65535 := ⟨by decide, by decide⟩
  have w1 : (0 : Int) ≤ 0 ∧ (0 : Int) ≤ 18446744073709551615 := ⟨by decide, by decide⟩
  by_cases k1 : n.Kind = 1
  · rw [k1] at hv
    have e := (eqb_N w (b := S_Notice.mk 1 n.Seq 0 0 t0 0) ⟨w.seq, w1, w1, wfP0, wfP0⟩).1 hv
    rw [e]
    exact .hello _ w.seq
  by_cases k2 : n.Kind = 2
  · rw [k2] at hv
    simp only [show ((2 : Int) == 1) = false from rfl, show ((2 : Int) == 2) = true from rfl, cond_false, cond_true, Bool.and_eq_true, decide_eq_true_eq, bne_iff_ne, ne_eq] at hv
    have e := (eqb_N w (b := S_Notice.mk 2 0 n.Metric n.Neighbour t0 0) ⟨w0, w.nb, w1, wfP0, wfP0⟩).1 hv.1.1
    rw [e]
    exact .heard _ _ hv.2 w.nb hv.1.2
  by_cases k3 : n.Kind = 3
  · rw [k3] at hv
    simp only [show ((3 : Int) == 1) = false from rfl, show ((3 : Int) == 2) = false from rfl, show ((3 : Int) == 3) = true from rfl, cond_false, cond_true, Bool.and_eq_true, decide_eq_true_eq, toB, bne_iff_ne, ne_eq] at hv
    have e := (eqb_N w (b := S_Notice.mk 3 n.Seq n.Metric 0 n.To 0) ⟨w.seq, w1, w.ro, w.dst, w.src⟩).1 hv.1.1
    rw [e]
    exact .update _ _ _ _ _ w.seq hv.2 w.dst w.src hv.1.2.1.1 hv.1.2.1.2 w.ro hv.1.2.2
  by_cases k4 : n.Kind = 4
  · rw [k4] at hv
    simp only [show ((4 : Int) == 1) = false from rfl, show ((4 : Int) == 2) = false from rfl, show ((4 : Int) == 3) = false from rfl, show ((4 : Int) == 4) = true from rfl, cond_false, cond_true, Bool.and_eq_true, beq_iff_eq] at hv
    have e := (eqb_N w (b := S_Notice.mk 4 0 0 0 n.To 0) ⟨w0, w1, w.ro, w.dst, w.src⟩).1 hv.1.1.1
    have e2 : n.To = S_Destination.mk n.To.Dst n.To.Src 0 := by rw [← hv.1.1.2]
    rw [e, e2]
    exact .route _ _ w.dst w.src hv.1.2 hv.2
  by_cases k5 : n.Kind = 5
  · rw [k5] at hv
    simp only [show ((5 : Int) == 1) = false from rfl, show ((5 : Int) == 2) = false from rfl, show ((5 : Int) == 3) = false from rfl, show ((5 : Int) == 4) = false from rfl, show ((5 : Int) == 5) = true from rfl, cond_false, cond_true, Bool.and_eq_true, decide_eq_true_eq, toB, bne_iff_ne, ne_eq] at hv
    have e := (eqb_N w (b := S_Notice.mk 5 n.Seq 0 0 n.To n.Hops) ⟨w.seq, w1, w.ro, w.dst, w.src⟩).1 hv.1.1
    rw [e]
    exact .seqr _ _ _ _ _ w.seq hv.2 w.dst w.src hv.1.2.1.1 hv.1.2.1.2 w.ro hv.1.2.2
  · rw [beqF k1, beqF k2, beqF k3, beqF k4, beqF k5] at hv
    cases hv
def sz (b : Int) : Nat := ((b + 7) / 8).toNat
def pfx (p : S_Prefix) : List Int := p.IP.take (sz p.Bits)
def comm : List Int → List Int → Nat
  | x :: a, y :: b => if x = y then comm a b + 1 else 0
  | _, _ => 0
def el (k : Int) (b : List Int) : List Int := [k, (b.length : Int)] ++ b
def encN (r : Int) (d : List Int) (n : S_Notice) : List Int :=
  if n.Kind = 1 then el 1 (beB n.Seq 2)
  else if n.Kind = 2 then el 2 (beB n.Neighbour 8 ++ beB n.Metric 2)
  else if n.Kind = 3 then (if n.To.Router ≠ r then el 6 (beB n.To.Router 8) else []) ++ el 3 ([(comm (pfx n.To.Dst) d : Int), n.To.Dst.Bits, n.To.Src.Bits] ++ beB n.Seq 2 ++ beB n.Metric 2 ++ (pfx n.To.Dst).drop (comm (pfx n.To.Dst) d) ++ pfx n.To.Src)
  else if n.Kind = 5 then el 5 ([n.To.Dst.Bits, n.To.Src.Bits] ++ beB n.Seq 2 ++ [n.Hops] ++ beB n.To.Router 8 ++ pfx n.To.Dst ++ pfx n.To.Src)
  else el 4 ([n.To.Dst.Bits, n.To.Src.Bits] ++ pfx n.To.Dst ++ pfx n.To.Src)
def nxR (r : Int) (n : S_Notice) : Int := if n.Kind = 3 then n.To.Router else r
def nxD (d : List Int) (n : S_Notice) : List Int := if n.Kind = 3 then n.To.Dst.IP else d
def encL (r : Int) (d : List Int) : List S_Notice → List Int
  | [] => []
  | n :: l => encN r d n ++ encL (nxR r n) (nxD d n) l
theorem sz_le {b : Int} (h0 : 0 ≤ b) (h1 : b ≤ 128) : sz b ≤ 16 := by unfold sz; omega
theorem sz_eq {b : Int} (h0 : 0 ≤ b) (h1 : b ≤ 255) : iquo .i64 (IntKind.wrap .i64 (b + 7)) 8 = (sz b : Int) := by
  rw [wi (by omega) (by omega)]
  unfold iquo sz
  rw [Int.tdiv_eq_ediv_of_nonneg (by omega), wi (by omega) (by omega)]
  omega
theorem size_p {b : Int} (h0 : 0 ≤ b) (h1 : b ≤ 255) : F_messages_size b = some (sz b : Int) := by unfold F_messages_size; rw [sz_eq h0 h1]
theorem size_r {b : Int} (h0 : 0 ≤ b) (h1 : b ≤ 255) : F_ref29_size b = some (sz b : Int) := by unfold F_ref29_size; rw [sz_eq h0 h1]
theorem pfx_len {p : S_Prefix} (w : wfP p) (v : vpB p = true) : (pfx p).length = sz p.Bits := by
  have := vpB_iff.1 v
  unfold pfx
  rw [List.length_take, w.1, Nat.min_eq_left (sz_le this.1 this.2.1)]
theorem pfx_le {p : S_Prefix} (w : wfP p) : (pfx p).length ≤ 16 := by
  unfold pfx
  rw [List.length_take, w.1]
  omega
theorem pfx_ok {p : S_Prefix} (w : wfP p) : okB (pfx p) := fun z hz => w.2 z (List.mem_of_mem_take hz)
theorem pb_p {p : S_Prefix} (w : wfP p) (v : vpB p = true) : F_messages_prefixBytes p = some (pfx p) := by
  have hv := vpB_iff.1 v
  have := sz_le hv.1 hv.2.1
  unfold F_messages_prefixBytes
  rw [size_p hv.1 (by omega), Option.bind_some, arrL_id w.1, subO_some (by omega) (by omega) (by rw [w.1]; omega)]
  simp [pfx]
theorem comm_le : ∀ (a d : List Int), comm a d ≤ a.length
  | [], _ => by simp [comm]
  | _ :: _, [] => by simp [comm]
  | x :: a, y :: d => by
    unfold comm
    have := comm_le a d
    split <;> simp <;> omega
theorem comm_take : ∀ (a d : List Int), a.take (comm a d) = d.take (comm a d)
  | [], _ => by simp [comm]
  | _ :: _, [] => by simp [comm]
  | x :: a, y :: d => by
    unfold comm
    have := comm_take a d
    split
    · rename_i h; subst h; simp [this]
    · simp
theorem comm_iff : ∀ (a d : List Int) (k : Nat), k ≤ a.length → a.length ≤ d.length → (∀ j, j < k → a.getD j 0 = d.getD j 0) → (k < a.length → a.getD k 0 ≠ d.getD k 0) → comm a d = k
  | [], _, k, h, _, _, _ => by simp [comm] at *; omega
  | x :: a, [], k, _, h, _, _ => by simp at h
  | x :: a, y :: d, k, hk, hl, h1, h2 => by
    unfold comm
    cases k with
    | zero =>
      have := h2 (by simp)
      simp at this
      rw [if_neg this]
    | succ k =>
      have := h1 0 (by omega)
      simp at this
      rw [if_pos this, comm_iff a d k (by simp at hk; omega) (by simpa using hl) (fun j hj => by simpa using h1 (j + 1) (by omega)) (fun h => by simpa using h2 (by simp; omega))]
end
section
open Go.RowKit

theorem el_len (k : Int) (b : List Int) : (el k b).length = b.length + 2 := by simp [el]
theorem encN_len (r : Int) (d : List Int) {n : S_Notice} (g : GoodN n) : (encN r d n).length ≤ 51 := by
  have w := good_wf g
  have h1 := pfx_le w.dst
  have h2 := pfx_le w.src
  have b2 := beB_len n.Seq 2
  have b8 := beB_len n.To.Router 8
  have n8 := beB_len n.Neighbour 8
  have m2 := beB_len n.Metric 2
  unfold encN
  split
  · simp only [el_len]; omega
  split
  · simp only [el_len, List.length_append]; omega
  split
  · split <;> simp only [el_len, List.length_append, List.length_cons, List.length_nil, List.length_drop] <;> omega
  split <;> simp only [el_len, List.length_append, List.length_cons, List.length_nil] <;> omega
theorem wlen {a : List Int} (h : a.length ≤ 255) : IntKind.wrap .u8 (a.length : Int) = (a.length : Int) := wu8 (by omega) (by omega)
theorem el_p {s : S_messages_state} (hs : s.elements.length ≤ 1000000) (k : Int) {b : List Int} (hb : b.length ≤ 255) : F_messages_state_element_H00 s k b = some (S_messages_state.mk (s.elements ++ el k b) s.router s.dst) := by
  unfold F_messages_state_element_H00
  simp only [Cut.app]
  rw [appO_some (by simp; omega) (by simp; omega), Option.bind_some, appO_some (by simp; omega) (by simp; omega), Option.bind_some, wlen hb]
  simp [el]
theorem el_r {a : List Int} (hs : a.length ≤ 1000000) (k : Int) {b : List Int} (hb : b.length ≤ 255) : F_ref29_element_G0 a k b = some (a ++ el k b) := by
  unfold F_ref29_element_G0
  simp only [Cut.app]
  rw [appO_some (by simp; omega) (by simp; omega), Option.bind_some, appO_some (by simp; omega) (by simp; omega), Option.bind_some, wlen hb]
  simp [el]
theorem vb {p : S_Prefix} (v : vpB p = true) : 0 ≤ p.Bits ∧ p.Bits ≤ 128 := ⟨(vpB_iff.1 v).1, (vpB_iff.1 v).2.1⟩
theorem part_r {p : S_Prefix} (w : wfP p) (v : vpB p = true) {k : Nat} (hk : k ≤ (pfx p).length) : F_ref29_part p k = some ((pfx p).drop k) := by
  have hv := vb v
  have hl := pfx_len w v
  have h16 := sz_le hv.1 hv.2
  unfold F_ref29_part
  have hl' := loop_run (step := F_ref29_part_l1 p) (S := fun i => (((pfx p).drop k).take i, ((k + i : Nat) : Int))) ((pfx p).length - k) (r := (pfx p).drop k) (fun i hi => by
    unfold F_ref29_part_l1
    rw [size_r hv.1 (by omega), Option.bind_some]
    dsimp only
    rw [decT (by omega), decT (by omega)]
    simp only [cond_true, Cut.app]
    have e : p.IP.getD (Int.toNat ((k + i : Nat) : Int)) 0 = ((pfx p).drop k)[i]'(by rw [List.length_drop]; exact hi) := by
      rw [Int.toNat_natCast, getD_get (by rw [w.1]; omega)]
      simp [pfx]
    rw [e, appO_some (by simp; omega) (by simp; omega), Option.bind_some, wk (k + i) (by omega), ← List.take_append_getElem (by rw [List.length_drop]; exact hi)]
    rfl) (by
    unfold F_ref29_part_l1
    rw [size_r hv.1 (by omega), Option.bind_some]
    dsimp only
    rw [decF (by omega), List.take_of_length_le (by rw [List.length_drop]; omega)]
    rfl)
  have hl2 : loopO (F_ref29_part_l1 p) (([] : List Int), (k : Int)) = some ((pfx p).drop k) := hl'
  rw [hl2]
  rfl
theorem comm_p {a d : List Int} (h : a.length ≤ 16) (hd : d.length = 16) (s : S_messages_state) (hs : s.dst = d) : loopO (F_messages_state_update_H00_l2 a s) 0 = some (comm a d : Int) := by
  have hl := loop_first (step := F_messages_state_update_H00_l2 a s) (S := fun k => (k : Int)) a.length (fun k => a.getD k 0 == d.getD k 0) (fun k => (k : Int)) (re := (a.length : Int)) (fun k hk hp => by
    unfold F_messages_state_update_H00_l2
    rw [decT (by omega), idx_lt hk, decT (by omega), hs, Int.toNat_natCast]
    rw [getD_get hk] at hp
    simp only [cond_true, Option.bind_some, hp, wk k (by omega)]) (fun k hk hp => by
    unfold F_messages_state_update_H00_l2
    rw [decT (by omega), idx_lt hk, decT (by omega), hs, Int.toNat_natCast]
    rw [getD_get hk] at hp
    simp only [cond_true, Option.bind_some, hp, cond_false]) (by
    unfold F_messages_state_update_H00_l2
    rw [decF (by omega)]
    rfl)
  simp only [Int.natCast_zero] at hl
  rcases hl with ⟨k, hk, hp, hj, e⟩ | ⟨hj, e⟩
  · rw [e, comm_iff a d k (by omega) (by omega) (fun j hjk => by simpa using hj j hjk) (fun _ => by simpa using hp)]
  · rw [e, comm_iff a d a.length (by omega) (by omega) (fun j hjk => by simpa using hj j hjk) (fun h => absurd h (by omega))]
theorem comm_r {n : S_Notice} (w : wfP n.To.Dst) (v : vpB n.To.Dst = true) (s : (List Int) × Int × Int × (List Int)) (hd : s.2.2.2.length = 16) : loopO (F_ref29_Body_l4 n s) 0 = some (comm (pfx n.To.Dst) s.2.2.2 : Int) := by
  have hv := vb v
  have hl := pfx_len w v
  have h16 := sz_le hv.1 hv.2
  have key : ∀ k, k < (pfx n.To.Dst).length → n.To.Dst.IP.getD k 0 = (pfx n.To.Dst).getD k 0 := fun k hk => by
    rw [getD_get hk, getD_get (by rw [w.1]; omega)]
    simp [pfx]
  have hl := loop_first (step := F_ref29_Body_l4 n s) (S := fun k => (k : Int)) (pfx n.To.Dst).length (fun k => (pfx n.To.Dst).getD k 0 == s.2.2.2.getD k 0) (fun k => (k : Int)) (re := ((pfx n.To.Dst).length : Int)) (fun k hk hp => by
    unfold F_ref29_Body_l4
    rw [size_r hv.1 (by omega), Option.bind_some, decT (by omega), decT (by omega), Int.toNat_natCast, key k hk]
    simp only [cond_true, hp, wk k (by omega)]) (fun k hk hp => by
    unfold F_ref29_Body_l4
    rw [size_r hv.1 (by omega), Option.bind_some, decT (by omega), decT (by omega), Int.toNat_natCast, key k hk]
    simp only [cond_true, hp, cond_false]) (by
    unfold F_ref29_Body_l4
    rw [size_r hv.1 (by omega), Option.bind_some, decF (by omega)]
    rfl)
  simp only [Int.natCast_zero] at hl
  have c := pfx_le w
  rcases hl with ⟨k, hk, hp, hj, e⟩ | ⟨hj, e⟩
  · rw [e, comm_iff _ s.2.2.2 k (by omega) (by omega) (fun j hjk => by simpa using hj j hjk) (fun _ => by simpa using hp)]
  · rw [e, comm_iff _ s.2.2.2 (pfx n.To.Dst).length (by omega) (by omega) (fun j hjk => by simpa using hj j hjk) (fun h => absurd h (by omega))]
theorem appb {a b : List Int} (ha : a.length ≤ 1000000000) (hb : b.length ≤ 1000000000) : appO 1 a b = some (a ++ b) := appO_some (by omega) (by omega)
theorem not_p {n : S_Notice} (g : GoodN n) {s : S_messages_state} (hs : s.elements.length ≤ 900000) (hd : s.dst.length = 16) : F_messages_state_notice_H00 s n = some (S_messages_state.mk (s.elements ++ encN s.router s.dst n) (nxR s.router n) (nxD s.dst n)) := by
  have w := good_wf g
  unfold F_messages_state_notice_H00
  cases g with
  | hello q h =>
    simp only [show ((1 : Int) == 1) = true from rfl, cond_true]
    rw [show (2 : Int) = ((2 : Nat) : Int) from rfl, wu h.1 (by omega), octets_append _ _ _ (by omega) (by simp), Option.bind_some, List.nil_append, el_p (by omega) 1 (by rw [beB_len]; omega)]
    rfl
  | heard m b h hb h0 =>
    simp only [show ((2 : Int) == 1) = false from rfl, show ((2 : Int) == 2) = true from rfl, cond_false, cond_true]
    rw [show (8 : Int) = ((8 : Nat) : Int) from rfl, octets_append _ _ _ (by omega) (by simp), Option.bind_some, List.nil_append, wu h.1 (by omega), show (2 : Int) = ((2 : Nat) : Int) from rfl, octets_append _ _ _ (by omega) (by rw [beB_len]; omega), Option.bind_some, el_p (by omega) _ (by rw [List.length_append, beB_len, beB_len]; omega)]
    rfl
  | update q m d c r hq h wd wc vd vc hr h0 =>
    simp only [show ((3 : Int) == 1) = false from rfl, show ((3 : Int) == 2) = false from rfl, show ((3 : Int) == 3) = true from rfl, cond_false, cond_true]
    have c1 := comm_le (pfx d) s.dst
    have c2 := pfx_le wd
    have c3 := pfx_le wc
    have core : ∀ v1 : S_messages_state, v1.elements.length ≤ 950000 → v1.dst = s.dst → F_messages_state_update_H00_j1 (S_Notice.mk 3 q m 0 (S_Destination.mk d c r) 0) v1 = some (S_messages_state.mk (v1.elements ++ el 3 ([(comm (pfx d) s.dst : Int), d.Bits, c.Bits] ++ beB q 2 ++ beB m 2 ++ (pfx d).drop (comm (pfx d) s.dst) ++ pfx c)) v1.router d.IP) := by
      intro v1 he hdst
      unfold F_messages_state_update_H00_j1
      dsimp only
      simp only [pb_p wd vd, pb_p wc vc, Option.bind_some, comm_p c2 hd v1 hdst, Cut.app]
      rw [wu hq.1 (by omega), wu h.1 (by omega), wu8 (by omega) (by omega), wu8 (vb vd).1 (by have := (vb vd).2; omega), wu8 (vb vc).1 (by have := (vb vc).2; omega), show (2 : Int) = ((2 : Nat) : Int) from rfl, octets_append _ _ _ (by omega) (by simp), Option.bind_some, octets_append _ _ _ (by omega) (by simp [beB_len]), Option.bind_some, subO_some (by omega) (by omega) (by omega), Option.bind_some]
      have e2 : ((pfx d).take (((pfx d).length : Nat) : Int).toNat).drop ((comm (pfx d) s.dst : Nat) : Int).toNat = (pfx d).drop (comm (pfx d) s.dst) := by simp
      rw [e2, appb (by simp [beB_len]) (by simp; omega), Option.bind_some, appb (by simp [beB_len]; omega) (by omega), Option.bind_some, el_p (by dsimp only; omega) 3 (by simp [beB_len]; omega)]
      rfl
    unfold F_messages_state_update_H00
    dsimp only
    by_cases hrr : r = s.router
    · rw [show (r != s.router) = false by simp [hrr], cond_false, core s (by omega) rfl]
      simp only [encN, nxR, nxD, show ¬ ((3 : Int) = 1) by omega, show ¬ ((3 : Int) = 2) by omega, if_true, if_false, hrr, ne_eq, not_true, List.nil_append, Option.bind_some]
    · rw [show (r != s.router) = true by simp [hrr], cond_true, show (8 : Int) = ((8 : Nat) : Int) from rfl, octets_append _ _ _ (by omega) (by simp), Option.bind_some, List.nil_append, el_p (by omega) 6 (by rw [beB_len]; omega), Option.bind_some]
      dsimp only
      rw [core (S_messages_state.mk (s.elements ++ el 6 (beB r 8)) r s.dst) (by dsimp only; rw [List.length_append, el_len, beB_len]; omega) rfl]
      simp only [encN, nxR, nxD, show ¬ ((3 : Int) = 1) by omega, show ¬ ((3 : Int) = 2) by omega, if_true, if_false, ne_eq, hrr, not_false_eq_true, List.append_assoc, Option.bind_some]
  | route d c wd wc vd vc =>
    simp only [show ((4 : Int) == 1) = false from rfl, show ((4 : Int) == 2) = false from rfl, show ((4 : Int) == 3) = false from rfl, show ((4 : Int) == 5) = false from rfl, cond_false]
    have c2 := pfx_le wd
    have c3 := pfx_le wc
    unfold F_messages_state_notice_H00_j1
    dsimp only
    simp only [pb_p wd vd, pb_p wc vc, Option.bind_some, Cut.app]
    rw [wu8 (vb vd).1 (by have := (vb vd).2; omega), wu8 (vb vc).1 (by have := (vb vc).2; omega), appb (by simp) (by omega), Option.bind_some, appb (by simp; omega) (by omega), Option.bind_some, el_p (by omega) 4 (by simp; omega)]
    rfl
  | seqr q h d c r hq hh wd wc vd vc hr h0 =>
    simp only [show ((5 : Int) == 1) = false from rfl, show ((5 : Int) == 2) = false from rfl, show ((5 : Int) == 3) = false from rfl, show ((5 : Int) == 5) = true from rfl, cond_false, cond_true]
    have c2 := pfx_le wd
    have c3 := pfx_le wc
    rw [wu hq.1 (by omega), wu8 (vb vd).1 (by have := (vb vd).2; omega), wu8 (vb vc).1 (by have := (vb vc).2; omega), wu8 (by omega) (by omega), show (2 : Int) = ((2 : Nat) : Int) from rfl, octets_append _ _ _ (by omega) (by simp), Option.bind_some]
    simp only [Cut.app]
    rw [appb (by simp [beB_len]) (by simp), Option.bind_some, show (8 : Int) = ((8 : Nat) : Int) from rfl, octets_append _ _ _ (by omega) (by simp [beB_len]), Option.bind_some]
    unfold F_messages_state_notice_H00_j1
    dsimp only
    simp only [pb_p wd vd, pb_p wc vc, Option.bind_some, Cut.app]
    rw [appb (by simp [beB_len]) (by omega), Option.bind_some, appb (by simp [beB_len]; omega) (by omega), Option.bind_some, el_p (by omega) 5 (by simp [beB_len]; omega)]
    rfl
theorem body_step {l : List S_Notice} {i : Nat} (hi : i < l.length) (g : GoodN l[i]) (hn : l.length ≤ 10000) {out : List Int} (ho : out.length ≤ 900000) (r : Int) {d : List Int} (hd : d.length = 16) :
    F_ref29_Body_l1 l (out, r, (i : Int), d) = some (.inl (out ++ encN r d l[i], nxR r l[i], ((i + 1 : Nat) : Int), nxD d l[i])) := by
  unfold F_ref29_Body_l1
  dsimp only
  rw [decT (by omega), idx_lt hi]
  simp only [cond_true, Option.bind_some]
  have wi1 := wk i (by omega)
  generalize l[i] = n at *
  have w := good_wf g
  cases g with
  | hello q h =>
    simp only [show ((1 : Int) == 1) = true from rfl, cond_true]
    rw [show (2 : Int) = ((2 : Nat) : Int) from rfl, wu h.1 (by omega), put_n _ _ (by omega), Option.bind_some, el_r (by omega) 1 (by rw [beB_len]; omega), Option.bind_some]
    unfold F_ref29_Body_j2
    dsimp only
    rw [wi1]
    rfl
  | heard m b h hb h0 =>
    simp only [show ((2 : Int) == 1) = false from rfl, show ((2 : Int) == 2) = true from rfl, cond_false, cond_true]
    rw [show (8 : Int) = ((8 : Nat) : Int) from rfl, put_n _ _ (by omega), Option.bind_some, wu h.1 (by omega), show (2 : Int) = ((2 : Nat) : Int) from rfl, put_g _ _ _ (by omega) (by rw [beB_len]; omega), Option.bind_some, el_r (by omega) _ (by rw [List.length_append, beB_len, beB_len]; omega), Option.bind_some]
    unfold F_ref29_Body_j2
    dsimp only
    rw [wi1]
    rfl
  | update q m p c r' hq h wd wc vd vc hr h0 =>
    simp only [show ((3 : Int) == 1) = false from rfl, show ((3 : Int) == 2) = false from rfl, show ((3 : Int) == 3) = true from rfl, cond_false, cond_true]
    have c1 := comm_le (pfx p) d
    have c2 := pfx_le wd
    have c3 := pfx_le wc
    have core : ∀ v15 : (List Int) × Int, v15.1.length ≤ 950000 → F_ref29_Body_j3 (S_Notice.mk 3 q m 0 (S_Destination.mk p c r') 0) (out, r, (i : Int), d) v15 = some (.inl (v15.1 ++ el 3 ([(comm (pfx p) d : Int), p.Bits, c.Bits] ++ beB q 2 ++ beB m 2 ++ (pfx p).drop (comm (pfx p) d) ++ pfx c), v15.2, ((i + 1 : Nat) : Int), p.IP)) := by
      intro v15 he
      unfold F_ref29_Body_j3
      rw [comm_r (n := S_Notice.mk 3 q m 0 (S_Destination.mk p c r') 0) wd vd (out, r, (i : Int), d) hd]
      dsimp only
      simp only [Option.bind_some, Cut.app]
      rw [wu hq.1 (by omega), wu h.1 (by omega), wu8 (by omega) (by omega), wu8 (vb vd).1 (by have := (vb vd).2; omega), wu8 (vb vc).1 (by have := (vb vc).2; omega), appb (by simp) (by simp), Option.bind_some, show (2 : Int) = ((2 : Nat) : Int) from rfl, put_g _ _ _ (by omega) (by simp), Option.bind_some, put_g _ _ _ (by omega) (by simp [beB_len]), Option.bind_some, part_r wd vd c1, Option.bind_some, appb (by simp [beB_len]) (by simp; omega), Option.bind_some, show (0 : Int) = ((0 : Nat) : Int) from rfl, part_r wc vc (by omega), Option.bind_some, appb (by simp [beB_len]; omega) (by simp; omega), Option.bind_some, el_r (by omega) 3 (by simp [beB_len]; omega), Option.bind_some]
      unfold F_ref29_Body_j2
      dsimp only
      rw [wi1]
      rfl
    by_cases hrr : r' = r
    · rw [show (r' != r) = false by simp [hrr], cond_false, core (out, r) (by dsimp only; omega)]
      simp only [encN, nxR, nxD, show ¬ ((3 : Int) = 1) by omega, show ¬ ((3 : Int) = 2) by omega, if_true, if_false, hrr, ne_eq, not_true, List.nil_append]
    · rw [show (r' != r) = true by simp [hrr], cond_true, show (8 : Int) = ((8 : Nat) : Int) from rfl, put_n _ _ (by omega), Option.bind_some, el_r (by omega) 6 (by rw [beB_len]; omega), Option.bind_some]
      rw [core _ (by dsimp only; rw [List.length_append, el_len, beB_len]; omega)]
      simp only [encN, nxR, nxD, show ¬ ((3 : Int) = 1) by omega, show ¬ ((3 : Int) = 2) by omega, if_true, if_false, ne_eq, hrr, not_false_eq_true, List.append_assoc]
  | route p c wd wc vd vc =>
    simp only [show ((4 : Int) == 1) = false from rfl, show ((4 : Int) == 2) = false from rfl, show ((4 : Int) == 3) = false from rfl, show ((4 : Int) == 4) = true from rfl, cond_false, cond_true]
    have c2 := pfx_le wd
    have c3 := pfx_le wc
    simp only [Cut.app]
    rw [wu8 (vb vd).1 (by have := (vb vd).2; omega), wu8 (vb vc).1 (by have := (vb vc).2; omega), appb (by simp) (by simp), Option.bind_some, show (0 : Int) = ((0 : Nat) : Int) from rfl, part_r wd vd (by omega), Option.bind_some, appb (by simp) (by simp; omega), Option.bind_some, part_r wc vc (by omega), Option.bind_some, appb (by simp; omega) (by simp; omega), Option.bind_some, el_r (by omega) 4 (by simp; omega), Option.bind_some]
    unfold F_ref29_Body_j2
    dsimp only
    rw [wi1]
    rfl
  | seqr q h p c r' hq hh wd wc vd vc hr h0 =>
    simp only [show ((5 : Int) == 1) = false from rfl, show ((5 : Int) == 2) = false from rfl, show ((5 : Int) == 3) = false from rfl, show ((5 : Int) == 4) = false from rfl, show ((5 : Int) == 5) = true from rfl, cond_false, cond_true]
    have c2 := pfx_le wd
    have c3 := pfx_le wc
    simp only [Cut.app]
    rw [wu hq.1 (by omega), wu8 (vb vd).1 (by have := (vb vd).2; omega), wu8 (vb vc).1 (by have := (vb vc).2; omega), wu8 (by omega) (by omega), appb (by simp) (by simp), Option.bind_some, show (2 : Int) = ((2 : Nat) : Int) from rfl, put_g _ _ _ (by omega) (by simp), Option.bind_some, appb (by simp [beB_len]) (by simp), Option.bind_some, show (8 : Int) = ((8 : Nat) : Int) from rfl, put_g _ _ _ (by omega) (by simp [beB_len]), Option.bind_some, show (0 : Int) = ((0 : Nat) : Int) from rfl, part_r wd vd (by omega), Option.bind_some, appb (by simp [beB_len]) (by simp; omega), Option.bind_some, part_r wc vc (by omega), Option.bind_some, appb (by simp [beB_len]; omega) (by simp; omega), Option.bind_some, el_r (by omega) 5 (by simp [beB_len]; omega), Option.bind_some]
    unfold F_ref29_Body_j2
    dsimp only
    rw [wi1]
    rfl
end
section
open Go.RowKit

theorem encL_append (r : Int) (d : List Int) : ∀ a b : List S_Notice, encL r d (a ++ b) = encL r d a ++ encL (a.foldl nxR r) (a.foldl nxD d) b
  | [], b => rfl
  | n :: a, b => by simp only [List.cons_append, encL, List.foldl_cons, encL_append (nxR r n) (nxD d n) a b, List.append_assoc]
theorem encL_len (r : Int) (d : List Int) : ∀ l : List S_Notice, (∀ n ∈ l, GoodN n) → (encL r d l).length ≤ 51 * l.length
  | [], _ => by simp [encL]
  | n :: l, h => by
    have h1 := encN_len r d (h n (by simp))
    have h2 := encL_len (nxR r n) (nxD d n) l (fun m hm => h m (by simp [hm]))
    simp only [encL, List.length_append, List.length_cons]
    omega
theorem nxD_len {d : List Int} (hd : d.length = 16) {n : S_Notice} (w : WfN n) : (nxD d n).length = 16 := by
  unfold nxD
  split
  · exact w.dst.1
  · exact hd
theorem foldD_len : ∀ (l : List S_Notice) {d : List Int}, d.length = 16 → (∀ n ∈ l, WfN n) → (l.foldl nxD d).length = 16
  | [], _, h, _ => h
  | n :: l, _, h, w => foldD_len l (nxD_len h (w n (by simp))) (fun m hm => w m (by simp [hm]))
def stP (l : List S_Notice) (k : Nat) : S_messages_state := S_messages_state.mk (encL 0 ad0 (l.take k)) ((l.take k).foldl nxR 0) ((l.take k).foldl nxD ad0)
theorem take_good {l : List S_Notice} (g : ∀ n ∈ l, GoodN n) (k : Nat) : ∀ n ∈ l.take k, GoodN n := fun n hn => g n (List.mem_of_mem_take hn)
theorem stP_len {l : List S_Notice} (g : ∀ n ∈ l, GoodN n) (k : Nat) : (stP l k).elements.length ≤ 51 * k := by
  have := encL_len 0 ad0 (l.take k) (take_good g k)
  have h2 : (l.take k).length ≤ k := by rw [List.length_take]; omega
  unfold stP
  dsimp only
  omega
theorem stP_dst {l : List S_Notice} (g : ∀ n ∈ l, GoodN n) (k : Nat) : (stP l k).dst.length = 16 := foldD_len _ rfl fun n hn => good_wf (take_good g k n hn)
theorem take_succ' {α : Type} {l : List α} {k : Nat} (hk : k < l.length) : l.take (k + 1) = l.take k ++ [l[k]] := (List.take_append_getElem hk).symm
theorem stP_next {l : List S_Notice} {k : Nat} (hk : k < l.length) : stP l (k + 1) = S_messages_state.mk ((stP l k).elements ++ encN (stP l k).router (stP l k).dst l[k]) (nxR (stP l k).router l[k]) (nxD (stP l k).dst l[k]) := by
  unfold stP
  rw [take_succ' hk, encL_append, List.foldl_append, List.foldl_append]
  simp [encL]
theorem not_k {l : List S_Notice} (g : ∀ n ∈ l, GoodN n) {k : Nat} (hk : k < l.length) (hn : k ≤ 10000) : F_messages_state_notice_H00 (stP l k) l[k] = some (stP l (k + 1)) := by
  rw [not_p (g _ (List.getElem_mem hk)) (by have := stP_len g k; omega) (stP_dst g k), stP_next hk]
def pk (at_ : Int) (l : List S_Notice) : List Int := [42, 1] ++ beB at_ 5 ++ beB ((encL 0 ad0 l).length : Int) 2 ++ encL 0 ad0 l
theorem pk_len (at_ : Int) (l : List S_Notice) : (pk at_ l).length = (encL 0 ad0 l).length + 9 := by
  simp [pk, beB_len]
  omega
theorem packet_p {s : S_messages_state} (hs : s.elements.length ≤ 1000000) {at_ : Int} (h0 : 0 ≤ at_) (h1 : at_ < 1099511627776) : F_messages_state_packet s at_ = some ([42, 1] ++ beB at_ 5 ++ beB (s.elements.length : Int) 2 ++ s.elements) := by
  unfold F_messages_state_packet
  rw [wu h0 (by omega), show (5 : Int) = ((5 : Nat) : Int) from rfl, octets_append _ _ _ (by omega) (by simp), Option.bind_some, wu (by omega) (by omega), show (2 : Int) = ((2 : Nat) : Int) from rfl, octets_append _ _ _ (by omega) (by simp [beB_len]), Option.bind_some]
  simp only [Cut.app]
  rw [appb (by simp [beB_len]) (by omega)]
  rfl
noncomputable def encS (at_ : Int) (l : List S_Notice) : List Int × Int :=
  if l.length > 64 then ([], 3) else if l.all validN = false then ([], 1) else if at_ < 0 ∨ at_ ≥ 1099511627776 then ([], 2) else (pk at_ l, 0)
theorem all_p {l : List S_Notice} (w : ∀ n ∈ l, WfN n) (hl : l.length ≤ 4611686018427387904) : F_messages_allValid l = some (l.all validN) := by
  unfold F_messages_allValid
  have h := loop_all (step := F_messages_allValid_l1 l) (S := fun k => (k : Int)) l.length (fun k => (l[k]?.map validN).getD true) (rt := Sum.inl ()) (rf := Sum.inr false) (fun k hk hp => by
    unfold F_messages_allValid_l1
    rw [decT (by omega), idx_lt hk]
    rw [List.getElem?_eq_getElem hk] at hp
    simp only [Option.map_some, Option.getD_some] at hp
    simp only [cond_true, Option.bind_some, valid_p (w _ (List.getElem_mem hk)), hp, wk k (by omega)]) (fun k hk hp => by
    unfold F_messages_allValid_l1
    rw [decT (by omega), idx_lt hk]
    rw [List.getElem?_eq_getElem hk] at hp
    simp only [Option.map_some, Option.getD_some] at hp
    simp only [cond_true, Option.bind_some, valid_p (w _ (List.getElem_mem hk)), hp, cond_false]) (by
    unfold F_messages_allValid_l1
    rw [decF (by omega)]
    rfl)
  simp only [Int.natCast_zero] at h
  rw [h]
  have e : (∀ k, k < l.length → (l[k]?.map validN).getD true = true) ↔ l.all validN = true := by
    rw [List.all_eq_true]
    constructor
    · intro hk n hn
      obtain ⟨k, hk', rfl⟩ := List.getElem_of_mem hn
      have := hk k hk'
      rw [List.getElem?_eq_getElem hk'] at this
      simpa using this
    · intro hn k hk
      rw [List.getElem?_eq_getElem hk]
      simpa using hn _ (List.getElem_mem hk)
  by_cases ha : l.all validN = true
  · rw [if_pos (e.2 ha), ha]; rfl
  · rw [if_neg (fun h => ha (e.1 h))]
    rw [Bool.not_eq_true] at ha
    rw [ha]; rfl
theorem all_r {l : List S_Notice} (hl : l.length ≤ 4611686018427387904) : loopO (F_ref29_Encode_l1 l) 0 = some (if l.all validN = true then Sum.inl () else Sum.inr (([] : List Int), 1)) := by
  have h := loop_all (step := F_ref29_Encode_l1 l) (S := fun k => (k : Int)) l.length (fun k => (l[k]?.map validN).getD true) (rt := Sum.inl ()) (rf := Sum.inr (([] : List Int), 1)) (fun k hk hp => by
    unfold F_ref29_Encode_l1
    rw [decT (by omega), idx_lt hk]
    rw [List.getElem?_eq_getElem hk] at hp
    simp only [Option.map_some, Option.getD_some] at hp
    simp only [cond_true, Option.bind_some, valid_r, hp, wk k (by omega)]) (fun k hk hp => by
    unfold F_ref29_Encode_l1
    rw [decT (by omega), idx_lt hk]
    rw [List.getElem?_eq_getElem hk] at hp
    simp only [Option.map_some, Option.getD_some] at hp
    simp only [cond_true, Option.bind_some, valid_r, hp, cond_false]) (by
    unfold F_ref29_Encode_l1
    rw [decF (by omega)]
    rfl)
  simp only [Int.natCast_zero] at h
  rw [h]
  have e : (∀ k, k < l.length → (l[k]?.map validN).getD true = true) ↔ l.all validN = true := by
    rw [List.all_eq_true]
    constructor
    · intro hk n hn
      obtain ⟨k, hk', rfl⟩ := List.getElem_of_mem hn
      have := hk k hk'
      rw [List.getElem?_eq_getElem hk'] at this
      simpa using this
    · intro hn k hk
      rw [List.getElem?_eq_getElem hk]
      simpa using hn _ (List.getElem_mem hk)
  by_cases ha : l.all validN = true
  · rw [if_pos (e.2 ha), if_pos ha]
  · rw [if_neg (fun h => ha (e.1 h)), if_neg ha]
theorem all_good {l : List S_Notice} (w : ∀ n ∈ l, WfN n) (h : l.all validN = true) : ∀ n ∈ l, GoodN n := fun n hn => valid_good (w n hn) (List.all_eq_true.1 h n hn)
theorem good_all {l : List S_Notice} (g : ∀ n ∈ l, GoodN n) : l.all validN = true := List.all_eq_true.2 fun n hn => good_valid (g n hn)
theorem enc_p {l : List S_Notice} (w : ∀ n ∈ l, WfN n) (at_ : Int) : F_messages_Encode at_ l = some (encS at_ l) := by
  unfold F_messages_Encode encS
  by_cases h64 : l.length > 64
  · rw [decT (show (l.length : Int) > 64 by omega), if_pos h64]
    rfl
  rw [decF (show ¬ (l.length : Int) > 64 by omega), if_neg h64, cond_false, all_p w (by omega), Option.bind_some]
  by_cases ha : l.all validN = true
  rotate_left
  · rw [Bool.not_eq_true] at ha
    rw [ha, if_pos rfl]
    rfl
  have g := all_good w ha
  rw [ha, cond_true, if_neg (by simp)]
  unfold F_messages_isCreation
  by_cases h0 : at_ < 0
  · rw [decF (show ¬ at_ ≥ 0 by omega), if_pos (.inl h0)]
    rfl
  rw [decT (show at_ ≥ 0 by omega)]
  by_cases h1 : at_ ≥ 1099511627776
  · rw [decF (show ¬ at_ < 1099511627776 by omega), if_pos (.inr h1)]
    rfl
  rw [decT (show at_ < 1099511627776 by omega), if_neg (by omega)]
  simp only [cond_true, Option.bind_some]
  have hl := loop_run (step := F_messages_Encode_l1 l) (S := fun k => ((k : Int), stP l k)) l.length (r := stP l l.length) (fun k hk => by
    unfold F_messages_Encode_l1
    dsimp only
    rw [decT (by omega), idx_lt hk]
    simp only [cond_true, Option.bind_some, not_k g hk (by omega)]
    rw [wk k (by omega)]) (by
    unfold F_messages_Encode_l1
    dsimp only
    rw [decF (by omega)]
    rfl)
  have hl' : loopO (F_messages_Encode_l1 l) (0, S_messages_state.mk [] 0 [0, 0, 0, 0, 0, 0, 0, 0, 0, 0, 0, 0, 0, 0, 0, 0]) = some (stP l l.length) := hl
  rw [hl', Option.bind_some, packet_p (by have := stP_len g l.length; omega) (by omega) (by omega), Option.bind_some]
  unfold stP pk
  rw [List.take_length]
theorem body_r {l : List S_Notice} (g : ∀ n ∈ l, GoodN n) (hn : l.length ≤ 10000) : F_ref29_Body l = some (encL 0 ad0 l) := by
  unfold F_ref29_Body
  have hl := loop_run (step := F_ref29_Body_l1 l) (S := fun k => ((stP l k).elements, (stP l k).router, (k : Int), (stP l k).dst)) l.length (r := encL 0 ad0 l) (fun k hk => by
    rw [body_step hk (g _ (List.getElem_mem hk)) hn (by have := stP_len g k; omega) _ (stP_dst g k), stP_next hk]) (by
    unfold F_ref29_Body_l1
    dsimp only
    rw [decF (by omega)]
    unfold stP
    rw [List.take_length]
    rfl)
  have hl' : loopO (F_ref29_Body_l1 l) (([] : List Int), 0, 0, [0, 0, 0, 0, 0, 0, 0, 0, 0, 0, 0, 0, 0, 0, 0, 0]) = some (encL 0 ad0 l) := hl
  rw [hl']
  rfl
theorem enc_r {l : List S_Notice} (w : ∀ n ∈ l, WfN n) (at_ : Int) : F_ref29_Encode at_ l = some (encS at_ l) := by
  unfold F_ref29_Encode encS
  by_cases h64 : l.length > 64
  · rw [decT (show (l.length : Int) > 64 by omega), if_pos h64]
    rfl
  rw [decF (show ¬ (l.length : Int) > 64 by omega), if_neg h64, cond_false, all_r (by omega), Option.bind_some]
  by_cases ha : l.all validN = true
  rotate_left
  · rw [if_neg ha]
    rw [Bool.not_eq_true] at ha
    rw [ha, if_pos rfl]
    rfl
  have g := all_good w ha
  rw [if_pos ha, ha, if_neg (by simp), Sum.elim_inl]
  by_cases h0 : at_ < 0
  · rw [decT h0, if_pos (.inl h0)]
    rfl
  rw [decF h0]
  by_cases h1 : at_ ≥ 1099511627776
  · rw [decT h1, if_pos (.inr h1)]
    rfl
  have hlen := encL_len 0 ad0 l g
  rw [decF h1, if_neg (by omega), cond_false, cond_false, body_r g (by omega), Option.bind_some, wu (by omega) (by omega), show (5 : Int) = ((5 : Nat) : Int) from rfl, put_g _ _ _ (by omega) (by simp), Option.bind_some, wu (by omega) (by omega), show (2 : Int) = ((2 : Nat) : Int) from rfl, put_g _ _ _ (by omega) (by simp [beB_len]), Option.bind_some]
  simp only [Cut.app]
  rw [appb (by simp [beB_len]) (by omega)]
  rfl
end
section
open Go.RowKit

theorem ior_comm (x y : Int) : ior .u64 x y = ior .u64 y x := by unfold ior; rw [BitVec.or_comm]
theorem be_step {v c : Int} (h0 : 0 ≤ v) (h1 : v < 72057594037927936) (c0 : 0 ≤ c) (c1 : c ≤ 255) : ior .u64 (ishl .u64 v 8) (IntKind.wrap .u64 c) = v * 256 + c := by
  have e : (2 : Int) ^ (8 : Int).toNat = 2 ^ 8 := rfl
  have e2 : (256 : Int) = 2 ^ 8 := rfl
  rw [ishl_eq (by omega) (by omega), wu c0 (by omega), e, Int.emod_eq_of_lt (Int.mul_nonneg h0 (by decide)) (by rw [← e2]; omega), ior_comm, ior_add 8 c0 (by omega) h0 (by rw [← e2]; omega)]
  omega
theorem be_fold (l : List Int) (h : okB l) (h8 : l.length ≤ 8) (k : Nat) (hk : k < l.length) : ior .u64 (ishl .u64 (beN (l.take k)) 8) (IntKind.wrap .u64 l[k]) = beN (l.take (k + 1)) := by
  have hb := beN_bd (h.take k)
  have hl : (l.take k).length = k := by rw [List.length_take]; omega
  have hp : (256 : Int) ^ k ≤ 72057594037927936 := by
    have : k ≤ 7 := by omega
    rcases k with _ | _ | _ | _ | _ | _ | _ | _ | k
    all_goals first | decide | omega
  rw [hl] at hb
  have hx := h.get hk
  rw [be_step hb.1 (by omega) hx.1 hx.2, take_snoc (List.getElem?_eq_getElem hk), beN_snoc]
theorem beN_beB (v : Int) (n : Nat) : beN (beB v n) = v % 256 ^ n := by
  induction n generalizing v with
  | zero => simp [beB, beN, Int.emod_one]
  | succ n ih =>
    have e : beB v (n + 1) = beB (v / 256) n ++ [v % 256] := by
      apply List.ext_getElem?
      intro i
      rcases Nat.lt_trichotomy i n with hi | hi | hi
      · rw [beB_get (by omega), List.getElem?_append_left (by rw [beB_len]; exact hi), beB_get hi]
        congr 2
        rw [show n + 1 - 1 - i = (n - 1 - i) + 1 by omega, Nat.mul_add, Int.pow_add]
        rw [Int.mul_comm, ← Int.ediv_ediv_of_nonneg (by decide)]
        rfl
      · subst hi
        rw [beB_get (by omega), List.getElem?_append_right (by rw [beB_len]; exact Nat.le_refl _), beB_len]
        simp
      · rw [List.getElem?_eq_none (by rw [beB_len]; omega), List.getElem?_eq_none (by simp [beB_len]; omega)]
    rw [e, beN_snoc, ih, Int.pow_succ]
    have h1 := Int.emod_add_mul_ediv v 256
    have h2 := Int.emod_add_mul_ediv (v / 256) (256 ^ n)
    have hp : (0 : Int) < 256 ^ n := Int.pow_pos (by decide)
    have h3 := Int.emod_nonneg (v / 256) (Int.ne_of_gt hp)
    have h4 := Int.emod_lt_of_pos (v / 256) hp
    have h5 := Int.emod_nonneg v (show (256 : Int) ≠ 0 by decide)
    have h6 := Int.emod_lt_of_pos v (show (0 : Int) < 256 by decide)
    have h7 : v = (v / 256 % 256 ^ n * 256 + v % 256) + (256 ^ n * 256) * (v / 256 / 256 ^ n) := by
      have : 256 * (256 ^ n * (v / 256 / 256 ^ n)) = (256 ^ n * 256) * (v / 256 / 256 ^ n) := by
        rw [← Int.mul_assoc, Int.mul_comm (256 : Int) (256 ^ n)]
      omega
    have h8 : (0 : Int) ≤ v / 256 % 256 ^ n * 256 + v % 256 := by omega
    have h9 : v / 256 % 256 ^ n * 256 + v % 256 < 256 ^ n * 256 := by omega
    conv => rhs; rw [h7]
    rw [Int.add_mul_emod_self_left, Int.emod_eq_of_lt h8 h9]
theorem uint_loop {l : List Int} (h : okB l) (h8 : l.length ≤ 8) : loopO (F_octets_Uint_l1 l) (0, 0) = some (beN l) := by
  have hl := loop_run (step := F_octets_Uint_l1 l) (S := fun k => (beN (l.take k), (k : Int))) l.length (r := beN l) (fun k hk => by
    unfold F_octets_Uint_l1
    dsimp only
    rw [decT (show (k : Int) < (l.length : Int) by omega), idx_lt hk]
    simp only [cond_true, Option.bind_some]
    rw [be_fold l h h8 k hk, wk k (by omega)]) (by
    unfold F_octets_Uint_l1
    dsimp only
    rw [decF (show ¬ (l.length : Int) < (l.length : Int) by omega)]
    simp only [cond_false, List.take_length])
  exact hl
/-- octets.Uint within the list -/
theorem uint_some {b : List Int} (h : okB b) (hb : b.length ≤ 1000000000000) (i n : Nat) (h1 : 1 ≤ n) (h8 : n ≤ 8) (hi : i + n ≤ b.length) : F_octets_Uint b i n = some (beN ((b.drop i).take n), true) := by
  unfold F_octets_Uint
  rw [decF (show ¬ (n : Int) < 1 by omega), decF (show ¬ (n : Int) > 8 by omega), decF (show ¬ (i : Int) < 0 by omega), wi (by omega) (by omega), decF (show ¬ (i : Int) > (b.length : Int) - (n : Int) by omega), wi (by omega) (by omega), subO_some (by omega) (by omega) (by omega)]
  simp only [cond_false, Option.bind_some]
  rw [show (b.take ((i : Int) + (n : Int)).toNat).drop (i : Int).toNat = (b.drop i).take n by rw [show ((i : Int) + (n : Int)).toNat = i + n by omega, Int.toNat_natCast, List.drop_take, Nat.add_sub_cancel_left]]
  rw [uint_loop ((h.drop i).take n) (by rw [List.length_take]; omega)]
  rfl
/-- octets.Uint behind the end -/
theorem uint_none {b : List Int} (hb : b.length ≤ 1000000000000) (i n : Nat) (h1 : 1 ≤ n) (h8 : n ≤ 8) (hi : b.length < i + n) : F_octets_Uint b i n = some (0, false) := by
  unfold F_octets_Uint
  rw [decF (show ¬ (n : Int) < 1 by omega), decF (show ¬ (n : Int) > 8 by omega), decF (show ¬ (i : Int) < 0 by omega), wi (by omega) (by omega), decT (show (i : Int) > (b.length : Int) - (n : Int) by omega)]
  rfl
end
section
open Go.RowKit

theorem get_some {b : List Int} (h : okB b) (hb : b.length ≤ 1000000000000) (i n : Nat) (h8 : n ≤ 8) (hi : i + n ≤ b.length) : F_ref29_Get b i n = some (beN ((b.drop i).take n)) := by
  unfold F_ref29_Get
  have hlen : ((b.drop i).take n).length = n := by rw [List.length_take, List.length_drop]; omega
  have hl := loop_run (step := F_ref29_Get_l1 n b i) (S := fun k => (beN (((b.drop i).take n).take k), (k : Int))) n (r := beN ((b.drop i).take n)) (fun k hk => by
    unfold F_ref29_Get_l1
    dsimp only
    rw [decT (show (k : Int) < (n : Int) by omega), wi (by omega) (by omega), show (i : Int) + (k : Int) = ((i + k : Nat) : Int) by omega, idx_lt (by omega)]
    simp only [cond_true, Option.bind_some]
    have hg : b[i + k] = ((b.drop i).take n)[k]'(by omega) := by rw [List.getElem_take, List.getElem_drop]
    rw [hg, be_fold _ ((h.drop i).take n) (by omega) k (by omega), wk k (by omega)]) (by
    unfold F_ref29_Get_l1
    dsimp only
    rw [decF (show ¬ (n : Int) < (n : Int) by omega)]
    simp only [cond_false]
    rw [List.take_of_length_le (by omega)])
  have e0 : loopO (F_ref29_Get_l1 n b i) (0, 0) = some (beN ((b.drop i).take n)) := hl
  rw [e0]
  rfl
end
section
open Go.RowKit

/-- sixteen bytes that begin with these -/
def fillA (l : List Int) : List Int := l ++ List.replicate (16 - l.length) 0
theorem fillA_len {l : List Int} (h : l.length ≤ 16) : (fillA l).length = 16 := by
  unfold fillA
  rw [List.length_append, List.length_replicate]
  omega
theorem fillA_get (l : List Int) (j : Nat) : (fillA l).getD j 0 = l.getD j 0 := by
  unfold fillA
  simp only [List.getD_eq_getElem?_getD, List.getElem?_append]
  split
  · rfl
  · rename_i h
    rw [List.getElem?_eq_none (l := l) (by omega)]
    by_cases h2 : j - l.length < 16 - l.length
    · rw [List.getElem?_replicate_of_lt h2]; rfl
    · rw [List.getElem?_eq_none (by simp; omega)]
theorem fillA_ok {l : List Int} (h : okB l) : Bytes (fillA l) := fun z hz => by
  rcases List.mem_append.1 hz with h1 | h1
  · exact h z h1
  · rw [(List.mem_replicate.1 h1).2]; exact ⟨by omega, by omega⟩
theorem fillA_wf {l : List Int} (h : okB l) (hl : l.length ≤ 16) (b : Int) : wfP (S_Prefix.mk (fillA l) b) := ⟨fillA_len hl, fillA_ok h⟩
theorem arr_ext {a b : List Int} (ha : a.length = 16) (hb : b.length = 16) (h : ∀ j, j < 16 → a.getD j 0 = b.getD j 0) : a = b := by
  refine List.ext_getElem (by omega) fun i h1 h2 => ?_
  have := h i (by omega)
  rwa [getD_get h1, getD_get h2] at this
theorem ad0_get (j : Nat) : ad0.getD j 0 = 0 := by
  unfold ad0
  by_cases h : j < 16
  · have : j = 0 ∨ j = 1 ∨ j = 2 ∨ j = 3 ∨ j = 4 ∨ j = 5 ∨ j = 6 ∨ j = 7 ∨ j = 8 ∨ j = 9 ∨ j = 10 ∨ j = 11 ∨ j = 12 ∨ j = 13 ∨ j = 14 ∨ j = 15 := by omega
    rcases this with rfl | rfl | rfl | rfl | rfl | rfl | rfl | rfl | rfl | rfl | rfl | rfl | rfl | rfl | rfl | rfl <;> rfl
  · rw [List.getD_eq_getElem?_getD, List.getElem?_eq_none (by simp; omega)]
    rfl
theorem rg_get (f : Nat → Int) {j : Nat} (h : j < 16) : ((List.range 16).map f).getD j 0 = f j := by
  rw [getD_get (by simpa using h)]
  simp
theorem cpA_fill {l : List Int} (h : l.length ≤ 16) : cpA 16 ad0 l = fillA l := by
  refine arr_ext (by simp [cpA]) (fillA_len h) fun j hj => ?_
  rw [fillA_get]
  unfold cpA
  rw [rg_get _ hj, ad0_get]
  split
  · rfl
  · rename_i h
    rw [List.getD_eq_getElem?_getD, List.getElem?_eq_none (by omega)]
    rfl
theorem cpAt_fill {a m : List Int} (h : a.length + m.length ≤ 16) : cpAt 16 (fillA a) a.length (16 - a.length) m = fillA (a ++ m) := by
  refine arr_ext (by simp [cpAt]) (fillA_len (by rw [List.length_append]; exact h)) fun j hj => ?_
  rw [fillA_get]
  unfold cpAt
  rw [rg_get _ hj, fillA_get]
  simp only [List.getD_eq_getElem?_getD, List.getElem?_append]
  split
  · rw [if_neg (by omega)]
  · split
    · omega
    · rw [List.getElem?_eq_none (l := a) (by omega), List.getElem?_eq_none (l := m) (by omega)]
/-- a valid prefix is its own bytes and zeros -/
theorem pfx_fill {p : S_Prefix} (w : wfP p) (v : vpB p = true) : fillA (pfx p) = p.IP := by
  have hv := vpB_iff.1 v
  have hm := (mask_eq_self w.1 w.2 p.Bits.toNat).2 hv.2.2
  refine arr_ext (fillA_len (pfx_le w)) w.1 fun j hj => ?_
  rw [fillA_get]
  by_cases h : j < sz p.Bits
  · rw [getD_get (by rw [pfx_len w v]; exact h), getD_get (by rw [w.1]; exact hj)]
    simp [pfx]
  · rw [List.getD_eq_getElem?_getD, List.getElem?_eq_none (by rw [pfx_len w v]; omega)]
    rw [← hm, maskL_get _ _ hj]
    have hc : clamp p.Bits.toNat j = 0 := by unfold clamp; unfold sz at h; omega
    rw [hc]
    have key : ∀ x : Fin 256, maskB x 0 = 0 := by decide +kernel
    obtain ⟨x, hx⟩ := byte_fin (getD_byte w.2 j)
    rw [hx, key x]
    rfl
def numB (b : List Int) (i n : Nat) : Int := if i + n ≤ b.length then beN ((b.drop i).take n) else 0
theorem num_p {b : List Int} (h : okB b) (hb : b.length ≤ 1000000) (i n : Nat) (h1 : 1 ≤ n) (h8 : n ≤ 8) : F_messages_read_1_R472 i n b = some (numB b i n) := by
  unfold F_messages_read_1_R472 numB
  by_cases hi : i + n ≤ b.length
  · rw [uint_some h (by omega) i n h1 h8 hi, if_pos hi]
    rfl
  · rw [uint_none (by omega) i n h1 h8 (by omega), if_neg hi]
    rfl
theorem num_bd {b : List Int} (h : okB b) (i n : Nat) : 0 ≤ numB b i n ∧ numB b i n < 256 ^ n := by
  unfold numB
  have hp : (0 : Int) < 256 ^ n := Int.pow_pos (by omega)
  split
  · rename_i hi
    have := beN_bd (l := (b.drop i).take n) (fun z hz => h z (List.mem_of_mem_drop (List.mem_of_mem_take hz)))
    rwa [List.length_take, List.length_drop, Nat.min_eq_left (by omega)] at this
  · omega
theorem num_at {a b c : List Int} (n : Nat) (hb : b.length = n) : numB (a ++ b ++ c) a.length n = beN b := by
  unfold numB
  rw [if_pos (by simp; omega)]
  congr 1
  rw [List.append_assoc, List.drop_left, List.take_append_of_le_length (by omega), List.take_of_length_le (by omega)]
theorem beN_one (v : Int) : beN [v] = v := by simp [beN]
def badN : S_Notice := S_Notice.mk 0 0 0 0 t0 0
theorem badN_wf : WfN badN := ⟨by decide, by decide, by decide, wfP0, wfP0⟩
def fits (x y k : Int) (len a : Nat) : Prop := x ≤ 128 ∧ y ≤ 128 ∧ k ≤ sz x ∧ a ≤ len ∧ len = a + (sz x - k.toNat) + sz y
instance (x y k : Int) (len a : Nat) : Decidable (fits x y k len a) := by unfold fits; infer_instance
def dstL (before body : List Int) (x k : Int) (a : Nat) : List Int := fillA (before.take k.toNat ++ (body.drop a).take (sz x - k.toNat))
def srcL (body : List Int) (x k : Int) (a : Nat) : List Int := fillA (body.drop (a + (sz x - k.toNat)))
theorem pfs_p {n : S_Notice} (e1 : n.To.Dst.IP = ad0) (e2 : n.To.Src.IP = ad0) {x y k : Int} (hx : 0 ≤ x ∧ x ≤ 255) (hy : 0 ≤ y ∧ y ≤ 255) (hk : 0 ≤ k ∧ k ≤ 255) {before : List Int} (hbf : before.length = 16) {body : List Int} (hb : body.length ≤ 1000000) (a : Nat) (ha : a ≤ 13) :
    F_messages_prefixes n x y k before body a = some (if fits x y k body.length a then (S_Notice.mk n.Kind n.Seq n.Metric n.Neighbour (S_Destination.mk (S_Prefix.mk (dstL before body x k a) x) (S_Prefix.mk (srcL body x k a) y) n.To.Router) n.Hops, true) else (badN, false)) := by
  unfold F_messages_prefixes
  by_cases h1 : x > 128
  · rw [decT h1, if_neg (show ¬ fits x y k body.length a by unfold fits; omega)]
    rfl
  rw [decF h1]
  by_cases h2 : y > 128
  · rw [decT h2, if_neg (show ¬ fits x y k body.length a by unfold fits; omega)]
    rfl
  rw [decF h2]
  simp only [cond_false]
  have z1 := sz_le hx.1 (by omega : x ≤ 128)
  have z2 := sz_le hy.1 (by omega : y ≤ 128)
  rw [wi (x := x) (by omega) (by omega), wi (x := y) (by omega) (by omega), wi (x := k) (by omega) (by omega), size_p hx.1 hx.2, size_p hy.1 hy.2]
  simp only [Option.bind_some]
  rw [wu (by omega) (by omega)]
  by_cases h3 : k > sz x
  · rw [decT h3, if_neg (show ¬ fits x y k body.length a by unfold fits; omega)]
    rfl
  rw [decF h3]
  by_cases h4 : (body.length : Int) < a
  · rw [decT h4, if_neg (show ¬ fits x y k body.length a by unfold fits; omega)]
    rfl
  rw [decF h4]
  simp only [cond_false]
  rw [wi (x := (sz x : Int) - k) (by omega) (by omega), wi (x := (a : Int) + ((sz x : Int) - k)) (by omega) (by omega), wi (x := (a : Int) + ((sz x : Int) - k) + sz y) (by omega) (by omega)]
  by_cases h5 : (body.length : Int) = (a : Int) + ((sz x : Int) - k) + sz y
  rotate_left
  · rw [show ((body.length : Int) != (a : Int) + ((sz x : Int) - k) + sz y) = true by simp [h5], if_neg (show ¬ fits x y k body.length a by unfold fits; omega)]
    rfl
  rw [show ((body.length : Int) != (a : Int) + ((sz x : Int) - k) + sz y) = false by simp [h5], if_pos (show fits x y k body.length a by unfold fits; omega), arrL_id hbf, subO_some (by omega) (by omega) (by omega), decT (by omega), decT (by omega), subO_some (by omega) (by omega) (by omega), subO_some (by omega) (by omega) (by omega)]
  simp only [cond_false, cond_true, Option.bind_some, Cut.app, e1, e2]
  have q1 : ((a : Int) + ((sz x : Int) - k)).toNat = a + (sz x - k.toNat) := by omega
  have q2 : (((body.length : Nat) : Int)).toNat = body.length := Int.toNat_natCast _
  have q3 : ((a : Nat) : Int).toNat = a := Int.toNat_natCast _
  rw [q1, q2, q3, List.take_length]
  have l1 : (before.take k.toNat).length = k.toNat := by rw [List.length_take, hbf]; omega
  have d1 : (before.take k.toNat).drop (Int.toNat 0) = before.take k.toNat := by simp
  have d2 : (body.take (a + (sz x - k.toNat))).drop a = (body.drop a).take (sz x - k.toNat) := by
    rw [List.drop_take]
    congr 1
    omega
  have l2 : ((body.drop a).take (sz x - k.toNat)).length = sz x - k.toNat := by rw [List.length_take, List.length_drop]; omega
  have c1 := cpAt_fill (a := before.take k.toNat) (m := (body.drop a).take (sz x - k.toNat)) (by omega)
  rw [l1] at c1
  rw [d1, d2, cpA_fill (by omega), cpA_fill (by rw [List.length_drop]; omega), show (Int.toNat (16 : Int) - k.toNat) = 16 - k.toNat from rfl, c1]
  rfl
def readS (k : Int) (b : List Int) (r : Int) (d : List Int) : S_Notice × Bool :=
  if k = 1 then (S_Notice.mk 1 (numB b 0 2) 0 0 t0 0, true)
  else if k = 2 then (S_Notice.mk 2 0 (numB b 8 2) (numB b 0 8) t0 0, true)
  else if k = 3 then (if fits (numB b 1 1) (numB b 2 1) (numB b 0 1) b.length 7 then (S_Notice.mk 3 (numB b 3 2) (numB b 5 2) 0 (S_Destination.mk (S_Prefix.mk (dstL d b (numB b 1 1) (numB b 0 1) 7) (numB b 1 1)) (S_Prefix.mk (srcL b (numB b 1 1) (numB b 0 1) 7) (numB b 2 1)) r) 0, true) else (badN, false))
  else if k = 4 then (if fits (numB b 0 1) (numB b 1 1) 0 b.length 2 then (S_Notice.mk 4 0 0 0 (S_Destination.mk (S_Prefix.mk (dstL d b (numB b 0 1) 0 2) (numB b 0 1)) (S_Prefix.mk (srcL b (numB b 0 1) 0 2) (numB b 1 1)) 0) 0, true) else (badN, false))
  else if k = 5 then (if fits (numB b 0 1) (numB b 1 1) 0 b.length 13 then (S_Notice.mk 5 (numB b 2 2) 0 0 (S_Destination.mk (S_Prefix.mk (dstL d b (numB b 0 1) 0 13) (numB b 0 1)) (S_Prefix.mk (srcL b (numB b 0 1) 0 13) (numB b 1 1)) (numB b 5 8)) (numB b 4 1), true) else (badN, false))
  else (badN, false)
theorem read_p {b : List Int} (h : okB b) (hb : b.length ≤ 255) (k : Int) {s : S_messages_state} (hd : s.dst.length = 16) : F_messages_read k b s = some (readS k b s.router s.dst) := by
  have n1 := fun i => num_bd h i 1
  have n2 := fun i => num_bd h i 2
  have e1 := fun i => num_p h (by omega) i 1 (by omega) (by omega)
  have e2 := fun i => num_p h (by omega) i 2 (by omega) (by omega)
  have e8 := fun i => num_p h (by omega) i 8 (by omega) (by omega)
  have b1 : ∀ i, 0 ≤ numB b i 1 ∧ numB b i 1 ≤ 255 := fun i => by have := n1 i; omega
  have b2 : ∀ i, 0 ≤ numB b i 2 ∧ numB b i 2 ≤ 65535 := fun i => by have := n2 i; omega
  unfold F_messages_read readS
  by_cases k1 : k = 1
  · subst k1
    have := e2 0
    simp only [Int.natCast_zero, show ((2 : Nat) : Int) = 2 from rfl] at this
    simp only [show ((1 : Int) == 1) = true from rfl, cond_true, this, Option.bind_some, if_true, wu16 (b2 0).1 (by have := b2 0; omega)]
    rfl
  rw [beqF k1, if_neg k1, cond_false]
  by_cases k2 : k = 2
  · subst k2
    have h0 := e8 0
    have h1 := e2 8
    simp only [Int.natCast_zero, show ((2 : Nat) : Int) = 2 from rfl, show ((8 : Nat) : Int) = 8 from rfl] at h0 h1
    simp only [show ((2 : Int) == 2) = true from rfl, cond_true, h0, h1, Option.bind_some, if_true, wi (x := numB b 8 2) (by have := b2 8; omega) (by have := b2 8; omega)]
    rfl
  rw [beqF k2, if_neg k2, cond_false]
  by_cases k3 : k = 3
  · subst k3
    have h0 := e2 3
    have h1 := e2 5
    have h2 := e1 1
    have h3 := e1 2
    have h4 := e1 0
    simp only [Int.natCast_zero, show ((1 : Nat) : Int) = 1 from rfl, show ((2 : Nat) : Int) = 2 from rfl, show ((3 : Nat) : Int) = 3 from rfl, show ((5 : Nat) : Int) = 5 from rfl] at h0 h1 h2 h3 h4
    simp only [show ((3 : Int) == 3) = true from rfl, cond_true, h0, h1, h2, h3, h4, Option.bind_some, if_true]
    have hp := pfs_p (n := S_Notice.mk 3 (IntKind.wrap .u16 (numB b 3 2)) (IntKind.wrap .i64 (numB b 5 2)) 0 (S_Destination.mk (S_Prefix.mk ad0 0) (S_Prefix.mk ad0 0) s.router) 0) rfl rfl (b1 1) (b1 2) (b1 0) hd (by omega : b.length ≤ 1000000) 7 (by omega)
    have hp' : F_messages_prefixes (S_Notice.mk 3 (IntKind.wrap .u16 (numB b 3 2)) (IntKind.wrap .i64 (numB b 5 2)) 0 (S_Destination.mk (S_Prefix.mk [0, 0, 0, 0, 0, 0, 0, 0, 0, 0, 0, 0, 0, 0, 0, 0] 0) (S_Prefix.mk [0, 0, 0, 0, 0, 0, 0, 0, 0, 0, 0, 0, 0, 0, 0, 0] 0) s.router) 0) (numB b 1 1) (numB b 2 1) (numB b 0 1) s.dst b 7 = _ := hp
    rw [hp', Option.bind_some, wu16 (b2 3).1 (by have := b2 3; omega), wi (x := numB b 5 2) (by have := b2 5; omega) (by have := b2 5; omega)]
  rw [beqF k3, if_neg k3, cond_false]
  by_cases k4 : k = 4
  · subst k4
    have h2 := e1 0
    have h3 := e1 1
    simp only [Int.natCast_zero, show ((1 : Nat) : Int) = 1 from rfl] at h2 h3
    simp only [show ((4 : Int) == 4) = true from rfl, cond_true, h2, h3, Option.bind_some, if_true]
    have hp := pfs_p (n := S_Notice.mk 4 0 0 0 (S_Destination.mk (S_Prefix.mk ad0 0) (S_Prefix.mk ad0 0) 0) 0) rfl rfl (b1 0) (b1 1) (k := 0) (by omega) hd (by omega : b.length ≤ 1000000) 2 (by omega)
    have hp' : F_messages_prefixes (S_Notice.mk 4 0 0 0 (S_Destination.mk (S_Prefix.mk [0, 0, 0, 0, 0, 0, 0, 0, 0, 0, 0, 0, 0, 0, 0, 0] 0) (S_Prefix.mk [0, 0, 0, 0, 0, 0, 0, 0, 0, 0, 0, 0, 0, 0, 0, 0] 0) 0) 0) (numB b 0 1) (numB b 1 1) 0 s.dst b 2 = _ := hp
    rw [hp', Option.bind_some]
  rw [beqF k4, if_neg k4, cond_false]
  by_cases k5 : k = 5
  · subst k5
    have h0 := e2 2
    have h1 := e1 4
    have h2 := e8 5
    have h3 := e1 0
    have h4 := e1 1
    simp only [Int.natCast_zero, show ((1 : Nat) : Int) = 1 from rfl, show ((2 : Nat) : Int) = 2 from rfl, show ((4 : Nat) : Int) = 4 from rfl, show ((5 : Nat) : Int) = 5 from rfl, show ((8 : Nat) : Int) = 8 from rfl] at h0 h1 h2 h3 h4
    simp only [show ((5 : Int) == 5) = true from rfl, cond_true, h0, h1, h2, h3, h4, Option.bind_some, if_true]
    have hp := pfs_p (n := S_Notice.mk 5 (IntKind.wrap .u16 (numB b 2 2)) 0 0 (S_Destination.mk (S_Prefix.mk ad0 0) (S_Prefix.mk ad0 0) (numB b 5 8)) (IntKind.wrap .i64 (numB b 4 1))) rfl rfl (b1 0) (b1 1) (k := 0) (by omega) hd (by omega : b.length ≤ 1000000) 13 (by omega)
    have hp' : F_messages_prefixes (S_Notice.mk 5 (IntKind.wrap .u16 (numB b 2 2)) 0 0 (S_Destination.mk (S_Prefix.mk [0, 0, 0, 0, 0, 0, 0, 0, 0, 0, 0, 0, 0, 0, 0, 0] 0) (S_Prefix.mk [0, 0, 0, 0, 0, 0, 0, 0, 0, 0, 0, 0, 0, 0, 0, 0] 0) (numB b 5 8)) (IntKind.wrap .i64 (numB b 4 1))) (numB b 0 1) (numB b 1 1) 0 s.dst b 13 = _ := hp
    rw [hp', Option.bind_some, wu16 (b2 2).1 (by have := b2 2; omega), wi (x := numB b 4 1) (by have := b1 4; omega) (by have := b1 4; omega)]
  rw [beqF k5, if_neg k5, cond_false]
  rfl
end
section
open Go.RowKit

theorem num_eq {b a v c : List Int} {i n : Nat} (h : b = a ++ v ++ c) (ha : a.length = i) (hv : v.length = n) : numB b i n = beN v := by
  subst h ha
  exact num_at n hv
theorem beN_v {v : Int} {n : Nat} (h0 : 0 ≤ v) (h1 : v < 256 ^ n) : beN (beB v n) = v := by
  rw [beN_beB, Int.emod_eq_of_lt h0 h1]
theorem dst_wf {d body : List Int} (hd : d.length = 16) (od : okB d) (ob : okB body) {x y k : Int} {a : Nat} (hk : 0 ≤ k) (hx : 0 ≤ x) (h : fits x y k body.length a) : wfP (S_Prefix.mk (dstL d body x k a) x) := by
  obtain ⟨h1, h2, h3, h4, h5⟩ := h
  have z1 := sz_le hx h1
  unfold dstL
  refine fillA_wf (okB.append (okB.take od _) (okB.take (okB.drop ob _) _)) ?_ _
  rw [List.length_append, List.length_take, List.length_take, List.length_drop]
  omega
theorem src_wf {body : List Int} (ob : okB body) {x y k : Int} {a : Nat} (hy : 0 ≤ y) (h : fits x y k body.length a) : wfP (S_Prefix.mk (srcL body x k a) y) := by
  obtain ⟨h1, h2, h3, h4, h5⟩ := h
  have z1 := sz_le hy h2
  unfold srcL
  refine fillA_wf (okB.drop ob _) ?_ _
  rw [List.length_drop]
  omega
theorem read_wf {b : List Int} (h : okB b) (k : Int) {r : Int} (hr : 0 ≤ r ∧ r ≤ 18446744073709551615) {d : List Int} (hd : d.length = 16) (od : okB d) : WfN (readS k b r d).1 := by
  have n1 := fun i => num_bd h i 1
  have n2 := fun i => num_bd h i 2
  have n8 := fun i => num_bd h i 8
  have b1 : ∀ i, 0 ≤ numB b i 1 ∧ numB b i 1 ≤ 255 := fun i => by have := n1 i; omega
  have b2 : ∀ i, 0 ≤ numB b i 2 ∧ numB b i 2 ≤ 65535 := fun i => by have := n2 i; omega
  have b8 : ∀ i, 0 ≤ numB b i 8 ∧ numB b i 8 ≤ 18446744073709551615 := fun i => by have := n8 i; omega
  have o0 : (0 : Int) ≤ 0 ∧ (0 : Int) ≤ 65535 := by omega
  have o1 : (0 : Int) ≤ 0 ∧ (0 : Int) ≤ 18446744073709551615 := by omega
  unfold readS
  split
  · exact ⟨b2 0, o1, o1, wfP0, wfP0⟩
  split
  · exact ⟨o0, b8 0, o1, wfP0, wfP0⟩
  split
  · split
    · rename_i hf
      exact ⟨b2 3, o1, hr, dst_wf hd od h (b1 0).1 (b1 1).1 hf, src_wf h (b1 2).1 hf⟩
    · exact badN_wf
  split
  · split
    · rename_i hf
      exact ⟨o0, o1, o1, dst_wf hd od h (by omega) (b1 0).1 hf, src_wf h (b1 1).1 hf⟩
    · exact badN_wf
  split
  · split
    · rename_i hf
      exact ⟨b2 2, o1, b8 5, dst_wf hd od h (by omega) (b1 0).1 hf, src_wf h (b1 1).1 hf⟩
    · exact badN_wf
  · exact badN_wf
noncomputable def stepM (k : Int) (body t : List Int) (out : List S_Notice) (s : S_messages_state) : ((List Int) × (List S_Notice) × S_messages_state) ⊕ ((List S_Notice) ⊕ ((List S_Notice) × Bool)) :=
  if k = 6 then (if 8 ≤ body.length then .inl (t, out, S_messages_state.mk s.elements (numB body 0 8) s.dst) else .inr (.inr ([], false)))
  else if (readS k body s.router s.dst).2 = true then .inl (t, out ++ [(readS k body s.router s.dst).1], S_messages_state.mk s.elements s.router (nxD s.dst (readS k body s.router s.dst).1))
  else .inr (.inr ([], false))
theorem stepm_p {k m : Int} {rest : List Int} (hm : 0 ≤ m ∧ m ≤ 255) (hl : m ≤ rest.length) (hr : rest.length ≤ 1000000) (ok : okB rest) {out : List S_Notice} (ho : out.length ≤ 64) {s : S_messages_state} (hd : s.dst.length = 16) :
    F_messages_parse_l1 (k :: m :: rest, out, s) = some (stepM k (rest.take m.toNat) (rest.drop m.toNat) out s) := by
  unfold F_messages_parse_l1
  dsimp only
  have e0 : idx (k :: m :: rest) 0 = some k := rfl
  have e1 : idx (k :: m :: rest) 1 = some m := rfl
  have hbl : (rest.take m.toNat).length = m.toNat := by rw [List.length_take]; omega
  rw [decT (show ((k :: m :: rest).length : Int) > 0 by simp; omega), decF (show ¬ ((k :: m :: rest).length : Int) < 2 by simp; omega), e0, e1]
  simp only [cond_true, cond_false, Option.bind_some]
  rw [wi (x := m) (by omega) (by omega), wi (x := ((k :: m :: rest).length : Int) - 2) (by simp; omega) (by simp; omega), decF (show ¬ ((k :: m :: rest).length : Int) - 2 < m by simp; omega), decF (show ¬ ((out.length : Nat) : Int) > 64 by omega), wi (x := 2 + m) (by omega) (by omega), subO_some (l := k :: m :: rest) (a := 2) (by omega) (by omega) (by simp; omega)]
  simp only [cond_false, Option.bind_some]
  have e2 : ((k :: m :: rest).take (2 + m).toNat).drop (2 : Int).toNat = rest.take m.toNat := by
    rw [show (2 + m).toNat = m.toNat + 1 + 1 by omega]
    simp
  rw [e2, hbl, wi (x := 2 + ((m.toNat : Nat) : Int)) (by omega) (by omega), subO_some (l := k :: m :: rest) (by omega) (by simp; omega) (by omega)]
  have e3 : ((k :: m :: rest).take (((k :: m :: rest).length : Nat) : Int).toNat).drop (2 + ((m.toNat : Nat) : Int)).toNat = rest.drop m.toNat := by
    rw [Int.toNat_natCast, List.take_length, show (2 + ((m.toNat : Nat) : Int)).toNat = m.toNat + 1 + 1 by omega]
    simp
  rw [e3, Option.bind_some]
  have okb : okB (rest.take m.toNat) := okB.take ok _
  unfold stepM
  by_cases k6 : k = 6
  · subst k6
    rw [if_pos rfl, show ((6 : Int) == 6) = true from rfl, cond_true]
    by_cases h8 : 8 ≤ (rest.take m.toNat).length
    · have hu := uint_some okb (by omega) 0 8 (by omega) (by omega) (by omega)
      have hu' : F_octets_Uint (rest.take m.toNat) 0 8 = some (beN (((rest.take m.toNat).drop 0).take 8), true) := hu
      rw [hu', if_pos h8]
      unfold numB
      rw [if_pos (by omega)]
      rfl
    · have hu := uint_none (b := rest.take m.toNat) (by omega) 0 8 (by omega) (by omega) (by omega)
      have hu' : F_octets_Uint (rest.take m.toNat) 0 8 = some (0, false) := hu
      rw [hu', if_neg h8]
      rfl
  · rw [if_neg k6, beqF k6, cond_false, read_p okb (by omega) k hd, Option.bind_some]
    unfold F_messages_parse_j2
    simp only [Cut.app]
    rw [appO_some (by simp; omega) (by simp; omega)]
    simp only [Option.bind_some]
    cases h2 : (readS k (rest.take m.toNat) s.router s.dst).2
    · rfl
    · simp only [cond_true, if_true, nxD]
      by_cases h3 : (readS k (rest.take m.toNat) s.router s.dst).1.Kind = 3
      · rw [if_pos h3, h3]
        rfl
      · rw [if_neg h3, beqF h3]
        rfl
theorem parse_tot {b : List Int} (ok : okB b) (hb : b.length ≤ 1000000) : (∃ l, F_messages_parse b = some (l, true) ∧ ∀ n ∈ l, WfN n) ∨ F_messages_parse b = some ([], false) := by
  unfold F_messages_parse
  obtain ⟨r, e, hq⟩ := loop_inv (step := F_messages_parse_l1) (fun s => okB s.1 ∧ s.1.length ≤ 1000000 ∧ (∀ n ∈ s.2.1, WfN n) ∧ s.2.2.dst.length = 16 ∧ okB s.2.2.dst ∧ 0 ≤ s.2.2.router ∧ s.2.2.router ≤ 18446744073709551615) (fun r => (∃ l, r = .inl l ∧ ∀ n ∈ l, WfN n) ∨ r = .inr ([], false)) (fun s => s.1.length) (fun s ⟨i1, i2, i3, i4, i5, i6, i7⟩ => by
    obtain ⟨b, out, st⟩ := s
    dsimp only at i1 i2 i3 i4 i5 i6 i7 ⊢
    match b, i1, i2 with
    | [], _, _ => exact .inr ⟨.inl out, rfl, .inl ⟨out, rfl, i3⟩⟩
    | [x], _, _ => exact .inr ⟨.inr ([], false), rfl, .inr rfl⟩
    | k :: m :: rest, i1, i2 =>
      have hm := i1 m (by simp)
      simp only [List.length_cons] at i2
      by_cases hl : m ≤ rest.length
      rotate_left
      · right
        refine ⟨.inr ([], false), ?_, .inr rfl⟩
        unfold F_messages_parse_l1
        dsimp only
        have e1 : idx (k :: m :: rest) 1 = some m := rfl
        rw [decT (show ((k :: m :: rest).length : Int) > 0 by simp; omega), decF (show ¬ ((k :: m :: rest).length : Int) < 2 by simp; omega), e1]
        simp only [cond_true, cond_false, Option.bind_some]
        rw [wi (x := m) (by omega) (by omega), wi (x := ((k :: m :: rest).length : Int) - 2) (by simp; omega) (by simp; omega), decT (show ((k :: m :: rest).length : Int) - 2 < m by simp; omega)]
        rfl
      by_cases ho : out.length ≤ 64
      rotate_left
      · right
        refine ⟨.inr ([], false), ?_, .inr rfl⟩
        unfold F_messages_parse_l1
        dsimp only
        have e1 : idx (k :: m :: rest) 1 = some m := rfl
        rw [decT (show ((k :: m :: rest).length : Int) > 0 by simp; omega), decF (show ¬ ((k :: m :: rest).length : Int) < 2 by simp; omega), e1]
        simp only [cond_true, cond_false, Option.bind_some]
        rw [wi (x := m) (by omega) (by omega), wi (x := ((k :: m :: rest).length : Int) - 2) (by simp; omega) (by simp; omega), decF (show ¬ ((k :: m :: rest).length : Int) - 2 < m by simp; omega), decT (show ((out.length : Nat) : Int) > 64 by omega)]
        rfl
      have okr : okB rest := fun z hz => i1 z (by simp [hz])
      have okb : okB (rest.take m.toNat) := okB.take okr _
      rw [stepm_p hm hl (by omega) okr ho i4]
      have hw := read_wf okb k ⟨i6, i7⟩ i4 i5
      have n8 := num_bd okb 0 8
      unfold stepM
      split
      · split
        · exact .inl ⟨_, rfl, ⟨okB.drop okr _, by dsimp only; rw [List.length_drop]; omega, i3, i4, i5, by dsimp only; omega, by dsimp only; omega⟩, by dsimp only; rw [List.length_drop]; simp; omega⟩
        · exact .inr ⟨_, rfl, .inr rfl⟩
      · split
        · refine .inl ⟨_, rfl, ⟨okB.drop okr _, by dsimp only; rw [List.length_drop]; omega, ?_, nxD_len i4 hw, ?_, i6, i7⟩, by dsimp only; rw [List.length_drop]; simp; omega⟩
          · intro n hn
            rcases List.mem_append.1 hn with h | h
            · exact i3 n h
            · rw [List.mem_singleton.1 h]; exact hw
          · dsimp only
            unfold nxD
            split
            · exact hw.dst.2
            · exact i5
        · exact .inr ⟨_, rfl, .inr rfl⟩) (b, [], S_messages_state.mk [] 0 ad0) ⟨ok, hb, by simp, rfl, wfP0.2, by dsimp only; omega, by dsimp only; omega⟩
  have e' : loopO F_messages_parse_l1 (b, ([] : List S_Notice), S_messages_state.mk [] 0 [0, 0, 0, 0, 0, 0, 0, 0, 0, 0, 0, 0, 0, 0, 0, 0]) = some r := e
  rw [e']
  rcases hq with ⟨l, rfl, h⟩ | rfl
  · exact .inl ⟨l, rfl, h⟩
  · exact .inr rfl
def bdN (d : List Int) (n : S_Notice) : List Int :=
  if n.Kind = 1 then beB n.Seq 2
  else if n.Kind = 2 then beB n.Neighbour 8 ++ beB n.Metric 2
  else if n.Kind = 3 then [(comm (pfx n.To.Dst) d : Int), n.To.Dst.Bits, n.To.Src.Bits] ++ beB n.Seq 2 ++ beB n.Metric 2 ++ (pfx n.To.Dst).drop (comm (pfx n.To.Dst) d) ++ pfx n.To.Src
  else if n.Kind = 5 then [n.To.Dst.Bits, n.To.Src.Bits] ++ beB n.Seq 2 ++ [n.Hops] ++ beB n.To.Router 8 ++ pfx n.To.Dst ++ pfx n.To.Src
  else [n.To.Dst.Bits, n.To.Src.Bits] ++ pfx n.To.Dst ++ pfx n.To.Src
theorem encN_eq (r : Int) (d : List Int) {n : S_Notice} (g : GoodN n) : encN r d n = (if n.Kind = 3 ∧ n.To.Router ≠ r then el 6 (beB n.To.Router 8) else []) ++ el n.Kind (bdN d n) := by
  unfold encN bdN
  cases g <;> simp
theorem bdN_len (d : List Int) {n : S_Notice} (g : GoodN n) : (bdN d n).length ≤ 50 := by
  have w := good_wf g
  have h1 := pfx_le w.dst
  have h2 := pfx_le w.src
  unfold bdN
  cases g <;> simp [beB_len] at * <;> omega
theorem bdN_ok (d : List Int) {n : S_Notice} (g : GoodN n) : okB (bdN d n) := by
  have w := good_wf g
  have h1 := pfx_ok w.dst
  have h2 := pfx_ok w.src
  have h3 := beB_ok
  have h4 := comm_le (pfx n.To.Dst) d
  have h5 := pfx_le w.dst
  unfold bdN
  cases g with
  | hello s h => exact h3 _ _
  | heard m b h hb h0 => exact okB.append (h3 _ _) (h3 _ _)
  | update s m p c r hs h wd wc vd vc hr h0 =>
    have v1 := vb vd
    have v2 := vb vc
    refine okB.append (okB.append (okB.append (okB.append ?_ (h3 _ _)) (h3 _ _)) (okB.drop h1 _)) h2
    exact okB_cons ⟨by omega, by dsimp only at h4 h5 ⊢; omega⟩ (okB_cons ⟨by dsimp only; omega, by dsimp only; omega⟩ (okB_one ⟨by dsimp only; omega, by dsimp only; omega⟩))
  | route p c wd wc vd vc =>
    have v1 := vb vd
    have v2 := vb vc
    refine okB.append (okB.append ?_ h1) h2
    exact okB_cons ⟨by dsimp only; omega, by dsimp only; omega⟩ (okB_one ⟨by dsimp only; omega, by dsimp only; omega⟩)
  | seqr s h p c r hs hh wd wc vd vc hr h0 =>
    have v1 := vb vd
    have v2 := vb vc
    refine okB.append (okB.append (okB.append (okB.append (okB.append ?_ (h3 _ _)) (okB_one ?_)) (h3 _ _)) h1) h2
    · exact okB_cons ⟨by dsimp only; omega, by dsimp only; omega⟩ (okB_one ⟨by dsimp only; omega, by dsimp only; omega⟩)
    · dsimp only; omega
theorem read_good {n : S_Notice} (g : GoodN n) {r : Int} (hr : n.Kind = 3 → r = n.To.Router) {d : List Int} (hd : d.length = 16) : readS n.Kind (bdN d n) r d = (n, true) := by
  unfold readS
  cases g with
  | hello s h =>
    have e : numB (beB s 2) 0 2 = s := by
      rw [num_eq (i := 0) (n := 2) (a := []) (v := beB s 2) (c := []) (by simp) rfl (beB_len _ _), beN_v h.1 (by omega)]
    simp only [bdN, if_true, e]
  | heard m b h hb h0 =>
    have e1 : numB (beB b 8 ++ beB m 2) 0 8 = b := by
      rw [num_eq (i := 0) (n := 8) (a := []) (v := beB b 8) (c := beB m 2) (by simp) rfl (beB_len _ _), beN_v hb.1 (by omega)]
    have e2 : numB (beB b 8 ++ beB m 2) 8 2 = m := by
      rw [num_eq (i := 8) (n := 2) (a := beB b 8) (v := beB m 2) (c := []) (by simp) (beB_len _ _) (beB_len _ _), beN_v h.1 (by omega)]
    simp only [bdN, show ¬ ((2 : Int) = 1) by omega, if_true, if_false, e1, e2]
  | update s m p c r' hs h wd wc vd vc hr' h0 =>
    have v1 := vb vd
    have v2 := vb vc
    have c1 := comm_le (pfx p) d
    have lp := pfx_len wd vd
    have lc := pfx_len wc vc
    have hbd : bdN d (S_Notice.mk 3 s m 0 (S_Destination.mk p c r') 0) = [(comm (pfx p) d : Int), p.Bits, c.Bits] ++ beB s 2 ++ beB m 2 ++ (pfx p).drop (comm (pfx p) d) ++ pfx c := rfl
    rw [hbd, hr rfl]
    generalize hK : comm (pfx p) d = K at *
    generalize hB : [(K : Int), p.Bits, c.Bits] ++ beB s 2 ++ beB m 2 ++ (pfx p).drop K ++ pfx c = B
    have e0 : numB B 0 1 = (K : Int) := by
      rw [num_eq (i := 0) (n := 1) (a := []) (v := [(K : Int)]) (c := [p.Bits, c.Bits] ++ beB s 2 ++ beB m 2 ++ (pfx p).drop K ++ pfx c) (by rw [← hB]; simp) rfl rfl, beN_one]
    have e1 : numB B 1 1 = p.Bits := by
      rw [num_eq (i := 1) (n := 1) (a := [(K : Int)]) (v := [p.Bits]) (c := [c.Bits] ++ beB s 2 ++ beB m 2 ++ (pfx p).drop K ++ pfx c) (by rw [← hB]; simp) rfl rfl, beN_one]
    have e2 : numB B 2 1 = c.Bits := by
      rw [num_eq (i := 2) (n := 1) (a := [(K : Int), p.Bits]) (v := [c.Bits]) (c := beB s 2 ++ beB m 2 ++ (pfx p).drop K ++ pfx c) (by rw [← hB]; simp) rfl rfl, beN_one]
    have e3 : numB B 3 2 = s := by
      rw [num_eq (i := 3) (n := 2) (a := [(K : Int), p.Bits, c.Bits]) (v := beB s 2) (c := beB m 2 ++ (pfx p).drop K ++ pfx c) (by rw [← hB]; simp) rfl (beB_len _ _), beN_v hs.1 (by omega)]
    have e5 : numB B 5 2 = m := by
      rw [num_eq (i := 5) (n := 2) (a := [(K : Int), p.Bits, c.Bits] ++ beB s 2) (v := beB m 2) (c := (pfx p).drop K ++ pfx c) (by rw [← hB]; simp) (by simp [beB_len]) (beB_len _ _), beN_v h.1 (by omega)]
    have hlen : B.length = 7 + (sz p.Bits - K) + sz c.Bits := by
      rw [← hB]
      simp only [List.length_append, List.length_cons, List.length_nil, beB_len, List.length_drop, lp, lc]
    have hdrop : B.drop 7 = (pfx p).drop K ++ pfx c := by
      have : ([(K : Int), p.Bits, c.Bits] ++ beB s 2 ++ beB m 2).length = 7 := by simp [beB_len]
      rw [← hB, List.append_assoc, ← this, List.drop_left]
    have e6 : dstL d B p.Bits (K : Int) 7 = p.IP := by
      unfold dstL
      have hk2 := comm_take (pfx p) d
      rw [hK] at hk2
      have t1 : ((pfx p).drop K).take (sz p.Bits - K) = (pfx p).drop K := List.take_of_length_le (by rw [List.length_drop]; omega)
      rw [hdrop, Int.toNat_natCast, ← hk2, List.take_append_of_le_length (by rw [List.length_drop]; omega), t1, List.take_append_drop]
      exact pfx_fill wd vd
    have e7 : srcL B p.Bits (K : Int) 7 = c.IP := by
      unfold srcL
      rw [Int.toNat_natCast, ← List.drop_drop, hdrop, List.drop_append_of_le_length (by rw [List.length_drop]; omega), List.drop_of_length_le (by rw [List.length_drop]; omega), List.nil_append]
      exact pfx_fill wc vc
    have hf : fits p.Bits c.Bits (K : Int) B.length 7 := ⟨v1.2, v2.2, by omega, by omega, by rw [hlen]; omega⟩
    simp only [e0, e1, e2, e3, e5, e6, e7, if_pos hf, show ¬ ((3 : Int) = 1) by omega, show ¬ ((3 : Int) = 2) by omega, if_true, if_false]
  | route p c wd wc vd vc =>
    have v1 := vb vd
    have v2 := vb vc
    have lp := pfx_len wd vd
    have lc := pfx_len wc vc
    have hbd : bdN d (S_Notice.mk 4 0 0 0 (S_Destination.mk p c 0) 0) = [p.Bits, c.Bits] ++ pfx p ++ pfx c := rfl
    rw [hbd]
    generalize hB : [p.Bits, c.Bits] ++ pfx p ++ pfx c = B
    have e1 : numB B 0 1 = p.Bits := by
      rw [num_eq (i := 0) (n := 1) (a := []) (v := [p.Bits]) (c := [c.Bits] ++ pfx p ++ pfx c) (by rw [← hB]; simp) rfl rfl, beN_one]
    have e2 : numB B 1 1 = c.Bits := by
      rw [num_eq (i := 1) (n := 1) (a := [p.Bits]) (v := [c.Bits]) (c := pfx p ++ pfx c) (by rw [← hB]; simp) rfl rfl, beN_one]
    have hlen : B.length = 2 + (sz p.Bits - 0) + sz c.Bits := by
      rw [← hB]
      simp only [List.length_append, List.length_cons, List.length_nil, lp, lc]
      omega
    have hdrop : B.drop 2 = pfx p ++ pfx c := by
      rw [← hB]
      rfl
    have e6 : dstL d B p.Bits 0 2 = p.IP := by
      unfold dstL
      have t1 : (pfx p ++ pfx c).take (sz p.Bits - Int.toNat 0) = pfx p := by rw [show sz p.Bits - Int.toNat 0 = (pfx p).length by rw [lp]; rfl, List.take_left]
      rw [hdrop, t1]
      exact pfx_fill wd vd
    have e7 : srcL B p.Bits 0 2 = c.IP := by
      unfold srcL
      have t1 : (pfx p ++ pfx c).drop (sz p.Bits - Int.toNat 0) = pfx c := by rw [show sz p.Bits - Int.toNat 0 = (pfx p).length by rw [lp]; rfl, List.drop_left]
      rw [← List.drop_drop, hdrop, t1]
      exact pfx_fill wc vc
    have hf : fits p.Bits c.Bits 0 B.length 2 := ⟨v1.2, v2.2, by omega, by omega, hlen⟩
    simp only [e1, e2, e6, e7, if_pos hf, show ¬ ((4 : Int) = 1) by omega, show ¬ ((4 : Int) = 2) by omega, show ¬ ((4 : Int) = 3) by omega, if_true, if_false]
  | seqr s h p c r' hs hh wd wc vd vc hr' h0 =>
    have v1 := vb vd
    have v2 := vb vc
    have lp := pfx_len wd vd
    have lc := pfx_len wc vc
    have hbd : bdN d (S_Notice.mk 5 s 0 0 (S_Destination.mk p c r') h) = [p.Bits, c.Bits] ++ beB s 2 ++ [h] ++ beB r' 8 ++ pfx p ++ pfx c := rfl
    rw [hbd]
    generalize hB : [p.Bits, c.Bits] ++ beB s 2 ++ [h] ++ beB r' 8 ++ pfx p ++ pfx c = B
    have e1 : numB B 0 1 = p.Bits := by
      rw [num_eq (i := 0) (n := 1) (a := []) (v := [p.Bits]) (c := [c.Bits] ++ beB s 2 ++ [h] ++ beB r' 8 ++ pfx p ++ pfx c) (by rw [← hB]; simp) rfl rfl, beN_one]
    have e2 : numB B 1 1 = c.Bits := by
      rw [num_eq (i := 1) (n := 1) (a := [p.Bits]) (v := [c.Bits]) (c := beB s 2 ++ [h] ++ beB r' 8 ++ pfx p ++ pfx c) (by rw [← hB]; simp) rfl rfl, beN_one]
    have e3 : numB B 2 2 = s := by
      rw [num_eq (i := 2) (n := 2) (a := [p.Bits, c.Bits]) (v := beB s 2) (c := [h] ++ beB r' 8 ++ pfx p ++ pfx c) (by rw [← hB]; simp) rfl (beB_len _ _), beN_v hs.1 (by omega)]
    have e4 : numB B 4 1 = h := by
      rw [num_eq (i := 4) (n := 1) (a := [p.Bits, c.Bits] ++ beB s 2) (v := [h]) (c := beB r' 8 ++ pfx p ++ pfx c) (by rw [← hB]; simp) (by simp [beB_len]) rfl, beN_one]
    have e5 : numB B 5 8 = r' := by
      rw [num_eq (i := 5) (n := 8) (a := [p.Bits, c.Bits] ++ beB s 2 ++ [h]) (v := beB r' 8) (c := pfx p ++ pfx c) (by rw [← hB]; simp) (by simp [beB_len]) (beB_len _ _), beN_v hr'.1 (by omega)]
    have hlen : B.length = 13 + (sz p.Bits - 0) + sz c.Bits := by
      rw [← hB]
      simp only [List.length_append, List.length_cons, List.length_nil, beB_len, lp, lc]
      omega
    have hdrop : B.drop 13 = pfx p ++ pfx c := by
      have : ([p.Bits, c.Bits] ++ beB s 2 ++ [h] ++ beB r' 8).length = 13 := by simp [beB_len]
      rw [← hB, List.append_assoc, ← this, List.drop_left]
    have e6 : dstL d B p.Bits 0 13 = p.IP := by
      unfold dstL
      have t1 : (pfx p ++ pfx c).take (sz p.Bits - Int.toNat 0) = pfx p := by rw [show sz p.Bits - Int.toNat 0 = (pfx p).length by rw [lp]; rfl, List.take_left]
      rw [hdrop, t1]
      exact pfx_fill wd vd
    have e7 : srcL B p.Bits 0 13 = c.IP := by
      unfold srcL
      have t1 : (pfx p ++ pfx c).drop (sz p.Bits - Int.toNat 0) = pfx c := by rw [show sz p.Bits - Int.toNat 0 = (pfx p).length by rw [lp]; rfl, List.drop_left]
      rw [← List.drop_drop, hdrop, t1]
      exact pfx_fill wc vc
    have hf : fits p.Bits c.Bits 0 B.length 13 := ⟨v1.2, v2.2, by omega, by omega, hlen⟩
    simp only [e1, e2, e3, e4, e5, e6, e7, if_pos hf, show ¬ ((5 : Int) = 1) by omega, show ¬ ((5 : Int) = 2) by omega, show ¬ ((5 : Int) = 3) by omega, show ¬ ((5 : Int) = 4) by omega, if_true, if_false]
theorem step_el {k : Int} {b t : List Int} (hb : b.length ≤ 255) (ht : t.length ≤ 900000) (ob : okB b) (ot : okB t) {out : List S_Notice} (ho : out.length ≤ 64) {s : S_messages_state} (hd : s.dst.length = 16) :
    F_messages_parse_l1 (el k b ++ t, out, s) = some (stepM k b t out s) := by
  have := stepm_p (k := k) (m := (b.length : Int)) (rest := b ++ t) (by omega) (by rw [List.length_append]; omega) (by rw [List.length_append]; omega) (okB.append ob ot) ho hd
  rw [Int.toNat_natCast, List.take_left, List.drop_left] at this
  exact this
theorem encL_ok : ∀ (l : List S_Notice) (r : Int) (d : List Int), (∀ n ∈ l, GoodN n) → okB (encL r d l)
  | [], _, _, _ => okB_nil
  | n :: l, r, d, g => by
    have gn := g n (by simp)
    rw [encL, encN_eq r d gn]
    have hl := bdN_len d gn
    have hk : 0 ≤ n.Kind ∧ n.Kind ≤ 255 := by cases gn <;> simp
    refine okB.append (okB.append ?_ ?_) (encL_ok l _ _ fun m hm => g m (by simp [hm]))
    · split
      · exact okB_cons (by omega) (okB_cons (by rw [beB_len]; omega) (beB_ok _ _))
      · exact okB_nil
    · exact okB_cons hk (okB_cons (by omega) (bdN_ok d gn))
theorem parse_enc : ∀ (l : List S_Notice) (out : List S_Notice) (r : Int) (d e t : List Int), (∀ n ∈ l, GoodN n) → out.length + l.length ≤ 64 → d.length = 16 → t.length ≤ 100000 → okB t →
    loopO F_messages_parse_l1 (encL r d l ++ t, out, S_messages_state.mk e r d) = loopO F_messages_parse_l1 (t, out ++ l, S_messages_state.mk e (l.foldl nxR r) (l.foldl nxD d))
  | [], out, r, d, e, t, _, _, _, _, _ => by simp [encL]
  | n :: l, out, r, d, e, t, g, hn, hd, ht, ot => by
    have gn := g n (by simp)
    have gl : ∀ m ∈ l, GoodN m := fun m hm => g m (by simp [hm])
    simp only [List.length_cons] at hn
    have ih := parse_enc l (out ++ [n]) (nxR r n) (nxD d n) e t gl (by simp; omega) (nxD_len hd (good_wf gn)) ht ot
    have hlen := encL_len (nxR r n) (nxD d n) l gl
    have hT : (encL (nxR r n) (nxD d n) l ++ t).length ≤ 200000 := by rw [List.length_append]; omega
    have oT : okB (encL (nxR r n) (nxD d n) l ++ t) := okB.append (encL_ok l _ _ gl) ot
    have hbl := bdN_len d gn
    have hbo := bdN_ok d gn
    have main : loopO F_messages_parse_l1 (el n.Kind (bdN d n) ++ (encL (nxR r n) (nxD d n) l ++ t), out, S_messages_state.mk e (nxR r n) d) = loopO F_messages_parse_l1 (encL (nxR r n) (nxD d n) l ++ t, out ++ [n], S_messages_state.mk e (nxR r n) (nxD d n)) := by
      refine loop_next ?_
      rw [step_el (by omega) (by omega) hbo oT (by omega) hd]
      have hk6 : ¬ n.Kind = 6 := by cases gn <;> simp
      have hr := read_good gn (r := nxR r n) (fun h => by unfold nxR; rw [if_pos h]) hd
      unfold stepM
      rw [if_neg hk6]
      dsimp only
      rw [hr]
      simp
    rw [encL, encN_eq r d gn, List.append_assoc, List.append_assoc]
    have fin : out ++ [n] ++ l = out ++ n :: l := by simp
    rw [fin] at ih
    by_cases h6 : n.Kind = 3 ∧ n.To.Router ≠ r
    · rw [if_pos h6]
      have hro := (good_wf gn).ro
      have hnr : nxR r n = n.To.Router := by unfold nxR; rw [if_pos h6.1]
      have first : loopO F_messages_parse_l1 (el 6 (beB n.To.Router 8) ++ (el n.Kind (bdN d n) ++ (encL (nxR r n) (nxD d n) l ++ t)), out, S_messages_state.mk e r d) = loopO F_messages_parse_l1 (el n.Kind (bdN d n) ++ (encL (nxR r n) (nxD d n) l ++ t), out, S_messages_state.mk e (nxR r n) d) := by
        refine loop_next ?_
        have hk : 0 ≤ n.Kind ∧ n.Kind ≤ 255 := by cases gn <;> simp
        have oke : okB (el n.Kind (bdN d n)) := okB_cons hk (okB_cons (by omega) hbo)
        rw [step_el (k := 6) (b := beB n.To.Router 8) (by rw [beB_len]; omega) (by rw [List.length_append, el_len]; omega) (beB_ok _ _) (okB.append oke oT) (by omega) hd]
        unfold stepM
        rw [if_pos rfl, if_pos (by rw [beB_len]; omega), num_eq (i := 0) (n := 8) (a := []) (v := beB n.To.Router 8) (c := []) (by simp) rfl (beB_len _ _), beN_v hro.1 (by omega), hnr]
      rw [first, main, ih]
      rfl
    · rw [if_neg h6, List.nil_append]
      have hnr : nxR r n = r := by
        unfold nxR
        split
        · rename_i h3
          have : ¬ n.To.Router ≠ r := fun h => h6 ⟨h3, h⟩
          simpa using this
        · rfl
      rw [hnr] at main ih ⊢
      rw [main, ih]
      rw [List.foldl_cons, List.foldl_cons, hnr]
theorem parse_back {l : List S_Notice} (g : ∀ n ∈ l, GoodN n) (hl : l.length ≤ 64) : F_messages_parse (encL 0 ad0 l) = some (l, true) := by
  unfold F_messages_parse
  have h := parse_enc l [] 0 ad0 [] [] g (by simpa using hl) rfl (by simp) okB_nil
  rw [List.append_nil, List.nil_append] at h
  have h' : loopO F_messages_parse_l1 (encL 0 ad0 l, ([] : List S_Notice), S_messages_state.mk [] 0 [0, 0, 0, 0, 0, 0, 0, 0, 0, 0, 0, 0, 0, 0, 0, 0]) = some (.inl l) := by
    refine Eq.trans h (loop_done ?_)
    rfl
  rw [h']
  rfl
end
section
open Go.RowKit

theorem set_fill {L : List Int} (h : L.length ≤ 16) {i : Nat} (hi : i < L.length) : setA 16 (fillA (L.take i)) i L[i] = fillA (L.take (i + 1)) := by
  refine arr_ext (by simp [setA]) (fillA_len (by rw [List.length_take]; omega)) fun j hj => ?_
  rw [fillA_get]
  unfold setA
  rw [rg_get _ hj, fillA_get]
  simp only [List.getD_eq_getElem?_getD, List.getElem?_take]
  by_cases h1 : j = i
  · subst h1
    rw [if_pos rfl, if_pos (by omega), List.getElem?_eq_getElem hi]
    rfl
  · rw [if_neg h1]
    by_cases h2 : j < i
    · rw [if_pos h2, if_pos (by omega)]
    · rw [if_neg h2, if_neg (by omega)]
theorem pre_r {b : List Int} (hb : b.length ≤ 1000000) {x k : Int} (hx : 0 ≤ x ∧ x ≤ 255) (hk : 0 ≤ k ∧ k ≤ 255) {before : List Int} (hbf : before.length = 16) :
    F_ref29_prefix b x k before = some (if x ≤ 128 ∧ k ≤ sz x ∧ sz x - k.toNat ≤ b.length then (S_Prefix.mk (fillA (before.take k.toNat ++ b.take (sz x - k.toNat))) x, ((sz x - k.toNat : Nat) : Int), true) else (p0, 0, false)) := by
  unfold F_ref29_prefix
  rw [size_r hx.1 hx.2, Option.bind_some]
  by_cases h1 : x > 128
  · rw [decT h1, if_neg (by omega)]
    rfl
  rw [decF h1, cond_false]
  by_cases h2 : k > sz x
  · rw [decT h2, if_neg (by omega)]
    rfl
  have z1 := sz_le hx.1 (by omega : x ≤ 128)
  rw [decF h2, cond_false, wi (x := (sz x : Int) - k) (by omega) (by omega)]
  by_cases h3 : (b.length : Int) < (sz x : Int) - k
  · rw [decT h3, if_neg (by omega)]
    rfl
  rw [decF h3, cond_false, if_pos (by omega)]
  obtain ⟨K, rfl⟩ : ∃ K : Nat, k = (K : Int) := ⟨k.toNat, by omega⟩
  rw [Int.toNat_natCast]
  have l1 : (before.take K ++ b.take (sz x - K)).length = sz x := by rw [List.length_append, List.length_take, List.length_take, hbf]; omega
  have hl := loop_run (step := F_ref29_prefix_l1 (sz x) K before b) (S := fun i => ((i : Int), S_Prefix.mk (fillA ((before.take K ++ b.take (sz x - K)).take i)) x)) (sz x) (r := S_Prefix.mk (fillA (before.take K ++ b.take (sz x - K))) x) (fun i hi => by
    unfold F_ref29_prefix_l1 F_ref29_prefix_j2
    dsimp only
    rw [decT (show (i : Int) < (sz x : Int) by omega), cond_true, wk i (by omega)]
    have hset := set_fill (L := before.take K ++ b.take (sz x - K)) (by omega) (i := i) (by omega)
    by_cases h4 : i < K
    · rw [decT (show (i : Int) < (K : Int) by omega), decT (show (0 : Int) ≤ i ∧ (i : Int) < 16 by omega), Int.toNat_natCast]
      have e : before.getD i 0 = (before.take K ++ b.take (sz x - K))[i]'(by omega) := by
        rw [getD_get (by omega), List.getElem_append_left (by rw [List.length_take, hbf]; omega)]
        simp
      simp only [cond_true, e, hset]
    · have e : idx b (IntKind.wrap .i64 ((i : Int) - (K : Int))) = some ((before.take K ++ b.take (sz x - K))[i]'(by omega)) := by
        rw [wi (by omega) (by omega), show (i : Int) - (K : Int) = ((i - K : Nat) : Int) by omega, idx_lt (by omega), List.getElem_append_right (by rw [List.length_take, hbf]; omega)]
        simp [hbf, Nat.min_eq_left (show K ≤ 16 by omega)]
      rw [decF (show ¬ (i : Int) < (K : Int) by omega), decT (show (0 : Int) ≤ i ∧ (i : Int) < 16 by omega), e, Int.toNat_natCast]
      simp only [cond_true, cond_false, Option.bind_some, hset]) (by
    unfold F_ref29_prefix_l1
    dsimp only
    rw [decF (by omega), List.take_of_length_le (by omega)]
    rfl)
  have hl' : loopO (F_ref29_prefix_l1 (sz x) K before b) (0, S_Prefix.mk [0, 0, 0, 0, 0, 0, 0, 0, 0, 0, 0, 0, 0, 0, 0, 0] x) = some (S_Prefix.mk (fillA (before.take K ++ b.take (sz x - K))) x) := hl
  rw [hl', Option.bind_some, show (sz x : Int) - (K : Int) = ((sz x - K : Nat) : Int) by omega]
theorem both_r {b : List Int} (hb : b.length ≤ 1000000) {x y k : Int} (hx : 0 ≤ x ∧ x ≤ 255) (hy : 0 ≤ y ∧ y ≤ 255) (hk : 0 ≤ k ∧ k ≤ 255) {before : List Int} (hbf : before.length = 16) :
    F_ref29_both b x y k before = some (if fits x y k b.length 0 then (S_Destination.mk (S_Prefix.mk (dstL before b x k 0) x) (S_Prefix.mk (srcL b x k 0) y) 0, true) else (t0, false)) := by
  unfold F_ref29_both
  rw [pre_r hb hx hk hbf, Option.bind_some]
  by_cases h1 : x ≤ 128 ∧ k ≤ sz x ∧ sz x - k.toNat ≤ b.length
  rotate_left
  · rw [if_neg h1, if_neg (show ¬ fits x y k b.length 0 by unfold fits; omega)]
    rfl
  rw [if_pos h1]
  simp only [cond_true]
  rw [subO_some (by omega) (by omega) (by omega), Option.bind_some, Int.toNat_natCast, Int.toNat_natCast, List.take_length]
  have hpre := pre_r (b := b.drop (sz x - k.toNat)) (by rw [List.length_drop]; omega) hy (k := 0) (by omega) (before := ad0) rfl
  have hpre' : F_ref29_prefix (b.drop (sz x - k.toNat)) y 0 [0, 0, 0, 0, 0, 0, 0, 0, 0, 0, 0, 0, 0, 0, 0, 0] = _ := hpre
  rw [hpre', Option.bind_some, List.length_drop]
  by_cases h2 : y ≤ 128 ∧ (0 : Int) ≤ sz y ∧ sz y - (0 : Int).toNat ≤ b.length - (sz x - k.toNat)
  rotate_left
  · rw [if_neg h2, if_neg (show ¬ fits x y k b.length 0 by unfold fits; intro h; exact h2 ⟨h.2.1, by omega, by have := h.2.2.2.2; omega⟩)]
    rfl
  rw [if_pos h2]
  simp only [cond_true]
  have z1 := sz_le hx.1 h1.1
  have z2 := sz_le hy.1 h2.1
  have t1 : sz y - (0 : Int).toNat = sz y := rfl
  rw [t1] at h2 ⊢
  rw [wi (by omega) (by omega)]
  by_cases h3 : ((sz x - k.toNat : Nat) : Int) + ((sz y : Nat) : Int) = (b.length : Int)
  rotate_left
  · rw [show (((sz x - k.toNat : Nat) : Int) + ((sz y : Nat) : Int) != (b.length : Int)) = true by simpa using h3, if_neg (show ¬ fits x y k b.length 0 by unfold fits; omega)]
    rfl
  rw [show (((sz x - k.toNat : Nat) : Int) + ((sz y : Nat) : Int) != (b.length : Int)) = false by simpa using h3, if_pos (show fits x y k b.length 0 by unfold fits; omega)]
  have t2 : (b.drop (sz x - k.toNat)).take (sz y) = b.drop (sz x - k.toNat) := List.take_of_length_le (by rw [List.length_drop]; omega)
  rw [t2]
  simp [dstL, srcL]
def okR (k : Int) (b : List Int) : Prop := (k = 1 ∧ b.length = 2) ∨ (k = 2 ∧ b.length = 10) ∨ (k = 3 ∧ 7 ≤ b.length) ∨ (k = 4 ∧ 2 ≤ b.length) ∨ (k = 5 ∧ 13 ≤ b.length)
instance (k : Int) (b : List Int) : Decidable (okR k b) := by unfold okR; infer_instance
noncomputable def stepR (k : Int) (body t : List Int) (out : List S_Notice) (r : Int) (d : List Int) : ((List Int) × (List S_Notice) × Int × List Int) ⊕ ((List S_Notice) ⊕ ((List S_Notice) × Bool)) :=
  if k = 6 ∧ body.length = 8 then .inl (t, out, numB body 0 8, d)
  else if okR k body ∧ (readS k body r d).2 = true then .inl (t, out ++ [(readS k body r d).1], r, nxD d (readS k body r d).1)
  else .inr (.inr ([], false))
theorem get_n {b : List Int} (h : okB b) (hb : b.length ≤ 255) (i n : Nat) (h8 : n ≤ 8) (hi : i + n ≤ b.length) : F_ref29_Get b i n = some (numB b i n) := by
  unfold numB
  rw [if_pos hi, get_some h (by omega) i n h8 hi]
theorem one_n {b : List Int} (i : Nat) (hi : i < b.length) : idx b (i : Int) = some (numB b i 1) := by
  unfold numB
  rw [if_pos (by omega), idx_lt hi, List.drop_eq_getElem_cons hi, List.take_succ_cons, List.take_zero, beN_one]
theorem both_n {b : List Int} (ob : okB b) (hb : b.length ≤ 255) (a : Nat) (ha : a ≤ b.length) {x y k : Int} (hx : 0 ≤ x ∧ x ≤ 255) (hy : 0 ≤ y ∧ y ≤ 255) (hk : 0 ≤ k ∧ k ≤ 255) {before : List Int} (hbf : before.length = 16) :
    F_ref29_both (b.drop a) x y k before = some (if fits x y k b.length a then (S_Destination.mk (S_Prefix.mk (dstL before b x k a) x) (S_Prefix.mk (srcL b x k a) y) 0, true) else (t0, false)) := by
  rw [both_r (by rw [List.length_drop]; omega) hx hy hk hbf, List.length_drop]
  by_cases h : fits x y k b.length a
  · rw [if_pos h, if_pos (show fits x y k (b.length - a) 0 by unfold fits at *; omega)]
    simp [dstL, srcL, List.drop_drop]
  · rw [if_neg h, if_neg (show ¬ fits x y k (b.length - a) 0 by unfold fits at *; omega)]
theorem sub_n {b : List Int} (a : Nat) (ha : a ≤ b.length) : subO b a (b.length : Int) = some (b.drop a) := by
  rw [subO_some (by omega) (by omega) (by omega)]
  simp
theorem dst_zero {before : List Int} (b : List Int) (x : Int) (a : Nat) : dstL before b x 0 a = dstL ad0 b x 0 a := by simp [dstL]
theorem stepr_p {k m : Int} {rest : List Int} (hm : 0 ≤ m ∧ m ≤ 255) (hl : m ≤ rest.length) (hr : rest.length ≤ 1000000) (ok : okB rest) (hk0 : 0 ≤ k ∧ k ≤ 255) {out : List S_Notice} (ho : out.length ≤ 1000000) (r : Int) {d : List Int} (hd : d.length = 16) :
    F_ref29_parse_l1 (k :: m :: rest, out, r, d) = some (stepR k (rest.take m.toNat) (rest.drop m.toNat) out r d) := by
  unfold F_ref29_parse_l1
  dsimp only
  have e0 : idx (k :: m :: rest) 0 = some k := rfl
  have e1 : idx (k :: m :: rest) 1 = some m := rfl
  have hbl : (rest.take m.toNat).length = m.toNat := by rw [List.length_take]; omega
  rw [decT (show ((k :: m :: rest).length : Int) > 0 by simp; omega), decF (show ¬ ((k :: m :: rest).length : Int) < 2 by simp; omega), e0, e1]
  simp only [cond_true, cond_false, Option.bind_some]
  rw [wi (x := m) (by omega) (by omega), wi (x := 2 + m) (by omega) (by omega), decF (show ¬ ((k :: m :: rest).length : Int) < 2 + m by simp; omega), subO_some (l := k :: m :: rest) (a := 2) (by omega) (by omega) (by simp; omega)]
  simp only [cond_false, Option.bind_some]
  have e2 : ((k :: m :: rest).take (2 + m).toNat).drop (2 : Int).toNat = rest.take m.toNat := by
    rw [show (2 + m).toNat = m.toNat + 1 + 1 by omega]
    simp
  rw [e2, subO_some (l := k :: m :: rest) (by omega) (by simp; omega) (by omega)]
  have e3 : ((k :: m :: rest).take (((k :: m :: rest).length : Nat) : Int).toNat).drop (2 + m).toNat = rest.drop m.toNat := by
    rw [Int.toNat_natCast, List.take_length, show (2 + m).toNat = m.toNat + 1 + 1 by omega]
    simp
  rw [e3, Option.bind_some, wi (x := k) (by omega) (by omega)]
  have okb : okB (rest.take m.toNat) := okB.take ok _
  have hb255 : (rest.take m.toNat).length ≤ 255 := by omega
  generalize rest.take m.toNat = B at *
  generalize rest.drop m.toNat = T at *
  have n1 := fun i => num_bd okb i 1
  have n2 := fun i => num_bd okb i 2
  have b1 : ∀ i, 0 ≤ numB B i 1 ∧ numB B i 1 ≤ 255 := fun i => by have := n1 i; omega
  have b2 : ∀ i, 0 ≤ numB B i 2 ∧ numB B i 2 ≤ 65535 := fun i => by have := n2 i; omega
  have g2 : ∀ i : Nat, i + 2 ≤ B.length → F_ref29_Get B i 2 = some (numB B i 2) := fun i hi => get_n okb hb255 i 2 (by omega) hi
  have g8 : ∀ i : Nat, i + 8 ≤ B.length → F_ref29_Get B i 8 = some (numB B i 8) := fun i hi => get_n okb hb255 i 8 (by omega) hi
  have w16 : ∀ i, IntKind.wrap .u16 (numB B i 2) = numB B i 2 := fun i => wu16 (b2 i).1 (by have := b2 i; omega)
  have w64 : ∀ i, IntKind.wrap .i64 (numB B i 2) = numB B i 2 := fun i => wi (by have := b2 i; omega) (by have := b2 i; omega)
  have w1 : ∀ i, IntKind.wrap .i64 (numB B i 1) = numB B i 1 := fun i => wi (by have := b1 i; omega) (by have := b1 i; omega)
  have ap : ∀ n : S_Notice, appO 96 out [n] = some (out ++ [n]) := fun n => appO_some (by simp; omega) (by simp; omega)
  by_cases k1 : k = 1
  · subst k1
    simp only [Int.reduceBEq, cond_true, cond_false]
    by_cases h2 : B.length = 2
    · have q := g2 0 (by omega)
      simp only [Int.natCast_zero] at q
      rw [show ((B.length : Int) == 2) = true by simp [h2], cond_true, q]
      unfold F_ref29_parse_j2 stepR
      rw [if_neg (show ¬ ((1 : Int) = 6 ∧ B.length = 8) by omega), if_pos ⟨.inl ⟨rfl, h2⟩, rfl⟩]
      simp only [Option.bind_some, cond_true, Cut.app, ap, w16, readS, if_true, nxD]
      rfl
    · rw [show ((B.length : Int) == 2) = false from beqF (by omega)]
      unfold stepR
      rw [if_neg (show ¬ ((1 : Int) = 6 ∧ B.length = 8) by omega), if_neg (by unfold okR; omega)]
      rfl
  by_cases k2 : k = 2
  · subst k2
    simp only [Int.reduceBEq, cond_true, cond_false]
    by_cases h2 : B.length = 10
    · have q := g8 0 (by omega)
      have q2 := g2 8 (by omega)
      simp only [Int.natCast_zero, show ((8 : Nat) : Int) = 8 from rfl] at q q2
      rw [show ((B.length : Int) == 10) = true by simp [h2], cond_true, q, Option.bind_some, q2]
      unfold F_ref29_parse_j2 stepR
      rw [if_neg (show ¬ ((2 : Int) = 6 ∧ B.length = 8) by omega), if_pos ⟨.inr (.inl ⟨rfl, h2⟩), rfl⟩]
      simp only [Option.bind_some, cond_true, Cut.app, ap, w64, readS, show ¬ ((2 : Int) = 1) by omega, show ¬ ((2 : Int) = 3) by omega, if_true, if_false, nxD]
      rfl
    · rw [show ((B.length : Int) == 10) = false from beqF (by omega)]
      unfold stepR
      rw [if_neg (show ¬ ((2 : Int) = 6 ∧ B.length = 8) by omega), if_neg (by unfold okR; omega)]
      rfl
  by_cases k3 : k = 3
  · subst k3
    simp only [Int.reduceBEq, cond_true, cond_false]
    by_cases h2 : 7 ≤ B.length
    · have q := g2 3 (by omega)
      have q2 := g2 5 (by omega)
      have s7 := sub_n (b := B) 7 (by omega)
      have o0 := one_n (b := B) 0 (by omega)
      have o1 := one_n (b := B) 1 (by omega)
      have o2 := one_n (b := B) 2 (by omega)
      simp only [Int.natCast_zero, show ((3 : Nat) : Int) = 3 from rfl, show ((5 : Nat) : Int) = 5 from rfl, show ((7 : Nat) : Int) = 7 from rfl, show ((1 : Nat) : Int) = 1 from rfl, show ((2 : Nat) : Int) = 2 from rfl] at q q2 s7 o0 o1 o2
      rw [decT (show (B.length : Int) ≥ 7 by omega), cond_true, q, Option.bind_some, q2, Option.bind_some, s7, Option.bind_some, o1, Option.bind_some, o2, Option.bind_some, o0, Option.bind_some, w1, w1, w1, both_n okb hb255 7 (by omega) (b1 1) (b1 2) (b1 0) hd, Option.bind_some]
      unfold F_ref29_parse_j2 stepR
      rw [if_neg (show ¬ ((3 : Int) = 6 ∧ B.length = 8) by omega)]
      simp only [readS, show ¬ ((3 : Int) = 1) by omega, show ¬ ((3 : Int) = 2) by omega, if_true, if_false, w16, w64]
      by_cases hf : fits (numB B 1 1) (numB B 2 1) (numB B 0 1) B.length 7
      · simp only [if_pos hf, cond_true, Cut.app, ap, Option.bind_some, nxD, if_true]
        rw [if_pos ⟨.inr (.inr (.inl ⟨rfl, h2⟩)), trivial⟩]
      · simp only [if_neg hf, cond_false]
        rw [if_neg (by simp)]
    · rw [decF (show ¬ (B.length : Int) ≥ 7 by omega)]
      unfold stepR
      rw [if_neg (show ¬ ((3 : Int) = 6 ∧ B.length = 8) by omega), if_neg (by unfold okR; omega)]
      rfl
  by_cases k4 : k = 4
  · subst k4
    simp only [Int.reduceBEq, cond_true, cond_false]
    by_cases h2 : 2 ≤ B.length
    · have s7 := sub_n (b := B) 2 (by omega)
      have o0 := one_n (b := B) 0 (by omega)
      have o1 := one_n (b := B) 1 (by omega)
      have hbo := both_n okb hb255 2 (by omega) (b1 0) (b1 1) (k := 0) (by omega) (before := ad0) rfl
      have hbo' : F_ref29_both (B.drop 2) (numB B 0 1) (numB B 1 1) 0 [0, 0, 0, 0, 0, 0, 0, 0, 0, 0, 0, 0, 0, 0, 0, 0] = _ := hbo
      simp only [Int.natCast_zero, show ((1 : Nat) : Int) = 1 from rfl, show ((2 : Nat) : Int) = 2 from rfl] at s7 o0 o1
      rw [decT (show (B.length : Int) ≥ 2 by omega), cond_true, s7, Option.bind_some, o0, Option.bind_some, o1, Option.bind_some, w1, w1, hbo', Option.bind_some]
      unfold F_ref29_parse_j2 stepR
      rw [if_neg (show ¬ ((4 : Int) = 6 ∧ B.length = 8) by omega)]
      simp only [readS, show ¬ ((4 : Int) = 1) by omega, show ¬ ((4 : Int) = 2) by omega, show ¬ ((4 : Int) = 3) by omega, if_true, if_false, dst_zero (before := d)]
      by_cases hf : fits (numB B 0 1) (numB B 1 1) 0 B.length 2
      · simp only [if_pos hf, cond_true, Cut.app, ap, Option.bind_some, nxD, show ¬ ((4 : Int) = 3) by omega, if_false]
        rw [if_pos ⟨.inr (.inr (.inr (.inl ⟨rfl, h2⟩))), trivial⟩]
      · simp only [if_neg hf, cond_false]
        rw [if_neg (by simp)]
    · rw [decF (show ¬ (B.length : Int) ≥ 2 by omega)]
      unfold stepR
      rw [if_neg (show ¬ ((4 : Int) = 6 ∧ B.length = 8) by omega), if_neg (by unfold okR; omega)]
      rfl
  by_cases k5 : k = 5
  · subst k5
    simp only [Int.reduceBEq, cond_true, cond_false]
    by_cases h2 : 13 ≤ B.length
    · have q := g2 2 (by omega)
      have q8 := g8 5 (by omega)
      have s7 := sub_n (b := B) 13 (by omega)
      have o0 := one_n (b := B) 0 (by omega)
      have o1 := one_n (b := B) 1 (by omega)
      have o4 := one_n (b := B) 4 (by omega)
      have hbo := both_n okb hb255 13 (by omega) (b1 0) (b1 1) (k := 0) (by omega) (before := ad0) rfl
      have hbo' : F_ref29_both (B.drop 13) (numB B 0 1) (numB B 1 1) 0 [0, 0, 0, 0, 0, 0, 0, 0, 0, 0, 0, 0, 0, 0, 0, 0] = _ := hbo
      simp only [Int.natCast_zero, show ((1 : Nat) : Int) = 1 from rfl, show ((2 : Nat) : Int) = 2 from rfl, show ((4 : Nat) : Int) = 4 from rfl, show ((5 : Nat) : Int) = 5 from rfl, show ((13 : Nat) : Int) = 13 from rfl] at q q8 s7 o0 o1 o4
      rw [decT (show (B.length : Int) ≥ 13 by omega), cond_true, q, Option.bind_some, o4, Option.bind_some, s7, Option.bind_some, o0, Option.bind_some, o1, Option.bind_some, w1, w1, w1, hbo', Option.bind_some, q8, Option.bind_some]
      unfold F_ref29_parse_j2 stepR
      rw [if_neg (show ¬ ((5 : Int) = 6 ∧ B.length = 8) by omega)]
      simp only [readS, show ¬ ((5 : Int) = 1) by omega, show ¬ ((5 : Int) = 2) by omega, show ¬ ((5 : Int) = 3) by omega, show ¬ ((5 : Int) = 4) by omega, if_true, if_false, dst_zero (before := d), w16]
      by_cases hf : fits (numB B 0 1) (numB B 1 1) 0 B.length 13
      · simp only [if_pos hf, cond_true, Cut.app, ap, Option.bind_some, nxD, show ¬ ((5 : Int) = 3) by omega, if_false]
        rw [if_pos ⟨.inr (.inr (.inr (.inr ⟨rfl, h2⟩))), trivial⟩]
      · simp only [if_neg hf, cond_false]
        rw [if_neg (by simp)]
    · rw [decF (show ¬ (B.length : Int) ≥ 13 by omega)]
      unfold stepR
      rw [if_neg (show ¬ ((5 : Int) = 6 ∧ B.length = 8) by omega), if_neg (by unfold okR; omega)]
      rfl
  by_cases k6 : k = 6
  · subst k6
    simp only [Int.reduceBEq, cond_true, cond_false]
    by_cases h2 : B.length = 8
    · have q8 := g8 0 (by omega)
      simp only [Int.natCast_zero] at q8
      rw [show ((B.length : Int) == 8) = true by simp [h2], cond_true, q8]
      unfold stepR
      rw [if_pos ⟨rfl, h2⟩]
      rfl
    · rw [show ((B.length : Int) == 8) = false from beqF (by omega)]
      unfold stepR
      rw [if_neg (show ¬ ((6 : Int) = 6 ∧ B.length = 8) by omega), if_neg (by unfold okR; omega)]
      rfl
  · rw [beqF k1, beqF k2, beqF k3, beqF k4, beqF k5, beqF k6]
    unfold stepR
    rw [if_neg (by omega), if_neg (by unfold okR; omega)]
    rfl
end
section
open Go.RowKit

theorem parse_tot_r {b : List Int} (ok : okB b) (hb : b.length ≤ 1000000) : (∃ l, F_ref29_parse b = some (l, true) ∧ ∀ n ∈ l, WfN n) ∨ F_ref29_parse b = some ([], false) := by
  unfold F_ref29_parse
  obtain ⟨r, e, hq⟩ := loop_inv (step := F_ref29_parse_l1) (fun s => okB s.1 ∧ s.1.length + s.2.1.length ≤ 1000000 ∧ (∀ n ∈ s.2.1, WfN n) ∧ s.2.2.2.length = 16 ∧ okB s.2.2.2 ∧ 0 ≤ s.2.2.1 ∧ s.2.2.1 ≤ 18446744073709551615) (fun r => (∃ l, r = .inl l ∧ ∀ n ∈ l, WfN n) ∨ r = .inr ([], false)) (fun s => s.1.length) (fun s ⟨i1, i2, i3, i4, i5, i6, i7⟩ => by
    obtain ⟨b, out, ro, d⟩ := s
    dsimp only at i1 i2 i3 i4 i5 i6 i7 ⊢
    match b, i1, i2 with
    | [], _, _ => exact .inr ⟨.inl out, rfl, .inl ⟨out, rfl, i3⟩⟩
    | [x], _, _ => exact .inr ⟨.inr ([], false), rfl, .inr rfl⟩
    | k :: m :: rest, i1, i2 =>
      have hm := i1 m (by simp)
      have hk := i1 k (by simp)
      simp only [List.length_cons] at i2
      by_cases hl : m ≤ rest.length
      rotate_left
      · right
        refine ⟨.inr ([], false), ?_, .inr rfl⟩
        unfold F_ref29_parse_l1
        dsimp only
        have e1 : idx (k :: m :: rest) 1 = some m := rfl
        rw [decT (show ((k :: m :: rest).length : Int) > 0 by simp; omega), decF (show ¬ ((k :: m :: rest).length : Int) < 2 by simp; omega), e1]
        simp only [cond_true, cond_false, Option.bind_some]
        rw [wi (x := m) (by omega) (by omega), wi (x := 2 + m) (by omega) (by omega), decT (show ((k :: m :: rest).length : Int) < 2 + m by simp; omega)]
        rfl
      have okr : okB rest := fun z hz => i1 z (by simp [hz])
      have okb : okB (rest.take m.toNat) := okB.take okr _
      rw [stepr_p hm hl (by omega) okr hk (by omega) ro i4]
      have hw := read_wf okb k ⟨i6, i7⟩ i4 i5
      have n8 := num_bd okb 0 8
      unfold stepR
      split
      · exact .inl ⟨_, rfl, ⟨okB.drop okr _, by dsimp only; rw [List.length_drop]; omega, i3, i4, i5, by dsimp only; omega, by dsimp only; omega⟩, by dsimp only; rw [List.length_drop]; simp; omega⟩
      · split
        · refine .inl ⟨_, rfl, ⟨okB.drop okr _, by dsimp only; rw [List.length_drop, List.length_append, List.length_singleton]; omega, ?_, nxD_len i4 hw, ?_, i6, i7⟩, by dsimp only; rw [List.length_drop]; simp; omega⟩
          · intro n hn
            rcases List.mem_append.1 hn with h | h
            · exact i3 n h
            · rw [List.mem_singleton.1 h]; exact hw
          · dsimp only
            unfold nxD
            split
            · exact hw.dst.2
            · exact i5
        · exact .inr ⟨_, rfl, .inr rfl⟩) (b, [], 0, ad0) ⟨ok, by simpa using hb, by simp, rfl, wfP0.2, by dsimp only; omega, by dsimp only; omega⟩
  have e' : loopO F_ref29_parse_l1 (b, ([] : List S_Notice), 0, [0, 0, 0, 0, 0, 0, 0, 0, 0, 0, 0, 0, 0, 0, 0, 0]) = some r := e
  rw [e']
  rcases hq with ⟨l, rfl, h⟩ | rfl
  · exact .inl ⟨l, rfl, h⟩
  · exact .inr rfl
theorem stepr_el {k : Int} {b t : List Int} (hb : b.length ≤ 255) (ht : t.length ≤ 900000) (ob : okB b) (ot : okB t) (hk : 0 ≤ k ∧ k ≤ 255) {out : List S_Notice} (ho : out.length ≤ 1000000) (r : Int) {d : List Int} (hd : d.length = 16) :
    F_ref29_parse_l1 (el k b ++ t, out, r, d) = some (stepR k b t out r d) := by
  have := stepr_p (k := k) (m := (b.length : Int)) (rest := b ++ t) (by omega) (by rw [List.length_append]; omega) (by rw [List.length_append]; omega) (okB.append ob ot) hk ho r hd
  rw [Int.toNat_natCast, List.take_left, List.drop_left] at this
  exact this
theorem bdN_okR (d : List Int) {n : S_Notice} (g : GoodN n) : okR n.Kind (bdN d n) := by
  unfold okR bdN
  cases g <;> simp [beB_len] <;> omega
theorem parse_encr : ∀ (l : List S_Notice) (out : List S_Notice) (r : Int) (d t : List Int), (∀ n ∈ l, GoodN n) → out.length + l.length ≤ 64 → d.length = 16 → t.length ≤ 100000 → okB t →
    loopO F_ref29_parse_l1 (encL r d l ++ t, out, r, d) = loopO F_ref29_parse_l1 (t, out ++ l, l.foldl nxR r, l.foldl nxD d)
  | [], out, r, d, t, _, _, _, _, _ => by simp [encL]
  | n :: l, out, r, d, t, g, hn, hd, ht, ot => by
    have gn := g n (by simp)
    have gl : ∀ m ∈ l, GoodN m := fun m hm => g m (by simp [hm])
    simp only [List.length_cons] at hn
    have ih := parse_encr l (out ++ [n]) (nxR r n) (nxD d n) t gl (by simp; omega) (nxD_len hd (good_wf gn)) ht ot
    have hlen := encL_len (nxR r n) (nxD d n) l gl
    have hT : (encL (nxR r n) (nxD d n) l ++ t).length ≤ 200000 := by rw [List.length_append]; omega
    have oT : okB (encL (nxR r n) (nxD d n) l ++ t) := okB.append (encL_ok l _ _ gl) ot
    have hbl := bdN_len d gn
    have hbo := bdN_ok d gn
    have hk : 0 ≤ n.Kind ∧ n.Kind ≤ 255 := by cases gn <;> simp
    have main : loopO F_ref29_parse_l1 (el n.Kind (bdN d n) ++ (encL (nxR r n) (nxD d n) l ++ t), out, nxR r n, d) = loopO F_ref29_parse_l1 (encL (nxR r n) (nxD d n) l ++ t, out ++ [n], nxR r n, nxD d n) := by
      refine loop_next ?_
      rw [stepr_el (by omega) (by omega) hbo oT hk (by omega) _ hd]
      have hk6 : ¬ n.Kind = 6 := by cases gn <;> simp
      have hr := read_good gn (r := nxR r n) (fun h => by unfold nxR; rw [if_pos h]) hd
      unfold stepR
      rw [if_neg (fun h => hk6 h.1), hr, if_pos ⟨bdN_okR d gn, rfl⟩]
    rw [encL, encN_eq r d gn, List.append_assoc, List.append_assoc]
    have fin : out ++ [n] ++ l = out ++ n :: l := by simp
    rw [fin] at ih
    by_cases h6 : n.Kind = 3 ∧ n.To.Router ≠ r
    · rw [if_pos h6]
      have hro := (good_wf gn).ro
      have hnr : nxR r n = n.To.Router := by unfold nxR; rw [if_pos h6.1]
      have first : loopO F_ref29_parse_l1 (el 6 (beB n.To.Router 8) ++ (el n.Kind (bdN d n) ++ (encL (nxR r n) (nxD d n) l ++ t)), out, r, d) = loopO F_ref29_parse_l1 (el n.Kind (bdN d n) ++ (encL (nxR r n) (nxD d n) l ++ t), out, nxR r n, d) := by
        refine loop_next ?_
        have oke : okB (el n.Kind (bdN d n)) := okB_cons hk (okB_cons (by omega) hbo)
        rw [stepr_el (k := 6) (b := beB n.To.Router 8) (by rw [beB_len]; omega) (by rw [List.length_append, el_len]; omega) (beB_ok _ _) (okB.append oke oT) (by omega) (by omega) r hd]
        unfold stepR
        rw [if_pos ⟨rfl, beB_len _ _⟩, num_eq (i := 0) (n := 8) (a := []) (v := beB n.To.Router 8) (c := []) (by simp) rfl (beB_len _ _), beN_v hro.1 (by omega), hnr]
      rw [first, main, ih]
      rfl
    · rw [if_neg h6, List.nil_append]
      have hnr : nxR r n = r := by
        unfold nxR
        split
        · rename_i h3
          have : ¬ n.To.Router ≠ r := fun h => h6 ⟨h3, h⟩
          simpa using this
        · rfl
      rw [hnr] at main ih ⊢
      rw [main, ih]
      rw [List.foldl_cons, List.foldl_cons, hnr]
theorem parse_backr {l : List S_Notice} (g : ∀ n ∈ l, GoodN n) (hl : l.length ≤ 64) : F_ref29_parse (encL 0 ad0 l) = some (l, true) := by
  unfold F_ref29_parse
  have h := parse_encr l [] 0 ad0 [] g (by simpa using hl) rfl (by simp) okB_nil
  rw [List.append_nil, List.nil_append] at h
  have h' : loopO F_ref29_parse_l1 (encL 0 ad0 l, ([] : List S_Notice), 0, [0, 0, 0, 0, 0, 0, 0, 0, 0, 0, 0, 0, 0, 0, 0, 0]) = some (.inl l) := by
    refine Eq.trans h (loop_done ?_)
    rfl
  rw [h']
  rfl
/-- the packet of this time and these notices -/
structure Pk (at_ : Int) (l : List S_Notice) : Prop where
  good : ∀ n ∈ l, GoodN n
  len : l.length ≤ 64
  lo : 0 ≤ at_
  hi : at_ < 1099511627776
theorem Pk.enc {at_ : Int} {l : List S_Notice} (h : Pk at_ l) : encS at_ l = (pk at_ l, 0) := by
  unfold encS
  have := h.len
  have := h.lo
  have := h.hi
  rw [if_neg (by omega), good_all h.good, if_neg (by simp), if_neg (by omega)]
theorem enc_pk {at_ : Int} {l : List S_Notice} (w : ∀ n ∈ l, WfN n) (h : (encS at_ l).2 = 0) : Pk at_ l := by
  unfold encS at h
  split at h
  · simp at h
  split at h
  · simp at h
  split at h
  · simp at h
  · rename_i h1 h2 h3
    exact ⟨all_good w (by simpa using h2), by omega, by omega, by omega⟩
theorem pk_ok {at_ : Int} {l : List S_Notice} (h : Pk at_ l) : okB (pk at_ l) := by
  unfold pk
  exact okB.append (okB.append (okB.append (okB_cons (by omega) (okB_one (by omega))) (beB_ok _ _)) (beB_ok _ _)) (encL_ok _ _ _ h.good)
theorem pk_small {at_ : Int} {l : List S_Notice} (h : Pk at_ l) : (pk at_ l).length ≤ 3273 ∧ 9 ≤ (pk at_ l).length := by
  have := encL_len 0 ad0 l h.good
  have := h.len
  rw [pk_len]
  omega
theorem pk_at {at_ : Int} {l : List S_Notice} (h : Pk at_ l) : beN (((pk at_ l).drop 2).take 5) = at_ := by
  have e : ((pk at_ l).drop 2).take 5 = beB at_ 5 := by
    have e0 : (pk at_ l).drop 2 = beB at_ 5 ++ (beB ((encL 0 ad0 l).length : Int) 2 ++ encL 0 ad0 l) := by
      unfold pk
      rw [List.append_assoc, List.append_assoc]
      rfl
    rw [e0, List.take_append_of_le_length (by rw [beB_len]; omega), List.take_of_length_le (by rw [beB_len]; omega)]
  rw [e, beN_v h.lo (by have := h.hi; omega)]
theorem pk_size {at_ : Int} {l : List S_Notice} (h : Pk at_ l) (t : List Int) : beN (((pk at_ l ++ t).drop 7).take 2) = ((encL 0 ad0 l).length : Int) := by
  have e : ((pk at_ l ++ t).drop 7).take 2 = beB ((encL 0 ad0 l).length : Int) 2 := by
    have h7 : ([42, 1] ++ beB at_ 5).length = 7 := by simp [beB_len]
    unfold pk
    rw [List.append_assoc, List.append_assoc, ← h7, List.drop_left, List.take_append_of_le_length (by rw [beB_len]; omega), List.take_of_length_le (by rw [beB_len]; omega)]
  have := encL_len 0 ad0 l h.good
  have := h.len
  rw [e, beN_v (by omega) (by omega)]
theorem pk_rest {at_ : Int} {l : List S_Notice} (t : List Int) : (pk at_ l ++ t).drop 9 = encL 0 ad0 l ++ t := by
  have h9 : ([42, 1] ++ beB at_ 5 ++ beB ((encL 0 ad0 l).length : Int) 2).length = 9 := by simp [beB_len]
  unfold pk
  rw [List.append_assoc, ← h9, List.drop_left]
def short (b : List Int) : Prop := b.length < 9 ∨ (b.length : Int) - 9 < beN ((b.drop 7).take 2)
theorem pk_not_short {at_ : Int} {l : List S_Notice} (h : Pk at_ l) : ¬ short (pk at_ l) := by
  have := pk_small h
  have hs := pk_size h []
  rw [List.append_nil] at hs
  unfold short
  rw [hs, pk_len]
  omega
theorem equal_spec {a b : List Int} (ha : okB a) (hb : okB b) : F_bytes_Equal a b = some (decide (a = b)) := by
  unfold F_bytes_Equal
  simp only [Cut.app]
  rw [u8L_beq ha hb]
theorem dec_p {b : List Int} (ok : okB b) (hb : b.length ≤ 1000000) : (short b → F_messages_Decode b = some (0, [], 4)) ∧
    (∀ at_ l, Pk at_ l → b = pk at_ l → F_messages_Decode b = some (at_, l, 0)) ∧
    (¬ short b → (¬ ∃ at_ l, Pk at_ l ∧ b = pk at_ l) → F_messages_Decode b = some (0, [], 5)) := by
  by_cases h9 : b.length < 9
  · have hs : short b := .inl h9
    refine ⟨fun _ => ?_, fun at_ l hp he => ?_, fun hn => absurd hs hn⟩
    · unfold F_messages_Decode
      rw [decT (show (b.length : Int) < 9 by omega)]
      rfl
    · rw [he] at hs
      exact absurd hs (pk_not_short hp)
  have u1 := uint_some ok (by omega) 2 5 (by omega) (by omega) (by omega)
  have u2 := uint_some ok (by omega) 7 2 (by omega) (by omega) (by omega)
  simp only [show ((2 : Nat) : Int) = 2 from rfl, show ((5 : Nat) : Int) = 5 from rfl, show ((7 : Nat) : Int) = 7 from rfl] at u1 u2
  have bd1 := beN_bd (l := (b.drop 2).take 5) (okB.take (okB.drop ok _) _)
  have bd2 := beN_bd (l := (b.drop 7).take 2) (okB.take (okB.drop ok _) _)
  rw [List.length_take, List.length_drop, Nat.min_eq_left (by omega)] at bd1 bd2
  have hsub := sub_n (b := b) 9 (by omega)
  simp only [show ((9 : Nat) : Int) = 9 from rfl] at hsub
  have base : F_messages_Decode b = (bif decide ((b.length : Int) - 9 < beN ((b.drop 7).take 2)) then some (0, [], 4) else (F_messages_parse (b.drop 9)).bind fun v6 => bif v6.2 then (F_messages_Encode (beN ((b.drop 2).take 5)) v6.1).bind fun v8 => bif v8.2 != 0 then some (0, [], 5) else (F_bytes_Equal v8.1 b).bind fun v10 => bif v10 then some (beN ((b.drop 2).take 5), v6.1, 0) else some (0, [], 5) else some (0, [], 5)) := by
    unfold F_messages_Decode
    rw [decF (show ¬ (b.length : Int) < 9 by omega), u1, u2, hsub]
    simp only [cond_false, Option.bind_some]
    rw [wi (x := (b.length : Int) - 9) (by omega) (by omega), wi (x := beN ((b.drop 7).take 2)) (by omega) (by omega), wi (x := beN ((b.drop 2).take 5)) (by omega) (by omega)]
  rw [base]
  by_cases hs2 : (b.length : Int) - 9 < beN ((b.drop 7).take 2)
  · have hs : short b := .inr hs2
    refine ⟨fun _ => ?_, fun at_ l hp he => ?_, fun hn => absurd hs hn⟩
    · rw [decT hs2]
      rfl
    · rw [he] at hs
      exact absurd hs (pk_not_short hp)
  have hns : ¬ short b := by unfold short; omega
  rw [decF hs2, cond_false]
  refine ⟨fun h => absurd h hns, fun at_ l hp he => ?_, fun _ hno => ?_⟩
  · have e9 := pk_rest (at_ := at_) (l := l) []
    rw [List.append_nil, List.append_nil, ← he] at e9
    have ea := pk_at hp
    rw [← he] at ea
    rw [e9, parse_back hp.good hp.len, ea]
    simp only [Option.bind_some, cond_true]
    rw [enc_p (fun n hn => good_wf (hp.good n hn)), hp.enc]
    simp only [Option.bind_some]
    rw [show ((0 : Int) != 0) = false from rfl, cond_false, equal_spec (pk_ok hp) ok, ← he]
    simp
  · rcases parse_tot (okB.drop ok 9) (by rw [List.length_drop]; omega) with ⟨l, e, w⟩ | e
    · rw [e]
      simp only [Option.bind_some, cond_true]
      rw [enc_p w, Option.bind_some]
      by_cases h0 : (encS (beN ((b.drop 2).take 5)) l).2 = 0
      · have hp := enc_pk w h0
        rw [hp.enc]
        simp only
        rw [show ((0 : Int) != 0) = false from rfl, cond_false, equal_spec (pk_ok hp) ok, decF (fun he => hno ⟨_, l, hp, he.symm⟩)]
        rfl
      · rw [show ((encS (beN ((b.drop 2).take 5)) l).2 != 0) = true by simpa using h0]
        rfl
    · rw [e]
      rfl
theorem dec_r {b : List Int} (ok : okB b) (hb : b.length ≤ 1000000) : (short b → F_ref29_Decode b = some (0, [], 4)) ∧
    (∀ at_ l, Pk at_ l → b = pk at_ l → F_ref29_Decode b = some (at_, l, 0)) ∧
    (¬ short b → (¬ ∃ at_ l, Pk at_ l ∧ b = pk at_ l) → F_ref29_Decode b = some (0, [], 5)) := by
  by_cases h9 : b.length < 9
  · have hs : short b := .inl h9
    refine ⟨fun _ => ?_, fun at_ l hp he => ?_, fun hn => absurd hs hn⟩
    · unfold F_ref29_Decode
      rw [decT (show (b.length : Int) < 9 by omega)]
      rfl
    · rw [he] at hs
      exact absurd hs (pk_not_short hp)
  have u1 := get_some ok (by omega) 2 5 (by omega) (by omega)
  have u2 := get_some ok (by omega) 7 2 (by omega) (by omega)
  simp only [show ((2 : Nat) : Int) = 2 from rfl, show ((5 : Nat) : Int) = 5 from rfl, show ((7 : Nat) : Int) = 7 from rfl] at u1 u2
  have bd1 := beN_bd (l := (b.drop 2).take 5) (okB.take (okB.drop ok _) _)
  have bd2 := beN_bd (l := (b.drop 7).take 2) (okB.take (okB.drop ok _) _)
  rw [List.length_take, List.length_drop, Nat.min_eq_left (by omega)] at bd1 bd2
  have hsub := sub_n (b := b) 9 (by omega)
  simp only [show ((9 : Nat) : Int) = 9 from rfl] at hsub
  have base : F_ref29_Decode b = (bif decide ((b.length : Int) - 9 < beN ((b.drop 7).take 2)) then some (0, [], 4) else (F_ref29_parse (b.drop 9)).bind fun v6 => bif v6.2 then (F_ref29_Encode (beN ((b.drop 2).take 5)) v6.1).bind fun v8 => bif v8.2 != 0 then some (0, [], 5) else bif (u8L v8.1 == u8L b) then some (beN ((b.drop 2).take 5), v6.1, 0) else some (0, [], 5) else some (0, [], 5)) := by
    unfold F_ref29_Decode
    rw [decF (show ¬ (b.length : Int) < 9 by omega), u1, u2, hsub]
    simp only [cond_false, Option.bind_some, Cut.app]
    rw [wi (x := (b.length : Int) - 9) (by omega) (by omega), wi (x := beN ((b.drop 7).take 2)) (by omega) (by omega), wi (x := beN ((b.drop 2).take 5)) (by omega) (by omega)]
  rw [base]
  by_cases hs2 : (b.length : Int) - 9 < beN ((b.drop 7).take 2)
  · have hs : short b := .inr hs2
    refine ⟨fun _ => ?_, fun at_ l hp he => ?_, fun hn => absurd hs hn⟩
    · rw [decT hs2]
      rfl
    · rw [he] at hs
      exact absurd hs (pk_not_short hp)
  have hns : ¬ short b := by unfold short; omega
  rw [decF hs2, cond_false]
  refine ⟨fun h => absurd h hns, fun at_ l hp he => ?_, fun _ hno => ?_⟩
  · have e9 := pk_rest (at_ := at_) (l := l) []
    rw [List.append_nil, List.append_nil, ← he] at e9
    have ea := pk_at hp
    rw [← he] at ea
    rw [e9, parse_backr hp.good hp.len, ea]
    simp only [Option.bind_some, cond_true]
    rw [enc_r (fun n hn => good_wf (hp.good n hn)), hp.enc]
    simp only [Option.bind_some]
    rw [show ((0 : Int) != 0) = false from rfl, cond_false, u8L_beq (pk_ok hp) ok, ← he]
    simp
  · rcases parse_tot_r (okB.drop ok 9) (by rw [List.length_drop]; omega) with ⟨l, e, w⟩ | e
    · rw [e]
      simp only [Option.bind_some, cond_true]
      rw [enc_r w, Option.bind_some]
      by_cases h0 : (encS (beN ((b.drop 2).take 5)) l).2 = 0
      · have hp := enc_pk w h0
        rw [hp.enc]
        simp only
        rw [show ((0 : Int) != 0) = false from rfl, cond_false, u8L_beq (pk_ok hp) ok, decF (fun he => hno ⟨_, l, hp, he.symm⟩)]
        rfl
      · rw [show ((encS (beN ((b.drop 2).take 5)) l).2 != 0) = true by simpa using h0]
        rfl
    · rw [e]
      rfl
end
section
open Go.RowKit

structure TapeOk (t : S_multihopmade_Tape) : Prop where
  at0 : 0 ≤ t.at_
  at1 : t.at_ ≤ t.l.length
  len : t.l.length ≤ 400
theorem new_spec (l : List Int) : ∃ t, F_made_New l = some t ∧ TapeOk t := by
  unfold F_made_New F_made_New_j1
  by_cases h : (l.length : Int) > 400
  · rw [decT h, subO_some (by omega) (by omega) (by omega)]
    exact ⟨_, rfl, by simp, by simp, by simp; omega⟩
  · rw [decF h]
    exact ⟨_, rfl, by simp, by simp, by simp; omega⟩
theorem rem_spec (x n : Int) (h1 : 1 ≤ n) (h2 : n ≤ 4611686018427387904) : -4611686018427387904 < Int.tmod x n ∧ Int.tmod x n < n ∧ -n < Int.tmod x n := by
  have a := Int.tmod_lt_of_pos x (show 0 < n by omega)
  have b := Int.lt_tmod_of_pos x (show 0 < n by omega)
  omega
theorem next_spec {t : S_multihopmade_Tape} (h : TapeOk t) (n : Int) (h1 : 1 ≤ n) (h2 : n ≤ 4611686018427387904) : ∃ v t', F_made_Tape_Next t n = some (v, t') ∧ 0 ≤ v ∧ v < n ∧ TapeOk t' := by
  unfold F_made_Tape_Next F_made_Tape_Next_j1
  have a0 := h.at0
  have a1 := h.at1
  have a2 := h.len
  by_cases hc : t.at_ ≥ (t.l.length : Int)
  · rw [decT hc]
    exact ⟨0, t, rfl, by omega, by omega, h⟩
  · rw [decF hc, idx_int a0 (by omega)]
    simp only [cond_false, Option.bind_some, show decide (n ≠ 0) = true by simp; omega, cond_true]
    obtain ⟨r1, r2, r3⟩ := rem_spec (t.l[t.at_.toNat]'(by omega)) n h1 h2
    generalize Int.tmod (t.l[t.at_.toNat]'(by omega)) n = q at *
    have ew : IntKind.wrap .i64 (t.at_ + 1) = t.at_ + 1 := wi (by omega) (by omega)
    have hok : TapeOk ⟨t.l, t.at_ + 1⟩ := ⟨by dsimp only; omega, by dsimp only; omega, h.len⟩
    rw [ew]
    by_cases hq : q < 0
    · rw [decT hq, wi (by omega) (by omega)]
      exact ⟨q + n, _, rfl, by omega, by omega, hok⟩
    · rw [decF hq]
      exact ⟨q, _, rfl, by omega, by omega, hok⟩
end
section
open Go.RowKit
theorem mod_spec (x n : Int) (h1 : 1 ≤ n) (h2 : n ≤ 4611686018427387904) : ∃ v, F_made_Mod x n = some v ∧ 0 ≤ v ∧ v < n := by
  unfold F_made_Mod F_made_Mod_j1
  obtain ⟨r1, r2, r3⟩ := rem_spec x n h1 h2
  generalize Int.tmod x n = q at *
  rw [show decide (n ≠ 0) = true by simp; omega]
  by_cases hq : q < 0
  · rw [decT hq, wi (by omega) (by omega)]
    exact ⟨q + n, rfl, by omega, by omega⟩
  · rw [decF hq]
    exact ⟨q, rfl, by omega, by omega⟩
end
section
open Go.RowKit

theorem bool_spec {t : S_multihopmade_Tape} (h : TapeOk t) (n : Int) (h1 : 1 ≤ n) (h2 : n ≤ 4611686018427387904) : ∃ v t', F_made_Tape_Bool t n = some (v, t') ∧ TapeOk t' := by
  unfold F_made_Tape_Bool
  obtain ⟨v, t', e, _, _, k⟩ := next_spec h n h1 h2
  rw [e]
  exact ⟨_, _, rfl, k⟩
end
section
open Go.RowKit

theorem word_spec {t : S_multihopmade_Tape} (h : TapeOk t) : ∃ v t', F_made_Tape_Word t = some (v, t') ∧ TapeOk t' := by
  unfold F_made_Tape_Word
  obtain ⟨v1, t1, e1, _, _, k1⟩ := next_spec h 65536 (by omega) (by omega)
  obtain ⟨v2, t2, e2, _, _, k2⟩ := next_spec k1 5 (by omega) (by omega)
  simp only [e1, e2, Option.bind_some]
  cases v2 == 0
  · cases v2 == 1
    · cases v2 == 2
      · cases v2 == 3
        · exact ⟨_, _, rfl, k2⟩
        · exact ⟨_, _, rfl, k2⟩
      · exact ⟨_, _, rfl, k2⟩
    · exact ⟨_, _, rfl, k2⟩
  · exact ⟨_, _, rfl, k2⟩
end
section
open Go.RowKit

theorem eui_spec {t : S_multihopmade_Tape} (h : TapeOk t) : ∃ v t', F_world_EUI t = some (v, t') ∧ 1 ≤ v ∧ v ≤ 5 ∧ TapeOk t' := by
  unfold F_world_EUI
  obtain ⟨v1, t1, e1, a1, b1, k1⟩ := next_spec h 5 (by omega) (by omega)
  rw [e1]
  simp only [Option.bind_some]
  rw [wi (by omega) (by omega), wu (by omega) (by omega)]
  exact ⟨_, t1, rfl, by omega, by omega, k1⟩
theorem ip_spec {t : S_multihopmade_Tape} (h : TapeOk t) : ∃ v t', F_world_IP t = some (v, t') ∧ v.length = 16 ∧ Bytes v ∧ TapeOk t' := by
  unfold F_world_IP F_world_IP_j1
  obtain ⟨v1, t1, e1, a1, b1, k1⟩ := next_spec h 2 (by omega) (by omega)
  obtain ⟨v2, t2, e2, a2, b2, k2⟩ := next_spec k1 2 (by omega) (by omega)
  obtain ⟨v3, t3, e3, a3, b3, k3⟩ := next_spec k2 6 (by omega) (by omega)
  obtain ⟨v4, t4, e4, k4⟩ := bool_spec k3 9 (by omega) (by omega)
  obtain ⟨v5, t5, e5, a5, b5, k5⟩ := next_spec k4 16 (by omega) (by omega)
  obtain ⟨v6, t6, e6, a6, b6, k6⟩ := next_spec k5 8 (by omega) (by omega)
  simp only [e1, Option.bind_some, e2, e3, e4, e5, e6]
  have w1 := wrap8_bd v1
  have w2 := wrap8_bd v2
  have w3 := wrap8_bd v3
  have hB : Bytes [32, 1, 13, 184, 0, IntKind.wrap .u8 v1, IntKind.wrap .u8 v2, 0, 0, 0, 0, 0, 0, 0, 0, IntKind.wrap .u8 v3] := by
    intro z hz
    simp only [List.mem_cons, List.not_mem_nil, or_false] at hz
    omega
  cases v4 with
  | false => exact ⟨_, t4, rfl, rfl, hB, k4⟩
  | true =>
    rw [decT (show (0 : Int) ≤ v5 ∧ v5 < 16 by omega), wu (x := v6) (by omega) (by omega), decT (show (0 : Int) ≤ v6 by omega)]
    refine ⟨_, t6, rfl, setA_len _ _ _ _, ?_, k6⟩
    rw [setA_set (n := 16) rfl]
    exact set_bytes hB _ (wrap8_bd _)
theorem or_bit0 : ∀ x : Fin 256, ∀ v : Fin 2, ∀ j : Fin 8, ∀ l : Fin 8, (l ≠ j → bit8 (ior .u8 ((x : Nat) : Int) (ishl .u8 ((v : Nat) : Int) (7 - ((j : Nat) : Int)))) l = bit8 ((x : Nat) : Int) l) := by decide +kernel
theorem or_bit {x v : Int} (hx : 0 ≤ x ∧ x ≤ 255) (hv : v = 0 ∨ v = 1) {j l : Nat} (hj : j < 8) (hl : l < 8) (h : l ≠ j) : bit8 (ior .u8 x (ishl .u8 v (7 - (j : Int)))) l = bit8 x l := by
  obtain ⟨x, rfl⟩ := byte_fin hx
  have := or_bit0 x
  rcases hv with rfl | rfl
  · exact this 0 ⟨j, hj⟩ ⟨l, hl⟩ (by intro e; exact h (by simpa using e))
  · exact this 1 ⟨j, hj⟩ ⟨l, hl⟩ (by intro e; exact h (by simpa using e))
theorem mask_good {a : List Int} (ha : Bytes a) (b : Int) : ∃ p, F_ref04_Mask a b = some p ∧ wfP p ∧ vpB p = true := by
  unfold F_ref04_Mask
  generalize hc : (if (128 : Int) < if b < 0 then 0 else b then 128 else if b < 0 then 0 else b) = c
  have hc0 : 0 ≤ c ∧ c ≤ 128 := by rw [← hc]; split <;> split at * <;> omega
  obtain ⟨r, e, hr⟩ := loop_inv (step := F_ref04_Mask_l1 b a) (fun s => 0 ≤ s.1 ∧ s.1 ≤ c ∧ wfP s.2 ∧ s.2.Bits = c ∧ ∀ k : Nat, k < 128 → s.1 ≤ (k : Int) → bitA s.2.IP k = 0) (fun p => wfP p ∧ vpB p = true) (fun s => (c - s.1).toNat) (by
    rintro ⟨i, p⟩ ⟨h0, h1, hp, hB, hz⟩
    dsimp only at h0 h1 hp hB hz
    unfold F_ref04_Mask_l1
    dsimp only
    rw [hc]
    by_cases hi : i < c
    · left
      obtain ⟨k, rfl⟩ : ∃ k : Nat, i = (k : Int) := ⟨i.toNat, by omega⟩
      rw [decT hi, quo8 k (by omega), sh7 k, bit_eq _ (by omega), wk k (by omega), decT (show (0 : Int) ≤ ((k / 8 : Nat) : Int) ∧ ((k / 8 : Nat) : Int) < 16 by omega), decT (show (0 : Int) ≤ 7 - ((k % 8 : Nat) : Int) by omega)]
      refine ⟨_, rfl, ⟨by dsimp only; omega, by dsimp only; omega, ⟨setA_len _ _ _ _, ?_⟩, hB, ?_⟩, by dsimp only; omega⟩
      · dsimp only
        rw [setA_set hp.1]
        exact set_bytes hp.2 _ (wrap8_bd _)
      · intro m hm hkm
        dsimp only at hkm ⊢
        have hold := hz m hm (by omega)
        have hv : bitA a k = 0 ∨ bitA a k = 1 := by unfold bitA; exact bit8_01 (getD_byte ha _) (by omega)
        generalize bitA a k = V at hv ⊢
        unfold bitA at hold ⊢
        rw [Int.toNat_natCast, setA_set hp.1]
        have hlen : m / 8 < p.IP.length := by rw [hp.1]; omega
        by_cases h8 : m / 8 = k / 8
        · have hg : (p.IP.set (k / 8) (ior .u8 (p.IP.getD (k / 8) 0) (ishl .u8 V (7 - ((k % 8 : Nat) : Int))))).getD (m / 8) 0 = ior .u8 (p.IP.getD (k / 8) 0) (ishl .u8 V (7 - ((k % 8 : Nat) : Int))) := by
            rw [h8, List.getD_eq_getElem?_getD, List.getElem?_set_self (by omega)]
            rfl
          rw [hg, or_bit (getD_byte hp.2 _) hv (by omega) (by omega) (by omega), ← h8]
          exact hold
        · have hg : ∀ v, (p.IP.set (k / 8) v).getD (m / 8) 0 = p.IP.getD (m / 8) 0 := fun v => by
            rw [List.getD_eq_getElem?_getD, List.getElem?_set_ne (by omega), List.getD_eq_getElem?_getD]
          rw [hg]
          exact hold
    · right
      rw [decF hi]
      exact ⟨p, rfl, hp, vpB_iff.2 ⟨by omega, by omega, fun k hk hbk => hz k hk (by omega)⟩⟩) (0, S_Prefix.mk [0, 0, 0, 0, 0, 0, 0, 0, 0, 0, 0, 0, 0, 0, 0, 0] c) ⟨by dsimp only; omega, by dsimp only; omega, ⟨rfl, zero_bytes 16⟩, rfl, fun k hk _ => by
        unfold bitA
        have : ([0, 0, 0, 0, 0, 0, 0, 0, 0, 0, 0, 0, 0, 0, 0, 0] : List Int).getD (k / 8) 0 = 0 := ad0_get _
        dsimp only
        rw [this]
        have key : ∀ j : Fin 8, bit8 0 j = 0 := by decide +kernel
        exact key ⟨k % 8, by omega⟩⟩
  rw [e]
  exact ⟨r, rfl, hr⟩
theorem vp0 : vpB p0 = true := vpB_iff.2 ⟨by decide, by decide, by decide +kernel⟩
theorem seq_spec {t : S_multihopmade_Tape} (h : TapeOk t) : ∃ v t', F_world_Seq t = some (v, t') ∧ (0 ≤ v ∧ v ≤ 65535) ∧ TapeOk t' := by
  unfold F_world_Seq
  obtain ⟨v1, t1, e1, a1, b1, k1⟩ := next_spec h 6 (by omega) (by omega)
  rw [e1]
  refine ⟨_, t1, rfl, ?_, k1⟩
  rw [wrap16]
  omega
theorem cost_spec {t : S_multihopmade_Tape} (h : TapeOk t) : ∃ v t', F_world_Cost t = some (v, t') ∧ (0 ≤ v ∧ v ≤ 65535) ∧ TapeOk t' := by
  unfold F_world_Cost
  obtain ⟨v1, t1, e1, a1, b1, k1⟩ := next_spec h 6 (by omega) (by omega)
  obtain ⟨v2, t2, e2, a2, b2, k2⟩ := next_spec k1 4 (by omega) (by omega)
  obtain ⟨v3, t3, e3, a3, b3, k3⟩ := next_spec k1 600 (by omega) (by omega)
  obtain ⟨v4, t4, e4, a4, b4, k4⟩ := next_spec k1 30 (by omega) (by omega)
  simp only [e1, e2, e3, e4, Option.bind_some]
  cases v1 == 0
  · cases v1 == 1
    · refine ⟨_, t4, rfl, ?_, k4⟩
      rw [wi (x := 32 * v4) (by omega) (by omega), wi (by omega) (by omega)]
      omega
    · refine ⟨_, t3, rfl, ?_, k3⟩
      rw [wi (by omega) (by omega)]
      omega
  · exact ⟨_, t2, rfl, by omega, k2⟩
theorem prefix_spec {t : S_multihopmade_Tape} (h : TapeOk t) : ∃ p t', F_world_Prefix t = some (p, t') ∧ (wfP p ∧ vpB p = true) ∧ TapeOk t' := by
  unfold F_world_Prefix F_world_Prefix_j1
  obtain ⟨v1, t1, e1, a1, b1, k1⟩ := next_spec h 10 (by omega) (by omega)
  obtain ⟨v2, t2, e2, k2⟩ := bool_spec k1 7 (by omega) (by omega)
  have hi : idx ([128, 128, 64, 56, 48, 32, 0, 127, 3, 60] : List Int) v1 = some (([128, 128, 64, 56, 48, 32, 0, 127, 3, 60] : List Int)[v1.toNat]'(by simp; omega)) := idx_int a1 (by simpa using b1)
  rw [e1, Option.bind_some, hi, Option.bind_some, e2, Option.bind_some]
  cases v2
  · obtain ⟨ip, t3, e3, l3, B3, k3⟩ := ip_spec k2
    obtain ⟨p, e4, w4⟩ := mask_good B3 (([128, 128, 64, 56, 48, 32, 0, 127, 3, 60] : List Int)[v1.toNat]'(by simp; omega))
    simp only [cond_false, e3, Option.bind_some, e4]
    exact ⟨_, _, rfl, w4, k3⟩
  · obtain ⟨v5, t5, e5, a5, b5, k5⟩ := next_spec k2 129 (by omega) (by omega)
    obtain ⟨ip, t3, e3, l3, B3, k3⟩ := ip_spec k5
    obtain ⟨p, e4, w4⟩ := mask_good B3 v5
    simp only [cond_true, e5, e3, Option.bind_some, e4]
    exact ⟨_, _, rfl, w4, k3⟩
theorem to_spec {t : S_multihopmade_Tape} (h : TapeOk t) : ∃ d t', F_world_To t = some (d, t') ∧ (wfP d.Dst ∧ wfP d.Src ∧ vpB d.Dst = true ∧ vpB d.Src = true ∧ 1 ≤ d.Router ∧ d.Router ≤ 5) ∧ TapeOk t' := by
  unfold F_world_To F_world_To_j1
  obtain ⟨ip, t1, e1, l1, B1, k1⟩ := ip_spec h
  obtain ⟨v2, t2, e2, a2, b2, k2⟩ := next_spec k1 4 (by omega) (by omega)
  have hi : idx ([128, 128, 64, 0] : List Int) v2 = some (([128, 128, 64, 0] : List Int)[v2.toNat]'(by simp; omega)) := idx_int a2 (by simpa using b2)
  obtain ⟨p, e3, w3, v3⟩ := mask_good B1 (([128, 128, 64, 0] : List Int)[v2.toNat]'(by simp; omega))
  obtain ⟨u, t4, e4, a4, b4, k4⟩ := eui_spec k2
  obtain ⟨v5, t5, e5, k5⟩ := bool_spec k4 3 (by omega) (by omega)
  rw [e1, Option.bind_some, e2, Option.bind_some, hi, Option.bind_some, e3, Option.bind_some, e4, Option.bind_some, e5, Option.bind_some]
  cases v5
  · exact ⟨_, _, rfl, ⟨w3, wfP0, v3, vp0, a4, b4⟩, k5⟩
  · obtain ⟨q, t6, e6, ⟨w6, v6⟩, k6⟩ := prefix_spec k5
    simp only [cond_true, e6, Option.bind_some]
    exact ⟨_, _, rfl, ⟨w3, w6, v3, v6, a4, b4⟩, k6⟩
theorem or_one (x : Int) : 0 ≤ ior .u64 x 1 ∧ ior .u64 x 1 ≤ 18446744073709551615 ∧ ior .u64 x 1 ≠ 0 := by
  unfold ior
  rw [wrap64]
  refine ⟨by omega, by omega, ?_⟩
  have h1 : (BitVec.ofInt IntKind.u64.bits x ||| BitVec.ofInt IntKind.u64.bits 1).toNat < 2 ^ 64 := BitVec.isLt _
  have h2 : (BitVec.ofInt IntKind.u64.bits x ||| BitVec.ofInt IntKind.u64.bits 1).toNat ≠ 0 := by
    intro h
    have h3 : (BitVec.ofInt IntKind.u64.bits x ||| BitVec.ofInt IntKind.u64.bits 1) = 0 := BitVec.eq_of_toNat_eq (by simpa using h)
    have h4 : (BitVec.ofInt IntKind.u64.bits x ||| BitVec.ofInt IntKind.u64.bits 1).getLsbD 0 = false := by rw [h3]; simp
    rw [BitVec.getLsbD_or] at h4
    have h5 : (BitVec.ofInt IntKind.u64.bits 1).getLsbD 0 = true := by decide
    rw [h5, Bool.or_true] at h4
    cases h4
  omega
theorem notice_spec {t : S_multihopmade_Tape} (h : TapeOk t) : ∃ n t', F_world_Notice t = some (n, t') ∧ GoodN n ∧ TapeOk t' := by
  unfold F_world_Notice F_world_Notice_j1
  obtain ⟨v1, t1, e1, a1, b1, k1⟩ := next_spec h 5 (by omega) (by omega)
  rw [e1, Option.bind_some]
  dsimp only
  rw [wi (x := 1 + v1) (by omega) (by omega)]
  have hv : v1 = 0 ∨ v1 = 1 ∨ v1 = 2 ∨ v1 = 3 ∨ v1 = 4 := by omega
  rcases hv with rfl | rfl | rfl | rfl | rfl
  · simp only [Int.reduceAdd, Int.reduceBEq, cond_true]
    obtain ⟨s, t2, e2, hs, k2⟩ := seq_spec k1
    rw [e2, Option.bind_some]
    exact ⟨_, _, rfl, .hello _ hs, k2⟩
  · simp only [Int.reduceAdd, Int.reduceBEq, cond_true, cond_false]
    obtain ⟨u, t2, e2, a2, b2, k2⟩ := eui_spec k1
    obtain ⟨m, t3, e3, hm, k3⟩ := cost_spec k2
    obtain ⟨v4, t4, e4, k4⟩ := bool_spec k3 5 (by omega) (by omega)
    rw [e2, Option.bind_some, e3, Option.bind_some, e4, Option.bind_some]
    cases v4
    · exact ⟨_, _, rfl, .heard _ _ hm (by dsimp only; omega) (by dsimp only; omega), k4⟩
    · obtain ⟨w, t5, e5, k5⟩ := word_spec k4
      simp only [cond_true, e5, Option.bind_some]
      have ho := or_one w
      exact ⟨_, _, rfl, .heard _ _ hm ⟨ho.1, ho.2.1⟩ ho.2.2, k5⟩
  · simp only [Int.reduceAdd, Int.reduceBEq, cond_true, cond_false]
    obtain ⟨⟨d, c, r⟩, t2, e2, ⟨w1, w2, u1, u2, r1, r5⟩, k2⟩ := to_spec k1
    obtain ⟨s, t3, e3, hs, k3⟩ := seq_spec k2
    obtain ⟨m, t4, e4, hm, k4⟩ := cost_spec k3
    obtain ⟨v5, t5, e5, k5⟩ := bool_spec k4 5 (by omega) (by omega)
    rw [e2, Option.bind_some, e3, Option.bind_some, e4, Option.bind_some, e5, Option.bind_some]
    dsimp only at w1 w2 u1 u2 r1 r5
    cases v5
    · exact ⟨_, _, rfl, .update _ _ _ _ _ hs hm w1 w2 u1 u2 (by omega) (by omega), k5⟩
    · exact ⟨_, _, rfl, .update _ _ _ _ _ hs (by omega) w1 w2 u1 u2 (by omega) (by omega), k5⟩
  · simp only [Int.reduceAdd, Int.reduceBEq, cond_true, cond_false]
    obtain ⟨⟨d, c, r⟩, t2, e2, ⟨w1, w2, u1, u2, r1, r5⟩, k2⟩ := to_spec k1
    obtain ⟨v5, t5, e5, k5⟩ := bool_spec k2 3 (by omega) (by omega)
    rw [e2, Option.bind_some, e5, Option.bind_some]
    dsimp only at w1 w2 u1 u2 r1 r5
    cases v5
    · exact ⟨_, _, rfl, .route _ _ w1 w2 u1 u2, k5⟩
    · exact ⟨_, _, rfl, .route p0 p0 wfP0 wfP0 vp0 vp0, k5⟩
  · simp only [Int.reduceAdd, Int.reduceBEq, cond_true, cond_false]
    obtain ⟨⟨d, c, r⟩, t2, e2, ⟨w1, w2, u1, u2, r1, r5⟩, k2⟩ := to_spec k1
    obtain ⟨s, t3, e3, hs, k3⟩ := seq_spec k2
    obtain ⟨v4, t4, e4, a4, b4, k4⟩ := next_spec k3 32 (by omega) (by omega)
    rw [e2, Option.bind_some, e3, Option.bind_some, e4, Option.bind_some]
    dsimp only at w1 w2 u1 u2 r1 r5
    rw [wi (by dsimp only; omega) (by dsimp only; omega)]
    exact ⟨_, _, rfl, .seqr _ _ _ _ _ hs (by dsimp only; omega) w1 w2 u1 u2 (by omega) (by omega), k4⟩
theorem notices_spec {t : S_multihopmade_Tape} (h : TapeOk t) {n : Int} (n0 : 0 ≤ n) (n1 : n ≤ 60) : ∃ l t', F_world_Notices t n = some (l, t') ∧ (∀ x ∈ l, GoodN x) ∧ (l.length : Int) ≤ n ∧ TapeOk t' := by
  unfold F_world_Notices
  rw [wi (x := n + 1) (by omega) (by omega)]
  obtain ⟨v1, t1, e1, a1, b1, k1⟩ := next_spec h (n + 1) (by omega) (by omega)
  rw [e1, Option.bind_some]
  obtain ⟨b, e2, g2, l2, k2⟩ := loop_inv (step := F_world_Notices_l1) (fun s => 0 ≤ s.2.1 ∧ (s.1.length : Int) + s.2.1 ≤ n ∧ (∀ x ∈ s.1, GoodN x) ∧ TapeOk s.2.2) (fun r => (∀ x ∈ r.1, GoodN x) ∧ (r.1.length : Int) ≤ n ∧ TapeOk r.2) (fun s => s.2.1.toNat) (fun s ⟨i0, i1, hg, ht⟩ => by
    unfold F_world_Notices_l1
    by_cases hi : s.2.1 > 0
    · left
      obtain ⟨x, t2, e3, gx, k3⟩ := notice_spec ht
      rw [decT hi, cond_true, e3, Option.bind_some]
      simp only [Cut.app]
      rw [appO_some (by simp; omega) (by simp; omega), Option.bind_some, wi (by omega) (by omega)]
      refine ⟨_, rfl, ⟨by dsimp only; omega, by dsimp only; simp; omega, ?_, k3⟩, by dsimp only; omega⟩
      intro y hy
      rcases List.mem_append.1 hy with h | h
      · exact hg y h
      · rw [List.mem_singleton.1 h]; exact gx
    · right
      rw [decF hi]
      exact ⟨_, rfl, hg, by dsimp only; omega, ht⟩) ([], v1, t1) ⟨by dsimp only; omega, by dsimp only; simp; omega, by simp, k1⟩
  have e2' : loopO F_world_Notices_l1 (([] : List S_Notice), (v1, t1).1, (v1, t1).2) = some b := e2
  rw [e2', Option.bind_some]
  exact ⟨_, _, rfl, g2, l2, k2⟩
end
section
open Go.RowKit

def hi1 : S_Notice := S_Notice.mk 1 258 0 0 t0 0
theorem hi1_pk : Pk 7 [hi1] := ⟨fun n hn => by rw [List.mem_singleton.1 hn]; exact .hello _ (by omega), by simp, by omega, by omega⟩
theorem known_true : F_law29_known = some true := by
  unfold F_law29_known
  have hw : ∀ n ∈ [hi1], WfN n := fun n hn => good_wf (hi1_pk.good n hn)
  have e1 : F_messages_Encode 7 [S_Notice.mk 1 258 0 0 (S_Destination.mk (S_Prefix.mk [0, 0, 0, 0, 0, 0, 0, 0, 0, 0, 0, 0, 0, 0, 0, 0] 0) (S_Prefix.mk [0, 0, 0, 0, 0, 0, 0, 0, 0, 0, 0, 0, 0, 0, 0, 0] 0) 0) 0] = some (pk 7 [hi1], 0) := by
    have := enc_p hw 7
    rw [hi1_pk.enc] at this
    exact this
  rw [e1, Option.bind_some]
  have hs := pk_small hi1_pk
  have e2 := (dec_p (pk_ok hi1_pk) (by omega)).2.1 7 [hi1] hi1_pk rfl
  simp only [e2, Option.bind_some, BEq.rfl, cond_true]
  have e3 : pk 7 [hi1] = [42, 1, 0, 0, 0, 0, 7, 0, 4, 1, 2, 1, 2] := by decide
  rw [e3]
  rfl
theorem equal_l {l m : List S_Notice} (w : ∀ n ∈ l, WfN n) (h : l = m) (hl : l.length ≤ 1000000) : F_slices_Equal_api_Notice_api_Notice l m = some true := by
  subst h
  unfold F_slices_Equal_api_Notice_api_Notice
  rw [bne_self_eq_false, cond_false]
  have hl := loop_run (step := F_slices_Equal_api_Notice_api_Notice_l1 l l) (S := fun k => (k : Int)) l.length (r := Sum.inl ()) (fun k hk => by
    unfold F_slices_Equal_api_Notice_api_Notice_l1
    rw [decT (by omega), idx_lt hk]
    simp only [cond_true, Option.bind_some, eqb_rfl _ (w _ (List.getElem_mem hk)), wk k (by omega)]) (by
    unfold F_slices_Equal_api_Notice_api_Notice_l1
    rw [decF (by omega)]
    rfl)
  simp only [Int.natCast_zero] at hl
  rw [hl]
  rfl
theorem good_wfs {l : List S_Notice} (g : ∀ n ∈ l, GoodN n) : ∀ n ∈ l, WfN n := fun n hn => good_wf (g n hn)
theorem decodes_true {b : List Int} (ok : okB b) (hb : b.length ≤ 1000000) : F_law29_decodes b = some true := by
  unfold F_law29_decodes
  obtain ⟨p1, p2, p3⟩ := dec_p ok hb
  obtain ⟨r1, r2, r3⟩ := dec_r ok hb
  by_cases hs : short b
  · rw [p1 hs, r1 hs]
    simp only [Option.bind_some, BEq.rfl, cond_true]
    rw [equal_l (l := []) (by simp) rfl (by simp)]
    rfl
  · by_cases hx : ∃ at_ l, Pk at_ l ∧ b = pk at_ l
    · obtain ⟨at_, l, hp, he⟩ := hx
      rw [p2 at_ l hp he, r2 at_ l hp he]
      simp only [Option.bind_some, BEq.rfl, cond_true]
      have := hp.len
      rw [equal_l (good_wfs hp.good) rfl (by omega)]
      rfl
    · rw [p3 hs hx, r3 hs hx]
      simp only [Option.bind_some, BEq.rfl, cond_true]
      rw [equal_l (l := []) (by simp) rfl (by simp)]
      rfl
theorem clone_R {b : List Int} (h : b.length ≤ 1000000) : F_slices_Clone_byte_byte_R b = some b := by
  unfold F_slices_Clone_byte_byte_R
  simp only [Cut.app]
  rw [List.take_nil, appb (by simp) (by omega)]
  rfl
theorem concat_spec {a b : List Int} (ha : a.length ≤ 100000) (hb : b.length ≤ 100000) (h1 : 1 ≤ a.length) : F_slices_Concat_byte_byte [a, b] = some (a ++ b) := by
  unfold F_slices_Concat_byte_byte
  have h := loop_run (step := F_slices_Concat_byte_byte_l1 [a, b]) (S := fun k => (if k = 0 then 0 else if k = 1 then (a.length : Int) else ((a.length + b.length : Nat) : Int), (k : Int))) 2 (r := ((a.length + b.length : Nat) : Int)) (fun k hk => by
    have : k = 0 ∨ k = 1 := by omega
    rcases this with rfl | rfl
    · unfold F_slices_Concat_byte_byte_l1
      have e : idx ([a, b] : List (List Int)) ((0 : Nat) : Int) = some a := rfl
      dsimp only
      rw [decT (by simp), e]
      simp only [cond_true, Option.bind_some, if_true, Int.zero_add]
      rw [wi (by omega) (by omega), decF (by omega)]
      rfl
    · unfold F_slices_Concat_byte_byte_l1
      have e : idx ([a, b] : List (List Int)) ((1 : Nat) : Int) = some b := rfl
      dsimp only
      rw [decT (by simp), e]
      simp only [cond_true, Option.bind_some, if_true, show ¬ (1 = 0) by omega, if_false]
      rw [wi (by omega) (by omega), decF (by omega)]
      simp only [cond_false, show ¬ (1 + 1 = 0) by omega, show ¬ (1 + 1 = 1) by omega, if_false]
      rw [show (a.length : Int) + (b.length : Int) = ((a.length + b.length : Nat) : Int) by omega]
      rfl) (by
    unfold F_slices_Concat_byte_byte_l1
    dsimp only
    rw [decF (by simp)]
    rfl)
  have h' : loopO (F_slices_Concat_byte_byte_l1 [a, b]) (0, 0) = some ((a.length + b.length : Nat) : Int) := h
  rw [h', Option.bind_some, decF (by omega), cond_false, show (0 : Int) - 0 = 0 from rfl, wi (x := 0) (by omega) (by omega), Int.sub_zero, wi (by omega) (by omega), decT (by omega), cond_true]
  have hz : ∃ z, appZO 1 ([] : List Int) (0 : Int) ((a.length + b.length : Nat) : Int) = some z := by
    unfold appZO
    rw [if_pos (by simp; omega)]
    exact ⟨_, appb (by simp) (by simp; omega)⟩
  obtain ⟨z, hz⟩ := hz
  rw [hz, Option.bind_some, decT (by omega), cond_true, show Int.toNat 0 = 0 from rfl, List.take_zero]
  unfold F_slices_Concat_byte_byte_j2
  have h2 := loop_run (step := F_slices_Concat_byte_byte_l3 [a, b]) (S := fun k => ((k : Int), if k = 0 then [] else if k = 1 then a else a ++ b)) 2 (r := a ++ b) (fun k hk => by
    have : k = 0 ∨ k = 1 := by omega
    rcases this with rfl | rfl
    · unfold F_slices_Concat_byte_byte_l3
      have e : idx ([a, b] : List (List Int)) ((0 : Nat) : Int) = some a := rfl
      dsimp only
      rw [decT (by simp), e]
      simp only [cond_true, Option.bind_some, if_true, Cut.app, List.take_nil]
      rw [appb (by simp) (by omega)]
      rfl
    · unfold F_slices_Concat_byte_byte_l3
      have e : idx ([a, b] : List (List Int)) ((1 : Nat) : Int) = some b := rfl
      dsimp only
      rw [decT (by simp), e]
      simp only [cond_true, Option.bind_some, if_true, Cut.app, show ¬ (1 = 0) by omega, if_false, List.take_length]
      rw [appb (by omega) (by omega)]
      rfl) (by
    unfold F_slices_Concat_byte_byte_l3
    dsimp only
    rw [decF (by simp)]
    rfl)
  have h2' : loopO (F_slices_Concat_byte_byte_l3 [a, b]) (0, []) = some (a ++ b) := h2
  rw [h2']
  rfl
theorem head9 (n : Nat) : okB [42, 1, 0, 0, 0, 0, 9, IntKind.wrap .u8 (ishr .i64 (n : Int) 8), IntKind.wrap .u8 (n : Int)] := by
  have h1 := wrap8_bd (ishr .i64 (n : Int) 8)
  have h2 := wrap8_bd (n : Int)
  intro z hz
  simp only [List.mem_cons, List.not_mem_nil, or_false] at hz
  omega
theorem ixor8_bd (x y : Int) : 0 ≤ ixor .u8 x y ∧ ixor .u8 x y ≤ 255 := by unfold ixor; exact wrap8_bd _
theorem decode_law {raw : List Int} (ok : okB raw) (t : List Int) (at_ : Int) {by_ : Int} : F_law29_MessagesDecode raw t at_ by_ = some true := by
  unfold F_law29_MessagesDecode
  by_cases h : (raw.length : Int) > 2000
  · rw [decT h, cond_true, known_true]
    rfl
  rw [decF h, cond_false]
  obtain ⟨k, e1, k1⟩ := new_spec t
  obtain ⟨a, t1, e2, a0, a1, k2⟩ := next_spec k1 1000 (by omega) (by omega)
  obtain ⟨l, t2, e3, g2, l2, k3⟩ := notices_spec k2 (n := 8) (by omega) (by omega)
  have hp : Pk a l := ⟨g2, by omega, a0, by omega⟩
  have hs := pk_small hp
  have okp := pk_ok hp
  obtain ⟨q, e5, q0, q1⟩ := mod_spec at_ ((pk a l).length : Int) (by omega) (by omega)
  obtain ⟨Q, rfl⟩ : ∃ Q : Nat, q = (Q : Int) := ⟨q.toNat, by omega⟩
  have hQ : Q < (pk a l).length := by omega
  obtain ⟨v, t4, e4, v0, v1, k4⟩ := next_spec k3 12 (by omega) (by omega)
  rw [e1, Option.bind_some, e2, Option.bind_some, e3, Option.bind_some, enc_r (good_wfs g2), hp.enc, Option.bind_some]
  dsimp only
  have eg : (pk a l)[0 + Int.toNat (Q : Int)]? = some ((pk a l)[Q]) := by
    rw [Int.toNat_natCast, Nat.zero_add]
    exact List.getElem?_eq_getElem hQ
  simp only [clone_R (b := pk a l) (by omega), Option.bind_some, e5, e4, Cut.app, idx_lt hQ, eg]
  rw [concat_spec (by simp) (by omega) (by simp), Option.bind_some]
  have okc : okB ([42, 1, 0, 0, 0, 0, 9, IntKind.wrap .u8 (ishr .i64 (raw.length : Int) 8), IntKind.wrap .u8 (raw.length : Int)] ++ raw) := okB.append (head9 _) ok
  rw [decodes_true ok (by omega), Option.bind_some, cond_true, decodes_true okp (by omega), Option.bind_some, cond_true, decodes_true (okB.set okp _ (ixor8_bd _ _)) (by rw [List.length_set]; omega), Option.bind_some, cond_true, decodes_true (okB.set okp _ (wrap8_bd _)) (by rw [List.length_set]; omega), Option.bind_some, cond_true, decodes_true okc (by simp; omega), Option.bind_some, cond_true, known_true]
  rfl
end
section
open Go.RowKit

theorem messagesDecode_holds : Rows.MessagesDecodeSaid := messagesDecode_of fun _ _ _ _ h1 _ _ _ => decode_law (okB_wf h1.2) _ _
end
end Go.Proofs.Ytcemblilhbidgaa
