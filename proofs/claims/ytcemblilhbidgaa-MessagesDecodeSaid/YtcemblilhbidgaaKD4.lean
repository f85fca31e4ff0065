/-
  Part 4 of what the proof of this law rests on.
-/
import Derived.Test.YtcemblilhbidgaaKD3
namespace Go.Proofs.Ytcemblilhbidgaa
section
open Go.RowKit
attribute [local irreducible] TS go TD goD

/-- multihop/messages.Decode -/
noncomputable def F_messages_Decode (a0 : List Int) : Option (Int × (List S_Notice) × Int) :=
  bif (decide ((List.length a0 : Int) < 9)) then
    some ((0, ([] : List S_Notice), 4))
  else
    (F_octets_Uint a0 2 5).bind fun v2 =>
    (F_octets_Uint a0 7 2).bind fun v3 =>
    bif (decide ((IntKind.wrap .i64 ((List.length a0 : Int) - 9)) < (IntKind.wrap .i64 v3.1))) then
      some ((0, ([] : List S_Notice), 4))
    else
      (subO a0 9 (List.length a0 : Int)).bind fun l5 =>
      (F_messages_parse l5).bind fun v6 =>
      bif v6.2 then
        (F_messages_Encode (IntKind.wrap .i64 v2.1) v6.1).bind fun v8 =>
        bif (v8.2 != 0) then
          some ((0, ([] : List S_Notice), 5))
        else
          (F_bytes_Equal v8.1 a0).bind fun v10 =>
          bif v10 then
            some ((IntKind.wrap .i64 v2.1, v6.1, 0))
          else
            some ((0, ([] : List S_Notice), 5))
      else
        some ((0, ([] : List S_Notice), 5))
set_option maxRecDepth 100000 in
set_option maxHeartbeats 40000000 in
theorem okT_messages_Decode (a0 : List Int) (r : Int × (List S_Notice) × Int) (h : F_messages_Decode a0 = some r) : Con Try.prog 22 [.c (eS 1 (ecI .u8) (a0))] [] (.tup [(false, [.lit (.int .i64 (r.1))]), (false, [.slc 40 900066 (List.length r.2.1) (List.map S_Notice.cs r.2.1)]), (false, [.lit (.int .i64 (r.2.2))])]) [(900064, .spare 39 40 (List.length r.2.1))] := by
  unfold F_messages_Decode at h
  refine con_of [] [(900064, [])] 58 Try.func22 rfl rfl (by kernel_rfl) (fun K => ?_)
  refine TS_go 13 ?_
  replace h := condO h
  rcases h with ⟨hb1, h⟩ | ⟨hb1, h⟩
  · refine TS_know 15 (b := true) hb1 (by kernel_rfl) (by kernel_rfl) ?_
    refine TS_T (by kernel_rfl) rfl ?_
    refine TS_go 6 ?_
    refine TS_nilT 3 600000 39 40 (by kernel_rfl) ?_
    refine TS_fitU ⟨[(2, []), (3, []), (4, [])], [(600000, (900064, []))]⟩ (by kernel_rfl) ?_
    refine TS_go 2 ?_
    have ret := Option.some.inj h
    subst ret
    exact TS_ret (by kernel_rfl) (by kernel_rfl) (by kernel_rfl)
  · refine TS_know 15 (b := false) hb1 (by kernel_rfl) (by kernel_rfl) ?_
    refine TS_F (by kernel_rfl) rfl ?_
    refine TS_go 4 ?_
    replace h := bindO h
    obtain ⟨v2, hv2, h⟩ := h
    refine TS_call [] (ok_octets_Uint a0 2 5 v2 hv2) (by kernel_rfl) (by kernel_rfl) ?_
    refine TS_go 9 ?_
    replace h := bindO h
    obtain ⟨v3, hv3, h⟩ := h
    refine TS_call [] (ok_octets_Uint a0 7 2 v3 hv3) (by kernel_rfl) (by kernel_rfl) ?_
    refine TS_go 16 ?_
    replace h := condO h
    rcases h with ⟨hb4, h⟩ | ⟨hb4, h⟩
    · refine TS_know 31 (b := true) hb4 (by kernel_rfl) (by kernel_rfl) ?_
      refine TS_T (by kernel_rfl) rfl ?_
      refine TS_go 6 ?_
      refine TS_nilT 3 600000 39 40 (by kernel_rfl) ?_
      refine TS_fitU ⟨[(2, []), (3, []), (4, [])], [(600000, (900064, []))]⟩ (by kernel_rfl) ?_
      refine TS_go 2 ?_
      have ret := Option.some.inj h
      subst ret
      exact TS_ret (by kernel_rfl) (by kernel_rfl) (by kernel_rfl)
    · refine TS_know 31 (b := false) hb4 (by kernel_rfl) (by kernel_rfl) ?_
      refine TS_F (by kernel_rfl) rfl ?_
      refine TS_go 4 ?_
      replace h := bindO h
      obtain ⟨l5, hl5, h⟩ := h
      refine TS_sub (ecI .u8) 1 hl5 (by kernel_rfl) (by kernel_rfl) ?_
      replace h := bindO h
      obtain ⟨v6, hv6, h⟩ := h
      refine TS_con [] [(35, 900000)] none (okT_messages_parse l5 v6 hv6) (by kernel_rfl) (by kernel_rfl) (by kernel_rfl) ?_
      refine TS_go 12 ?_
      replace h := condO h
      rcases h with ⟨hb7, h⟩ | ⟨hb7, h⟩
      · refine TS_know 37 (b := true) hb7 (by kernel_rfl) (by kernel_rfl) ?_
        refine TS_know 10 (b := true) hb7 (by kernel_rfl) (by kernel_rfl) ?_
        refine TS_know 38 (b := true) hb7 (by kernel_rfl) (by kernel_rfl) ?_
        refine TS_know 39 (b := false) (notF hb7) (by kernel_rfl) (by kernel_rfl) ?_
        refine TS_F (by kernel_rfl) rfl ?_
        refine TS_go 6 ?_
        replace h := bindO h
        obtain ⟨v8, hv8, h⟩ := h
        refine TS_con [[], [41]] [(44, 900000)] none (okT_messages_Encode (IntKind.wrap .i64 v2.1) v6.1 v8 hv8) (by kernel_rfl) (by kernel_rfl) (by kernel_rfl) ?_
        refine TS_go 12 ?_
        replace h := condO h
        rcases h with ⟨hb9, h⟩ | ⟨hb9, h⟩
        · refine TS_know 48 (b := true) hb9 (by kernel_rfl) (by kernel_rfl) ?_
          refine TS_know 49 (b := true) hb9 (by kernel_rfl) (by kernel_rfl) ?_
          refine TS_go 6 ?_
          refine TS_T (by kernel_rfl) rfl ?_
          refine TS_go 6 ?_
          refine TS_nilT 3 600000 39 40 (by kernel_rfl) ?_
          refine TS_fitU ⟨[(2, []), (3, []), (4, [])], [(600000, (900064, []))]⟩ (by kernel_rfl) ?_
          refine TS_go 2 ?_
          have ret := Option.some.inj h
          subst ret
          exact TS_ret (by kernel_rfl) (by kernel_rfl) (by kernel_rfl)
        · refine TS_know 48 (b := false) hb9 (by kernel_rfl) (by kernel_rfl) ?_
          refine TS_know 49 (b := false) hb9 (by kernel_rfl) (by kernel_rfl) ?_
          refine TS_go 2 ?_
          replace h := bindO h
          obtain ⟨v10, hv10, h⟩ := h
          refine TS_call [[2]] (ok_bytes_Equal v8.1 a0 v10 hv10) (by kernel_rfl) (by kernel_rfl) ?_
          refine TS_go 3 ?_
          replace h := condO h
          rcases h with ⟨hb11, h⟩ | ⟨hb11, h⟩
          · subst hb11
            refine TS_F (by kernel_rfl) rfl ?_
            refine TS_go 10 ?_
            refine TS_fitU ⟨[(2, []), (3, []), (4, [])], [(35, (900064, []))]⟩ (by kernel_rfl) ?_
            refine TS_go 1 ?_
            have ret := Option.some.inj h
            subst ret
            exact TS_ret (by kernel_rfl) (by kernel_rfl) (by kernel_rfl)
          · subst hb11
            refine TS_T (by kernel_rfl) rfl ?_
            refine TS_go 6 ?_
            refine TS_nilT 3 600000 39 40 (by kernel_rfl) ?_
            refine TS_fitU ⟨[(2, []), (3, []), (4, [])], [(600000, (900064, []))]⟩ (by kernel_rfl) ?_
            refine TS_go 2 ?_
            have ret := Option.some.inj h
            subst ret
            exact TS_ret (by kernel_rfl) (by kernel_rfl) (by kernel_rfl)
      · refine TS_know 37 (b := false) hb7 (by kernel_rfl) (by kernel_rfl) ?_
        refine TS_know 10 (b := false) hb7 (by kernel_rfl) (by kernel_rfl) ?_
        refine TS_know 38 (b := false) hb7 (by kernel_rfl) (by kernel_rfl) ?_
        refine TS_know 39 (b := true) (notT hb7) (by kernel_rfl) (by kernel_rfl) ?_
        refine TS_T (by kernel_rfl) rfl ?_
        refine TS_go 6 ?_
        refine TS_nilT 3 600000 39 40 (by kernel_rfl) ?_
        refine TS_fitU ⟨[(2, []), (3, []), (4, [])], [(600000, (900064, []))]⟩ (by kernel_rfl) ?_
        refine TS_go 2 ?_
        have ret := Option.some.inj h
        subst ret
        exact TS_ret (by kernel_rfl) (by kernel_rfl) (by kernel_rfl)
/-- multihop/multihoplaw29.known -/
noncomputable def F_law29_known  : Option (Bool) :=
  (F_messages_Encode 7 ([(S_Notice.mk 1 258 0 0 (S_Destination.mk (S_Prefix.mk [0, 0, 0, 0, 0, 0, 0, 0, 0, 0, 0, 0, 0, 0, 0, 0] 0) (S_Prefix.mk [0, 0, 0, 0, 0, 0, 0, 0, 0, 0, 0, 0, 0, 0, 0, 0] 0) 0) 0)] : List S_Notice)).bind fun v1 =>
  (F_messages_Decode v1.1).bind fun v2 =>
  bif (v1.2 == 0) then
    bif (v2.2.2 == 0) then
      (F_bytes_Equal v1.1 ([42, 1, 0, 0, 0, 0, 7, 0, 4, 1, 2, 1, 2] : List Int)).bind fun v5 =>
      bif v5 then
        bif (v2.1 == 7) then
          bif ((List.length v2.2.1 : Int) == 1) then
            (idx v2.2.1 0).bind fun e9 =>
            some ((e9.Seq == 258))
          else
            some (false)
        else
          some (false)
      else
        some (false)
    else
      some (false)
  else
    some (false)
set_option maxRecDepth 100000 in
set_option maxHeartbeats 40000000 in
theorem ok_law29_known  (r : Bool) (h : F_law29_known  = some r) : Con Try.prog 10 [] [] (.c (.lit (.bool (r)))) [] := by
  unfold F_law29_known at h
  refine con_of [] [] 45 Try.func10 rfl rfl (by kernel_rfl) (fun K => ?_)
  refine TS_go 7 ?_
  refine TS_litNT 8 39 40 S_Notice.cs [] ([(S_Notice.mk 1 258 0 0 (S_Destination.mk (S_Prefix.mk [0, 0, 0, 0, 0, 0, 0, 0, 0, 0, 0, 0, 0, 0, 0, 0] 0) (S_Prefix.mk [0, 0, 0, 0, 0, 0, 0, 0, 0, 0, 0, 0, 0, 0, 0, 0] 0) 0) 0)] : List S_Notice) (by kernel_rfl) (by kernel_rfl) ?_
  replace h := bindO h
  obtain ⟨v1, hv1, h⟩ := h
  refine TS_con [[], [41]] [(9, 900000)] none (okT_messages_Encode 7 ([(S_Notice.mk 1 258 0 0 (S_Destination.mk (S_Prefix.mk [0, 0, 0, 0, 0, 0, 0, 0, 0, 0, 0, 0, 0, 0, 0, 0] 0) (S_Prefix.mk [0, 0, 0, 0, 0, 0, 0, 0, 0, 0, 0, 0, 0, 0, 0, 0] 0) 0) 0)] : List S_Notice) v1 hv1) (by kernel_rfl) (by kernel_rfl) (by kernel_rfl) ?_
  refine TS_go 9 ?_
  replace h := bindO h
  obtain ⟨v2, hv2, h⟩ := h
  refine TS_con [[2]] [(14, 900064)] none (okT_messages_Decode v1.1 v2 hv2) (by kernel_rfl) (by kernel_rfl) (by kernel_rfl) ?_
  refine TS_go 13 ?_
  replace h := condO h
  rcases h with ⟨hb3, h⟩ | ⟨hb3, h⟩
  · refine TS_know 19 (b := true) hb3 (by kernel_rfl) (by kernel_rfl) ?_
    refine TS_know 20 (b := true) hb3 (by kernel_rfl) (by kernel_rfl) ?_
    refine TS_go 4 ?_
    replace h := condO h
    rcases h with ⟨hb4, h⟩ | ⟨hb4, h⟩
    · refine TS_know 22 (b := true) hb4 (by kernel_rfl) (by kernel_rfl) ?_
      refine TS_know 23 (b := true) hb4 (by kernel_rfl) (by kernel_rfl) ?_
      refine TS_know 24 (b := true) hb4 (by kernel_rfl) (by kernel_rfl) ?_
      refine TS_go 1 ?_
      refine TS_litNT 26 5 1 (ecI .u8) [] ([42, 1, 0, 0, 0, 0, 7, 0, 4, 1, 2, 1, 2] : List Int) (by kernel_rfl) (by kernel_rfl) ?_
      replace h := bindO h
      obtain ⟨v5, hv5, h⟩ := h
      refine TS_call [[2], [2]] (ok_bytes_Equal v1.1 ([42, 1, 0, 0, 0, 0, 7, 0, 4, 1, 2, 1, 2] : List Int) v5 hv5) (by kernel_rfl) (by kernel_rfl) ?_
      refine TS_go 2 ?_
      replace h := condO h
      rcases h with ⟨hb6, h⟩ | ⟨hb6, h⟩
      · subst hb6
        refine TS_go 4 ?_
        replace h := condO h
        rcases h with ⟨hb7, h⟩ | ⟨hb7, h⟩
        · refine TS_know 31 (b := true) hb7 (by kernel_rfl) (by kernel_rfl) ?_
          refine TS_know 32 (b := true) hb7 (by kernel_rfl) (by kernel_rfl) ?_
          refine TS_know 33 (b := true) hb7 (by kernel_rfl) (by kernel_rfl) ?_
          refine TS_go 5 ?_
          replace h := condO h
          rcases h with ⟨hb8, h⟩ | ⟨hb8, h⟩
          · refine TS_know 36 (b := true) hb8 (by kernel_rfl) (by kernel_rfl) ?_
            refine TS_know 37 (b := true) hb8 (by kernel_rfl) (by kernel_rfl) ?_
            refine TS_know 38 (b := true) hb8 (by kernel_rfl) (by kernel_rfl) ?_
            refine TS_go 1 ?_
            replace h := bindO h
            obtain ⟨_e9, he9, h⟩ := h
            refine TS_idx S_Notice.cs he9 (by kernel_rfl) (by kernel_rfl) ?_
            refine TS_go 7 ?_
            have ret := Option.some.inj h
            subst ret
            exact TS_ret (by kernel_rfl) (by kernel_rfl) (by kernel_rfl)
          · refine TS_know 36 (b := false) hb8 (by kernel_rfl) (by kernel_rfl) ?_
            refine TS_know 37 (b := false) hb8 (by kernel_rfl) (by kernel_rfl) ?_
            refine TS_know 38 (b := false) hb8 (by kernel_rfl) (by kernel_rfl) ?_
            refine TS_go 9 ?_
            have ret := Option.some.inj h
            subst ret
            exact TS_ret (by kernel_rfl) (by kernel_rfl) (by kernel_rfl)
        · refine TS_know 31 (b := false) hb7 (by kernel_rfl) (by kernel_rfl) ?_
          refine TS_know 32 (b := false) hb7 (by kernel_rfl) (by kernel_rfl) ?_
          refine TS_know 33 (b := false) hb7 (by kernel_rfl) (by kernel_rfl) ?_
          refine TS_go 14 ?_
          have ret := Option.some.inj h
          subst ret
          exact TS_ret (by kernel_rfl) (by kernel_rfl) (by kernel_rfl)
      · subst hb6
        refine TS_go 18 ?_
        have ret := Option.some.inj h
        subst ret
        exact TS_ret (by kernel_rfl) (by kernel_rfl) (by kernel_rfl)
    · refine TS_know 22 (b := false) hb4 (by kernel_rfl) (by kernel_rfl) ?_
      refine TS_know 23 (b := false) hb4 (by kernel_rfl) (by kernel_rfl) ?_
      refine TS_know 24 (b := false) hb4 (by kernel_rfl) (by kernel_rfl) ?_
      refine TS_go 23 ?_
      have ret := Option.some.inj h
      subst ret
      exact TS_ret (by kernel_rfl) (by kernel_rfl) (by kernel_rfl)
  · refine TS_know 19 (b := false) hb3 (by kernel_rfl) (by kernel_rfl) ?_
    refine TS_know 20 (b := false) hb3 (by kernel_rfl) (by kernel_rfl) ?_
    refine TS_go 27 ?_
    have ret := Option.some.inj h
    subst ret
    exact TS_ret (by kernel_rfl) (by kernel_rfl) (by kernel_rfl)

/-- multihop/multihopmade.New -/
noncomputable def F_made_New_j1  (v1 : (List Int)) : Option (S_multihopmade_Tape) :=
  some ((S_multihopmade_Tape.mk v1 0))
noncomputable def F_made_New (a0 : List Int) : Option (S_multihopmade_Tape) :=
  bif (decide ((List.length a0 : Int) > 400)) then
    (subO a0 0 400).bind fun l3 =>
    (F_made_New_j1) l3
  else
    (F_made_New_j1) a0
set_option maxRecDepth 100000 in
set_option maxHeartbeats 40000000 in
theorem ok_made_New (a0 : List Int) (r : S_multihopmade_Tape) (h : F_made_New a0 = some r) : Con Try.prog 11 [.c (eS 1 (ecI .i64) (a0))] [] (.c (.box 10 0)) [(10, .box (S_multihopmade_Tape.cs r))] := by
  unfold F_made_New at h
  refine con_of [] [(10, [2])] 11 Try.func11 rfl rfl (by kernel_rfl) (fun K => ?_)
  refine TS_go 4 ?_
  refine TS_cut ⟨[(0, [])], []⟩ (.mk [.code (codeAt [1] (bodyOf Try.f11))] .normal ⟨[(0, .c (.slc 1 0 (List.length a0) (List.map (ecI .i64) a0)))], []⟩) (by kernel_rfl) (by kernel_rfl) ?_
  refine TS_joinB ⟨[(0, [])], []⟩ (fun (v1 : (List Int)) => [(0, .c (eS 1 (ecI .i64) (v1)))]) (fun (v1 : (List Int)) => []) (F_made_New_j1) r ?_ ?_
  · clear h
    intro v1 h
    unfold F_made_New_j1 at h
    refine TS_go 8 ?_
    have ret := Option.some.inj h
    subst ret
    exact TS_ret (by kernel_rfl) (by kernel_rfl) (by kernel_rfl)
  · refine TS_go 6 ?_
    replace h := condO h
    rcases h with ⟨hb2, h⟩ | ⟨hb2, h⟩
    · refine TS_know 5 (b := true) hb2 (by kernel_rfl) (by kernel_rfl) ?_
      refine TS_T (by kernel_rfl) rfl ?_
      refine TS_go 2 ?_
      replace h := bindO h
      obtain ⟨l3, hl3, h⟩ := h
      refine TS_sub (ecI .i64) 1 hl3 (by kernel_rfl) (by kernel_rfl) ?_
      refine TS_go 2 ?_
      exact TS_meet l3 ⟨[(0, [])], []⟩ h (by kernel_rfl) (by kernel_rfl)
    · refine TS_know 5 (b := false) hb2 (by kernel_rfl) (by kernel_rfl) ?_
      refine TS_F (by kernel_rfl) rfl ?_
      refine TS_go 1 ?_
      exact TS_meet a0 ⟨[(0, [])], []⟩ h (by kernel_rfl) (by kernel_rfl)

/-- (*multihop/multihopmade.Tape).Next -/
noncomputable def F_made_Tape_Next_j1 (a0 : S_multihopmade_Tape) (v4 : Int) : Option (Int × S_multihopmade_Tape) :=
  some ((v4, (S_multihopmade_Tape.mk a0.l (IntKind.wrap .i64 (a0.at_ + 1)))))
noncomputable def F_made_Tape_Next (a0 : S_multihopmade_Tape) (a1 : Int) : Option (Int × S_multihopmade_Tape) :=
  bif (decide (a0.at_ ≥ (List.length a0.l : Int))) then
    some ((0, a0))
  else
    (idx a0.l a0.at_).bind fun e2 =>
    bif decide (a1 ≠ 0) then
      bif (decide ((Int.tmod e2 a1) < 0)) then
        (F_made_Tape_Next_j1 a0) (IntKind.wrap .i64 ((Int.tmod e2 a1) + a1))
      else
        (F_made_Tape_Next_j1 a0) (Int.tmod e2 a1)
    else none
set_option maxRecDepth 100000 in
set_option maxHeartbeats 40000000 in
theorem ok_made_Tape_Next (a0 : S_multihopmade_Tape) (a1 : Int) (r : Int × S_multihopmade_Tape) (h : F_made_Tape_Next a0 a1 = some r) : Con Try.prog 20 [.c (.box 1000000 0), .c (.lit (.int .i64 (a1)))] [(1000000, .box (S_multihopmade_Tape.cs a0))] (.c (.lit (.int .i64 (r.1)))) [(1000000, .box (S_multihopmade_Tape.cs r.2))] := by
  unfold F_made_Tape_Next at h
  refine con_of [] [(1000000, [2])] 41 Try.func20 rfl rfl (by kernel_rfl) (fun K => ?_)
  refine TS_go 6 ?_
  refine TS_draw (by kernel_rfl) ?_
  refine TD_go 10 ?_
  refine TD_end (by kernel_rfl) ?_
  replace h := condO h
  rcases h with ⟨hb1, h⟩ | ⟨hb1, h⟩
  · refine TS_know 15 (b := true) hb1 (by kernel_rfl) (by kernel_rfl) ?_
    refine TS_T (by kernel_rfl) rfl ?_
    refine TS_go 6 ?_
    have ret := Option.some.inj h
    subst ret
    exact TS_ret (by kernel_rfl) (by kernel_rfl) (by kernel_rfl)
  · refine TS_know 15 (b := false) hb1 (by kernel_rfl) (by kernel_rfl) ?_
    refine TS_F (by kernel_rfl) rfl ?_
    refine TS_go 2 ?_
    refine TS_draw (by kernel_rfl) ?_
    refine TD_go 8 ?_
    replace h := bindO h
    obtain ⟨e2, he2, h⟩ := h
    refine TD_idx (ecI .i64) he2 (by kernel_rfl) (by kernel_rfl) ?_
    refine TD_go 2 ?_
    replace h := chkO h
    obtain ⟨hc3, h⟩ := h
    refine TD_num (op := .rem) (k := .i64) (k' := .i64) (m := e2) (i := a1) (of_decide_eq_true hc3) rfl (by simp) (by kernel_rfl) (by kernel_rfl) ?_
    refine TD_go 1 ?_
    refine TD_end (by kernel_rfl) ?_
    refine TS_go 11 ?_
    refine TS_cut ⟨[(1, []), (5, [])], [(1000000, (1000000, []))]⟩ (.mk [.code (codeAt [1, 1, 1, 1] (bodyOf Try.f20))] .normal ⟨[(1, .c (.lit (.int .i64 (a1)))), (5, .c (.lit (.int .i64 (Int.tmod e2 a1))))], [(1000000, .box [.slc 1 0 (List.length a0.l) (List.map (ecI .i64) a0.l), .lit (.int .i64 (IntKind.wrap .i64 (a0.at_ + 1)))])]⟩) (by kernel_rfl) (by kernel_rfl) ?_
    refine TS_joinB ⟨[(5, [])], [(1000000, (1000000, []))]⟩ (fun (v4 : Int) => [(5, .c (.lit (.int .i64 (v4))))]) (fun (v4 : Int) => []) (F_made_Tape_Next_j1 a0) r ?_ ?_
    · clear h
      intro v4 h
      unfold F_made_Tape_Next_j1 at h
      refine TS_go 6 ?_
      have ret := Option.some.inj h
      subst ret
      exact TS_ret (by kernel_rfl) (by kernel_rfl) (by kernel_rfl)
    · refine TS_go 5 ?_
      replace h := condO h
      rcases h with ⟨hb5, h⟩ | ⟨hb5, h⟩
      · refine TS_know 36 (b := true) hb5 (by kernel_rfl) (by kernel_rfl) ?_
        refine TS_T (by kernel_rfl) rfl ?_
        refine TS_go 6 ?_
        exact TS_meet (IntKind.wrap .i64 ((Int.tmod e2 a1) + a1)) ⟨[(5, [])], [(1000000, (1000000, []))]⟩ h (by kernel_rfl) (by kernel_rfl)
      · refine TS_know 36 (b := false) hb5 (by kernel_rfl) (by kernel_rfl) ?_
        refine TS_F (by kernel_rfl) rfl ?_
        refine TS_go 1 ?_
        exact TS_meet (Int.tmod e2 a1) ⟨[(5, [])], [(1000000, (1000000, []))]⟩ h (by kernel_rfl) (by kernel_rfl)

/-- multihop/multihopworld.Seq -/
noncomputable def F_world_Seq (a0 : S_multihopmade_Tape) : Option (Int × S_multihopmade_Tape) :=
  (F_made_Tape_Next a0 6).bind fun v1 =>
  some ((IntKind.wrap .u16 (IntKind.wrap .i64 (v1.1 - 2)), v1.2))
set_option maxRecDepth 100000 in
set_option maxHeartbeats 40000000 in
theorem ok_world_Seq (a0 : S_multihopmade_Tape) (r : Int × S_multihopmade_Tape) (h : F_world_Seq a0 = some r) : Con Try.prog 32 [.c (.box 1000000 0)] [(1000000, .box (S_multihopmade_Tape.cs a0))] (.c (.lit (.int .u16 (r.1)))) [(1000000, .box (S_multihopmade_Tape.cs r.2))] := by
  unfold F_world_Seq at h
  refine con_of [] [(1000000, [2])] 7 Try.func32 rfl rfl (by kernel_rfl) (fun K => ?_)
  refine TS_go 7 ?_
  replace h := bindO h
  obtain ⟨v1, hv1, h⟩ := h
  refine TS_con [] [] (some (1000000, 0)) (ok_made_Tape_Next a0 6 v1 hv1) (by kernel_rfl) (by kernel_rfl) (by kernel_rfl) ?_
  refine TS_go 5 ?_
  have ret := Option.some.inj h
  subst ret
  exact TS_ret (by kernel_rfl) (by kernel_rfl) (by kernel_rfl)

/-- multihop/multihopworld.EUI -/
noncomputable def F_world_EUI (a0 : S_multihopmade_Tape) : Option (Int × S_multihopmade_Tape) :=
  (F_made_Tape_Next a0 5).bind fun v1 =>
  some ((IntKind.wrap .u64 (IntKind.wrap .i64 (1 + v1.1)), v1.2))
set_option maxRecDepth 100000 in
set_option maxHeartbeats 40000000 in
theorem ok_world_EUI (a0 : S_multihopmade_Tape) (r : Int × S_multihopmade_Tape) (h : F_world_EUI a0 = some r) : Con Try.prog 33 [.c (.box 1000000 0)] [(1000000, .box (S_multihopmade_Tape.cs a0))] (.c (.lit (.int .u64 (r.1)))) [(1000000, .box (S_multihopmade_Tape.cs r.2))] := by
  unfold F_world_EUI at h
  refine con_of [] [(1000000, [2])] 7 Try.func33 rfl rfl (by kernel_rfl) (fun K => ?_)
  refine TS_go 7 ?_
  replace h := bindO h
  obtain ⟨v1, hv1, h⟩ := h
  refine TS_con [] [] (some (1000000, 0)) (ok_made_Tape_Next a0 5 v1 hv1) (by kernel_rfl) (by kernel_rfl) (by kernel_rfl) ?_
  refine TS_go 5 ?_
  have ret := Option.some.inj h
  subst ret
  exact TS_ret (by kernel_rfl) (by kernel_rfl) (by kernel_rfl)

/-- multihop/multihopworld.Cost -/
noncomputable def F_world_Cost (a0 : S_multihopmade_Tape) : Option (Int × S_multihopmade_Tape) :=
  (F_made_Tape_Next a0 6).bind fun v1 =>
  bif (v1.1 == 0) then
    (F_made_Tape_Next v1.2 4).bind fun v3 =>
    some ((v3.1, v3.2))
  else
    bif (v1.1 == 1) then
      (F_made_Tape_Next v1.2 600).bind fun v5 =>
      some ((IntKind.wrap .i64 (65534 - v5.1), v5.2))
    else
      (F_made_Tape_Next v1.2 30).bind fun v6 =>
      some ((IntKind.wrap .i64 (256 + (IntKind.wrap .i64 (32 * v6.1))), v6.2))
set_option maxRecDepth 100000 in
set_option maxHeartbeats 40000000 in
theorem ok_world_Cost (a0 : S_multihopmade_Tape) (r : Int × S_multihopmade_Tape) (h : F_world_Cost a0 = some r) : Con Try.prog 34 [.c (.box 1000000 0)] [(1000000, .box (S_multihopmade_Tape.cs a0))] (.c (.lit (.int .i64 (r.1)))) [(1000000, .box (S_multihopmade_Tape.cs r.2))] := by
  unfold F_world_Cost at h
  refine con_of [] [(1000000, [2])] 18 Try.func34 rfl rfl (by kernel_rfl) (fun K => ?_)
  refine TS_go 8 ?_
  replace h := bindO h
  obtain ⟨v1, hv1, h⟩ := h
  refine TS_con [] [] (some (1000000, 0)) (ok_made_Tape_Next a0 6 v1 hv1) (by kernel_rfl) (by kernel_rfl) (by kernel_rfl) ?_
  refine TS_go 7 ?_
  replace h := condO h
  rcases h with ⟨hb2, h⟩ | ⟨hb2, h⟩
  · refine TS_know 6 (b := true) hb2 (by kernel_rfl) (by kernel_rfl) ?_
    refine TS_know 5 (b := true) hb2 (by kernel_rfl) (by kernel_rfl) ?_
    refine TS_T (by kernel_rfl) rfl ?_
    refine TS_go 3 ?_
    replace h := bindO h
    obtain ⟨v3, hv3, h⟩ := h
    refine TS_con [] [] (some (1000000, 0)) (ok_made_Tape_Next v1.2 4 v3 hv3) (by kernel_rfl) (by kernel_rfl) (by kernel_rfl) ?_
    refine TS_go 5 ?_
    have ret := Option.some.inj h
    subst ret
    exact TS_ret (by kernel_rfl) (by kernel_rfl) (by kernel_rfl)
  · refine TS_know 6 (b := false) hb2 (by kernel_rfl) (by kernel_rfl) ?_
    refine TS_know 5 (b := false) hb2 (by kernel_rfl) (by kernel_rfl) ?_
    refine TS_F (by kernel_rfl) rfl ?_
    refine TS_go 5 ?_
    replace h := condO h
    rcases h with ⟨hb4, h⟩ | ⟨hb4, h⟩
    · refine TS_know 10 (b := true) hb4 (by kernel_rfl) (by kernel_rfl) ?_
      refine TS_know 9 (b := true) hb4 (by kernel_rfl) (by kernel_rfl) ?_
      refine TS_T (by kernel_rfl) rfl ?_
      refine TS_go 3 ?_
      replace h := bindO h
      obtain ⟨v5, hv5, h⟩ := h
      refine TS_con [] [] (some (1000000, 0)) (ok_made_Tape_Next v1.2 600 v5 hv5) (by kernel_rfl) (by kernel_rfl) (by kernel_rfl) ?_
      refine TS_go 6 ?_
      have ret := Option.some.inj h
      subst ret
      exact TS_ret (by kernel_rfl) (by kernel_rfl) (by kernel_rfl)
    · refine TS_know 10 (b := false) hb4 (by kernel_rfl) (by kernel_rfl) ?_
      refine TS_know 9 (b := false) hb4 (by kernel_rfl) (by kernel_rfl) ?_
      refine TS_F (by kernel_rfl) rfl ?_
      refine TS_go 5 ?_
      replace h := bindO h
      obtain ⟨v6, hv6, h⟩ := h
      refine TS_con [] [] (some (1000000, 0)) (ok_made_Tape_Next v1.2 30 v6 hv6) (by kernel_rfl) (by kernel_rfl) (by kernel_rfl) ?_
      refine TS_go 5 ?_
      have ret := Option.some.inj h
      subst ret
      exact TS_ret (by kernel_rfl) (by kernel_rfl) (by kernel_rfl)

/-- (*multihop/multihopmade.Tape).Bool -/
noncomputable def F_made_Tape_Bool (a0 : S_multihopmade_Tape) (a1 : Int) : Option (Bool × S_multihopmade_Tape) :=
  (F_made_Tape_Next a0 a1).bind fun v1 =>
  some (((v1.1 == (IntKind.wrap .i64 (a1 - 1))), v1.2))
set_option maxRecDepth 100000 in
set_option maxHeartbeats 40000000 in
theorem ok_made_Tape_Bool (a0 : S_multihopmade_Tape) (a1 : Int) (r : Bool × S_multihopmade_Tape) (h : F_made_Tape_Bool a0 a1 = some r) : Con Try.prog 35 [.c (.box 1000000 0), .c (.lit (.int .i64 (a1)))] [(1000000, .box (S_multihopmade_Tape.cs a0))] (.c (.lit (.bool (r.1)))) [(1000000, .box (S_multihopmade_Tape.cs r.2))] := by
  unfold F_made_Tape_Bool at h
  refine con_of [] [(1000000, [2])] 11 Try.func35 rfl rfl (by kernel_rfl) (fun K => ?_)
  refine TS_go 8 ?_
  replace h := bindO h
  obtain ⟨v1, hv1, h⟩ := h
  refine TS_con [] [] (some (1000000, 0)) (ok_made_Tape_Next a0 a1 v1 hv1) (by kernel_rfl) (by kernel_rfl) (by kernel_rfl) ?_
  refine TS_go 6 ?_
  have ret := Option.some.inj h
  subst ret
  exact TS_ret (by kernel_rfl) (by kernel_rfl) (by kernel_rfl)

/-- (*multihop/multihopmade.Tape).Word -/
noncomputable def F_made_Tape_Word (a0 : S_multihopmade_Tape) : Option (Int × S_multihopmade_Tape) :=
  (F_made_Tape_Next a0 65536).bind fun v1 =>
  (F_made_Tape_Next v1.2 5).bind fun v2 =>
  bif (v2.1 == 0) then
    some ((IntKind.wrap .u64 v1.1, v2.2))
  else
    bif (v2.1 == 1) then
      some ((IntKind.wrap .u64 ((ishl .u64 (IntKind.wrap .u64 v1.1) 48) + (IntKind.wrap .u64 v1.1)), v2.2))
    else
      bif (v2.1 == 2) then
        some ((IntKind.wrap .u64 (9223372036854775808 + (IntKind.wrap .u64 v1.1)), v2.2))
      else
        bif (v2.1 == 3) then
          some ((IntKind.wrap .u64 (18446744073709551615 - (Int.tmod (IntKind.wrap .u64 v1.1) 4)), v2.2))
        else
          some ((Int.tmod (IntKind.wrap .u64 v1.1) 4, v2.2))
set_option maxRecDepth 100000 in
set_option maxHeartbeats 40000000 in
theorem ok_made_Tape_Word (a0 : S_multihopmade_Tape) (r : Int × S_multihopmade_Tape) (h : F_made_Tape_Word a0 = some r) : Con Try.prog 36 [.c (.box 1000000 0)] [(1000000, .box (S_multihopmade_Tape.cs a0))] (.c (.lit (.int .u64 (r.1)))) [(1000000, .box (S_multihopmade_Tape.cs r.2))] := by
  unfold F_made_Tape_Word at h
  refine con_of [] [(1000000, [2])] 29 Try.func36 rfl rfl (by kernel_rfl) (fun K => ?_)
  refine TS_go 7 ?_
  replace h := bindO h
  obtain ⟨v1, hv1, h⟩ := h
  refine TS_con [] [] (some (1000000, 0)) (ok_made_Tape_Next a0 65536 v1 hv1) (by kernel_rfl) (by kernel_rfl) (by kernel_rfl) ?_
  refine TS_go 7 ?_
  replace h := bindO h
  obtain ⟨v2, hv2, h⟩ := h
  refine TS_con [] [] (some (1000000, 0)) (ok_made_Tape_Next v1.2 5 v2 hv2) (by kernel_rfl) (by kernel_rfl) (by kernel_rfl) ?_
  refine TS_go 7 ?_
  replace h := condO h
  rcases h with ⟨hb3, h⟩ | ⟨hb3, h⟩
  · refine TS_know 10 (b := true) hb3 (by kernel_rfl) (by kernel_rfl) ?_
    refine TS_know 9 (b := true) hb3 (by kernel_rfl) (by kernel_rfl) ?_
    refine TS_T (by kernel_rfl) rfl ?_
    refine TS_go 8 ?_
    have ret := Option.some.inj h
    subst ret
    exact TS_ret (by kernel_rfl) (by kernel_rfl) (by kernel_rfl)
  · refine TS_know 10 (b := false) hb3 (by kernel_rfl) (by kernel_rfl) ?_
    refine TS_know 9 (b := false) hb3 (by kernel_rfl) (by kernel_rfl) ?_
    refine TS_F (by kernel_rfl) rfl ?_
    refine TS_go 5 ?_
    replace h := condO h
    rcases h with ⟨hb4, h⟩ | ⟨hb4, h⟩
    · refine TS_know 13 (b := true) hb4 (by kernel_rfl) (by kernel_rfl) ?_
      refine TS_know 12 (b := true) hb4 (by kernel_rfl) (by kernel_rfl) ?_
      refine TS_T (by kernel_rfl) rfl ?_
      refine TS_go 11 ?_
      have ret := Option.some.inj h
      subst ret
      exact TS_ret (by kernel_rfl) (by kernel_rfl) (by kernel_rfl)
    · refine TS_know 13 (b := false) hb4 (by kernel_rfl) (by kernel_rfl) ?_
      refine TS_know 12 (b := false) hb4 (by kernel_rfl) (by kernel_rfl) ?_
      refine TS_F (by kernel_rfl) rfl ?_
      refine TS_go 5 ?_
      replace h := condO h
      rcases h with ⟨hb5, h⟩ | ⟨hb5, h⟩
      · refine TS_know 19 (b := true) hb5 (by kernel_rfl) (by kernel_rfl) ?_
        refine TS_know 18 (b := true) hb5 (by kernel_rfl) (by kernel_rfl) ?_
        refine TS_T (by kernel_rfl) rfl ?_
        refine TS_go 9 ?_
        have ret := Option.some.inj h
        subst ret
        exact TS_ret (by kernel_rfl) (by kernel_rfl) (by kernel_rfl)
      · refine TS_know 19 (b := false) hb5 (by kernel_rfl) (by kernel_rfl) ?_
        refine TS_know 18 (b := false) hb5 (by kernel_rfl) (by kernel_rfl) ?_
        refine TS_F (by kernel_rfl) rfl ?_
        refine TS_go 5 ?_
        replace h := condO h
        rcases h with ⟨hb6, h⟩ | ⟨hb6, h⟩
        · refine TS_know 23 (b := true) hb6 (by kernel_rfl) (by kernel_rfl) ?_
          refine TS_know 22 (b := true) hb6 (by kernel_rfl) (by kernel_rfl) ?_
          refine TS_T (by kernel_rfl) rfl ?_
          refine TS_go 10 ?_
          have ret := Option.some.inj h
          subst ret
          exact TS_ret (by kernel_rfl) (by kernel_rfl) (by kernel_rfl)
        · refine TS_know 23 (b := false) hb6 (by kernel_rfl) (by kernel_rfl) ?_
          refine TS_know 22 (b := false) hb6 (by kernel_rfl) (by kernel_rfl) ?_
          refine TS_F (by kernel_rfl) rfl ?_
          refine TS_go 9 ?_
          have ret := Option.some.inj h
          subst ret
          exact TS_ret (by kernel_rfl) (by kernel_rfl) (by kernel_rfl)

/-- multihop/multihopworld.IP -/
noncomputable def F_world_IP_j1  (v4 : S_multihopmade_Tape × (List Int)) : Option ((List Int) × S_multihopmade_Tape) :=
  some ((v4.2, v4.1))
noncomputable def F_world_IP (a0 : S_multihopmade_Tape) : Option ((List Int) × S_multihopmade_Tape) :=
  (F_made_Tape_Next a0 2).bind fun v1 =>
  (F_made_Tape_Next v1.2 2).bind fun v2 =>
  (F_made_Tape_Next v2.2 6).bind fun v3 =>
  (F_made_Tape_Bool v3.2 9).bind fun v5 =>
  bif v5.1 then
    (F_made_Tape_Next v5.2 16).bind fun v7 =>
    bif decide ((0 : Int) ≤ v7.1 ∧ v7.1 < (16 : Int)) then
      (F_made_Tape_Next v7.2 8).bind fun v9 =>
      bif decide (0 ≤ (IntKind.wrap .u64 v9.1)) then
        bif decide ((0 : Int) ≤ v7.1 ∧ v7.1 < (16 : Int)) then
          (F_world_IP_j1) (v9.2, (setA 16 [32, 1, 13, 184, 0, IntKind.wrap .u8 v1.1, IntKind.wrap .u8 v2.1, 0, 0, 0, 0, 0, 0, 0, 0, IntKind.wrap .u8 v3.1] (Int.toNat v7.1) (ixor .u8 (List.getD [32, 1, 13, 184, 0, IntKind.wrap .u8 v1.1, IntKind.wrap .u8 v2.1, 0, 0, 0, 0, 0, 0, 0, 0, IntKind.wrap .u8 v3.1] (Int.toNat v7.1) 0) (ishl .u8 1 (IntKind.wrap .u64 v9.1)))))
        else none
      else none
    else none
  else
    (F_world_IP_j1) (v5.2, [32, 1, 13, 184, 0, IntKind.wrap .u8 v1.1, IntKind.wrap .u8 v2.1, 0, 0, 0, 0, 0, 0, 0, 0, IntKind.wrap .u8 v3.1])
set_option maxRecDepth 100000 in
set_option maxHeartbeats 40000000 in
theorem ok_world_IP (a0 : S_multihopmade_Tape) (r : (List Int) × S_multihopmade_Tape) (h : F_world_IP a0 = some r) : Con Try.prog 56 [.c (.box 1000000 0)] [(1000000, .box (S_multihopmade_Tape.cs a0))] (.agg (arrS .u8 16 r.1)) [(1000000, .box (S_multihopmade_Tape.cs r.2))] := by
  unfold F_world_IP at h
  refine con_of [] [(1000000, [2])] 28 Try.func56 rfl rfl (by kernel_rfl) (fun K => ?_)
  refine TS_go 7 ?_
  replace h := bindO h
  obtain ⟨v1, hv1, h⟩ := h
  refine TS_con [] [] (some (1000000, 0)) (ok_made_Tape_Next a0 2 v1 hv1) (by kernel_rfl) (by kernel_rfl) (by kernel_rfl) ?_
  refine TS_go 2 ?_
  replace h := bindO h
  obtain ⟨v2, hv2, h⟩ := h
  refine TS_con [] [] (some (1000000, 0)) (ok_made_Tape_Next v1.2 2 v2 hv2) (by kernel_rfl) (by kernel_rfl) (by kernel_rfl) ?_
  refine TS_go 8 ?_
  replace h := bindO h
  obtain ⟨v3, hv3, h⟩ := h
  refine TS_con [] [] (some (1000000, 0)) (ok_made_Tape_Next v2.2 6 v3 hv3) (by kernel_rfl) (by kernel_rfl) (by kernel_rfl) ?_
  refine TS_go 4 ?_
  refine TS_cut ⟨[(0, []), (2, []), (3, [])], [(1000000, (1000000, [])), (2, (2, [])), (3, (3, []))]⟩ (.mk [.code (codeAt [1, 1, 1] (bodyOf Try.f56))] .normal ⟨[(0, .c (.box 1000000 0)), (2, .c (.box 2 0)), (3, .c (.box 3 0))], [(1000000, .box [.slc 1 0 (List.length v3.2.l) (List.map (ecI .i64) v3.2.l), .lit (.int .i64 (v3.2.at_))]), (2, .box [.lit (.int .u8 (0)), .lit (.int .u8 (0)), .lit (.int .u8 (0)), .lit (.int .u8 (0)), .lit (.int .u8 (0)), .lit (.int .u8 (0)), .lit (.int .u8 (0)), .lit (.int .u8 (0)), .lit (.int .u8 (0)), .lit (.int .u8 (0)), .lit (.int .u8 (0)), .lit (.int .u8 (0)), .lit (.int .u8 (0)), .lit (.int .u8 (0)), .lit (.int .u8 (0)), .lit (.int .u8 (0))]), (3, .box [.lit (.int .u8 (32)), .lit (.int .u8 (1)), .lit (.int .u8 (13)), .lit (.int .u8 (184)), .lit (.int .u8 (0)), .lit (.int .u8 (IntKind.wrap .u8 v1.1)), .lit (.int .u8 (IntKind.wrap .u8 v2.1)), .lit (.int .u8 (0)), .lit (.int .u8 (0)), .lit (.int .u8 (0)), .lit (.int .u8 (0)), .lit (.int .u8 (0)), .lit (.int .u8 (0)), .lit (.int .u8 (0)), .lit (.int .u8 (0)), .lit (.int .u8 (IntKind.wrap .u8 v3.1))])]⟩) (by kernel_rfl) (by kernel_rfl) ?_
  refine TS_joinB ⟨[(2, []), (3, [])], [(1000000, (1000000, [])), (2, (2, [])), (3, (3, []))]⟩ (fun (v4 : S_multihopmade_Tape × (List Int)) => []) (fun (v4 : S_multihopmade_Tape × (List Int)) => [(1000000, .box (S_multihopmade_Tape.cs v4.1)), (3, .box (arrS .u8 16 v4.2))]) (F_world_IP_j1) r ?_ ?_
  · clear h
    intro v4 h
    unfold F_world_IP_j1 at h
    refine TS_go 6 ?_
    have ret := Option.some.inj h
    subst ret
    exact TS_ret (by kernel_rfl) (by kernel_rfl) (by kernel_rfl)
  · refine TS_go 3 ?_
    replace h := bindO h
    obtain ⟨v5, hv5, h⟩ := h
    refine TS_con [] [] (some (1000000, 0)) (ok_made_Tape_Bool v3.2 9 v5 hv5) (by kernel_rfl) (by kernel_rfl) (by kernel_rfl) ?_
    refine TS_go 1 ?_
    replace h := condO h
    rcases h with ⟨hb6, h⟩ | ⟨hb6, h⟩
    · refine TS_know 16 (b := true) hb6 (by kernel_rfl) (by kernel_rfl) ?_
      refine TS_T (by kernel_rfl) rfl ?_
      refine TS_draw (by kernel_rfl) ?_
      refine TD_go 1 ?_
      replace h := bindO h
      obtain ⟨v7, hv7, h⟩ := h
      refine TD_con (_h := []) (_h' := []) [] 1000000 0 [.slc 1 0 (List.length v5.2.l) (List.map (ecI .i64) v5.2.l), .lit (.int .i64 (v5.2.at_))] _ _ (ok_made_Tape_Next v5.2 16 v7 hv7) (by kernel_rfl) (by kernel_rfl) (by kernel_rfl) (by kernel_rfl) ?_
      replace h := chkO h
      obtain ⟨hc8, h⟩ := h
      refine TD_idxA 3 0 16 (i := v7.1) hc8 (by kernel_rfl) (by kernel_rfl) ?_
      refine TD_ldA .u8 0 16 (i := v7.1) [32, 1, 13, 184, 0, IntKind.wrap .u8 v1.1, IntKind.wrap .u8 v2.1, 0, 0, 0, 0, 0, 0, 0, 0, IntKind.wrap .u8 v3.1] hc8 (by kernel_rfl) (by kernel_rfl) ?_
      refine TD_go 1 ?_
      replace h := bindO h
      obtain ⟨v9, hv9, h⟩ := h
      refine TD_con (_h := []) (_h' := []) [] 1000000 0 [.slc 1 0 (List.length v7.2.l) (List.map (ecI .i64) v7.2.l), .lit (.int .i64 (v7.2.at_))] _ _ (ok_made_Tape_Next v7.2 8 v9 hv9) (by kernel_rfl) (by kernel_rfl) (by kernel_rfl) (by kernel_rfl) ?_
      refine TD_go 1 ?_
      replace h := chkO h
      obtain ⟨hc10, h⟩ := h
      refine TD_num (op := .shl) (k := .u8) (k' := .u64) (m := 1) (i := IntKind.wrap .u64 v9.1) (of_decide_eq_true hc10) rfl (by simp) (by kernel_rfl) (by kernel_rfl) ?_
      refine TD_go 1 ?_
      replace h := chkO h
      obtain ⟨hc11, h⟩ := h
      refine TD_idxA 3 0 16 (i := v7.1) hc11 (by kernel_rfl) (by kernel_rfl) ?_
      refine TD_stA (k := .u8) (d := 3) 0 16 (i := v7.1) (v := ixor .u8 (List.getD [32, 1, 13, 184, 0, IntKind.wrap .u8 v1.1, IntKind.wrap .u8 v2.1, 0, 0, 0, 0, 0, 0, 0, 0, IntKind.wrap .u8 v3.1] (Int.toNat v7.1) 0) (ishl .u8 1 (IntKind.wrap .u64 v9.1))) [32, 1, 13, 184, 0, IntKind.wrap .u8 v1.1, IntKind.wrap .u8 v2.1, 0, 0, 0, 0, 0, 0, 0, 0, IntKind.wrap .u8 v3.1] (pre := []) (post := []) hc11 (by kernel_rfl) (by kernel_rfl) (by kernel_rfl) ?_
      refine TD_end (by kernel_rfl) ?_
      exact TS_meet (v9.2, (setA 16 [32, 1, 13, 184, 0, IntKind.wrap .u8 v1.1, IntKind.wrap .u8 v2.1, 0, 0, 0, 0, 0, 0, 0, 0, IntKind.wrap .u8 v3.1] (Int.toNat v7.1) (ixor .u8 (List.getD [32, 1, 13, 184, 0, IntKind.wrap .u8 v1.1, IntKind.wrap .u8 v2.1, 0, 0, 0, 0, 0, 0, 0, 0, IntKind.wrap .u8 v3.1] (Int.toNat v7.1) 0) (ishl .u8 1 (IntKind.wrap .u64 v9.1))))) ⟨[(2, []), (3, [])], [(1000000, (1000000, [])), (2, (2, [])), (3, (3, []))]⟩ h (by kernel_rfl) (by kernel_rfl)
    · refine TS_know 16 (b := false) hb6 (by kernel_rfl) (by kernel_rfl) ?_
      refine TS_F (by kernel_rfl) rfl ?_
      refine TS_go 1 ?_
      exact TS_meet (v5.2, [32, 1, 13, 184, 0, IntKind.wrap .u8 v1.1, IntKind.wrap .u8 v2.1, 0, 0, 0, 0, 0, 0, 0, 0, IntKind.wrap .u8 v3.1]) ⟨[(2, []), (3, [])], [(1000000, (1000000, [])), (2, (2, [])), (3, (3, []))]⟩ h (by kernel_rfl) (by kernel_rfl)

/-- multihop/multihopref04.bit -/
noncomputable def F_ref04_bit (a0 : List Int) (a1 : Int) : Option (Int) :=
  bif decide ((0 : Int) ≤ (iquo .i64 a1 8) ∧ (iquo .i64 a1 8) < (16 : Int)) then
    bif decide (0 ≤ (IntKind.wrap .u64 (7 - (IntKind.wrap .u64 (Int.tmod a1 8))))) then
      some (iand .u8 (ishr .u8 (List.getD a0 (Int.toNat (iquo .i64 a1 8)) 0) (IntKind.wrap .u64 (7 - (IntKind.wrap .u64 (Int.tmod a1 8))))) 1)
    else none
  else none
set_option maxRecDepth 100000 in
set_option maxHeartbeats 40000000 in
theorem ok_ref04_bit (a0 : List Int) (a1 : Int) (r : Int) (h : F_ref04_bit a0 a1 = some r) : Con Try.prog 59 [.agg (arrS .u8 16 a0), .c (.lit (.int .i64 (a1)))] [] (.c (.lit (.int .u8 (r)))) [] := by
  unfold F_ref04_bit at h
  refine con_of [] [] 15 Try.func59 rfl rfl (by kernel_rfl) (fun K => ?_)
  refine TS_go 9 ?_
  replace h := chkO h
  obtain ⟨hc1, h⟩ := h
  refine TS_idxA 2 0 16 (i := iquo .i64 a1 8) hc1 (by kernel_rfl) (by kernel_rfl) ?_
  refine TS_ldA .u8 0 16 (i := iquo .i64 a1 8) a0 hc1 (by kernel_rfl) (by kernel_rfl) ?_
  refine TS_go 4 ?_
  replace h := chkO h
  obtain ⟨hc2, h⟩ := h
  refine TS_num (op := .shr) (k := .u8) (k' := .u64) (m := (List.getD a0 (Int.toNat (iquo .i64 a1 8)) 0)) (i := IntKind.wrap .u64 (7 - (IntKind.wrap .u64 (Int.tmod a1 8)))) (of_decide_eq_true hc2) rfl (by simp) (by kernel_rfl) (by kernel_rfl) ?_
  refine TS_go 4 ?_
  have ret := Option.some.inj h
  subst ret
  exact TS_ret (by kernel_rfl) (by kernel_rfl) (by kernel_rfl)

/-- multihop/multihopref04.Mask -/
noncomputable def F_ref04_Mask_l1 (a1 : Int) (a0 : List Int) (s1 : Int × S_Prefix) : Option ((Int × S_Prefix) ⊕ (S_Prefix)) :=
  bif (decide (s1.1 < (if 128 < if a1 < 0 then 0 else a1 then 128 else if a1 < 0 then 0 else a1))) then
    bif decide ((0 : Int) ≤ (iquo .i64 s1.1 8) ∧ (iquo .i64 s1.1 8) < (16 : Int)) then
      (F_ref04_bit a0 s1.1).bind fun v6 =>
      bif decide (0 ≤ (IntKind.wrap .u64 (7 - (IntKind.wrap .u64 (Int.tmod s1.1 8))))) then
        bif decide ((0 : Int) ≤ (iquo .i64 s1.1 8) ∧ (iquo .i64 s1.1 8) < (16 : Int)) then
          some (Sum.inl (IntKind.wrap .i64 (s1.1 + 1), (S_Prefix.mk (setA 16 s1.2.IP (Int.toNat (iquo .i64 s1.1 8)) (ior .u8 (List.getD s1.2.IP (Int.toNat (iquo .i64 s1.1 8)) 0) (ishl .u8 v6 (IntKind.wrap .u64 (7 - (IntKind.wrap .u64 (Int.tmod s1.1 8))))))) s1.2.Bits)))
        else none
      else none
    else none
  else
    some (Sum.inr s1.2)
noncomputable def F_ref04_Mask (a0 : List Int) (a1 : Int) : Option (S_Prefix) :=
  (loopO (F_ref04_Mask_l1 a1 a0) (0, (S_Prefix.mk [0, 0, 0, 0, 0, 0, 0, 0, 0, 0, 0, 0, 0, 0, 0, 0] (if 128 < if a1 < 0 then 0 else a1 then 128 else if a1 < 0 then 0 else a1)))).bind fun b2 =>
  some (b2)
set_option maxRecDepth 100000 in
set_option maxHeartbeats 40000000 in
theorem ok_ref04_Mask (a0 : List Int) (a1 : Int) (r : S_Prefix) (h : F_ref04_Mask a0 a1 = some r) : Con Try.prog 55 [.agg (arrS .u8 16 a0), .c (.lit (.int .i64 (a1)))] [] (.agg (S_Prefix.cs r)) [] := by
  unfold F_ref04_Mask at h
  refine con_of [] [] 34 Try.func55 rfl rfl (by kernel_rfl) (fun K => ?_)
  refine TS_go 25 ?_
  refine TS_cut ⟨[(1, []), (2, []), (4, []), (5, []), (6, [])], [(2, (2, [])), (4, (4, [])), (5, (5, []))]⟩ (.mk [.code (codeAt [1, 1, 1, 0, 1, 0] (bodyOf Try.f55)), .blk 0, .code (codeAt [1, 1, 1, 1] (bodyOf Try.f55))] .normal ⟨[(1, .c (.lit (.int .i64 (if 128 < if a1 < 0 then 0 else a1 then 128 else if a1 < 0 then 0 else a1)))), (2, .c (.box 2 0)), (4, .c (.box 4 0)), (5, .c (.box 5 0)), (6, .c (.lit (.int .i64 (0))))], [(2, .box [.lit (.int .u8 ((a0.getD 0 0))), .lit (.int .u8 ((a0.getD 1 0))), .lit (.int .u8 ((a0.getD 2 0))), .lit (.int .u8 ((a0.getD 3 0))), .lit (.int .u8 ((a0.getD 4 0))), .lit (.int .u8 ((a0.getD 5 0))), .lit (.int .u8 ((a0.getD 6 0))), .lit (.int .u8 ((a0.getD 7 0))), .lit (.int .u8 ((a0.getD 8 0))), .lit (.int .u8 ((a0.getD 9 0))), .lit (.int .u8 ((a0.getD 10 0))), .lit (.int .u8 ((a0.getD 11 0))), .lit (.int .u8 ((a0.getD 12 0))), .lit (.int .u8 ((a0.getD 13 0))), .lit (.int .u8 ((a0.getD 14 0))), .lit (.int .u8 ((a0.getD 15 0)))]), (4, .box [.lit (.int .u8 (0)), .lit (.int .u8 (0)), .lit (.int .u8 (0)), .lit (.int .u8 (0)), .lit (.int .u8 (0)), .lit (.int .u8 (0)), .lit (.int .u8 (0)), .lit (.int .u8 (0)), .lit (.int .u8 (0)), .lit (.int .u8 (0)), .lit (.int .u8 (0)), .lit (.int .u8 (0)), .lit (.int .u8 (0)), .lit (.int .u8 (0)), .lit (.int .u8 (0)), .lit (.int .u8 (0)), .lit (.int .i64 (0))]), (5, .box [.lit (.int .u8 (0)), .lit (.int .u8 (0)), .lit (.int .u8 (0)), .lit (.int .u8 (0)), .lit (.int .u8 (0)), .lit (.int .u8 (0)), .lit (.int .u8 (0)), .lit (.int .u8 (0)), .lit (.int .u8 (0)), .lit (.int .u8 (0)), .lit (.int .u8 (0)), .lit (.int .u8 (0)), .lit (.int .u8 (0)), .lit (.int .u8 (0)), .lit (.int .u8 (0)), .lit (.int .u8 (0)), .lit (.int .i64 (if 128 < if a1 < 0 then 0 else a1 then 128 else if a1 < 0 then 0 else a1))])]⟩) (by kernel_rfl) (by kernel_rfl) ?_
  replace h := bindO h
  obtain ⟨y3, hl1, hK1⟩ := h
  refine TS_loopB (F_ref04_Mask_l1 a1 a0) ⟨[(1, []), (2, []), (4, []), (5, []), (6, [])], [(2, (2, [])), (4, (4, [])), (5, (5, []))]⟩ (fun (s1 : Int × S_Prefix) => [(6, .c (.lit (.int .i64 (s1.1))))]) (fun (s1 : Int × S_Prefix) => [(5, .box (S_Prefix.cs s1.2))]) (0, (S_Prefix.mk [0, 0, 0, 0, 0, 0, 0, 0, 0, 0, 0, 0, 0, 0, 0, 0] (if 128 < if a1 < 0 then 0 else a1 then 128 else if a1 < 0 then 0 else a1))) y3 (.exit 0) (fun (b : S_Prefix) => b) ⟨[(4, []), (5, [])], [(4, (4, [])), (5, (5, []))]⟩ (fun (b2 : S_Prefix) => []) (fun (b2 : S_Prefix) => [(5, .box (S_Prefix.cs b2))]) hl1 (by kernel_rfl) (by kernel_rfl) ?_ ?_
  · intro s1 x h hy1
    unfold F_ref04_Mask_l1 at h
    refine TS_go 7 ?_
    replace h := condO h
    rcases h with ⟨hb4, h⟩ | ⟨hb4, h⟩
    · refine TS_know 14 (b := true) hb4 (by kernel_rfl) (by kernel_rfl) ?_
      refine TS_T (by kernel_rfl) rfl ?_
      refine TS_go 3 ?_
      refine TS_draw (by kernel_rfl) ?_
      refine TD_go 3 ?_
      replace h := chkO h
      obtain ⟨hc5, h⟩ := h
      refine TD_idxA 5 0 16 (i := iquo .i64 s1.1 8) hc5 (by kernel_rfl) (by kernel_rfl) ?_
      refine TD_ldA .u8 0 16 (i := iquo .i64 s1.1 8) s1.2.IP hc5 (by kernel_rfl) (by kernel_rfl) ?_
      refine TD_go 2 ?_
      replace h := bindO h
      obtain ⟨v6, hv6, h⟩ := h
      refine TD_call [] (ok_ref04_bit a0 s1.1 v6 hv6) (by kernel_rfl) (by kernel_rfl) ?_
      refine TD_go 4 ?_
      replace h := chkO h
      obtain ⟨hc7, h⟩ := h
      refine TD_num (op := .shl) (k := .u8) (k' := .u64) (m := v6) (i := IntKind.wrap .u64 (7 - (IntKind.wrap .u64 (Int.tmod s1.1 8)))) (of_decide_eq_true hc7) rfl (by simp) (by kernel_rfl) (by kernel_rfl) ?_
      refine TD_go 2 ?_
      replace h := chkO h
      obtain ⟨hc8, h⟩ := h
      refine TD_idxA 5 0 16 (i := iquo .i64 s1.1 8) hc8 (by kernel_rfl) (by kernel_rfl) ?_
      refine TD_stA (k := .u8) (d := 5) 0 16 (i := iquo .i64 s1.1 8) (v := ior .u8 (List.getD s1.2.IP (Int.toNat (iquo .i64 s1.1 8)) 0) (ishl .u8 v6 (IntKind.wrap .u64 (7 - (IntKind.wrap .u64 (Int.tmod s1.1 8)))))) s1.2.IP (pre := []) (post := [.lit (.int .i64 (s1.2.Bits))]) hc8 (by kernel_rfl) (by kernel_rfl) (by kernel_rfl) ?_
      refine TD_end (by kernel_rfl) ?_
      refine TS_go 6 ?_
      have ret := Option.some.inj h
      subst ret
      exact TS_againB _ ⟨[(1, []), (2, []), (4, []), (5, []), (6, [])], [(2, (2, [])), (4, (4, [])), (5, (5, []))]⟩ rfl (by kernel_rfl) (by kernel_rfl)
    · refine TS_know 14 (b := false) hb4 (by kernel_rfl) (by kernel_rfl) ?_
      refine TS_F (by kernel_rfl) rfl ?_
      refine TS_go 2 ?_
      have ret := Option.some.inj h
      subst ret
      exact TS_brkB s1.2 ⟨[(4, []), (5, [])], [(4, (4, [])), (5, (5, []))]⟩ rfl (by kernel_rfl) (by kernel_rfl) (by kernel_rfl)
  · intro b2 hb
    subst y3
    have h := hK1
    refine TS_go 7 ?_
    have ret := Option.some.inj h
    subst ret
    exact TS_ret (by kernel_rfl) (by kernel_rfl) (by kernel_rfl)

/-- multihop/multihopworld.Prefix -/
noncomputable def F_world_Prefix_j1  (v3 : Int × S_multihopmade_Tape) : Option (S_Prefix × S_multihopmade_Tape) :=
  (F_world_IP v3.2).bind fun v4 =>
  (F_ref04_Mask v4.1 v3.1).bind fun v5 =>
  some ((v5, v4.2))
noncomputable def F_world_Prefix (a0 : S_multihopmade_Tape) : Option (S_Prefix × S_multihopmade_Tape) :=
  (F_made_Tape_Next a0 10).bind fun v1 =>
  (idx ([128, 128, 64, 56, 48, 32, 0, 127, 3, 60] : List Int) v1.1).bind fun e2 =>
  (F_made_Tape_Bool v1.2 7).bind fun v6 =>
  bif v6.1 then
    (F_made_Tape_Next v6.2 129).bind fun v8 =>
    (F_world_Prefix_j1) (v8.1, v8.2)
  else
    (F_world_Prefix_j1) (e2, v6.2)
set_option maxRecDepth 100000 in
set_option maxHeartbeats 40000000 in
theorem ok_world_Prefix (a0 : S_multihopmade_Tape) (r : S_Prefix × S_multihopmade_Tape) (h : F_world_Prefix a0 = some r) : Con Try.prog 57 [.c (.box 1000000 0)] [(1000000, .box (S_multihopmade_Tape.cs a0))] (.agg (S_Prefix.cs r.1)) [(1000000, .box (S_multihopmade_Tape.cs r.2))] := by
  unfold F_world_Prefix at h
  refine con_of [] [(1000000, [2])] 17 Try.func57 rfl rfl (by kernel_rfl) (fun K => ?_)
  refine TS_go 6 ?_
  refine TS_litNT 4 3 1 (ecI .i64) [] ([128, 128, 64, 56, 48, 32, 0, 127, 3, 60] : List Int) (by kernel_rfl) (by kernel_rfl) ?_
  refine TS_go 1 ?_
  replace h := bindO h
  obtain ⟨v1, hv1, h⟩ := h
  refine TS_con [] [] (some (1000000, 0)) (ok_made_Tape_Next a0 10 v1 hv1) (by kernel_rfl) (by kernel_rfl) (by kernel_rfl) ?_
  replace h := bindO h
  obtain ⟨e2, he2, h⟩ := h
  refine TS_idx (ecI .i64) he2 (by kernel_rfl) (by kernel_rfl) ?_
  refine TS_go 3 ?_
  refine TS_cut ⟨[(0, []), (2, []), (3, [])], [(1000000, (1000000, [])), (2, (2, []))]⟩ (.mk [.code (codeAt [1, 1] (bodyOf Try.f57))] .normal ⟨[(0, .c (.box 1000000 0)), (2, .c (.box 2 0)), (3, .c (.lit (.int .i64 (e2))))], [(1000000, .box [.slc 1 0 (List.length v1.2.l) (List.map (ecI .i64) v1.2.l), .lit (.int .i64 (v1.2.at_))]), (2, .box [.lit (.int .u8 (0)), .lit (.int .u8 (0)), .lit (.int .u8 (0)), .lit (.int .u8 (0)), .lit (.int .u8 (0)), .lit (.int .u8 (0)), .lit (.int .u8 (0)), .lit (.int .u8 (0)), .lit (.int .u8 (0)), .lit (.int .u8 (0)), .lit (.int .u8 (0)), .lit (.int .u8 (0)), .lit (.int .u8 (0)), .lit (.int .u8 (0)), .lit (.int .u8 (0)), .lit (.int .u8 (0)), .lit (.int .i64 (0))])]⟩) (by kernel_rfl) (by kernel_rfl) ?_
  refine TS_joinB ⟨[(0, []), (2, []), (3, [])], [(1000000, (1000000, [])), (2, (2, []))]⟩ (fun (v3 : Int × S_multihopmade_Tape) => [(3, .c (.lit (.int .i64 (v3.1))))]) (fun (v3 : Int × S_multihopmade_Tape) => [(1000000, .box (S_multihopmade_Tape.cs v3.2))]) (F_world_Prefix_j1) r ?_ ?_
  · clear h
    intro v3 h
    unfold F_world_Prefix_j1 at h
    refine TS_go 3 ?_
    replace h := bindO h
    obtain ⟨v4, hv4, h⟩ := h
    refine TS_con [] [] (some (1000000, 0)) (ok_world_IP v3.2 v4 hv4) (by kernel_rfl) (by kernel_rfl) (by kernel_rfl) ?_
    refine TS_go 1 ?_
    replace h := bindO h
    obtain ⟨v5, hv5, h⟩ := h
    refine TS_call [] (ok_ref04_Mask v4.1 v3.1 v5 hv5) (by kernel_rfl) (by kernel_rfl) ?_
    refine TS_go 3 ?_
    have ret := Option.some.inj h
    subst ret
    exact TS_ret (by kernel_rfl) (by kernel_rfl) (by kernel_rfl)
  · refine TS_go 3 ?_
    replace h := bindO h
    obtain ⟨v6, hv6, h⟩ := h
    refine TS_con [] [] (some (1000000, 0)) (ok_made_Tape_Bool v1.2 7 v6 hv6) (by kernel_rfl) (by kernel_rfl) (by kernel_rfl) ?_
    refine TS_go 1 ?_
    replace h := condO h
    rcases h with ⟨hb7, h⟩ | ⟨hb7, h⟩
    · refine TS_know 10 (b := true) hb7 (by kernel_rfl) (by kernel_rfl) ?_
      refine TS_T (by kernel_rfl) rfl ?_
      refine TS_go 2 ?_
      replace h := bindO h
      obtain ⟨v8, hv8, h⟩ := h
      refine TS_con [] [] (some (1000000, 0)) (ok_made_Tape_Next v6.2 129 v8 hv8) (by kernel_rfl) (by kernel_rfl) (by kernel_rfl) ?_
      refine TS_go 2 ?_
      exact TS_meet (v8.1, v8.2) ⟨[(0, []), (2, []), (3, [])], [(1000000, (1000000, [])), (2, (2, []))]⟩ h (by kernel_rfl) (by kernel_rfl)
    · refine TS_know 10 (b := false) hb7 (by kernel_rfl) (by kernel_rfl) ?_
      refine TS_F (by kernel_rfl) rfl ?_
      refine TS_go 1 ?_
      exact TS_meet (e2, v6.2) ⟨[(0, []), (2, []), (3, [])], [(1000000, (1000000, [])), (2, (2, []))]⟩ h (by kernel_rfl) (by kernel_rfl)

/-- multihop/multihopworld.To -/
noncomputable def F_world_To_j1  (v6 : S_multihopmade_Tape × S_Destination) : Option (S_Destination × S_multihopmade_Tape) :=
  some ((v6.2, v6.1))
noncomputable def F_world_To (a0 : S_multihopmade_Tape) : Option (S_Destination × S_multihopmade_Tape) :=
  (F_world_IP a0).bind fun v1 =>
  (F_made_Tape_Next v1.2 4).bind fun v2 =>
  (idx ([128, 128, 64, 0] : List Int) v2.1).bind fun e3 =>
  (F_ref04_Mask v1.1 e3).bind fun v4 =>
  (F_world_EUI v2.2).bind fun v5 =>
  (F_made_Tape_Bool v5.2 3).bind fun v7 =>
  bif v7.1 then
    (F_world_Prefix v7.2).bind fun v9 =>
    (F_world_To_j1) (v9.2, (S_Destination.mk v4 v9.1 v5.1))
  else
    (F_world_To_j1) (v7.2, (S_Destination.mk v4 (S_Prefix.mk [0, 0, 0, 0, 0, 0, 0, 0, 0, 0, 0, 0, 0, 0, 0, 0] 0) v5.1))
set_option maxRecDepth 100000 in
set_option maxHeartbeats 40000000 in
theorem ok_world_To (a0 : S_multihopmade_Tape) (r : S_Destination × S_multihopmade_Tape) (h : F_world_To a0 = some r) : Con Try.prog 37 [.c (.box 1000000 0)] [(1000000, .box (S_multihopmade_Tape.cs a0))] (.agg (S_Destination.cs r.1)) [(1000000, .box (S_multihopmade_Tape.cs r.2))] := by
  unfold F_world_To at h
  refine con_of [] [(1000000, [2])] 21 Try.func37 rfl rfl (by kernel_rfl) (fun K => ?_)
  refine TS_go 7 ?_
  replace h := bindO h
  obtain ⟨v1, hv1, h⟩ := h
  refine TS_con [] [] (some (1000000, 0)) (ok_world_IP a0 v1 hv1) (by kernel_rfl) (by kernel_rfl) (by kernel_rfl) ?_
  refine TS_litNT 6 3 1 (ecI .i64) [] ([128, 128, 64, 0] : List Int) (by kernel_rfl) (by kernel_rfl) ?_
  refine TS_go 1 ?_
  replace h := bindO h
  obtain ⟨v2, hv2, h⟩ := h
  refine TS_con [] [] (some (1000000, 0)) (ok_made_Tape_Next v1.2 4 v2 hv2) (by kernel_rfl) (by kernel_rfl) (by kernel_rfl) ?_
  replace h := bindO h
  obtain ⟨e3, he3, h⟩ := h
  refine TS_idx (ecI .i64) he3 (by kernel_rfl) (by kernel_rfl) ?_
  refine TS_go 1 ?_
  replace h := bindO h
  obtain ⟨v4, hv4, h⟩ := h
  refine TS_call [] (ok_ref04_Mask v1.1 e3 v4 hv4) (by kernel_rfl) (by kernel_rfl) ?_
  refine TS_go 1 ?_
  replace h := bindO h
  obtain ⟨v5, hv5, h⟩ := h
  refine TS_con [] [] (some (1000000, 0)) (ok_world_EUI v2.2 v5 hv5) (by kernel_rfl) (by kernel_rfl) (by kernel_rfl) ?_
  refine TS_go 4 ?_
  refine TS_cut ⟨[(0, []), (2, []), (3, [])], [(1000000, (1000000, [])), (2, (2, [])), (3, (3, []))]⟩ (.mk [.code (codeAt [1, 1] (bodyOf Try.f37))] .normal ⟨[(0, .c (.box 1000000 0)), (2, .c (.box 2 0)), (3, .c (.box 3 0))], [(1000000, .box [.slc 1 0 (List.length v5.2.l) (List.map (ecI .i64) v5.2.l), .lit (.int .i64 (v5.2.at_))]), (2, .box [.lit (.int .u8 (0)), .lit (.int .u8 (0)), .lit (.int .u8 (0)), .lit (.int .u8 (0)), .lit (.int .u8 (0)), .lit (.int .u8 (0)), .lit (.int .u8 (0)), .lit (.int .u8 (0)), .lit (.int .u8 (0)), .lit (.int .u8 (0)), .lit (.int .u8 (0)), .lit (.int .u8 (0)), .lit (.int .u8 (0)), .lit (.int .u8 (0)), .lit (.int .u8 (0)), .lit (.int .u8 (0)), .lit (.int .i64 (0)), .lit (.int .u8 (0)), .lit (.int .u8 (0)), .lit (.int .u8 (0)), .lit (.int .u8 (0)), .lit (.int .u8 (0)), .lit (.int .u8 (0)), .lit (.int .u8 (0)), .lit (.int .u8 (0)), .lit (.int .u8 (0)), .lit (.int .u8 (0)), .lit (.int .u8 (0)), .lit (.int .u8 (0)), .lit (.int .u8 (0)), .lit (.int .u8 (0)), .lit (.int .u8 (0)), .lit (.int .u8 (0)), .lit (.int .i64 (0)), .lit (.int .u64 (0))]), (3, .box [.lit (.int .u8 ((v4.IP.getD 0 0))), .lit (.int .u8 ((v4.IP.getD 1 0))), .lit (.int .u8 ((v4.IP.getD 2 0))), .lit (.int .u8 ((v4.IP.getD 3 0))), .lit (.int .u8 ((v4.IP.getD 4 0))), .lit (.int .u8 ((v4.IP.getD 5 0))), .lit (.int .u8 ((v4.IP.getD 6 0))), .lit (.int .u8 ((v4.IP.getD 7 0))), .lit (.int .u8 ((v4.IP.getD 8 0))), .lit (.int .u8 ((v4.IP.getD 9 0))), .lit (.int .u8 ((v4.IP.getD 10 0))), .lit (.int .u8 ((v4.IP.getD 11 0))), .lit (.int .u8 ((v4.IP.getD 12 0))), .lit (.int .u8 ((v4.IP.getD 13 0))), .lit (.int .u8 ((v4.IP.getD 14 0))), .lit (.int .u8 ((v4.IP.getD 15 0))), .lit (.int .i64 (v4.Bits)), .lit (.int .u8 (0)), .lit (.int .u8 (0)), .lit (.int .u8 (0)), .lit (.int .u8 (0)), .lit (.int .u8 (0)), .lit (.int .u8 (0)), .lit (.int .u8 (0)), .lit (.int .u8 (0)), .lit (.int .u8 (0)), .lit (.int .u8 (0)), .lit (.int .u8 (0)), .lit (.int .u8 (0)), .lit (.int .u8 (0)), .lit (.int .u8 (0)), .lit (.int .u8 (0)), .lit (.int .u8 (0)), .lit (.int .i64 (0)), .lit (.int .u64 (v5.1))])]⟩) (by kernel_rfl) (by kernel_rfl) ?_
  refine TS_joinB ⟨[(2, []), (3, [])], [(1000000, (1000000, [])), (2, (2, [])), (3, (3, []))]⟩ (fun (v6 : S_multihopmade_Tape × S_Destination) => []) (fun (v6 : S_multihopmade_Tape × S_Destination) => [(1000000, .box (S_multihopmade_Tape.cs v6.1)), (3, .box (S_Destination.cs v6.2))]) (F_world_To_j1) r ?_ ?_
  · clear h
    intro v6 h
    unfold F_world_To_j1 at h
    refine TS_go 6 ?_
    have ret := Option.some.inj h
    subst ret
    exact TS_ret (by kernel_rfl) (by kernel_rfl) (by kernel_rfl)
  · refine TS_go 3 ?_
    replace h := bindO h
    obtain ⟨v7, hv7, h⟩ := h
    refine TS_con [] [] (some (1000000, 0)) (ok_made_Tape_Bool v5.2 3 v7 hv7) (by kernel_rfl) (by kernel_rfl) (by kernel_rfl) ?_
    refine TS_go 1 ?_
    replace h := condO h
    rcases h with ⟨hb8, h⟩ | ⟨hb8, h⟩
    · refine TS_know 16 (b := true) hb8 (by kernel_rfl) (by kernel_rfl) ?_
      refine TS_T (by kernel_rfl) rfl ?_
      refine TS_go 2 ?_
      replace h := bindO h
      obtain ⟨v9, hv9, h⟩ := h
      refine TS_con [] [] (some (1000000, 0)) (ok_world_Prefix v7.2 v9 hv9) (by kernel_rfl) (by kernel_rfl) (by kernel_rfl) ?_
      refine TS_go 3 ?_
      exact TS_meet (v9.2, (S_Destination.mk v4 v9.1 v5.1)) ⟨[(2, []), (3, [])], [(1000000, (1000000, [])), (2, (2, [])), (3, (3, []))]⟩ h (by kernel_rfl) (by kernel_rfl)
    · refine TS_know 16 (b := false) hb8 (by kernel_rfl) (by kernel_rfl) ?_
      refine TS_F (by kernel_rfl) rfl ?_
      refine TS_go 1 ?_
      exact TS_meet (v7.2, (S_Destination.mk v4 (S_Prefix.mk [0, 0, 0, 0, 0, 0, 0, 0, 0, 0, 0, 0, 0, 0, 0, 0] 0) v5.1)) ⟨[(2, []), (3, [])], [(1000000, (1000000, [])), (2, (2, [])), (3, (3, []))]⟩ h (by kernel_rfl) (by kernel_rfl)

/-- multihop/multihopworld.Notice -/
noncomputable def F_world_Notice_j1  (v2 : S_multihopmade_Tape × S_Notice) : Option (S_Notice × S_multihopmade_Tape) :=
  some ((v2.2, v2.1))
noncomputable def F_world_Notice (a0 : S_multihopmade_Tape) : Option (S_Notice × S_multihopmade_Tape) :=
  (F_made_Tape_Next a0 5).bind fun v1 =>
  bif ((IntKind.wrap .i64 (1 + v1.1)) == 1) then
    (F_world_Seq v1.2).bind fun v4 =>
    (F_world_Notice_j1) (v4.2, (S_Notice.mk (IntKind.wrap .i64 (1 + v1.1)) v4.1 0 0 (S_Destination.mk (S_Prefix.mk [0, 0, 0, 0, 0, 0, 0, 0, 0, 0, 0, 0, 0, 0, 0, 0] 0) (S_Prefix.mk [0, 0, 0, 0, 0, 0, 0, 0, 0, 0, 0, 0, 0, 0, 0, 0] 0) 0) 0))
  else
    bif ((IntKind.wrap .i64 (1 + v1.1)) == 2) then
      (F_world_EUI v1.2).bind fun v6 =>
      (F_world_Cost v6.2).bind fun v7 =>
      (F_made_Tape_Bool v7.2 5).bind fun v8 =>
      bif v8.1 then
        (F_made_Tape_Word v8.2).bind fun v10 =>
        (F_world_Notice_j1) (v10.2, (S_Notice.mk (IntKind.wrap .i64 (1 + v1.1)) 0 v7.1 (ior .u64 v10.1 1) (S_Destination.mk (S_Prefix.mk [0, 0, 0, 0, 0, 0, 0, 0, 0, 0, 0, 0, 0, 0, 0, 0] 0) (S_Prefix.mk [0, 0, 0, 0, 0, 0, 0, 0, 0, 0, 0, 0, 0, 0, 0, 0] 0) 0) 0))
      else
        (F_world_Notice_j1) (v8.2, (S_Notice.mk (IntKind.wrap .i64 (1 + v1.1)) 0 v7.1 v6.1 (S_Destination.mk (S_Prefix.mk [0, 0, 0, 0, 0, 0, 0, 0, 0, 0, 0, 0, 0, 0, 0, 0] 0) (S_Prefix.mk [0, 0, 0, 0, 0, 0, 0, 0, 0, 0, 0, 0, 0, 0, 0, 0] 0) 0) 0))
    else
      bif ((IntKind.wrap .i64 (1 + v1.1)) == 3) then
        (F_world_To v1.2).bind fun v12 =>
        (F_world_Seq v12.2).bind fun v13 =>
        (F_world_Cost v13.2).bind fun v14 =>
        (F_made_Tape_Bool v14.2 5).bind fun v15 =>
        bif v15.1 then
          (F_world_Notice_j1) (v15.2, (S_Notice.mk (IntKind.wrap .i64 (1 + v1.1)) v13.1 65535 0 v12.1 0))
        else
          (F_world_Notice_j1) (v15.2, (S_Notice.mk (IntKind.wrap .i64 (1 + v1.1)) v13.1 v14.1 0 v12.1 0))
      else
        bif ((IntKind.wrap .i64 (1 + v1.1)) == 4) then
          (F_world_To v1.2).bind fun v18 =>
          (F_made_Tape_Bool v18.2 3).bind fun v19 =>
          bif v19.1 then
            (F_world_Notice_j1) (v19.2, (S_Notice.mk (IntKind.wrap .i64 (1 + v1.1)) 0 0 0 (S_Destination.mk (S_Prefix.mk [0, 0, 0, 0, 0, 0, 0, 0, 0, 0, 0, 0, 0, 0, 0, 0] 0) (S_Prefix.mk [0, 0, 0, 0, 0, 0, 0, 0, 0, 0, 0, 0, 0, 0, 0, 0] 0) 0) 0))
          else
            (F_world_Notice_j1) (v19.2, (S_Notice.mk (IntKind.wrap .i64 (1 + v1.1)) 0 0 0 (S_Destination.mk v18.1.Dst v18.1.Src 0) 0))
        else
          bif ((IntKind.wrap .i64 (1 + v1.1)) == 5) then
            (F_world_To v1.2).bind fun v22 =>
            (F_world_Seq v22.2).bind fun v23 =>
            (F_made_Tape_Next v23.2 32).bind fun v24 =>
            (F_world_Notice_j1) (v24.2, (S_Notice.mk (IntKind.wrap .i64 (1 + v1.1)) v23.1 0 0 v22.1 (IntKind.wrap .i64 (1 + v24.1))))
          else
            (F_world_Notice_j1) (v1.2, (S_Notice.mk (IntKind.wrap .i64 (1 + v1.1)) 0 0 0 (S_Destination.mk (S_Prefix.mk [0, 0, 0, 0, 0, 0, 0, 0, 0, 0, 0, 0, 0, 0, 0, 0] 0) (S_Prefix.mk [0, 0, 0, 0, 0, 0, 0, 0, 0, 0, 0, 0, 0, 0, 0, 0] 0) 0) 0))
set_option maxRecDepth 100000 in
set_option maxHeartbeats 40000000 in
theorem ok_world_Notice (a0 : S_multihopmade_Tape) (r : S_Notice × S_multihopmade_Tape) (h : F_world_Notice a0 = some r) : Con Try.prog 15 [.c (.box 1000000 0)] [(1000000, .box (S_multihopmade_Tape.cs a0))] (.agg (S_Notice.cs r.1)) [(1000000, .box (S_multihopmade_Tape.cs r.2))] := by
  unfold F_world_Notice at h
  refine con_of [] [(1000000, [2])] 67 Try.func15 rfl rfl (by kernel_rfl) (fun K => ?_)
  refine TS_go 7 ?_
  replace h := bindO h
  obtain ⟨v1, hv1, h⟩ := h
  refine TS_con [] [] (some (1000000, 0)) (ok_made_Tape_Next a0 5 v1 hv1) (by kernel_rfl) (by kernel_rfl) (by kernel_rfl) ?_
  refine TS_go 5 ?_
  refine TS_cut ⟨[(0, []), (2, []), (3, [])], [(1000000, (1000000, [])), (2, (2, [])), (3, (3, []))]⟩ (.mk [.code (codeAt [1, 1] (bodyOf Try.f15))] .normal ⟨[(0, .c (.box 1000000 0)), (2, .c (.box 2 0)), (3, .c (.box 3 0))], [(1000000, .box [.slc 1 0 (List.length v1.2.l) (List.map (ecI .i64) v1.2.l), .lit (.int .i64 (v1.2.at_))]), (2, .box [.lit (.int .i64 (0)), .lit (.int .u16 (0)), .lit (.int .i64 (0)), .lit (.int .u64 (0)), .lit (.int .u8 (0)), .lit (.int .u8 (0)), .lit (.int .u8 (0)), .lit (.int .u8 (0)), .lit (.int .u8 (0)), .lit (.int .u8 (0)), .lit (.int .u8 (0)), .lit (.int .u8 (0)), .lit (.int .u8 (0)), .lit (.int .u8 (0)), .lit (.int .u8 (0)), .lit (.int .u8 (0)), .lit (.int .u8 (0)), .lit (.int .u8 (0)), .lit (.int .u8 (0)), .lit (.int .u8 (0)), .lit (.int .i64 (0)), .lit (.int .u8 (0)), .lit (.int .u8 (0)), .lit (.int .u8 (0)), .lit (.int .u8 (0)), .lit (.int .u8 (0)), .lit (.int .u8 (0)), .lit (.int .u8 (0)), .lit (.int .u8 (0)), .lit (.int .u8 (0)), .lit (.int .u8 (0)), .lit (.int .u8 (0)), .lit (.int .u8 (0)), .lit (.int .u8 (0)), .lit (.int .u8 (0)), .lit (.int .u8 (0)), .lit (.int .u8 (0)), .lit (.int .i64 (0)), .lit (.int .u64 (0)), .lit (.int .i64 (0))]), (3, .box [.lit (.int .i64 (IntKind.wrap .i64 (1 + v1.1))), .lit (.int .u16 (0)), .lit (.int .i64 (0)), .lit (.int .u64 (0)), .lit (.int .u8 (0)), .lit (.int .u8 (0)), .lit (.int .u8 (0)), .lit (.int .u8 (0)), .lit (.int .u8 (0)), .lit (.int .u8 (0)), .lit (.int .u8 (0)), .lit (.int .u8 (0)), .lit (.int .u8 (0)), .lit (.int .u8 (0)), .lit (.int .u8 (0)), .lit (.int .u8 (0)), .lit (.int .u8 (0)), .lit (.int .u8 (0)), .lit (.int .u8 (0)), .lit (.int .u8 (0)), .lit (.int .i64 (0)), .lit (.int .u8 (0)), .lit (.int .u8 (0)), .lit (.int .u8 (0)), .lit (.int .u8 (0)), .lit (.int .u8 (0)), .lit (.int .u8 (0)), .lit (.int .u8 (0)), .lit (.int .u8 (0)), .lit (.int .u8 (0)), .lit (.int .u8 (0)), .lit (.int .u8 (0)), .lit (.int .u8 (0)), .lit (.int .u8 (0)), .lit (.int .u8 (0)), .lit (.int .u8 (0)), .lit (.int .u8 (0)), .lit (.int .i64 (0)), .lit (.int .u64 (0)), .lit (.int .i64 (0))])]⟩) (by kernel_rfl) (by kernel_rfl) ?_
  refine TS_joinB ⟨[(2, []), (3, [])], [(1000000, (1000000, [])), (2, (2, [])), (3, (3, []))]⟩ (fun (v2 : S_multihopmade_Tape × S_Notice) => []) (fun (v2 : S_multihopmade_Tape × S_Notice) => [(1000000, .box (S_multihopmade_Tape.cs v2.1)), (3, .box (S_Notice.cs v2.2))]) (F_world_Notice_j1) r ?_ ?_
  · clear h
    intro v2 h
    unfold F_world_Notice_j1 at h
    refine TS_go 6 ?_
    have ret := Option.some.inj h
    subst ret
    exact TS_ret (by kernel_rfl) (by kernel_rfl) (by kernel_rfl)
  · refine TS_go 11 ?_
    replace h := condO h
    rcases h with ⟨hb3, h⟩ | ⟨hb3, h⟩
    · refine TS_know 11 (b := true) hb3 (by kernel_rfl) (by kernel_rfl) ?_
      refine TS_know 10 (b := true) hb3 (by kernel_rfl) (by kernel_rfl) ?_
      refine TS_T (by kernel_rfl) rfl ?_
      refine TS_go 2 ?_
      replace h := bindO h
      obtain ⟨v4, hv4, h⟩ := h
      refine TS_con [] [] (some (1000000, 0)) (ok_world_Seq v1.2 v4 hv4) (by kernel_rfl) (by kernel_rfl) (by kernel_rfl) ?_
      refine TS_go 4 ?_
      exact TS_meet (v4.2, (S_Notice.mk (IntKind.wrap .i64 (1 + v1.1)) v4.1 0 0 (S_Destination.mk (S_Prefix.mk [0, 0, 0, 0, 0, 0, 0, 0, 0, 0, 0, 0, 0, 0, 0, 0] 0) (S_Prefix.mk [0, 0, 0, 0, 0, 0, 0, 0, 0, 0, 0, 0, 0, 0, 0, 0] 0) 0) 0)) ⟨[(2, []), (3, [])], [(1000000, (1000000, [])), (2, (2, [])), (3, (3, []))]⟩ h (by kernel_rfl) (by kernel_rfl)
    · refine TS_know 11 (b := false) hb3 (by kernel_rfl) (by kernel_rfl) ?_
      refine TS_know 10 (b := false) hb3 (by kernel_rfl) (by kernel_rfl) ?_
      refine TS_F (by kernel_rfl) rfl ?_
      refine TS_go 5 ?_
      replace h := condO h
      rcases h with ⟨hb5, h⟩ | ⟨hb5, h⟩
      · refine TS_know 16 (b := true) hb5 (by kernel_rfl) (by kernel_rfl) ?_
        refine TS_know 15 (b := true) hb5 (by kernel_rfl) (by kernel_rfl) ?_
        refine TS_T (by kernel_rfl) rfl ?_
        refine TS_go 3 ?_
        replace h := bindO h
        obtain ⟨v6, hv6, h⟩ := h
        refine TS_con [] [] (some (1000000, 0)) (ok_world_EUI v1.2 v6 hv6) (by kernel_rfl) (by kernel_rfl) (by kernel_rfl) ?_
        refine TS_go 1 ?_
        replace h := bindO h
        obtain ⟨v7, hv7, h⟩ := h
        refine TS_con [] [] (some (1000000, 0)) (ok_world_Cost v6.2 v7 hv7) (by kernel_rfl) (by kernel_rfl) (by kernel_rfl) ?_
        refine TS_go 8 ?_
        replace h := bindO h
        obtain ⟨v8, hv8, h⟩ := h
        refine TS_con [] [] (some (1000000, 0)) (ok_made_Tape_Bool v7.2 5 v8 hv8) (by kernel_rfl) (by kernel_rfl) (by kernel_rfl) ?_
        refine TS_go 1 ?_
        replace h := condO h
        rcases h with ⟨hb9, h⟩ | ⟨hb9, h⟩
        · refine TS_know 24 (b := true) hb9 (by kernel_rfl) (by kernel_rfl) ?_
          refine TS_T (by kernel_rfl) rfl ?_
          refine TS_go 2 ?_
          replace h := bindO h
          obtain ⟨v10, hv10, h⟩ := h
          refine TS_con [] [] (some (1000000, 0)) (ok_made_Tape_Word v8.2 v10 hv10) (by kernel_rfl) (by kernel_rfl) (by kernel_rfl) ?_
          refine TS_go 5 ?_
          exact TS_meet (v10.2, (S_Notice.mk (IntKind.wrap .i64 (1 + v1.1)) 0 v7.1 (ior .u64 v10.1 1) (S_Destination.mk (S_Prefix.mk [0, 0, 0, 0, 0, 0, 0, 0, 0, 0, 0, 0, 0, 0, 0, 0] 0) (S_Prefix.mk [0, 0, 0, 0, 0, 0, 0, 0, 0, 0, 0, 0, 0, 0, 0, 0] 0) 0) 0)) ⟨[(2, []), (3, [])], [(1000000, (1000000, [])), (2, (2, [])), (3, (3, []))]⟩ h (by kernel_rfl) (by kernel_rfl)
        · refine TS_know 24 (b := false) hb9 (by kernel_rfl) (by kernel_rfl) ?_
          refine TS_F (by kernel_rfl) rfl ?_
          refine TS_go 2 ?_
          exact TS_meet (v8.2, (S_Notice.mk (IntKind.wrap .i64 (1 + v1.1)) 0 v7.1 v6.1 (S_Destination.mk (S_Prefix.mk [0, 0, 0, 0, 0, 0, 0, 0, 0, 0, 0, 0, 0, 0, 0, 0] 0) (S_Prefix.mk [0, 0, 0, 0, 0, 0, 0, 0, 0, 0, 0, 0, 0, 0, 0, 0] 0) 0) 0)) ⟨[(2, []), (3, [])], [(1000000, (1000000, [])), (2, (2, [])), (3, (3, []))]⟩ h (by kernel_rfl) (by kernel_rfl)
      · refine TS_know 16 (b := false) hb5 (by kernel_rfl) (by kernel_rfl) ?_
        refine TS_know 15 (b := false) hb5 (by kernel_rfl) (by kernel_rfl) ?_
        refine TS_F (by kernel_rfl) rfl ?_
        refine TS_go 5 ?_
        replace h := condO h
        rcases h with ⟨hb11, h⟩ | ⟨hb11, h⟩
        · refine TS_know 30 (b := true) hb11 (by kernel_rfl) (by kernel_rfl) ?_
          refine TS_know 29 (b := true) hb11 (by kernel_rfl) (by kernel_rfl) ?_
          refine TS_T (by kernel_rfl) rfl ?_
          refine TS_go 3 ?_
          replace h := bindO h
          obtain ⟨v12, hv12, h⟩ := h
          refine TS_con [] [] (some (1000000, 0)) (ok_world_To v1.2 v12 hv12) (by kernel_rfl) (by kernel_rfl) (by kernel_rfl) ?_
          refine TS_go 1 ?_
          replace h := bindO h
          obtain ⟨v13, hv13, h⟩ := h
          refine TS_con [] [] (some (1000000, 0)) (ok_world_Seq v12.2 v13 hv13) (by kernel_rfl) (by kernel_rfl) (by kernel_rfl) ?_
          refine TS_go 1 ?_
          replace h := bindO h
          obtain ⟨v14, hv14, h⟩ := h
          refine TS_con [] [] (some (1000000, 0)) (ok_world_Cost v13.2 v14 hv14) (by kernel_rfl) (by kernel_rfl) (by kernel_rfl) ?_
          refine TS_go 10 ?_
          replace h := bindO h
          obtain ⟨v15, hv15, h⟩ := h
          refine TS_con [] [] (some (1000000, 0)) (ok_made_Tape_Bool v14.2 5 v15 hv15) (by kernel_rfl) (by kernel_rfl) (by kernel_rfl) ?_
          refine TS_go 1 ?_
          replace h := condO h
          rcases h with ⟨hb16, h⟩ | ⟨hb16, h⟩
          · refine TS_know 41 (b := true) hb16 (by kernel_rfl) (by kernel_rfl) ?_
            refine TS_T (by kernel_rfl) rfl ?_
            refine TS_go 5 ?_
            exact TS_meet (v15.2, (S_Notice.mk (IntKind.wrap .i64 (1 + v1.1)) v13.1 65535 0 v12.1 0)) ⟨[(2, []), (3, [])], [(1000000, (1000000, [])), (2, (2, [])), (3, (3, []))]⟩ h (by kernel_rfl) (by kernel_rfl)
          · refine TS_know 41 (b := false) hb16 (by kernel_rfl) (by kernel_rfl) ?_
            refine TS_F (by kernel_rfl) rfl ?_
            refine TS_go 2 ?_
            exact TS_meet (v15.2, (S_Notice.mk (IntKind.wrap .i64 (1 + v1.1)) v13.1 v14.1 0 v12.1 0)) ⟨[(2, []), (3, [])], [(1000000, (1000000, [])), (2, (2, [])), (3, (3, []))]⟩ h (by kernel_rfl) (by kernel_rfl)
        · refine TS_know 30 (b := false) hb11 (by kernel_rfl) (by kernel_rfl) ?_
          refine TS_know 29 (b := false) hb11 (by kernel_rfl) (by kernel_rfl) ?_
          refine TS_F (by kernel_rfl) rfl ?_
          refine TS_go 5 ?_
          replace h := condO h
          rcases h with ⟨hb17, h⟩ | ⟨hb17, h⟩
          · refine TS_know 44 (b := true) hb17 (by kernel_rfl) (by kernel_rfl) ?_
            refine TS_know 43 (b := true) hb17 (by kernel_rfl) (by kernel_rfl) ?_
            refine TS_T (by kernel_rfl) rfl ?_
            refine TS_go 3 ?_
            replace h := bindO h
            obtain ⟨v18, hv18, h⟩ := h
            refine TS_con [] [] (some (1000000, 0)) (ok_world_To v1.2 v18 hv18) (by kernel_rfl) (by kernel_rfl) (by kernel_rfl) ?_
            refine TS_go 12 ?_
            replace h := bindO h
            obtain ⟨v19, hv19, h⟩ := h
            refine TS_con [] [] (some (1000000, 0)) (ok_made_Tape_Bool v18.2 3 v19 hv19) (by kernel_rfl) (by kernel_rfl) (by kernel_rfl) ?_
            refine TS_go 1 ?_
            replace h := condO h
            rcases h with ⟨hb20, h⟩ | ⟨hb20, h⟩
            · refine TS_know 51 (b := true) hb20 (by kernel_rfl) (by kernel_rfl) ?_
              refine TS_T (by kernel_rfl) rfl ?_
              refine TS_go 6 ?_
              exact TS_meet (v19.2, (S_Notice.mk (IntKind.wrap .i64 (1 + v1.1)) 0 0 0 (S_Destination.mk (S_Prefix.mk [0, 0, 0, 0, 0, 0, 0, 0, 0, 0, 0, 0, 0, 0, 0, 0] 0) (S_Prefix.mk [0, 0, 0, 0, 0, 0, 0, 0, 0, 0, 0, 0, 0, 0, 0, 0] 0) 0) 0)) ⟨[(2, []), (3, [])], [(1000000, (1000000, [])), (2, (2, [])), (3, (3, []))]⟩ h (by kernel_rfl) (by kernel_rfl)
            · refine TS_know 51 (b := false) hb20 (by kernel_rfl) (by kernel_rfl) ?_
              refine TS_F (by kernel_rfl) rfl ?_
              refine TS_go 2 ?_
              exact TS_meet (v19.2, (S_Notice.mk (IntKind.wrap .i64 (1 + v1.1)) 0 0 0 (S_Destination.mk v18.1.Dst v18.1.Src 0) 0)) ⟨[(2, []), (3, [])], [(1000000, (1000000, [])), (2, (2, [])), (3, (3, []))]⟩ h (by kernel_rfl) (by kernel_rfl)
          · refine TS_know 44 (b := false) hb17 (by kernel_rfl) (by kernel_rfl) ?_
            refine TS_know 43 (b := false) hb17 (by kernel_rfl) (by kernel_rfl) ?_
            refine TS_F (by kernel_rfl) rfl ?_
            refine TS_go 5 ?_
            replace h := condO h
            rcases h with ⟨hb21, h⟩ | ⟨hb21, h⟩
            · refine TS_know 55 (b := true) hb21 (by kernel_rfl) (by kernel_rfl) ?_
              refine TS_know 54 (b := true) hb21 (by kernel_rfl) (by kernel_rfl) ?_
              refine TS_T (by kernel_rfl) rfl ?_
              refine TS_go 2 ?_
              replace h := bindO h
              obtain ⟨v22, hv22, h⟩ := h
              refine TS_con [] [] (some (1000000, 0)) (ok_world_To v1.2 v22 hv22) (by kernel_rfl) (by kernel_rfl) (by kernel_rfl) ?_
              refine TS_go 1 ?_
              replace h := bindO h
              obtain ⟨v23, hv23, h⟩ := h
              refine TS_con [] [] (some (1000000, 0)) (ok_world_Seq v22.2 v23 hv23) (by kernel_rfl) (by kernel_rfl) (by kernel_rfl) ?_
              refine TS_go 1 ?_
              replace h := bindO h
              obtain ⟨v24, hv24, h⟩ := h
              refine TS_con [] [] (some (1000000, 0)) (ok_made_Tape_Next v23.2 32 v24 hv24) (by kernel_rfl) (by kernel_rfl) (by kernel_rfl) ?_
              refine TS_go 9 ?_
              exact TS_meet (v24.2, (S_Notice.mk (IntKind.wrap .i64 (1 + v1.1)) v23.1 0 0 v22.1 (IntKind.wrap .i64 (1 + v24.1)))) ⟨[(2, []), (3, [])], [(1000000, (1000000, [])), (2, (2, [])), (3, (3, []))]⟩ h (by kernel_rfl) (by kernel_rfl)
            · refine TS_know 55 (b := false) hb21 (by kernel_rfl) (by kernel_rfl) ?_
              refine TS_know 54 (b := false) hb21 (by kernel_rfl) (by kernel_rfl) ?_
              refine TS_F (by kernel_rfl) rfl ?_
              refine TS_go 2 ?_
              exact TS_meet (v1.2, (S_Notice.mk (IntKind.wrap .i64 (1 + v1.1)) 0 0 0 (S_Destination.mk (S_Prefix.mk [0, 0, 0, 0, 0, 0, 0, 0, 0, 0, 0, 0, 0, 0, 0, 0] 0) (S_Prefix.mk [0, 0, 0, 0, 0, 0, 0, 0, 0, 0, 0, 0, 0, 0, 0, 0] 0) 0) 0)) ⟨[(2, []), (3, [])], [(1000000, (1000000, [])), (2, (2, [])), (3, (3, []))]⟩ h (by kernel_rfl) (by kernel_rfl)

/-- multihop/multihopworld.Notices -/
noncomputable def F_world_Notices_l1  (s2 : (List S_Notice) × Int × S_multihopmade_Tape) : Option (((List S_Notice) × Int × S_multihopmade_Tape) ⊕ ((List S_Notice) × S_multihopmade_Tape)) :=
  bif (decide (s2.2.1 > 0)) then
    (F_world_Notice s2.2.2).bind fun v6 =>
    (appO 96 s2.1 (Cut.app .whole ([v6.1] : List S_Notice))).bind fun l7 =>
    some (Sum.inl (l7, IntKind.wrap .i64 (s2.2.1 - 1), v6.2))
  else
    some (Sum.inr (s2.1, s2.2.2))
noncomputable def F_world_Notices (a0 : S_multihopmade_Tape) (a1 : Int) : Option ((List S_Notice) × S_multihopmade_Tape) :=
  (F_made_Tape_Next a0 (IntKind.wrap .i64 (a1 + 1))).bind fun v1 =>
  (loopO (F_world_Notices_l1) (([] : List S_Notice), v1.1, v1.2)).bind fun b3 =>
  some ((b3.1, b3.2))
set_option maxRecDepth 100000 in
set_option maxHeartbeats 40000000 in
theorem okT_world_Notices (a0 : S_multihopmade_Tape) (a1 : Int) (r : (List S_Notice) × S_multihopmade_Tape) (h : F_world_Notices a0 a1 = some r) : Con Try.prog 12 [.c (.box 1000000 0), .c (.lit (.int .i64 (a1)))] [(1000000, .box (S_multihopmade_Tape.cs a0))] (.c (.slc 40 900002 (List.length r.1) (List.map S_Notice.cs r.1))) [(1000000, .box (S_multihopmade_Tape.cs r.2)), (900000, .spare 39 40 (List.length r.1))] := by
  unfold F_world_Notices at h
  refine con_of [] [(1000000, [2]), (900000, [])] 21 Try.func12 rfl rfl (by kernel_rfl) (fun K => ?_)
  refine TS_go 14 ?_
  replace h := bindO h
  obtain ⟨v1, hv1, h⟩ := h
  refine TS_con [] [] (some (1000000, 0)) (ok_made_Tape_Next a0 (IntKind.wrap .i64 (a1 + 1)) v1 hv1) (by kernel_rfl) (by kernel_rfl) (by kernel_rfl) ?_
  refine TS_go 3 ?_
  refine TS_nilT 5 600000 39 40 (by kernel_rfl) ?_
  refine TS_cut ⟨[(0, []), (5, []), (6, [])], [(1000000, (1000000, [])), (600000, (600000, []))]⟩ (.mk [.code (codeAt [1, 1, 0, 1, 0] (bodyOf Try.f12)), .blk 0, .code (codeAt [1, 1, 1] (bodyOf Try.f12))] .normal ⟨[(0, .c (.box 1000000 0)), (5, .c (.slc 40 600002 (List.length ([] : List S_Notice)) (List.map S_Notice.cs ([] : List S_Notice)))), (6, .c (.lit (.int .i64 (v1.1))))], [(1000000, .box [.slc 1 0 (List.length v1.2.l) (List.map (ecI .i64) v1.2.l), .lit (.int .i64 (v1.2.at_))]), (600000, .spare 39 40 (List.length ([] : List S_Notice)))]⟩) (by kernel_rfl) (by kernel_rfl) ?_
  replace h := bindO h
  obtain ⟨y4, hl1, hK1⟩ := h
  refine TS_loopB (F_world_Notices_l1) ⟨[(0, []), (5, []), (6, [])], [(1000000, (1000000, [])), (600000, (600000, []))]⟩ (fun (s2 : (List S_Notice) × Int × S_multihopmade_Tape) => [(5, .c (.slc 40 600002 (List.length s2.1) (List.map S_Notice.cs s2.1))), (6, .c (.lit (.int .i64 (s2.2.1))))]) (fun (s2 : (List S_Notice) × Int × S_multihopmade_Tape) => [(1000000, .box (S_multihopmade_Tape.cs s2.2.2)), (600000, .spare 39 40 (List.length s2.1))]) (([] : List S_Notice), v1.1, v1.2) y4 (.exit 0) (fun (b : (List S_Notice) × S_multihopmade_Tape) => b) ⟨[(5, [])], [(1000000, (1000000, [])), (600000, (600000, []))]⟩ (fun (b3 : (List S_Notice) × S_multihopmade_Tape) => [(5, .c (.slc 40 600002 (List.length b3.1) (List.map S_Notice.cs b3.1)))]) (fun (b3 : (List S_Notice) × S_multihopmade_Tape) => [(1000000, .box (S_multihopmade_Tape.cs b3.2)), (600000, .spare 39 40 (List.length b3.1))]) hl1 (by kernel_rfl) (by kernel_rfl) ?_ ?_
  · intro s2 x h hy1
    unfold F_world_Notices_l1 at h
    refine TS_go 6 ?_
    replace h := condO h
    rcases h with ⟨hb5, h⟩ | ⟨hb5, h⟩
    · refine TS_know 12 (b := true) hb5 (by kernel_rfl) (by kernel_rfl) ?_
      refine TS_T (by kernel_rfl) rfl ?_
      refine TS_go 6 ?_
      replace h := bindO h
      obtain ⟨v6, hv6, h⟩ := h
      refine TS_con [] [] (some (1000000, 0)) (ok_world_Notice s2.2.2 v6 hv6) (by kernel_rfl) (by kernel_rfl) (by kernel_rfl) ?_
      refine TS_litNT 18 39 40 S_Notice.cs [] ([v6.1] : List S_Notice) (by kernel_rfl) (by kernel_rfl) ?_
      replace h := bindO h
      obtain ⟨_l7, hl7, h⟩ := h
      refine TS_appT (d := 600000) (e := 39) (sz := 40) (N := List.length s2.1) S_Notice.cs (fun _ => by kernel_rfl) (l1 := s2.1) (l2 := ([v6.1] : List S_Notice)) (c := .whole) hl7 (by kernel_rfl) (by kernel_rfl) ?_
      refine TS_go 8 ?_
      have ret := Option.some.inj h
      subst ret
      exact TS_againB _ ⟨[(0, []), (5, []), (6, [])], [(1000000, (1000000, [])), (600000, (600000, []))]⟩ rfl (by kernel_rfl) (by kernel_rfl)
    · refine TS_know 12 (b := false) hb5 (by kernel_rfl) (by kernel_rfl) ?_
      refine TS_F (by kernel_rfl) rfl ?_
      refine TS_go 2 ?_
      have ret := Option.some.inj h
      subst ret
      exact TS_brkB (s2.1, s2.2.2) ⟨[(5, [])], [(1000000, (1000000, [])), (600000, (600000, []))]⟩ rfl (by kernel_rfl) (by kernel_rfl) (by kernel_rfl)
  · intro b3 hb
    subst y4
    have h := hK1
    refine TS_go 6 ?_
    refine TS_fitU ⟨[(4, [])], [(600000, (900000, [])), (1000000, (1000000, []))]⟩ (by kernel_rfl) ?_
    refine TS_go 1 ?_
    have ret := Option.some.inj h
    subst ret
    exact TS_ret (by kernel_rfl) (by kernel_rfl) (by kernel_rfl)
/-- multihop/multihopref24.Valid -/
noncomputable def F_ref24_Valid (a0 : Int) : Option (Bool) :=
  bif (decide (a0 ≥ 0)) then
    some ((decide (a0 ≤ 65535)))
  else
    some (false)
set_option maxRecDepth 100000 in
set_option maxHeartbeats 40000000 in
theorem ok_ref24_Valid (a0 : Int) (r : Bool) (h : F_ref24_Valid a0 = some r) : Con Try.prog 41 [.c (.lit (.int .i64 (a0)))] [] (.c (.lit (.bool (r)))) [] := by
  unfold F_ref24_Valid at h
  refine con_of [] [] 9 Try.func41 rfl rfl (by kernel_rfl) (fun K => ?_)
  refine TS_go 9 ?_
  replace h := condO h
  rcases h with ⟨hb1, h⟩ | ⟨hb1, h⟩
  · refine TS_know 4 (b := true) hb1 (by kernel_rfl) (by kernel_rfl) ?_
    refine TS_know 5 (b := true) hb1 (by kernel_rfl) (by kernel_rfl) ?_
    refine TS_go 6 ?_
    have ret := Option.some.inj h
    subst ret
    exact TS_ret (by kernel_rfl) (by kernel_rfl) (by kernel_rfl)
  · refine TS_know 4 (b := false) hb1 (by kernel_rfl) (by kernel_rfl) ?_
    refine TS_know 5 (b := false) hb1 (by kernel_rfl) (by kernel_rfl) ?_
    refine TS_go 6 ?_
    have ret := Option.some.inj h
    subst ret
    exact TS_ret (by kernel_rfl) (by kernel_rfl) (by kernel_rfl)

/-- multihop/multihopref04.ValidPrefix -/
noncomputable def F_ref04_ValidPrefix_l1 (a0 : S_Prefix) (s3 : Int) : Option ((Int) ⊕ ((Unit) ⊕ (Bool))) :=
  bif (decide (s3 < 128)) then
    (F_ref04_bit a0.IP s3).bind fun v7 =>
    bif (v7 != 0) then
      some (Sum.inr (Sum.inr false))
    else
      some (Sum.inl (IntKind.wrap .i64 (s3 + 1)))
  else
    some (Sum.inr (Sum.inl ()))
noncomputable def F_ref04_ValidPrefix (a0 : S_Prefix) : Option (Bool) :=
  bif (decide (a0.Bits < 0)) then
    some (false)
  else
    bif (decide (a0.Bits > 128)) then
      some (false)
    else
      (loopO (F_ref04_ValidPrefix_l1 a0) a0.Bits).bind (Sum.elim (fun b4 =>
        some (true)
      ) (fun w9 => some w9))
set_option maxRecDepth 100000 in
set_option maxHeartbeats 40000000 in
theorem ok_ref04_ValidPrefix (a0 : S_Prefix) (r : Bool) (h : F_ref04_ValidPrefix a0 = some r) : Con Try.prog 43 [.agg (S_Prefix.cs a0)] [] (.c (.lit (.bool (r)))) [] := by
  unfold F_ref04_ValidPrefix at h
  refine con_of [] [] 23 Try.func43 rfl rfl (by kernel_rfl) (fun K => ?_)
  refine TS_go 12 ?_
  replace h := condO h
  rcases h with ⟨hb1, h⟩ | ⟨hb1, h⟩
  · refine TS_know 6 (b := true) hb1 (by kernel_rfl) (by kernel_rfl) ?_
    refine TS_know 7 (b := true) hb1 (by kernel_rfl) (by kernel_rfl) ?_
    refine TS_go 5 ?_
    refine TS_T (by kernel_rfl) rfl ?_
    refine TS_go 6 ?_
    have ret := Option.some.inj h
    subst ret
    exact TS_ret (by kernel_rfl) (by kernel_rfl) (by kernel_rfl)
  · refine TS_know 6 (b := false) hb1 (by kernel_rfl) (by kernel_rfl) ?_
    refine TS_know 7 (b := false) hb1 (by kernel_rfl) (by kernel_rfl) ?_
    refine TS_go 5 ?_
    replace h := condO h
    rcases h with ⟨hb2, h⟩ | ⟨hb2, h⟩
    · refine TS_know 10 (b := true) hb2 (by kernel_rfl) (by kernel_rfl) ?_
      refine TS_know 11 (b := true) hb2 (by kernel_rfl) (by kernel_rfl) ?_
      refine TS_T (by kernel_rfl) rfl ?_
      refine TS_go 6 ?_
      have ret := Option.some.inj h
      subst ret
      exact TS_ret (by kernel_rfl) (by kernel_rfl) (by kernel_rfl)
    · refine TS_know 10 (b := false) hb2 (by kernel_rfl) (by kernel_rfl) ?_
      refine TS_know 11 (b := false) hb2 (by kernel_rfl) (by kernel_rfl) ?_
      refine TS_F (by kernel_rfl) rfl ?_
      refine TS_go 9 ?_
      refine TS_cut ⟨[(1, []), (3, [])], [(1, (1, []))]⟩ (.mk [.code (codeAt [1, 1, 0, 1, 0] (bodyOf Try.f43)), .blk 0, .code (codeAt [1, 1, 1] (bodyOf Try.f43))] .normal ⟨[(1, .c (.box 1 0)), (3, .c (.lit (.int .i64 (a0.Bits))))], [(1, .box [.lit (.int .u8 ((a0.IP.getD 0 0))), .lit (.int .u8 ((a0.IP.getD 1 0))), .lit (.int .u8 ((a0.IP.getD 2 0))), .lit (.int .u8 ((a0.IP.getD 3 0))), .lit (.int .u8 ((a0.IP.getD 4 0))), .lit (.int .u8 ((a0.IP.getD 5 0))), .lit (.int .u8 ((a0.IP.getD 6 0))), .lit (.int .u8 ((a0.IP.getD 7 0))), .lit (.int .u8 ((a0.IP.getD 8 0))), .lit (.int .u8 ((a0.IP.getD 9 0))), .lit (.int .u8 ((a0.IP.getD 10 0))), .lit (.int .u8 ((a0.IP.getD 11 0))), .lit (.int .u8 ((a0.IP.getD 12 0))), .lit (.int .u8 ((a0.IP.getD 13 0))), .lit (.int .u8 ((a0.IP.getD 14 0))), .lit (.int .u8 ((a0.IP.getD 15 0))), .lit (.int .i64 (a0.Bits))])]⟩) (by kernel_rfl) (by kernel_rfl) ?_
      replace h := bindO h
      obtain ⟨y5, hl1, hK1⟩ := h
      refine TS_loopB (F_ref04_ValidPrefix_l1 a0) ⟨[(1, []), (3, [])], [(1, (1, []))]⟩ (fun (s3 : Int) => [(3, .c (.lit (.int .i64 (s3))))]) (fun (s3 : Int) => []) a0.Bits y5 (.exit 0) (fun (b : Unit) => (Sum.inl b : (Unit) ⊕ (Bool))) ⟨[], []⟩ (fun (b4 : Unit) => []) (fun (b4 : Unit) => []) hl1 (by kernel_rfl) (by kernel_rfl) ?_ ?_
      · intro s3 x h hy1
        unfold F_ref04_ValidPrefix_l1 at h
        refine TS_go 6 ?_
        replace h := condO h
        rcases h with ⟨hb6, h⟩ | ⟨hb6, h⟩
        · refine TS_know 15 (b := true) hb6 (by kernel_rfl) (by kernel_rfl) ?_
          refine TS_T (by kernel_rfl) rfl ?_
          refine TS_go 8 ?_
          replace h := bindO h
          obtain ⟨v7, hv7, h⟩ := h
          refine TS_call [] (ok_ref04_bit a0.IP s3 v7 hv7) (by kernel_rfl) (by kernel_rfl) ?_
          refine TS_go 2 ?_
          replace h := condO h
          rcases h with ⟨hb8, h⟩ | ⟨hb8, h⟩
          · refine TS_know 22 (b := true) hb8 (by kernel_rfl) (by kernel_rfl) ?_
            refine TS_T (by kernel_rfl) rfl ?_
            refine TS_go 7 ?_
            have ret := Option.some.inj h
            subst ret
            have hy1q := hy1 _ rfl
            subst hy1q
            replace h := (elimR hK1)
            refine TS_retB rfl (by kernel_rfl) ?_
            refine TS_go 2 ?_
            have ret := Option.some.inj h
            subst ret
            exact TS_ret (by kernel_rfl) (by kernel_rfl) (by kernel_rfl)
          · refine TS_know 22 (b := false) hb8 (by kernel_rfl) (by kernel_rfl) ?_
            refine TS_F (by kernel_rfl) rfl ?_
            refine TS_go 7 ?_
            have ret := Option.some.inj h
            subst ret
            exact TS_againB _ ⟨[(1, []), (3, [])], [(1, (1, []))]⟩ rfl (by kernel_rfl) (by kernel_rfl)
        · refine TS_know 15 (b := false) hb6 (by kernel_rfl) (by kernel_rfl) ?_
          refine TS_F (by kernel_rfl) rfl ?_
          refine TS_go 2 ?_
          have ret := Option.some.inj h
          subst ret
          exact TS_brkB () ⟨[], []⟩ rfl (by kernel_rfl) (by kernel_rfl) (by kernel_rfl)
      · intro b4 hb
        subst y5
        have h := elimL hK1
        refine TS_go 6 ?_
        have ret := Option.some.inj h
        subst ret
        exact TS_ret (by kernel_rfl) (by kernel_rfl) (by kernel_rfl)

/-- multihop/multihopref26.ValidTo -/
noncomputable def F_ref26_ValidTo (a0 : S_Destination) : Option (Bool) :=
  (F_ref04_ValidPrefix a0.Dst).bind fun v1 =>
  bif v1 then
    (F_ref04_ValidPrefix a0.Src).bind fun v3 =>
    bif v3 then
      some ((a0.Router != 0))
    else
      some (false)
  else
    some (false)
set_option maxRecDepth 100000 in
set_option maxHeartbeats 40000000 in
theorem ok_ref26_ValidTo (a0 : S_Destination) (r : Bool) (h : F_ref26_ValidTo a0 = some r) : Con Try.prog 42 [.agg (S_Destination.cs a0)] [] (.c (.lit (.bool (r)))) [] := by
  unfold F_ref26_ValidTo at h
  refine con_of [] [] 16 Try.func42 rfl rfl (by kernel_rfl) (fun K => ?_)
  refine TS_go 9 ?_
  replace h := bindO h
  obtain ⟨v1, hv1, h⟩ := h
  refine TS_call [] (ok_ref04_ValidPrefix a0.Dst v1 hv1) (by kernel_rfl) (by kernel_rfl) ?_
  refine TS_go 1 ?_
  replace h := condO h
  rcases h with ⟨hb2, h⟩ | ⟨hb2, h⟩
  · subst hb2
    refine TS_go 2 ?_
    replace h := bindO h
    obtain ⟨v3, hv3, h⟩ := h
    refine TS_call [] (ok_ref04_ValidPrefix a0.Src v3 hv3) (by kernel_rfl) (by kernel_rfl) ?_
    refine TS_go 2 ?_
    replace h := condO h
    rcases h with ⟨hb4, h⟩ | ⟨hb4, h⟩
    · subst hb4
      refine TS_go 7 ?_
      have ret := Option.some.inj h
      subst ret
      exact TS_ret (by kernel_rfl) (by kernel_rfl) (by kernel_rfl)
    · subst hb4
      refine TS_go 7 ?_
      have ret := Option.some.inj h
      subst ret
      exact TS_ret (by kernel_rfl) (by kernel_rfl) (by kernel_rfl)
  · subst hb2
    refine TS_go 12 ?_
    have ret := Option.some.inj h
    subst ret
    exact TS_ret (by kernel_rfl) (by kernel_rfl) (by kernel_rfl)

/-- multihop/multihopref29.Valid -/
noncomputable def F_ref29_Valid (a0 : S_Notice) : Option (Bool) :=
  bif (a0.Kind == 1) then
    some ((S_Notice.eqb a0 (S_Notice.mk a0.Kind a0.Seq 0 0 (S_Destination.mk (S_Prefix.mk [0, 0, 0, 0, 0, 0, 0, 0, 0, 0, 0, 0, 0, 0, 0, 0] 0) (S_Prefix.mk [0, 0, 0, 0, 0, 0, 0, 0, 0, 0, 0, 0, 0, 0, 0, 0] 0) 0) 0)))
  else
    bif (a0.Kind == 2) then
      bif (S_Notice.eqb a0 (S_Notice.mk a0.Kind 0 a0.Metric a0.Neighbour (S_Destination.mk (S_Prefix.mk [0, 0, 0, 0, 0, 0, 0, 0, 0, 0, 0, 0, 0, 0, 0, 0] 0) (S_Prefix.mk [0, 0, 0, 0, 0, 0, 0, 0, 0, 0, 0, 0, 0, 0, 0, 0] 0) 0) 0)) then
        bif (a0.Neighbour != 0) then
          (F_ref24_Valid a0.Metric).bind fun v5 =>
          some (v5)
        else
          some (false)
      else
        some (false)
    else
      bif (a0.Kind == 3) then
        bif (S_Notice.eqb a0 (S_Notice.mk a0.Kind a0.Seq a0.Metric 0 a0.To 0)) then
          (F_ref26_ValidTo a0.To).bind fun v8 =>
          bif v8 then
            (F_ref24_Valid a0.Metric).bind fun v10 =>
            some (v10)
          else
            some (false)
        else
          some (false)
      else
        bif (a0.Kind == 4) then
          bif (S_Notice.eqb a0 (S_Notice.mk a0.Kind 0 0 0 a0.To 0)) then
            bif (a0.To.Router == 0) then
              (F_ref04_ValidPrefix a0.To.Dst).bind fun v14 =>
              bif v14 then
                (F_ref04_ValidPrefix a0.To.Src).bind fun v16 =>
                some (v16)
              else
                some (false)
            else
              some (false)
          else
            some (false)
        else
          bif (a0.Kind == 5) then
            bif (S_Notice.eqb a0 (S_Notice.mk a0.Kind a0.Seq 0 0 a0.To a0.Hops)) then
              (F_ref26_ValidTo a0.To).bind fun v19 =>
              bif v19 then
                bif (decide (a0.Hops ≥ 1)) then
                  some ((decide (a0.Hops ≤ 32)))
                else
                  some (false)
              else
                some (false)
            else
              some (false)
          else
            some (false)
set_option maxRecDepth 100000 in
set_option maxHeartbeats 40000000 in
theorem ok_ref29_Valid (a0 : S_Notice) (r : Bool) (h : F_ref29_Valid a0 = some r) : Con Try.prog 17 [.agg (S_Notice.cs a0)] [] (.c (.lit (.bool (r)))) [] := by
  unfold F_ref29_Valid at h
  refine con_of [] [] 117 Try.func17 rfl rfl (by kernel_rfl) (fun K => ?_)
  refine TS_go 23 ?_
  replace h := condO h
  rcases h with ⟨hb1, h⟩ | ⟨hb1, h⟩
  · refine TS_know 8 (b := true) hb1 (by kernel_rfl) (by kernel_rfl) ?_
    refine TS_know 7 (b := true) hb1 (by kernel_rfl) (by kernel_rfl) ?_
    refine TS_T (by kernel_rfl) rfl ?_
    refine TS_go 14 ?_
    have ret := Option.some.inj h
    subst ret
    exact TS_ret (by kernel_rfl) (by kernel_rfl) (by kernel_rfl)
  · refine TS_know 8 (b := false) hb1 (by kernel_rfl) (by kernel_rfl) ?_
    refine TS_know 7 (b := false) hb1 (by kernel_rfl) (by kernel_rfl) ?_
    refine TS_F (by kernel_rfl) rfl ?_
    refine TS_go 5 ?_
    replace h := condO h
    rcases h with ⟨hb2, h⟩ | ⟨hb2, h⟩
    · refine TS_know 17 (b := true) hb2 (by kernel_rfl) (by kernel_rfl) ?_
      refine TS_know 16 (b := true) hb2 (by kernel_rfl) (by kernel_rfl) ?_
      refine TS_T (by kernel_rfl) rfl ?_
      refine TS_go 12 ?_
      replace h := condO h
      rcases h with ⟨hb3, h⟩ | ⟨hb3, h⟩
      · refine TS_know 26 (b := true) hb3 (by kernel_rfl) (by kernel_rfl) ?_
        refine TS_know 27 (b := true) hb3 (by kernel_rfl) (by kernel_rfl) ?_
        refine TS_go 5 ?_
        replace h := condO h
        rcases h with ⟨hb4, h⟩ | ⟨hb4, h⟩
        · refine TS_know 30 (b := true) hb4 (by kernel_rfl) (by kernel_rfl) ?_
          refine TS_know 31 (b := true) hb4 (by kernel_rfl) (by kernel_rfl) ?_
          refine TS_know 32 (b := true) hb4 (by kernel_rfl) (by kernel_rfl) ?_
          refine TS_go 2 ?_
          replace h := bindO h
          obtain ⟨v5, hv5, h⟩ := h
          refine TS_call [] (ok_ref24_Valid a0.Metric v5 hv5) (by kernel_rfl) (by kernel_rfl) ?_
          refine TS_go 6 ?_
          have ret := Option.some.inj h
          subst ret
          exact TS_ret (by kernel_rfl) (by kernel_rfl) (by kernel_rfl)
        · refine TS_know 30 (b := false) hb4 (by kernel_rfl) (by kernel_rfl) ?_
          refine TS_know 31 (b := false) hb4 (by kernel_rfl) (by kernel_rfl) ?_
          refine TS_know 32 (b := false) hb4 (by kernel_rfl) (by kernel_rfl) ?_
          refine TS_go 9 ?_
          have ret := Option.some.inj h
          subst ret
          exact TS_ret (by kernel_rfl) (by kernel_rfl) (by kernel_rfl)
      · refine TS_know 26 (b := false) hb3 (by kernel_rfl) (by kernel_rfl) ?_
        refine TS_know 27 (b := false) hb3 (by kernel_rfl) (by kernel_rfl) ?_
        refine TS_go 14 ?_
        have ret := Option.some.inj h
        subst ret
        exact TS_ret (by kernel_rfl) (by kernel_rfl) (by kernel_rfl)
    · refine TS_know 17 (b := false) hb2 (by kernel_rfl) (by kernel_rfl) ?_
      refine TS_know 16 (b := false) hb2 (by kernel_rfl) (by kernel_rfl) ?_
      refine TS_F (by kernel_rfl) rfl ?_
      refine TS_go 5 ?_
      replace h := condO h
      rcases h with ⟨hb6, h⟩ | ⟨hb6, h⟩
      · refine TS_know 38 (b := true) hb6 (by kernel_rfl) (by kernel_rfl) ?_
        refine TS_know 37 (b := true) hb6 (by kernel_rfl) (by kernel_rfl) ?_
        refine TS_T (by kernel_rfl) rfl ?_
        refine TS_go 14 ?_
        replace h := condO h
        rcases h with ⟨hb7, h⟩ | ⟨hb7, h⟩
        · refine TS_know 49 (b := true) hb7 (by kernel_rfl) (by kernel_rfl) ?_
          refine TS_know 50 (b := true) hb7 (by kernel_rfl) (by kernel_rfl) ?_
          refine TS_go 2 ?_
          replace h := bindO h
          obtain ⟨v8, hv8, h⟩ := h
          refine TS_call [] (ok_ref26_ValidTo a0.To v8 hv8) (by kernel_rfl) (by kernel_rfl) ?_
          refine TS_go 2 ?_
          replace h := condO h
          rcases h with ⟨hb9, h⟩ | ⟨hb9, h⟩
          · subst hb9
            refine TS_go 2 ?_
            replace h := bindO h
            obtain ⟨v10, hv10, h⟩ := h
            refine TS_call [] (ok_ref24_Valid a0.Metric v10 hv10) (by kernel_rfl) (by kernel_rfl) ?_
            refine TS_go 6 ?_
            have ret := Option.some.inj h
            subst ret
            exact TS_ret (by kernel_rfl) (by kernel_rfl) (by kernel_rfl)
          · subst hb9
            refine TS_go 9 ?_
            have ret := Option.some.inj h
            subst ret
            exact TS_ret (by kernel_rfl) (by kernel_rfl) (by kernel_rfl)
        · refine TS_know 49 (b := false) hb7 (by kernel_rfl) (by kernel_rfl) ?_
          refine TS_know 50 (b := false) hb7 (by kernel_rfl) (by kernel_rfl) ?_
          refine TS_go 14 ?_
          have ret := Option.some.inj h
          subst ret
          exact TS_ret (by kernel_rfl) (by kernel_rfl) (by kernel_rfl)
      · refine TS_know 38 (b := false) hb6 (by kernel_rfl) (by kernel_rfl) ?_
        refine TS_know 37 (b := false) hb6 (by kernel_rfl) (by kernel_rfl) ?_
        refine TS_F (by kernel_rfl) rfl ?_
        refine TS_go 5 ?_
        replace h := condO h
        rcases h with ⟨hb11, h⟩ | ⟨hb11, h⟩
        · refine TS_know 61 (b := true) hb11 (by kernel_rfl) (by kernel_rfl) ?_
          refine TS_know 60 (b := true) hb11 (by kernel_rfl) (by kernel_rfl) ?_
          refine TS_T (by kernel_rfl) rfl ?_
          refine TS_go 10 ?_
          replace h := condO h
          rcases h with ⟨hb12, h⟩ | ⟨hb12, h⟩
          · refine TS_know 68 (b := true) hb12 (by kernel_rfl) (by kernel_rfl) ?_
            refine TS_know 69 (b := true) hb12 (by kernel_rfl) (by kernel_rfl) ?_
            refine TS_go 8 ?_
            replace h := condO h
            rcases h with ⟨hb13, h⟩ | ⟨hb13, h⟩
            · refine TS_know 75 (b := true) hb13 (by kernel_rfl) (by kernel_rfl) ?_
              refine TS_know 76 (b := true) hb13 (by kernel_rfl) (by kernel_rfl) ?_
              refine TS_know 77 (b := true) hb13 (by kernel_rfl) (by kernel_rfl) ?_
              refine TS_go 3 ?_
              replace h := bindO h
              obtain ⟨v14, hv14, h⟩ := h
              refine TS_call [] (ok_ref04_ValidPrefix a0.To.Dst v14 hv14) (by kernel_rfl) (by kernel_rfl) ?_
              refine TS_go 2 ?_
              replace h := condO h
              rcases h with ⟨hb15, h⟩ | ⟨hb15, h⟩
              · subst hb15
                refine TS_go 3 ?_
                replace h := bindO h
                obtain ⟨v16, hv16, h⟩ := h
                refine TS_call [] (ok_ref04_ValidPrefix a0.To.Src v16 hv16) (by kernel_rfl) (by kernel_rfl) ?_
                refine TS_go 6 ?_
                have ret := Option.some.inj h
                subst ret
                exact TS_ret (by kernel_rfl) (by kernel_rfl) (by kernel_rfl)
              · subst hb15
                refine TS_go 10 ?_
                have ret := Option.some.inj h
                subst ret
                exact TS_ret (by kernel_rfl) (by kernel_rfl) (by kernel_rfl)
            · refine TS_know 75 (b := false) hb13 (by kernel_rfl) (by kernel_rfl) ?_
              refine TS_know 76 (b := false) hb13 (by kernel_rfl) (by kernel_rfl) ?_
              refine TS_know 77 (b := false) hb13 (by kernel_rfl) (by kernel_rfl) ?_
              refine TS_go 16 ?_
              have ret := Option.some.inj h
              subst ret
              exact TS_ret (by kernel_rfl) (by kernel_rfl) (by kernel_rfl)
          · refine TS_know 68 (b := false) hb12 (by kernel_rfl) (by kernel_rfl) ?_
            refine TS_know 69 (b := false) hb12 (by kernel_rfl) (by kernel_rfl) ?_
            refine TS_go 24 ?_
            have ret := Option.some.inj h
            subst ret
            exact TS_ret (by kernel_rfl) (by kernel_rfl) (by kernel_rfl)
        · refine TS_know 61 (b := false) hb11 (by kernel_rfl) (by kernel_rfl) ?_
          refine TS_know 60 (b := false) hb11 (by kernel_rfl) (by kernel_rfl) ?_
          refine TS_F (by kernel_rfl) rfl ?_
          refine TS_go 5 ?_
          replace h := condO h
          rcases h with ⟨hb17, h⟩ | ⟨hb17, h⟩
          · refine TS_know 90 (b := true) hb17 (by kernel_rfl) (by kernel_rfl) ?_
            refine TS_know 89 (b := true) hb17 (by kernel_rfl) (by kernel_rfl) ?_
            refine TS_T (by kernel_rfl) rfl ?_
            refine TS_go 14 ?_
            replace h := condO h
            rcases h with ⟨hb18, h⟩ | ⟨hb18, h⟩
            · refine TS_know 101 (b := true) hb18 (by kernel_rfl) (by kernel_rfl) ?_
              refine TS_know 102 (b := true) hb18 (by kernel_rfl) (by kernel_rfl) ?_
              refine TS_go 2 ?_
              replace h := bindO h
              obtain ⟨v19, hv19, h⟩ := h
              refine TS_call [] (ok_ref26_ValidTo a0.To v19 hv19) (by kernel_rfl) (by kernel_rfl) ?_
              refine TS_go 2 ?_
              replace h := condO h
              rcases h with ⟨hb20, h⟩ | ⟨hb20, h⟩
              · subst hb20
                refine TS_go 5 ?_
                replace h := condO h
                rcases h with ⟨hb21, h⟩ | ⟨hb21, h⟩
                · refine TS_know 110 (b := true) hb21 (by kernel_rfl) (by kernel_rfl) ?_
                  refine TS_know 111 (b := true) hb21 (by kernel_rfl) (by kernel_rfl) ?_
                  refine TS_know 112 (b := true) hb21 (by kernel_rfl) (by kernel_rfl) ?_
                  refine TS_go 9 ?_
                  have ret := Option.some.inj h
                  subst ret
                  exact TS_ret (by kernel_rfl) (by kernel_rfl) (by kernel_rfl)
                · refine TS_know 110 (b := false) hb21 (by kernel_rfl) (by kernel_rfl) ?_
                  refine TS_know 111 (b := false) hb21 (by kernel_rfl) (by kernel_rfl) ?_
                  refine TS_know 112 (b := false) hb21 (by kernel_rfl) (by kernel_rfl) ?_
                  refine TS_go 9 ?_
                  have ret := Option.some.inj h
                  subst ret
                  exact TS_ret (by kernel_rfl) (by kernel_rfl) (by kernel_rfl)
              · subst hb20
                refine TS_go 14 ?_
                have ret := Option.some.inj h
                subst ret
                exact TS_ret (by kernel_rfl) (by kernel_rfl) (by kernel_rfl)
            · refine TS_know 101 (b := false) hb18 (by kernel_rfl) (by kernel_rfl) ?_
              refine TS_know 102 (b := false) hb18 (by kernel_rfl) (by kernel_rfl) ?_
              refine TS_go 19 ?_
              have ret := Option.some.inj h
              subst ret
              exact TS_ret (by kernel_rfl) (by kernel_rfl) (by kernel_rfl)
          · refine TS_know 90 (b := false) hb17 (by kernel_rfl) (by kernel_rfl) ?_
            refine TS_know 89 (b := false) hb17 (by kernel_rfl) (by kernel_rfl) ?_
            refine TS_F (by kernel_rfl) rfl ?_
            refine TS_go 7 ?_
            have ret := Option.some.inj h
            subst ret
            exact TS_ret (by kernel_rfl) (by kernel_rfl) (by kernel_rfl)

/-- multihop/multihopref29.Put -/
noncomputable def F_ref29_Put_N0_l1 (a1 : Int) (s1 : (List Int) × Int) : Option (((List Int) × Int) ⊕ ((List Int))) :=
  bif (decide (s1.2 ≥ 0)) then
    bif decide (0 ≤ (IntKind.wrap .u64 (IntKind.wrap .i64 (8 * s1.2)))) then
      (appO 1 s1.1 (Cut.app .whole ([IntKind.wrap .u8 (ishr .u64 a1 (IntKind.wrap .u64 (IntKind.wrap .i64 (8 * s1.2))))] : List Int))).bind fun l6 =>
      some (Sum.inl (l6, IntKind.wrap .i64 (s1.2 - 1)))
    else none
  else
    some (Sum.inr s1.1)
noncomputable def F_ref29_Put_N0 (a1 : Int) (a2 : Int) : Option ((List Int)) :=
  (loopO (F_ref29_Put_N0_l1 a1) (([] : List Int), IntKind.wrap .i64 (a2 - 1))).bind fun b2 =>
  some (b2)
set_option maxRecDepth 100000 in
set_option maxHeartbeats 40000000 in
theorem okT_ref29_Put_N0 (a1 : Int) (a2 : Int) (r : (List Int)) (h : F_ref29_Put_N0 a1 a2 = some r) : Con Try.prog 51 [.c (.lit (.slice none 0 0)), .c (.lit (.int .u64 (a1))), .c (.lit (.int .i64 (a2)))] [] (.c (.slc 1 900002 (List.length r) (List.map (ecI .u8) r))) [(900000, .spare 5 1 (List.length r))] := by
  unfold F_ref29_Put_N0 at h
  refine con_of [] [(900000, [])] 24 Try.func51 rfl rfl (by kernel_rfl) (fun K => ?_)
  refine TS_go 12 ?_
  refine TS_nilT 0 600000 5 1 (by kernel_rfl) ?_
  refine TS_cut ⟨[(0, []), (1, []), (7, [])], [(600000, (600000, []))]⟩ (.mk [.code (codeAt [1, 0, 1, 0] (bodyOf Try.f51)), .blk 0, .code (codeAt [1, 1] (bodyOf Try.f51))] .normal ⟨[(0, .c (.slc 1 600002 (List.length ([] : List Int)) (List.map (ecI .u8) ([] : List Int)))), (1, .c (.lit (.int .u64 (a1)))), (7, .c (.lit (.int .i64 (IntKind.wrap .i64 (a2 - 1)))))], [(600000, .spare 5 1 (List.length ([] : List Int)))]⟩) (by kernel_rfl) (by kernel_rfl) ?_
  replace h := bindO h
  obtain ⟨y3, hl1, hK1⟩ := h
  refine TS_loopB (F_ref29_Put_N0_l1 a1) ⟨[(0, []), (1, []), (7, [])], [(600000, (600000, []))]⟩ (fun (s1 : (List Int) × Int) => [(0, .c (.slc 1 600002 (List.length s1.1) (List.map (ecI .u8) s1.1))), (7, .c (.lit (.int .i64 (s1.2))))]) (fun (s1 : (List Int) × Int) => [(600000, .spare 5 1 (List.length s1.1))]) (([] : List Int), IntKind.wrap .i64 (a2 - 1)) y3 (.exit 0) (fun (b : (List Int)) => b) ⟨[(0, [])], [(600000, (600000, []))]⟩ (fun (b2 : (List Int)) => [(0, .c (.slc 1 600002 (List.length b2) (List.map (ecI .u8) b2)))]) (fun (b2 : (List Int)) => [(600000, .spare 5 1 (List.length b2))]) hl1 (by kernel_rfl) (by kernel_rfl) ?_ ?_
  · intro s1 x h hy1
    unfold F_ref29_Put_N0_l1 at h
    refine TS_go 6 ?_
    replace h := condO h
    rcases h with ⟨hb4, h⟩ | ⟨hb4, h⟩
    · refine TS_know 11 (b := true) hb4 (by kernel_rfl) (by kernel_rfl) ?_
      refine TS_T (by kernel_rfl) rfl ?_
      refine TS_go 9 ?_
      replace h := chkO h
      obtain ⟨hc5, h⟩ := h
      refine TS_num (op := .shr) (k := .u64) (k' := .u64) (m := a1) (i := IntKind.wrap .u64 (IntKind.wrap .i64 (8 * s1.2))) (of_decide_eq_true hc5) rfl (by simp) (by kernel_rfl) (by kernel_rfl) ?_
      refine TS_go 1 ?_
      refine TS_litNT 21 5 1 (ecI .u8) [] ([IntKind.wrap .u8 (ishr .u64 a1 (IntKind.wrap .u64 (IntKind.wrap .i64 (8 * s1.2))))] : List Int) (by kernel_rfl) (by kernel_rfl) ?_
      replace h := bindO h
      obtain ⟨_l6, hl6, h⟩ := h
      refine TS_appT (d := 600000) (e := 5) (sz := 1) (N := List.length s1.1) (ecI .u8) (fun _ => by kernel_rfl) (l1 := s1.1) (l2 := ([IntKind.wrap .u8 (ishr .u64 a1 (IntKind.wrap .u64 (IntKind.wrap .i64 (8 * s1.2))))] : List Int)) (c := .whole) hl6 (by kernel_rfl) (by kernel_rfl) ?_
      refine TS_go 8 ?_
      have ret := Option.some.inj h
      subst ret
      exact TS_againB _ ⟨[(0, []), (1, []), (7, [])], [(600000, (600000, []))]⟩ rfl (by kernel_rfl) (by kernel_rfl)
    · refine TS_know 11 (b := false) hb4 (by kernel_rfl) (by kernel_rfl) ?_
      refine TS_F (by kernel_rfl) rfl ?_
      refine TS_go 2 ?_
      have ret := Option.some.inj h
      subst ret
      exact TS_brkB s1.1 ⟨[(0, [])], [(600000, (600000, []))]⟩ rfl (by kernel_rfl) (by kernel_rfl) (by kernel_rfl)
  · intro b2 hb
    subst y3
    have h := hK1
    refine TS_go 6 ?_
    refine TS_fitU ⟨[(6, [])], [(600000, (900000, []))]⟩ (by kernel_rfl) ?_
    refine TS_go 1 ?_
    have ret := Option.some.inj h
    subst ret
    exact TS_ret (by kernel_rfl) (by kernel_rfl) (by kernel_rfl)
/-- multihop/multihopref29.Put -/
noncomputable def F_ref29_Put_G0_l1 (a1 : Int) (s1 : (List Int) × Int) : Option (((List Int) × Int) ⊕ ((List Int))) :=
  bif (decide (s1.2 ≥ 0)) then
    bif decide (0 ≤ (IntKind.wrap .u64 (IntKind.wrap .i64 (8 * s1.2)))) then
      (appO 1 s1.1 (Cut.app .whole ([IntKind.wrap .u8 (ishr .u64 a1 (IntKind.wrap .u64 (IntKind.wrap .i64 (8 * s1.2))))] : List Int))).bind fun l6 =>
      some (Sum.inl (l6, IntKind.wrap .i64 (s1.2 - 1)))
    else none
  else
    some (Sum.inr s1.1)
noncomputable def F_ref29_Put_G0 (a0 : List Int) (a1 : Int) (a2 : Int) : Option ((List Int)) :=
  (loopO (F_ref29_Put_G0_l1 a1) (a0, IntKind.wrap .i64 (a2 - 1))).bind fun b2 =>
  some (b2)
set_option maxRecDepth 100000 in
set_option maxHeartbeats 40000000 in
theorem ok_ref29_Put_G0 (a0 : List Int) (a1 : Int) (a2 : Int) (r : (List Int)) (h : F_ref29_Put_G0 a0 a1 a2 = some r) : ConG Try.prog 51 [.c (.slc 1 1000003 (List.length a0) (List.map (ecI .u8) a0)), .c (.lit (.int .u64 (a1))), .c (.lit (.int .i64 (a2)))] 5 1 (List.length a0) (.c (.slc 1 1000003 (List.length r) (List.map (ecI .u8) r))) (List.length r) := by
  unfold F_ref29_Put_G0 at h
  refine con_ofG [] 24 0 Try.func51 rfl rfl (by kernel_rfl) rfl (fun K => ?_)
  refine TS_go 12 ?_
  refine TS_cut ⟨[(0, []), (2000000, []), (1, []), (7, [])], [(1000001, (1000001, []))]⟩ (.mk [.code (codeAt [1, 0, 1, 0] (bodyOf Try.f51)), .blk 0, .code (codeAt [1, 1] (bodyOf Try.f51))] .normal ⟨[(0, .c (.slc 1 1000003 (List.length a0) (List.map (ecI .u8) a0))), (2000000, .c (.slc 1 1000003 (List.length a0) (List.map (ecI .u8) a0))), (1, .c (.lit (.int .u64 (a1)))), (7, .c (.lit (.int .i64 (IntKind.wrap .i64 (a2 - 1)))))], [(1000001, .spare 5 1 (List.length a0))]⟩) (by kernel_rfl) (by kernel_rfl) ?_
  replace h := bindO h
  obtain ⟨y3, hl1, hK1⟩ := h
  refine TS_loopB (F_ref29_Put_G0_l1 a1) ⟨[(0, []), (1, []), (7, []), (2000000, [])], [(1000001, (1000001, []))]⟩ (fun (s1 : (List Int) × Int) => [(0, .c (.slc 1 1000003 (List.length s1.1) (List.map (ecI .u8) s1.1))), (7, .c (.lit (.int .i64 (s1.2))))]) (fun (s1 : (List Int) × Int) => [(1000001, .spare 5 1 (List.length s1.1))]) (a0, IntKind.wrap .i64 (a2 - 1)) y3 (.exit 0) (fun (b : (List Int)) => b) ⟨[(0, []), (2000000, [])], [(1000001, (1000001, []))]⟩ (fun (b2 : (List Int)) => [(0, .c (.slc 1 1000003 (List.length b2) (List.map (ecI .u8) b2)))]) (fun (b2 : (List Int)) => [(1000001, .spare 5 1 (List.length b2))]) hl1 (by kernel_rfl) (by kernel_rfl) ?_ ?_
  · intro s1 x h hy1
    unfold F_ref29_Put_G0_l1 at h
    refine TS_go 6 ?_
    replace h := condO h
    rcases h with ⟨hb4, h⟩ | ⟨hb4, h⟩
    · refine TS_know 11 (b := true) hb4 (by kernel_rfl) (by kernel_rfl) ?_
      refine TS_T (by kernel_rfl) rfl ?_
      refine TS_go 9 ?_
      replace h := chkO h
      obtain ⟨hc5, h⟩ := h
      refine TS_num (op := .shr) (k := .u64) (k' := .u64) (m := a1) (i := IntKind.wrap .u64 (IntKind.wrap .i64 (8 * s1.2))) (of_decide_eq_true hc5) rfl (by simp) (by kernel_rfl) (by kernel_rfl) ?_
      refine TS_go 1 ?_
      refine TS_litNT 21 5 1 (ecI .u8) [] ([IntKind.wrap .u8 (ishr .u64 a1 (IntKind.wrap .u64 (IntKind.wrap .i64 (8 * s1.2))))] : List Int) (by kernel_rfl) (by kernel_rfl) ?_
      replace h := bindO h
      obtain ⟨_l6, hl6, h⟩ := h
      refine TS_appT (d := 1000001) (e := 5) (sz := 1) (N := List.length s1.1) (ecI .u8) (fun _ => by kernel_rfl) (l1 := s1.1) (l2 := ([IntKind.wrap .u8 (ishr .u64 a1 (IntKind.wrap .u64 (IntKind.wrap .i64 (8 * s1.2))))] : List Int)) (c := .whole) hl6 (by kernel_rfl) (by kernel_rfl) ?_
      refine TS_go 8 ?_
      have ret := Option.some.inj h
      subst ret
      exact TS_againB _ ⟨[(0, []), (1, []), (7, []), (2000000, [])], [(1000001, (1000001, []))]⟩ rfl (by kernel_rfl) (by kernel_rfl)
    · refine TS_know 11 (b := false) hb4 (by kernel_rfl) (by kernel_rfl) ?_
      refine TS_F (by kernel_rfl) rfl ?_
      refine TS_go 2 ?_
      have ret := Option.some.inj h
      subst ret
      exact TS_brkB s1.1 ⟨[(0, []), (2000000, [])], [(1000001, (1000001, []))]⟩ rfl (by kernel_rfl) (by kernel_rfl) (by kernel_rfl)
  · intro b2 hb
    subst y3
    have h := hK1
    refine TS_go 7 ?_
    have ret := Option.some.inj h
    subst ret
    exact TS_retG (sz1 := 1) (xs1 := List.map (ecI .u8) a0) (by kernel_rfl) (by kernel_rfl) (by kernel_rfl) (by kernel_rfl)

/-- multihop/multihopref29.element -/
noncomputable def F_ref29_element_G0 (a0 : List Int) (a1 : Int) (a2 : List Int) : Option ((List Int)) :=
  (appO 1 a0 (Cut.app .whole ([a1, IntKind.wrap .u8 (List.length a2 : Int)] : List Int))).bind fun l1 =>
  (appO 1 l1 (Cut.app .whole a2)).bind fun l2 =>
  some (l2)
set_option maxRecDepth 100000 in
set_option maxHeartbeats 40000000 in
theorem ok_ref29_element_G0 (a0 : List Int) (a1 : Int) (a2 : List Int) (r : (List Int)) (h : F_ref29_element_G0 a0 a1 a2 = some r) : ConG Try.prog 65 [.c (.slc 1 1000003 (List.length a0) (List.map (ecI .u8) a0)), .c (.lit (.int .u8 (a1))), .c (eS 1 (ecI .u8) (a2))] 5 1 (List.length a0) (.c (.slc 1 1000003 (List.length r) (List.map (ecI .u8) r))) (List.length r) := by
  unfold F_ref29_element_G0 at h
  refine con_ofG [] 17 0 Try.func65 rfl rfl (by kernel_rfl) rfl (fun K => ?_)
  refine TS_go 11 ?_
  refine TS_litNT 12 5 1 (ecI .u8) [] ([a1, IntKind.wrap .u8 (List.length a2 : Int)] : List Int) (by kernel_rfl) (by kernel_rfl) ?_
  replace h := bindO h
  obtain ⟨l1, hl1, h⟩ := h
  refine TS_appT (d := 1000001) (e := 5) (sz := 1) (N := List.length a0) (ecI .u8) (fun _ => by kernel_rfl) (l1 := a0) (l2 := ([a1, IntKind.wrap .u8 (List.length a2 : Int)] : List Int)) (c := .whole) hl1 (by kernel_rfl) (by kernel_rfl) ?_
  refine TS_go 6 ?_
  replace h := bindO h
  obtain ⟨l2, hl2, h⟩ := h
  refine TS_appT (d := 1000001) (e := 5) (sz := 1) (N := List.length l1) (ecI .u8) (fun _ => by kernel_rfl) (l1 := l1) (l2 := a2) (c := .whole) hl2 (by kernel_rfl) (by kernel_rfl) ?_
  refine TS_go 3 ?_
  have ret := Option.some.inj h
  subst ret
  exact TS_retG (sz1 := 1) (xs1 := List.map (ecI .u8) a0) (by kernel_rfl) (by kernel_rfl) (by kernel_rfl) (by kernel_rfl)

/-- multihop/multihopref29.size -/
noncomputable def F_ref29_size (a0 : Int) : Option (Int) :=
  some (iquo .i64 (IntKind.wrap .i64 (a0 + 7)) 8)
set_option maxRecDepth 100000 in
set_option maxHeartbeats 40000000 in
theorem ok_ref29_size (a0 : Int) (r : Int) (h : F_ref29_size a0 = some r) : Con Try.prog 66 [.c (.lit (.int .i64 (a0)))] [] (.c (.lit (.int .i64 (r)))) [] := by
  unfold F_ref29_size at h
  refine con_of [] [] 6 Try.func66 rfl rfl (by kernel_rfl) (fun K => ?_)
  refine TS_go 12 ?_
  have ret := Option.some.inj h
  subst ret
  exact TS_ret (by kernel_rfl) (by kernel_rfl) (by kernel_rfl)

/-- multihop/multihopref29.part -/
noncomputable def F_ref29_part_l1 (a0 : S_Prefix) (s1 : (List Int) × Int) : Option (((List Int) × Int) ⊕ ((List Int))) :=
  (F_ref29_size a0.Bits).bind fun v4 =>
  bif (decide (s1.2 < v4)) then
    bif decide ((0 : Int) ≤ s1.2 ∧ s1.2 < (16 : Int)) then
      (appO 1 s1.1 (Cut.app .whole ([(List.getD a0.IP (Int.toNat s1.2) 0)] : List Int))).bind fun l7 =>
      some (Sum.inl (l7, IntKind.wrap .i64 (s1.2 + 1)))
    else none
  else
    some (Sum.inr s1.1)
noncomputable def F_ref29_part (a0 : S_Prefix) (a1 : Int) : Option ((List Int)) :=
  (loopO (F_ref29_part_l1 a0) (([] : List Int), a1)).bind fun b2 =>
  some (b2)
set_option maxRecDepth 100000 in
set_option maxHeartbeats 40000000 in
theorem okT_ref29_part (a0 : S_Prefix) (a1 : Int) (r : (List Int)) (h : F_ref29_part a0 a1 = some r) : Con Try.prog 67 [.agg (S_Prefix.cs a0), .c (.lit (.int .i64 (a1)))] [] (.c (.slc 1 900002 (List.length r) (List.map (ecI .u8) r))) [(900000, .spare 5 1 (List.length r))] := by
  unfold F_ref29_part at h
  refine con_of [] [(900000, [])] 23 Try.func67 rfl rfl (by kernel_rfl) (fun K => ?_)
  refine TS_go 16 ?_
  refine TS_nilT 5 600000 5 1 (by kernel_rfl) ?_
  refine TS_cut ⟨[(2, []), (5, []), (6, [])], [(2, (2, [])), (600000, (600000, []))]⟩ (.mk [.code (codeAt [1, 1, 0, 1, 0] (bodyOf Try.f67)), .blk 0, .code (codeAt [1, 1, 1] (bodyOf Try.f67))] .normal ⟨[(2, .c (.box 2 0)), (5, .c (.slc 1 600002 (List.length ([] : List Int)) (List.map (ecI .u8) ([] : List Int)))), (6, .c (.lit (.int .i64 (a1))))], [(2, .box [.lit (.int .u8 ((a0.IP.getD 0 0))), .lit (.int .u8 ((a0.IP.getD 1 0))), .lit (.int .u8 ((a0.IP.getD 2 0))), .lit (.int .u8 ((a0.IP.getD 3 0))), .lit (.int .u8 ((a0.IP.getD 4 0))), .lit (.int .u8 ((a0.IP.getD 5 0))), .lit (.int .u8 ((a0.IP.getD 6 0))), .lit (.int .u8 ((a0.IP.getD 7 0))), .lit (.int .u8 ((a0.IP.getD 8 0))), .lit (.int .u8 ((a0.IP.getD 9 0))), .lit (.int .u8 ((a0.IP.getD 10 0))), .lit (.int .u8 ((a0.IP.getD 11 0))), .lit (.int .u8 ((a0.IP.getD 12 0))), .lit (.int .u8 ((a0.IP.getD 13 0))), .lit (.int .u8 ((a0.IP.getD 14 0))), .lit (.int .u8 ((a0.IP.getD 15 0))), .lit (.int .i64 (a0.Bits))]), (600000, .spare 5 1 (List.length ([] : List Int)))]⟩) (by kernel_rfl) (by kernel_rfl) ?_
  replace h := bindO h
  obtain ⟨y3, hl1, hK1⟩ := h
  refine TS_loopB (F_ref29_part_l1 a0) ⟨[(2, []), (5, []), (6, [])], [(2, (2, [])), (600000, (600000, []))]⟩ (fun (s1 : (List Int) × Int) => [(5, .c (.slc 1 600002 (List.length s1.1) (List.map (ecI .u8) s1.1))), (6, .c (.lit (.int .i64 (s1.2))))]) (fun (s1 : (List Int) × Int) => [(600000, .spare 5 1 (List.length s1.1))]) (([] : List Int), a1) y3 (.exit 0) (fun (b : (List Int)) => b) ⟨[(5, [])], [(600000, (600000, []))]⟩ (fun (b2 : (List Int)) => [(5, .c (.slc 1 600002 (List.length b2) (List.map (ecI .u8) b2)))]) (fun (b2 : (List Int)) => [(600000, .spare 5 1 (List.length b2))]) hl1 (by kernel_rfl) (by kernel_rfl) ?_ ?_
  · intro s1 x h hy1
    unfold F_ref29_part_l1 at h
    refine TS_go 6 ?_
    replace h := bindO h
    obtain ⟨v4, hv4, h⟩ := h
    refine TS_call [] (ok_ref29_size a0.Bits v4 hv4) (by kernel_rfl) (by kernel_rfl) ?_
    refine TS_go 2 ?_
    replace h := condO h
    rcases h with ⟨hb5, h⟩ | ⟨hb5, h⟩
    · refine TS_know 12 (b := true) hb5 (by kernel_rfl) (by kernel_rfl) ?_
      refine TS_T (by kernel_rfl) rfl ?_
      refine TS_go 7 ?_
      replace h := chkO h
      obtain ⟨hc6, h⟩ := h
      refine TS_idxA 2 0 16 (i := s1.2) hc6 (by kernel_rfl) (by kernel_rfl) ?_
      refine TS_ldA .u8 0 16 (i := s1.2) a0.IP hc6 (by kernel_rfl) (by kernel_rfl) ?_
      refine TS_litNT 20 5 1 (ecI .u8) [] ([(List.getD a0.IP (Int.toNat s1.2) 0)] : List Int) (by kernel_rfl) (by kernel_rfl) ?_
      replace h := bindO h
      obtain ⟨_l7, hl7, h⟩ := h
      refine TS_appT (d := 600000) (e := 5) (sz := 1) (N := List.length s1.1) (ecI .u8) (fun _ => by kernel_rfl) (l1 := s1.1) (l2 := ([(List.getD a0.IP (Int.toNat s1.2) 0)] : List Int)) (c := .whole) hl7 (by kernel_rfl) (by kernel_rfl) ?_
      refine TS_go 8 ?_
      have ret := Option.some.inj h
      subst ret
      exact TS_againB _ ⟨[(2, []), (5, []), (6, [])], [(2, (2, [])), (600000, (600000, []))]⟩ rfl (by kernel_rfl) (by kernel_rfl)
    · refine TS_know 12 (b := false) hb5 (by kernel_rfl) (by kernel_rfl) ?_
      refine TS_F (by kernel_rfl) rfl ?_
      refine TS_go 2 ?_
      have ret := Option.some.inj h
      subst ret
      exact TS_brkB s1.1 ⟨[(5, [])], [(600000, (600000, []))]⟩ rfl (by kernel_rfl) (by kernel_rfl) (by kernel_rfl)
  · intro b2 hb
    subst y3
    have h := hK1
    refine TS_go 6 ?_
    refine TS_fitU ⟨[(4, [])], [(600000, (900000, []))]⟩ (by kernel_rfl) ?_
    refine TS_go 1 ?_
    have ret := Option.some.inj h
    subst ret
    exact TS_ret (by kernel_rfl) (by kernel_rfl) (by kernel_rfl)
end
section
open Go.RowKit
attribute [local irreducible] TS go TD goD

/-- multihop/multihopref29.Body -/
noncomputable def F_ref29_Body_j2 (s1 : (List Int) × Int × Int × (List Int)) (v5 : (List Int) × Int × (List Int)) : Option (((List Int) × Int × Int × (List Int)) ⊕ ((List Int))) :=
  some (Sum.inl (v5.1, v5.2.1, IntKind.wrap .i64 (s1.2.2.1 + 1), v5.2.2))
noncomputable def F_ref29_Body_l4 (e6 : S_Notice) (s1 : (List Int) × Int × Int × (List Int)) (s16 : Int) : Option ((Int) ⊕ (Int)) :=
  (F_ref29_size e6.To.Dst.Bits).bind fun v19 =>
  bif (decide (s16 < v19)) then
    bif decide ((0 : Int) ≤ s16 ∧ s16 < (16 : Int)) then
      bif decide ((0 : Int) ≤ s16 ∧ s16 < (16 : Int)) then
        bif ((List.getD e6.To.Dst.IP (Int.toNat s16) 0) == (List.getD s1.2.2.2 (Int.toNat s16) 0)) then
          some (Sum.inl (IntKind.wrap .i64 (s16 + 1)))
        else
          some (Sum.inr s16)
      else none
    else none
  else
    some (Sum.inr s16)
noncomputable def F_ref29_Body_j3 (e6 : S_Notice) (s1 : (List Int) × Int × Int × (List Int)) (v15 : (List Int) × Int) : Option (((List Int) × Int × Int × (List Int)) ⊕ ((List Int))) :=
  (loopO (F_ref29_Body_l4 e6 s1) 0).bind fun b17 =>
  (appO 1 ([] : List Int) (Cut.app .whole ([IntKind.wrap .u8 b17, IntKind.wrap .u8 e6.To.Dst.Bits, IntKind.wrap .u8 e6.To.Src.Bits] : List Int))).bind fun l25 =>
  (F_ref29_Put_G0 l25 (IntKind.wrap .u64 e6.Seq) 2).bind fun v26 =>
  (F_ref29_Put_G0 v26 (IntKind.wrap .u64 e6.Metric) 2).bind fun v27 =>
  (F_ref29_part e6.To.Dst b17).bind fun v28 =>
  (appO 1 v27 (Cut.app .whole v28)).bind fun l29 =>
  (F_ref29_part e6.To.Src 0).bind fun v30 =>
  (appO 1 l29 (Cut.app .whole v30)).bind fun l31 =>
  (F_ref29_element_G0 v15.1 3 l31).bind fun v32 =>
  (F_ref29_Body_j2 s1) (v32, v15.2, e6.To.Dst.IP)
noncomputable def F_ref29_Body_l1 (a0 : List S_Notice) (s1 : (List Int) × Int × Int × (List Int)) : Option (((List Int) × Int × Int × (List Int)) ⊕ ((List Int))) :=
  bif (decide (s1.2.2.1 < (List.length a0 : Int))) then
    (idx a0 s1.2.2.1).bind fun e6 =>
    bif (e6.Kind == 1) then
      (F_ref29_Put_N0 (IntKind.wrap .u64 e6.Seq) 2).bind fun v8 =>
      (F_ref29_element_G0 s1.1 1 v8).bind fun v9 =>
      (F_ref29_Body_j2 s1) (v9, s1.2.1, s1.2.2.2)
    else
      bif (e6.Kind == 2) then
        (F_ref29_Put_N0 e6.Neighbour 8).bind fun v11 =>
        (F_ref29_Put_G0 v11 (IntKind.wrap .u64 e6.Metric) 2).bind fun v12 =>
        (F_ref29_element_G0 s1.1 2 v12).bind fun v13 =>
        (F_ref29_Body_j2 s1) (v13, s1.2.1, s1.2.2.2)
      else
        bif (e6.Kind == 3) then
          bif (e6.To.Router != s1.2.1) then
            (F_ref29_Put_N0 e6.To.Router 8).bind fun v34 =>
            (F_ref29_element_G0 s1.1 6 v34).bind fun v35 =>
            (F_ref29_Body_j3 e6 s1) (v35, e6.To.Router)
          else
            (F_ref29_Body_j3 e6 s1) (s1.1, s1.2.1)
        else
          bif (e6.Kind == 4) then
            (appO 1 ([] : List Int) (Cut.app .whole ([IntKind.wrap .u8 e6.To.Dst.Bits, IntKind.wrap .u8 e6.To.Src.Bits] : List Int))).bind fun l37 =>
            (F_ref29_part e6.To.Dst 0).bind fun v38 =>
            (appO 1 l37 (Cut.app .whole v38)).bind fun l39 =>
            (F_ref29_part e6.To.Src 0).bind fun v40 =>
            (appO 1 l39 (Cut.app .whole v40)).bind fun l41 =>
            (F_ref29_element_G0 s1.1 4 l41).bind fun v42 =>
            (F_ref29_Body_j2 s1) (v42, s1.2.1, s1.2.2.2)
          else
            bif (e6.Kind == 5) then
              (appO 1 ([] : List Int) (Cut.app .whole ([IntKind.wrap .u8 e6.To.Dst.Bits, IntKind.wrap .u8 e6.To.Src.Bits] : List Int))).bind fun l44 =>
              (F_ref29_Put_G0 l44 (IntKind.wrap .u64 e6.Seq) 2).bind fun v45 =>
              (appO 1 v45 (Cut.app .whole ([IntKind.wrap .u8 e6.Hops] : List Int))).bind fun l46 =>
              (F_ref29_Put_G0 l46 e6.To.Router 8).bind fun v47 =>
              (F_ref29_part e6.To.Dst 0).bind fun v48 =>
              (appO 1 v47 (Cut.app .whole v48)).bind fun l49 =>
              (F_ref29_part e6.To.Src 0).bind fun v50 =>
              (appO 1 l49 (Cut.app .whole v50)).bind fun l51 =>
              (F_ref29_element_G0 s1.1 5 l51).bind fun v52 =>
              (F_ref29_Body_j2 s1) (v52, s1.2.1, s1.2.2.2)
            else
              (F_ref29_Body_j2 s1) (s1.1, s1.2.1, s1.2.2.2)
  else
    some (Sum.inr s1.1)
noncomputable def F_ref29_Body (a0 : List S_Notice) : Option ((List Int)) :=
  (loopO (F_ref29_Body_l1 a0) (([] : List Int), 0, 0, [0, 0, 0, 0, 0, 0, 0, 0, 0, 0, 0, 0, 0, 0, 0, 0])).bind fun b2 =>
  some (b2)
set_option maxRecDepth 100000 in
set_option maxHeartbeats 40000000 in
theorem okT_ref29_Body (a0 : List S_Notice) (r : (List Int)) (h : F_ref29_Body a0 = some r) : Con Try.prog 50 [.c (eS 40 S_Notice.cs (a0))] [] (.c (.slc 1 900002 (List.length r) (List.map (ecI .u8) r))) [(900000, .spare 5 1 (List.length r))] := by
  unfold F_ref29_Body at h
  refine con_of [] [(900000, [])] 191 Try.func50 rfl rfl (by kernel_rfl) (fun K => ?_)
  refine TS_go 24 ?_
  refine TS_nilT 3 600000 5 1 (by kernel_rfl) ?_
  refine TS_cut ⟨[(3, []), (4, []), (5, []), (10, []), (11, []), (12, [])], [(5, (5, [])), (600000, (600000, []))]⟩ (.mk [.code (codeAt [1, 1, 1, 1, 0, 1, 0] (bodyOf Try.f50)), .blk 0, .code (codeAt [1, 1, 1, 1, 1] (bodyOf Try.f50))] .normal ⟨[(3, .c (.slc 1 600002 (List.length ([] : List Int)) (List.map (ecI .u8) ([] : List Int)))), (4, .c (.lit (.int .u64 (0)))), (5, .c (.box 5 0)), (10, .c (.slc 40 0 (List.length a0) (List.map S_Notice.cs a0))), (11, .c (.lit (.int .i64 ((List.length a0 : Int))))), (12, .c (.lit (.int .i64 (0))))], [(5, .box [.lit (.int .u8 (0)), .lit (.int .u8 (0)), .lit (.int .u8 (0)), .lit (.int .u8 (0)), .lit (.int .u8 (0)), .lit (.int .u8 (0)), .lit (.int .u8 (0)), .lit (.int .u8 (0)), .lit (.int .u8 (0)), .lit (.int .u8 (0)), .lit (.int .u8 (0)), .lit (.int .u8 (0)), .lit (.int .u8 (0)), .lit (.int .u8 (0)), .lit (.int .u8 (0)), .lit (.int .u8 (0))]), (600000, .spare 5 1 (List.length ([] : List Int)))]⟩) (by kernel_rfl) (by kernel_rfl) ?_
  replace h := bindO h
  obtain ⟨y3, hl1, hK1⟩ := h
  refine TS_loopB (F_ref29_Body_l1 a0) ⟨[(3, []), (4, []), (5, []), (10, []), (11, []), (12, [])], [(600000, (600000, [])), (5, (5, []))]⟩ (fun (s1 : (List Int) × Int × Int × (List Int)) => [(3, .c (.slc 1 600002 (List.length s1.1) (List.map (ecI .u8) s1.1))), (4, .c (.lit (.int .u64 (s1.2.1)))), (12, .c (.lit (.int .i64 (s1.2.2.1))))]) (fun (s1 : (List Int) × Int × Int × (List Int)) => [(5, .box (arrS .u8 16 s1.2.2.2)), (600000, .spare 5 1 (List.length s1.1))]) (([] : List Int), 0, 0, [0, 0, 0, 0, 0, 0, 0, 0, 0, 0, 0, 0, 0, 0, 0, 0]) y3 (.exit 0) (fun (b : (List Int)) => b) ⟨[(3, [])], [(600000, (600000, []))]⟩ (fun (b2 : (List Int)) => [(3, .c (.slc 1 600002 (List.length b2) (List.map (ecI .u8) b2)))]) (fun (b2 : (List Int)) => [(600000, .spare 5 1 (List.length b2))]) hl1 (by kernel_rfl) (by kernel_rfl) ?_ ?_
  · intro s1 x h hy1
    unfold F_ref29_Body_l1 at h
    refine TS_go 5 ?_
    replace h := condO h
    rcases h with ⟨hb4, h⟩ | ⟨hb4, h⟩
    · refine TS_know 13 (b := true) hb4 (by kernel_rfl) (by kernel_rfl) ?_
      refine TS_T (by kernel_rfl) rfl ?_
      refine TS_go 1 ?_
      refine TS_cut ⟨[(3, []), (4, []), (5, []), (10, []), (11, []), (12, [])], [(600000, (600000, [])), (5, (5, []))]⟩ (.mk [.code (codeAt [1, 1, 1, 1, 0, 1, 0, 0, 1, 1] (bodyOf Try.f50))] .normal ⟨[(3, .c (.slc 1 600002 (List.length s1.1) (List.map (ecI .u8) s1.1))), (4, .c (.lit (.int .u64 (s1.2.1)))), (5, .c (.box 5 0)), (10, .c (.slc 40 0 (List.length a0) (List.map S_Notice.cs a0))), (11, .c (.lit (.int .i64 ((List.length a0 : Int))))), (12, .c (.lit (.int .i64 (s1.2.2.1))))], [(600000, .spare 5 1 (List.length s1.1)), (5, .box [.lit (.int .u8 ((s1.2.2.2.getD 0 0))), .lit (.int .u8 ((s1.2.2.2.getD 1 0))), .lit (.int .u8 ((s1.2.2.2.getD 2 0))), .lit (.int .u8 ((s1.2.2.2.getD 3 0))), .lit (.int .u8 ((s1.2.2.2.getD 4 0))), .lit (.int .u8 ((s1.2.2.2.getD 5 0))), .lit (.int .u8 ((s1.2.2.2.getD 6 0))), .lit (.int .u8 ((s1.2.2.2.getD 7 0))), .lit (.int .u8 ((s1.2.2.2.getD 8 0))), .lit (.int .u8 ((s1.2.2.2.getD 9 0))), .lit (.int .u8 ((s1.2.2.2.getD 10 0))), .lit (.int .u8 ((s1.2.2.2.getD 11 0))), .lit (.int .u8 ((s1.2.2.2.getD 12 0))), .lit (.int .u8 ((s1.2.2.2.getD 13 0))), .lit (.int .u8 ((s1.2.2.2.getD 14 0))), .lit (.int .u8 ((s1.2.2.2.getD 15 0)))])]⟩) (by kernel_rfl) (by kernel_rfl) ?_
      refine TS_joinB ⟨[(3, []), (4, []), (5, []), (10, []), (11, []), (12, [])], [(600000, (600000, [])), (5, (5, []))]⟩ (fun (v5 : (List Int) × Int × (List Int)) => [(3, .c (.slc 1 600002 (List.length v5.1) (List.map (ecI .u8) v5.1))), (4, .c (.lit (.int .u64 (v5.2.1))))]) (fun (v5 : (List Int) × Int × (List Int)) => [(5, .box (arrS .u8 16 v5.2.2)), (600000, .spare 5 1 (List.length v5.1))]) (F_ref29_Body_j2 s1) x ?_ ?_
      · clear h
        intro v5 h
        unfold F_ref29_Body_j2 at h
        refine TS_go 4 ?_
        have ret := Option.some.inj h
        subst ret
        exact TS_againB _ ⟨[(3, []), (4, []), (5, []), (10, []), (11, []), (12, [])], [(600000, (600000, [])), (5, (5, []))]⟩ rfl (by kernel_rfl) (by kernel_rfl)
      · refine TS_go 3 ?_
        replace h := bindO h
        obtain ⟨e6, he6, h⟩ := h
        refine TS_idx S_Notice.cs he6 (by kernel_rfl) (by kernel_rfl) ?_
        refine TS_go 19 ?_
        replace h := condO h
        rcases h with ⟨hb7, h⟩ | ⟨hb7, h⟩
        · refine TS_know 19 (b := true) hb7 (by kernel_rfl) (by kernel_rfl) ?_
          refine TS_know 18 (b := true) hb7 (by kernel_rfl) (by kernel_rfl) ?_
          refine TS_T (by kernel_rfl) rfl ?_
          refine TS_go 5 ?_
          replace h := bindO h
          obtain ⟨v8, hv8, h⟩ := h
          refine TS_con [] [(24, 900000)] none (okT_ref29_Put_N0 (IntKind.wrap .u64 e6.Seq) 2 v8 hv8) (by kernel_rfl) (by kernel_rfl) (by kernel_rfl) ?_
          replace h := bindO h
          obtain ⟨v9, hv9, h⟩ := h
          refine TS_conG 600000 [[], [], [2]] (ok_ref29_element_G0 s1.1 1 v8 v9 hv9) (by kernel_rfl) (by kernel_rfl) (by kernel_rfl) ?_
          refine TS_go 4 ?_
          exact TS_meet (v9, s1.2.1, s1.2.2.2) ⟨[(3, []), (4, []), (5, []), (10, []), (11, []), (12, [])], [(600000, (600000, [])), (5, (5, []))]⟩ h (by kernel_rfl) (by kernel_rfl)
        · refine TS_know 19 (b := false) hb7 (by kernel_rfl) (by kernel_rfl) ?_
          refine TS_know 18 (b := false) hb7 (by kernel_rfl) (by kernel_rfl) ?_
          refine TS_F (by kernel_rfl) rfl ?_
          refine TS_go 5 ?_
          replace h := condO h
          rcases h with ⟨hb10, h⟩ | ⟨hb10, h⟩
          · refine TS_know 27 (b := true) hb10 (by kernel_rfl) (by kernel_rfl) ?_
            refine TS_know 26 (b := true) hb10 (by kernel_rfl) (by kernel_rfl) ?_
            refine TS_T (by kernel_rfl) rfl ?_
            refine TS_draw (by kernel_rfl) ?_
            refine TD_go 3 ?_
            replace h := bindO h
            obtain ⟨v11, hv11, h⟩ := h
            refine TD_conX (d := 31) (e := 900000) [] (okT_ref29_Put_N0 e6.Neighbour 8 v11 hv11) (by kernel_rfl) (by kernel_rfl) ?_
            refine TD_go 3 ?_
            replace h := bindO h
            obtain ⟨v12, hv12, h⟩ := h
            refine TD_conG 31 [] (ok_ref29_Put_G0 v11 (IntKind.wrap .u64 e6.Metric) 2 v12 hv12) (by kernel_rfl) (by kernel_rfl) (by kernel_rfl) ?_
            replace h := bindO h
            obtain ⟨v13, hv13, h⟩ := h
            refine TD_conG 600000 [[], [], [2]] (ok_ref29_element_G0 s1.1 2 v12 v13 hv13) (by kernel_rfl) (by kernel_rfl) (by kernel_rfl) ?_
            refine TD_go 1 ?_
            refine TD_end (by kernel_rfl) ?_
            refine TS_go 2 ?_
            exact TS_meet (v13, s1.2.1, s1.2.2.2) ⟨[(3, []), (4, []), (5, []), (10, []), (11, []), (12, [])], [(600000, (600000, [])), (5, (5, []))]⟩ h (by kernel_rfl) (by kernel_rfl)
          · refine TS_know 27 (b := false) hb10 (by kernel_rfl) (by kernel_rfl) ?_
            refine TS_know 26 (b := false) hb10 (by kernel_rfl) (by kernel_rfl) ?_
            refine TS_F (by kernel_rfl) rfl ?_
            refine TS_go 5 ?_
            replace h := condO h
            rcases h with ⟨hb14, h⟩ | ⟨hb14, h⟩
            · refine TS_know 38 (b := true) hb14 (by kernel_rfl) (by kernel_rfl) ?_
              refine TS_know 37 (b := true) hb14 (by kernel_rfl) (by kernel_rfl) ?_
              refine TS_T (by kernel_rfl) rfl ?_
              refine TS_cut ⟨[(3, []), (4, []), (5, []), (10, []), (11, []), (12, []), (7, []), (8, [])], [(600000, (600000, [])), (5, (5, [])), (7, (7, []))]⟩ (.mk [.code (codeAt [1, 1, 1, 1, 0, 1, 0, 0, 1, 1, 0, 0, 1, 1, 1, 0, 1, 1, 1, 1, 1, 0] (bodyOf Try.f50)), .blk 2, .blk 1] .normal ⟨[(3, .c (.slc 1 600002 (List.length s1.1) (List.map (ecI .u8) s1.1))), (4, .c (.lit (.int .u64 (s1.2.1)))), (5, .c (.box 5 0)), (10, .c (.slc 40 0 (List.length a0) (List.map S_Notice.cs a0))), (11, .c (.lit (.int .i64 ((List.length a0 : Int))))), (12, .c (.lit (.int .i64 (s1.2.2.1)))), (7, .c (.box 7 0)), (8, .c (.lit (.slice none 0 0)))], [(600000, .spare 5 1 (List.length s1.1)), (5, .box [.lit (.int .u8 ((s1.2.2.2.getD 0 0))), .lit (.int .u8 ((s1.2.2.2.getD 1 0))), .lit (.int .u8 ((s1.2.2.2.getD 2 0))), .lit (.int .u8 ((s1.2.2.2.getD 3 0))), .lit (.int .u8 ((s1.2.2.2.getD 4 0))), .lit (.int .u8 ((s1.2.2.2.getD 5 0))), .lit (.int .u8 ((s1.2.2.2.getD 6 0))), .lit (.int .u8 ((s1.2.2.2.getD 7 0))), .lit (.int .u8 ((s1.2.2.2.getD 8 0))), .lit (.int .u8 ((s1.2.2.2.getD 9 0))), .lit (.int .u8 ((s1.2.2.2.getD 10 0))), .lit (.int .u8 ((s1.2.2.2.getD 11 0))), .lit (.int .u8 ((s1.2.2.2.getD 12 0))), .lit (.int .u8 ((s1.2.2.2.getD 13 0))), .lit (.int .u8 ((s1.2.2.2.getD 14 0))), .lit (.int .u8 ((s1.2.2.2.getD 15 0)))]), (7, .box [.lit (.int .i64 (e6.Kind)), .lit (.int .u16 (e6.Seq)), .lit (.int .i64 (e6.Metric)), .lit (.int .u64 (e6.Neighbour)), .lit (.int .u8 ((e6.To.Dst.IP.getD 0 0))), .lit (.int .u8 ((e6.To.Dst.IP.getD 1 0))), .lit (.int .u8 ((e6.To.Dst.IP.getD 2 0))), .lit (.int .u8 ((e6.To.Dst.IP.getD 3 0))), .lit (.int .u8 ((e6.To.Dst.IP.getD 4 0))), .lit (.int .u8 ((e6.To.Dst.IP.getD 5 0))), .lit (.int .u8 ((e6.To.Dst.IP.getD 6 0))), .lit (.int .u8 ((e6.To.Dst.IP.getD 7 0))), .lit (.int .u8 ((e6.To.Dst.IP.getD 8 0))), .lit (.int .u8 ((e6.To.Dst.IP.getD 9 0))), .lit (.int .u8 ((e6.To.Dst.IP.getD 10 0))), .lit (.int .u8 ((e6.To.Dst.IP.getD 11 0))), .lit (.int .u8 ((e6.To.Dst.IP.getD 12 0))), .lit (.int .u8 ((e6.To.Dst.IP.getD 13 0))), .lit (.int .u8 ((e6.To.Dst.IP.getD 14 0))), .lit (.int .u8 ((e6.To.Dst.IP.getD 15 0))), .lit (.int .i64 (e6.To.Dst.Bits)), .lit (.int .u8 ((e6.To.Src.IP.getD 0 0))), .lit (.int .u8 ((e6.To.Src.IP.getD 1 0))), .lit (.int .u8 ((e6.To.Src.IP.getD 2 0))), .lit (.int .u8 ((e6.To.Src.IP.getD 3 0))), .lit (.int .u8 ((e6.To.Src.IP.getD 4 0))), .lit (.int .u8 ((e6.To.Src.IP.getD 5 0))), .lit (.int .u8 ((e6.To.Src.IP.getD 6 0))), .lit (.int .u8 ((e6.To.Src.IP.getD 7 0))), .lit (.int .u8 ((e6.To.Src.IP.getD 8 0))), .lit (.int .u8 ((e6.To.Src.IP.getD 9 0))), .lit (.int .u8 ((e6.To.Src.IP.getD 10 0))), .lit (.int .u8 ((e6.To.Src.IP.getD 11 0))), .lit (.int .u8 ((e6.To.Src.IP.getD 12 0))), .lit (.int .u8 ((e6.To.Src.IP.getD 13 0))), .lit (.int .u8 ((e6.To.Src.IP.getD 14 0))), .lit (.int .u8 ((e6.To.Src.IP.getD 15 0))), .lit (.int .i64 (e6.To.Src.Bits)), .lit (.int .u64 (e6.To.Router)), .lit (.int .i64 (e6.Hops))])]⟩) (by kernel_rfl) (by kernel_rfl) ?_
              refine TS_joinB ⟨[(3, []), (4, []), (5, []), (7, []), (8, []), (10, []), (11, []), (12, [])], [(600000, (600000, [])), (5, (5, [])), (7, (7, []))]⟩ (fun (v15 : (List Int) × Int) => [(3, .c (.slc 1 600002 (List.length v15.1) (List.map (ecI .u8) v15.1))), (4, .c (.lit (.int .u64 (v15.2))))]) (fun (v15 : (List Int) × Int) => [(600000, .spare 5 1 (List.length v15.1))]) (F_ref29_Body_j3 e6 s1) x ?_ ?_
              · clear h
                intro v15 h
                unfold F_ref29_Body_j3 at h
                refine TS_go 6 ?_
                refine TS_cut ⟨[(3, []), (4, []), (5, []), (7, []), (8, []), (10, []), (11, []), (12, []), (9, [])], [(600000, (600000, [])), (5, (5, [])), (7, (7, []))]⟩ (.mk [.code (codeAt [1, 1, 1, 1, 0, 1, 0, 0, 1, 1, 0, 0, 1, 1, 1, 0, 1, 1, 1, 1, 1, 0, 1, 1, 0, 0] (bodyOf Try.f50)), .blk 3, .code (codeAt [1, 1, 1, 1, 0, 1, 0, 0, 1, 1, 0, 0, 1, 1, 1, 0, 1, 1, 1, 1, 1, 0, 1, 1, 1] (bodyOf Try.f50)), .blk 2, .blk 1] .normal ⟨[(3, .c (.slc 1 600002 (List.length v15.1) (List.map (ecI .u8) v15.1))), (4, .c (.lit (.int .u64 (v15.2)))), (5, .c (.box 5 0)), (7, .c (.box 7 0)), (8, .c (.lit (.slice none 0 0))), (10, .c (.slc 40 0 (List.length a0) (List.map S_Notice.cs a0))), (11, .c (.lit (.int .i64 ((List.length a0 : Int))))), (12, .c (.lit (.int .i64 (s1.2.2.1)))), (9, .c (.lit (.int .i64 (0))))], [(600000, .spare 5 1 (List.length v15.1)), (5, .box [.lit (.int .u8 ((s1.2.2.2.getD 0 0))), .lit (.int .u8 ((s1.2.2.2.getD 1 0))), .lit (.int .u8 ((s1.2.2.2.getD 2 0))), .lit (.int .u8 ((s1.2.2.2.getD 3 0))), .lit (.int .u8 ((s1.2.2.2.getD 4 0))), .lit (.int .u8 ((s1.2.2.2.getD 5 0))), .lit (.int .u8 ((s1.2.2.2.getD 6 0))), .lit (.int .u8 ((s1.2.2.2.getD 7 0))), .lit (.int .u8 ((s1.2.2.2.getD 8 0))), .lit (.int .u8 ((s1.2.2.2.getD 9 0))), .lit (.int .u8 ((s1.2.2.2.getD 10 0))), .lit (.int .u8 ((s1.2.2.2.getD 11 0))), .lit (.int .u8 ((s1.2.2.2.getD 12 0))), .lit (.int .u8 ((s1.2.2.2.getD 13 0))), .lit (.int .u8 ((s1.2.2.2.getD 14 0))), .lit (.int .u8 ((s1.2.2.2.getD 15 0)))]), (7, .box [.lit (.int .i64 (e6.Kind)), .lit (.int .u16 (e6.Seq)), .lit (.int .i64 (e6.Metric)), .lit (.int .u64 (e6.Neighbour)), .lit (.int .u8 ((e6.To.Dst.IP.getD 0 0))), .lit (.int .u8 ((e6.To.Dst.IP.getD 1 0))), .lit (.int .u8 ((e6.To.Dst.IP.getD 2 0))), .lit (.int .u8 ((e6.To.Dst.IP.getD 3 0))), .lit (.int .u8 ((e6.To.Dst.IP.getD 4 0))), .lit (.int .u8 ((e6.To.Dst.IP.getD 5 0))), .lit (.int .u8 ((e6.To.Dst.IP.getD 6 0))), .lit (.int .u8 ((e6.To.Dst.IP.getD 7 0))), .lit (.int .u8 ((e6.To.Dst.IP.getD 8 0))), .lit (.int .u8 ((e6.To.Dst.IP.getD 9 0))), .lit (.int .u8 ((e6.To.Dst.IP.getD 10 0))), .lit (.int .u8 ((e6.To.Dst.IP.getD 11 0))), .lit (.int .u8 ((e6.To.Dst.IP.getD 12 0))), .lit (.int .u8 ((e6.To.Dst.IP.getD 13 0))), .lit (.int .u8 ((e6.To.Dst.IP.getD 14 0))), .lit (.int .u8 ((e6.To.Dst.IP.getD 15 0))), .lit (.int .i64 (e6.To.Dst.Bits)), .lit (.int .u8 ((e6.To.Src.IP.getD 0 0))), .lit (.int .u8 ((e6.To.Src.IP.getD 1 0))), .lit (.int .u8 ((e6.To.Src.IP.getD 2 0))), .lit (.int .u8 ((e6.To.Src.IP.getD 3 0))), .lit (.int .u8 ((e6.To.Src.IP.getD 4 0))), .lit (.int .u8 ((e6.To.Src.IP.getD 5 0))), .lit (.int .u8 ((e6.To.Src.IP.getD 6 0))), .lit (.int .u8 ((e6.To.Src.IP.getD 7 0))), .lit (.int .u8 ((e6.To.Src.IP.getD 8 0))), .lit (.int .u8 ((e6.To.Src.IP.getD 9 0))), .lit (.int .u8 ((e6.To.Src.IP.getD 10 0))), .lit (.int .u8 ((e6.To.Src.IP.getD 11 0))), .lit (.int .u8 ((e6.To.Src.IP.getD 12 0))), .lit (.int .u8 ((e6.To.Src.IP.getD 13 0))), .lit (.int .u8 ((e6.To.Src.IP.getD 14 0))), .lit (.int .u8 ((e6.To.Src.IP.getD 15 0))), .lit (.int .i64 (e6.To.Src.Bits)), .lit (.int .u64 (e6.To.Router)), .lit (.int .i64 (e6.Hops))])]⟩) (by kernel_rfl) (by kernel_rfl) ?_
                replace h := bindO h
                obtain ⟨y18, hl4, hK4⟩ := h
                refine TS_loopB (F_ref29_Body_l4 e6 s1) ⟨[(3, []), (4, []), (5, []), (7, []), (8, []), (9, []), (10, []), (11, []), (12, [])], [(600000, (600000, [])), (5, (5, [])), (7, (7, []))]⟩ (fun (s16 : Int) => [(9, .c (.lit (.int .i64 (s16))))]) (fun (s16 : Int) => []) 0 y18 (.exit 3) (fun (b : Int) => b) ⟨[(3, []), (4, []), (5, []), (7, []), (8, []), (9, []), (10, []), (11, []), (12, [])], [(600000, (600000, [])), (5, (5, [])), (7, (7, []))]⟩ (fun (b17 : Int) => [(9, .c (.lit (.int .i64 (b17))))]) (fun (b17 : Int) => []) hl4 (by kernel_rfl) (by kernel_rfl) ?_ ?_
                · intro s16 x h hy4
                  unfold F_ref29_Body_l4 at h
                  refine TS_go 2 ?_
                  refine TS_draw (by kernel_rfl) ?_
                  refine TD_go 5 ?_
                  replace h := bindO h
                  obtain ⟨v19, hv19, h⟩ := h
                  refine TD_call [] (ok_ref29_size e6.To.Dst.Bits v19 hv19) (by kernel_rfl) (by kernel_rfl) ?_
                  refine TD_go 1 ?_
                  replace h := condO h
                  rcases h with ⟨hb20, h⟩ | ⟨hb20, h⟩
                  · refine TD_know 58 (b := true) hb20 trivial (by kernel_rfl) (by kernel_rfl) ?_
                    refine TD_go 4 ?_
                    replace h := chkO h
                    obtain ⟨hc21, h⟩ := h
                    refine TD_idxA 7 4 16 (i := s16) hc21 (by kernel_rfl) (by kernel_rfl) ?_
                    refine TD_ldA .u8 4 16 (i := s16) e6.To.Dst.IP hc21 (by kernel_rfl) (by kernel_rfl) ?_
                    refine TD_go 1 ?_
                    replace h := chkO h
                    obtain ⟨hc22, h⟩ := h
                    refine TD_idxA 5 0 16 (i := s16) hc22 (by kernel_rfl) (by kernel_rfl) ?_
                    refine TD_ldA .u8 0 16 (i := s16) s1.2.2.2 hc22 (by kernel_rfl) (by kernel_rfl) ?_
                    refine TD_go 2 ?_
                    refine TD_end (by kernel_rfl) ?_
                    replace h := condO h
                    rcases h with ⟨hb23, h⟩ | ⟨hb23, h⟩
                    · refine TS_know 57 (b := true) hb20 (by kernel_rfl) (by kernel_rfl) ?_
                      refine TS_know 68 (b := true) hb23 (by kernel_rfl) (by kernel_rfl) ?_
                      refine TS_know 69 (b := true) hb23 (by kernel_rfl) (by kernel_rfl) ?_
                      refine TS_T (by kernel_rfl) rfl ?_
                      refine TS_go 8 ?_
                      have ret := Option.some.inj h
                      subst ret
                      exact TS_againB _ ⟨[(3, []), (4, []), (5, []), (7, []), (8, []), (9, []), (10, []), (11, []), (12, [])], [(600000, (600000, [])), (5, (5, [])), (7, (7, []))]⟩ rfl (by kernel_rfl) (by kernel_rfl)
                    · refine TS_know 57 (b := true) hb20 (by kernel_rfl) (by kernel_rfl) ?_
                      refine TS_know 68 (b := false) hb23 (by kernel_rfl) (by kernel_rfl) ?_
                      refine TS_know 69 (b := false) hb23 (by kernel_rfl) (by kernel_rfl) ?_
                      refine TS_F (by kernel_rfl) rfl ?_
                      refine TS_go 2 ?_
                      have ret := Option.some.inj h
                      subst ret
                      exact TS_brkB s16 ⟨[(3, []), (4, []), (5, []), (7, []), (8, []), (9, []), (10, []), (11, []), (12, [])], [(600000, (600000, [])), (5, (5, [])), (7, (7, []))]⟩ rfl (by kernel_rfl) (by kernel_rfl) (by kernel_rfl)
                  · refine TD_know 58 (b := false) hb20 trivial (by kernel_rfl) (by kernel_rfl) ?_
                    refine TD_go 11 ?_
                    refine TD_end (by kernel_rfl) ?_
                    refine TS_F (by kernel_rfl) rfl ?_
                    refine TS_go 2 ?_
                    have ret := Option.some.inj h
                    subst ret
                    exact TS_brkB s16 ⟨[(3, []), (4, []), (5, []), (7, []), (8, []), (9, []), (10, []), (11, []), (12, [])], [(600000, (600000, [])), (5, (5, [])), (7, (7, []))]⟩ rfl (by kernel_rfl) (by kernel_rfl) (by kernel_rfl)
                · intro b17 hb
                  subst y18
                  have h := hK4
                  refine TS_go 24 ?_
                  refine TS_litNT 89 5 1 (ecI .u8) [] ([IntKind.wrap .u8 b17, IntKind.wrap .u8 e6.To.Dst.Bits, IntKind.wrap .u8 e6.To.Src.Bits] : List Int) (by kernel_rfl) (by kernel_rfl) ?_
                  replace h := bindO h
                  obtain ⟨l25, hl25, h⟩ := h
                  refine TS_appNT 90 5 1 (ecI .u8) (fun _ => by kernel_rfl) (l2 := ([IntKind.wrap .u8 b17, IntKind.wrap .u8 e6.To.Dst.Bits, IntKind.wrap .u8 e6.To.Src.Bits] : List Int)) .whole hl25 (by kernel_rfl) (by kernel_rfl) ?_
                  refine TS_go 3 ?_
                  refine TS_draw (by kernel_rfl) ?_
                  refine TD_go 4 ?_
                  replace h := bindO h
                  obtain ⟨v26, hv26, h⟩ := h
                  refine TD_conG 90 [] (ok_ref29_Put_G0 l25 (IntKind.wrap .u64 e6.Seq) 2 v26 hv26) (by kernel_rfl) (by kernel_rfl) (by kernel_rfl) ?_
                  refine TD_go 3 ?_
                  replace h := bindO h
                  obtain ⟨v27, hv27, h⟩ := h
                  refine TD_conG 90 [] (ok_ref29_Put_G0 v26 (IntKind.wrap .u64 e6.Metric) 2 v27 hv27) (by kernel_rfl) (by kernel_rfl) (by kernel_rfl) ?_
                  refine TD_go 1 ?_
                  refine TD_end (by kernel_rfl) ?_
                  refine TS_go 7 ?_
                  replace h := bindO h
                  obtain ⟨v28, hv28, h⟩ := h
                  refine TS_con [] [(105, 900000)] none (okT_ref29_part e6.To.Dst b17 v28 hv28) (by kernel_rfl) (by kernel_rfl) (by kernel_rfl) ?_
                  replace h := bindO h
                  obtain ⟨l29, hl29, h⟩ := h
                  refine TS_appT (d := 90) (e := 5) (sz := 1) (N := List.length v27) (ecI .u8) (fun _ => by kernel_rfl) (l1 := v27) (l2 := v28) (c := .whole) hl29 (by kernel_rfl) (by kernel_rfl) ?_
                  refine TS_go 8 ?_
                  replace h := bindO h
                  obtain ⟨v30, hv30, h⟩ := h
                  refine TS_con [] [(112, 900000)] none (okT_ref29_part e6.To.Src 0 v30 hv30) (by kernel_rfl) (by kernel_rfl) (by kernel_rfl) ?_
                  replace h := bindO h
                  obtain ⟨l31, hl31, h⟩ := h
                  refine TS_appT (d := 90) (e := 5) (sz := 1) (N := List.length l29) (ecI .u8) (fun _ => by kernel_rfl) (l1 := l29) (l2 := v30) (c := .whole) hl31 (by kernel_rfl) (by kernel_rfl) ?_
                  replace h := bindO h
                  obtain ⟨v32, hv32, h⟩ := h
                  refine TS_conG 600000 [[], [], [2]] (ok_ref29_element_G0 v15.1 3 l31 v32 hv32) (by kernel_rfl) (by kernel_rfl) (by kernel_rfl) ?_
                  refine TS_go 4 ?_
                  exact TS_meet (v32, v15.2, e6.To.Dst.IP) ⟨[(3, []), (4, []), (5, []), (10, []), (11, []), (12, [])], [(600000, (600000, [])), (5, (5, []))]⟩ h (by kernel_rfl) (by kernel_rfl)
              · refine TS_go 8 ?_
                replace h := condO h
                rcases h with ⟨hb33, h⟩ | ⟨hb33, h⟩
                · refine TS_know 43 (b := true) hb33 (by kernel_rfl) (by kernel_rfl) ?_
                  refine TS_T (by kernel_rfl) rfl ?_
                  refine TS_go 10 ?_
                  replace h := bindO h
                  obtain ⟨v34, hv34, h⟩ := h
                  refine TS_con [] [(49, 900000)] none (okT_ref29_Put_N0 e6.To.Router 8 v34 hv34) (by kernel_rfl) (by kernel_rfl) (by kernel_rfl) ?_
                  replace h := bindO h
                  obtain ⟨v35, hv35, h⟩ := h
                  refine TS_conG 600000 [[], [], [2]] (ok_ref29_element_G0 s1.1 6 v34 v35 hv35) (by kernel_rfl) (by kernel_rfl) (by kernel_rfl) ?_
                  refine TS_go 2 ?_
                  exact TS_meet (v35, e6.To.Router) ⟨[(3, []), (4, []), (5, []), (7, []), (8, []), (10, []), (11, []), (12, [])], [(600000, (600000, [])), (5, (5, [])), (7, (7, []))]⟩ h (by kernel_rfl) (by kernel_rfl)
                · refine TS_know 43 (b := false) hb33 (by kernel_rfl) (by kernel_rfl) ?_
                  refine TS_F (by kernel_rfl) rfl ?_
                  refine TS_go 1 ?_
                  exact TS_meet (s1.1, s1.2.1) ⟨[(3, []), (4, []), (5, []), (7, []), (8, []), (10, []), (11, []), (12, [])], [(600000, (600000, [])), (5, (5, [])), (7, (7, []))]⟩ h (by kernel_rfl) (by kernel_rfl)
            · refine TS_know 38 (b := false) hb14 (by kernel_rfl) (by kernel_rfl) ?_
              refine TS_know 37 (b := false) hb14 (by kernel_rfl) (by kernel_rfl) ?_
              refine TS_F (by kernel_rfl) rfl ?_
              refine TS_go 5 ?_
              replace h := condO h
              rcases h with ⟨hb36, h⟩ | ⟨hb36, h⟩
              · refine TS_know 116 (b := true) hb36 (by kernel_rfl) (by kernel_rfl) ?_
                refine TS_know 115 (b := true) hb36 (by kernel_rfl) (by kernel_rfl) ?_
                refine TS_T (by kernel_rfl) rfl ?_
                refine TS_go 13 ?_
                refine TS_litNT 128 5 1 (ecI .u8) [] ([IntKind.wrap .u8 e6.To.Dst.Bits, IntKind.wrap .u8 e6.To.Src.Bits] : List Int) (by kernel_rfl) (by kernel_rfl) ?_
                replace h := bindO h
                obtain ⟨l37, hl37, h⟩ := h
                refine TS_appNT 129 5 1 (ecI .u8) (fun _ => by kernel_rfl) (l2 := ([IntKind.wrap .u8 e6.To.Dst.Bits, IntKind.wrap .u8 e6.To.Src.Bits] : List Int)) .whole hl37 (by kernel_rfl) (by kernel_rfl) ?_
                refine TS_go 8 ?_
                replace h := bindO h
                obtain ⟨v38, hv38, h⟩ := h
                refine TS_con [] [(134, 900000)] none (okT_ref29_part e6.To.Dst 0 v38 hv38) (by kernel_rfl) (by kernel_rfl) (by kernel_rfl) ?_
                replace h := bindO h
                obtain ⟨l39, hl39, h⟩ := h
                refine TS_appT (d := 129) (e := 5) (sz := 1) (N := List.length l37) (ecI .u8) (fun _ => by kernel_rfl) (l1 := l37) (l2 := v38) (c := .whole) hl39 (by kernel_rfl) (by kernel_rfl) ?_
                refine TS_go 8 ?_
                replace h := bindO h
                obtain ⟨v40, hv40, h⟩ := h
                refine TS_con [] [(141, 900000)] none (okT_ref29_part e6.To.Src 0 v40 hv40) (by kernel_rfl) (by kernel_rfl) (by kernel_rfl) ?_
                replace h := bindO h
                obtain ⟨l41, hl41, h⟩ := h
                refine TS_appT (d := 129) (e := 5) (sz := 1) (N := List.length l39) (ecI .u8) (fun _ => by kernel_rfl) (l1 := l39) (l2 := v40) (c := .whole) hl41 (by kernel_rfl) (by kernel_rfl) ?_
                replace h := bindO h
                obtain ⟨v42, hv42, h⟩ := h
                refine TS_conG 600000 [[], [], [2]] (ok_ref29_element_G0 s1.1 4 l41 v42 hv42) (by kernel_rfl) (by kernel_rfl) (by kernel_rfl) ?_
                refine TS_go 4 ?_
                exact TS_meet (v42, s1.2.1, s1.2.2.2) ⟨[(3, []), (4, []), (5, []), (10, []), (11, []), (12, [])], [(600000, (600000, [])), (5, (5, []))]⟩ h (by kernel_rfl) (by kernel_rfl)
              · refine TS_know 116 (b := false) hb36 (by kernel_rfl) (by kernel_rfl) ?_
                refine TS_know 115 (b := false) hb36 (by kernel_rfl) (by kernel_rfl) ?_
                refine TS_F (by kernel_rfl) rfl ?_
                refine TS_go 5 ?_
                replace h := condO h
                rcases h with ⟨hb43, h⟩ | ⟨hb43, h⟩
                · refine TS_know 145 (b := true) hb43 (by kernel_rfl) (by kernel_rfl) ?_
                  refine TS_know 144 (b := true) hb43 (by kernel_rfl) (by kernel_rfl) ?_
                  refine TS_T (by kernel_rfl) rfl ?_
                  refine TS_go 13 ?_
                  refine TS_litNT 157 5 1 (ecI .u8) [] ([IntKind.wrap .u8 e6.To.Dst.Bits, IntKind.wrap .u8 e6.To.Src.Bits] : List Int) (by kernel_rfl) (by kernel_rfl) ?_
                  replace h := bindO h
                  obtain ⟨l44, hl44, h⟩ := h
                  refine TS_appNT 158 5 1 (ecI .u8) (fun _ => by kernel_rfl) (l2 := ([IntKind.wrap .u8 e6.To.Dst.Bits, IntKind.wrap .u8 e6.To.Src.Bits] : List Int)) .whole hl44 (by kernel_rfl) (by kernel_rfl) ?_
                  refine TS_go 8 ?_
                  replace h := bindO h
                  obtain ⟨v45, hv45, h⟩ := h
                  refine TS_conG 158 [] (ok_ref29_Put_G0 l44 (IntKind.wrap .u64 e6.Seq) 2 v45 hv45) (by kernel_rfl) (by kernel_rfl) (by kernel_rfl) ?_
                  refine TS_go 8 ?_
                  refine TS_litNT 168 5 1 (ecI .u8) [] ([IntKind.wrap .u8 e6.Hops] : List Int) (by kernel_rfl) (by kernel_rfl) ?_
                  replace h := bindO h
                  obtain ⟨l46, hl46, h⟩ := h
                  refine TS_appT (d := 158) (e := 5) (sz := 1) (N := List.length v45) (ecI .u8) (fun _ => by kernel_rfl) (l1 := v45) (l2 := ([IntKind.wrap .u8 e6.Hops] : List Int)) (c := .whole) hl46 (by kernel_rfl) (by kernel_rfl) ?_
                  refine TS_go 8 ?_
                  replace h := bindO h
                  obtain ⟨v47, hv47, h⟩ := h
                  refine TS_conG 158 [] (ok_ref29_Put_G0 l46 e6.To.Router 8 v47 hv47) (by kernel_rfl) (by kernel_rfl) (by kernel_rfl) ?_
                  refine TS_go 8 ?_
                  replace h := bindO h
                  obtain ⟨v48, hv48, h⟩ := h
                  refine TS_con [] [(179, 900000)] none (okT_ref29_part e6.To.Dst 0 v48 hv48) (by kernel_rfl) (by kernel_rfl) (by kernel_rfl) ?_
                  replace h := bindO h
                  obtain ⟨l49, hl49, h⟩ := h
                  refine TS_appT (d := 158) (e := 5) (sz := 1) (N := List.length v47) (ecI .u8) (fun _ => by kernel_rfl) (l1 := v47) (l2 := v48) (c := .whole) hl49 (by kernel_rfl) (by kernel_rfl) ?_
                  refine TS_go 8 ?_
                  replace h := bindO h
                  obtain ⟨v50, hv50, h⟩ := h
                  refine TS_con [] [(186, 900000)] none (okT_ref29_part e6.To.Src 0 v50 hv50) (by kernel_rfl) (by kernel_rfl) (by kernel_rfl) ?_
                  replace h := bindO h
                  obtain ⟨l51, hl51, h⟩ := h
                  refine TS_appT (d := 158) (e := 5) (sz := 1) (N := List.length l49) (ecI .u8) (fun _ => by kernel_rfl) (l1 := l49) (l2 := v50) (c := .whole) hl51 (by kernel_rfl) (by kernel_rfl) ?_
                  replace h := bindO h
                  obtain ⟨v52, hv52, h⟩ := h
                  refine TS_conG 600000 [[], [], [2]] (ok_ref29_element_G0 s1.1 5 l51 v52 hv52) (by kernel_rfl) (by kernel_rfl) (by kernel_rfl) ?_
                  refine TS_go 4 ?_
                  exact TS_meet (v52, s1.2.1, s1.2.2.2) ⟨[(3, []), (4, []), (5, []), (10, []), (11, []), (12, [])], [(600000, (600000, [])), (5, (5, []))]⟩ h (by kernel_rfl) (by kernel_rfl)
                · refine TS_know 145 (b := false) hb43 (by kernel_rfl) (by kernel_rfl) ?_
                  refine TS_know 144 (b := false) hb43 (by kernel_rfl) (by kernel_rfl) ?_
                  refine TS_F (by kernel_rfl) rfl ?_
                  refine TS_go 3 ?_
                  exact TS_meet (s1.1, s1.2.1, s1.2.2.2) ⟨[(3, []), (4, []), (5, []), (10, []), (11, []), (12, [])], [(600000, (600000, [])), (5, (5, []))]⟩ h (by kernel_rfl) (by kernel_rfl)
    · refine TS_know 13 (b := false) hb4 (by kernel_rfl) (by kernel_rfl) ?_
      refine TS_F (by kernel_rfl) rfl ?_
      refine TS_go 2 ?_
      have ret := Option.some.inj h
      subst ret
      exact TS_brkB s1.1 ⟨[(3, [])], [(600000, (600000, []))]⟩ rfl (by kernel_rfl) (by kernel_rfl) (by kernel_rfl)
  · intro b2 hb
    subst y3
    have h := hK1
    refine TS_go 6 ?_
    refine TS_fitU ⟨[(2, [])], [(600000, (900000, []))]⟩ (by kernel_rfl) ?_
    refine TS_go 1 ?_
    have ret := Option.some.inj h
    subst ret
    exact TS_ret (by kernel_rfl) (by kernel_rfl) (by kernel_rfl)
/-- multihop/multihopref29.Encode -/
noncomputable def F_ref29_Encode_l1 (a1 : List S_Notice) (s2 : Int) : Option ((Int) ⊕ ((Unit) ⊕ ((List Int) × Int))) :=
  bif (decide (s2 < (List.length a1 : Int))) then
    (idx a1 s2).bind fun e6 =>
    (F_ref29_Valid e6).bind fun v7 =>
    bif v7 then
      some (Sum.inl (IntKind.wrap .i64 (s2 + 1)))
    else
      some (Sum.inr (Sum.inr (([] : List Int), 1)))
  else
    some (Sum.inr (Sum.inl ()))
noncomputable def F_ref29_Encode (a0 : Int) (a1 : List S_Notice) : Option ((List Int) × Int) :=
  bif (decide ((List.length a1 : Int) > 64)) then
    some ((([] : List Int), 3))
  else
    (loopO (F_ref29_Encode_l1 a1) 0).bind (Sum.elim (fun b3 =>
      bif (decide (a0 < 0)) then
        some ((([] : List Int), 2))
      else
        bif (decide (a0 ≥ 1099511627776)) then
          some ((([] : List Int), 2))
        else
          (F_ref29_Body a1).bind fun v12 =>
          (F_ref29_Put_G0 ([42, 1] : List Int) (IntKind.wrap .u64 a0) 5).bind fun v13 =>
          (F_ref29_Put_G0 v13 (IntKind.wrap .u64 (List.length v12 : Int)) 2).bind fun v14 =>
          (appO 1 v14 (Cut.app .whole v12)).bind fun l15 =>
          some ((l15, 0))
    ) (fun w9 => some w9))
set_option maxRecDepth 100000 in
set_option maxHeartbeats 40000000 in
theorem okT_ref29_Encode (a0 : Int) (a1 : List S_Notice) (r : (List Int) × Int) (h : F_ref29_Encode a0 a1 = some r) : Con Try.prog 26 [.c (.lit (.int .i64 (a0))), .c (eS 40 S_Notice.cs (a1))] [] (.tup [(false, [.slc 1 900002 (List.length r.1) (List.map (ecI .u8) r.1)]), (false, [.lit (.int .i64 (r.2))])]) [(900000, .spare 5 1 (List.length r.1))] := by
  unfold F_ref29_Encode at h
  refine con_of [] [(900000, [])] 43 Try.func26 rfl rfl (by kernel_rfl) (fun K => ?_)
  refine TS_go 12 ?_
  replace h := condO h
  rcases h with ⟨hb1, h⟩ | ⟨hb1, h⟩
  · refine TS_know 12 (b := true) hb1 (by kernel_rfl) (by kernel_rfl) ?_
    refine TS_T (by kernel_rfl) rfl ?_
    refine TS_go 5 ?_
    refine TS_nilT 4 600000 5 1 (by kernel_rfl) ?_
    refine TS_fitU ⟨[(4, []), (5, [])], [(600000, (900000, []))]⟩ (by kernel_rfl) ?_
    refine TS_go 2 ?_
    have ret := Option.some.inj h
    subst ret
    exact TS_ret (by kernel_rfl) (by kernel_rfl) (by kernel_rfl)
  · refine TS_know 12 (b := false) hb1 (by kernel_rfl) (by kernel_rfl) ?_
    refine TS_F (by kernel_rfl) rfl ?_
    refine TS_go 9 ?_
    refine TS_cut ⟨[(0, []), (1, []), (13, []), (14, []), (15, [])], []⟩ (.mk [.code (codeAt [1, 1, 0, 1, 0] (bodyOf Try.f26)), .blk 0, .code (codeAt [1, 1, 1] (bodyOf Try.f26))] .normal ⟨[(0, .c (.lit (.int .i64 (a0)))), (1, .c (.slc 40 0 (List.length a1) (List.map S_Notice.cs a1))), (13, .c (.slc 40 0 (List.length a1) (List.map S_Notice.cs a1))), (14, .c (.lit (.int .i64 ((List.length a1 : Int))))), (15, .c (.lit (.int .i64 (0))))], []⟩) (by kernel_rfl) (by kernel_rfl) ?_
    replace h := bindO h
    obtain ⟨y4, hl1, hK1⟩ := h
    refine TS_loopB (F_ref29_Encode_l1 a1) ⟨[(0, []), (1, []), (13, []), (14, []), (15, [])], []⟩ (fun (s2 : Int) => [(15, .c (.lit (.int .i64 (s2))))]) (fun (s2 : Int) => []) 0 y4 (.exit 0) (fun (b : Unit) => (Sum.inl b : (Unit) ⊕ ((List Int) × Int))) ⟨[(0, []), (1, [])], []⟩ (fun (b3 : Unit) => []) (fun (b3 : Unit) => []) hl1 (by kernel_rfl) (by kernel_rfl) ?_ ?_
    · intro s2 x h hy1
      unfold F_ref29_Encode_l1 at h
      refine TS_go 5 ?_
      replace h := condO h
      rcases h with ⟨hb5, h⟩ | ⟨hb5, h⟩
      · refine TS_know 16 (b := true) hb5 (by kernel_rfl) (by kernel_rfl) ?_
        refine TS_T (by kernel_rfl) rfl ?_
        refine TS_go 5 ?_
        replace h := bindO h
        obtain ⟨e6, he6, h⟩ := h
        refine TS_idx S_Notice.cs he6 (by kernel_rfl) (by kernel_rfl) ?_
        refine TS_go 7 ?_
        replace h := bindO h
        obtain ⟨v7, hv7, h⟩ := h
        refine TS_call [] (ok_ref29_Valid e6 v7 hv7) (by kernel_rfl) (by kernel_rfl) ?_
        refine TS_go 2 ?_
        replace h := condO h
        rcases h with ⟨hb8, h⟩ | ⟨hb8, h⟩
        · subst hb8
          refine TS_F (by kernel_rfl) rfl ?_
          refine TS_go 6 ?_
          have ret := Option.some.inj h
          subst ret
          exact TS_againB _ ⟨[(0, []), (1, []), (13, []), (14, []), (15, [])], []⟩ rfl (by kernel_rfl) (by kernel_rfl)
        · subst hb8
          refine TS_T (by kernel_rfl) rfl ?_
          refine TS_go 5 ?_
          refine TS_nilT 4 600000 5 1 (by kernel_rfl) ?_
          refine TS_fitU ⟨[(4, []), (5, [])], [(600000, (900000, []))]⟩ (by kernel_rfl) ?_
          refine TS_go 3 ?_
          have ret := Option.some.inj h
          subst ret
          have hy1q := hy1 _ rfl
          subst hy1q
          replace h := (elimR hK1)
          refine TS_retB rfl (by kernel_rfl) ?_
          refine TS_go 2 ?_
          have ret := Option.some.inj h
          subst ret
          exact TS_ret (by kernel_rfl) (by kernel_rfl) (by kernel_rfl)
      · refine TS_know 16 (b := false) hb5 (by kernel_rfl) (by kernel_rfl) ?_
        refine TS_F (by kernel_rfl) rfl ?_
        refine TS_go 2 ?_
        have ret := Option.some.inj h
        subst ret
        exact TS_brkB () ⟨[(0, []), (1, [])], []⟩ rfl (by kernel_rfl) (by kernel_rfl) (by kernel_rfl)
    · intro b3 hb
      subst y4
      have h := elimL hK1
      refine TS_go 7 ?_
      replace h := condO h
      rcases h with ⟨hb10, h⟩ | ⟨hb10, h⟩
      · refine TS_know 24 (b := true) hb10 (by kernel_rfl) (by kernel_rfl) ?_
        refine TS_know 25 (b := true) hb10 (by kernel_rfl) (by kernel_rfl) ?_
        refine TS_go 4 ?_
        refine TS_T (by kernel_rfl) rfl ?_
        refine TS_go 5 ?_
        refine TS_nilT 4 600000 5 1 (by kernel_rfl) ?_
        refine TS_fitU ⟨[(4, []), (5, [])], [(600000, (900000, []))]⟩ (by kernel_rfl) ?_
        refine TS_go 2 ?_
        have ret := Option.some.inj h
        subst ret
        exact TS_ret (by kernel_rfl) (by kernel_rfl) (by kernel_rfl)
      · refine TS_know 24 (b := false) hb10 (by kernel_rfl) (by kernel_rfl) ?_
        refine TS_know 25 (b := false) hb10 (by kernel_rfl) (by kernel_rfl) ?_
        refine TS_go 4 ?_
        replace h := condO h
        rcases h with ⟨hb11, h⟩ | ⟨hb11, h⟩
        · refine TS_know 27 (b := true) hb11 (by kernel_rfl) (by kernel_rfl) ?_
          refine TS_know 28 (b := true) hb11 (by kernel_rfl) (by kernel_rfl) ?_
          refine TS_T (by kernel_rfl) rfl ?_
          refine TS_go 5 ?_
          refine TS_nilT 4 600000 5 1 (by kernel_rfl) ?_
          refine TS_fitU ⟨[(4, []), (5, [])], [(600000, (900000, []))]⟩ (by kernel_rfl) ?_
          refine TS_go 2 ?_
          have ret := Option.some.inj h
          subst ret
          exact TS_ret (by kernel_rfl) (by kernel_rfl) (by kernel_rfl)
        · refine TS_know 27 (b := false) hb11 (by kernel_rfl) (by kernel_rfl) ?_
          refine TS_know 28 (b := false) hb11 (by kernel_rfl) (by kernel_rfl) ?_
          refine TS_F (by kernel_rfl) rfl ?_
          refine TS_go 4 ?_
          replace h := bindO h
          obtain ⟨v12, hv12, h⟩ := h
          refine TS_con [] [(30, 900000)] none (okT_ref29_Body a1 v12 hv12) (by kernel_rfl) (by kernel_rfl) (by kernel_rfl) ?_
          refine TS_go 4 ?_
          refine TS_litNT 31 5 1 (ecI .u8) [] ([42, 1] : List Int) (by kernel_rfl) (by kernel_rfl) ?_
          refine TS_go 2 ?_
          replace h := bindO h
          obtain ⟨v13, hv13, h⟩ := h
          refine TS_conG 31 [] (ok_ref29_Put_G0 ([42, 1] : List Int) (IntKind.wrap .u64 a0) 5 v13 hv13) (by kernel_rfl) (by kernel_rfl) (by kernel_rfl) ?_
          refine TS_go 8 ?_
          replace h := bindO h
          obtain ⟨v14, hv14, h⟩ := h
          refine TS_conG 31 [] (ok_ref29_Put_G0 v13 (IntKind.wrap .u64 (List.length v12 : Int)) 2 v14 hv14) (by kernel_rfl) (by kernel_rfl) (by kernel_rfl) ?_
          refine TS_go 6 ?_
          replace h := bindO h
          obtain ⟨_l15, hl15, h⟩ := h
          refine TS_appT (d := 31) (e := 5) (sz := 1) (N := List.length v14) (ecI .u8) (fun _ => by kernel_rfl) (l1 := v14) (l2 := v12) (c := .whole) hl15 (by kernel_rfl) (by kernel_rfl) ?_
          refine TS_go 3 ?_
          refine TS_fitU ⟨[(4, []), (5, [])], [(31, (900000, []))]⟩ (by kernel_rfl) ?_
          refine TS_go 1 ?_
          have ret := Option.some.inj h
          subst ret
          exact TS_ret (by kernel_rfl) (by kernel_rfl) (by kernel_rfl)
/-- multihop/multihopmade.Mod -/
noncomputable def F_made_Mod_j1  (v2 : Int) : Option (Int) :=
  some (v2)
noncomputable def F_made_Mod (a0 : Int) (a1 : Int) : Option (Int) :=
  bif decide (a1 ≠ 0) then
    bif (decide ((Int.tmod a0 a1) < 0)) then
      (F_made_Mod_j1) (IntKind.wrap .i64 ((Int.tmod a0 a1) + a1))
    else
      (F_made_Mod_j1) (Int.tmod a0 a1)
  else none
set_option maxRecDepth 100000 in
set_option maxHeartbeats 40000000 in
theorem ok_made_Mod (a0 : Int) (a1 : Int) (r : Int) (h : F_made_Mod a0 a1 = some r) : Con Try.prog 19 [.c (.lit (.int .i64 (a0))), .c (.lit (.int .i64 (a1)))] [] (.c (.lit (.int .i64 (r)))) [] := by
  unfold F_made_Mod at h
  refine con_of [] [] 14 Try.func19 rfl rfl (by kernel_rfl) (fun K => ?_)
  refine TS_go 8 ?_
  replace h := chkO h
  obtain ⟨hc1, h⟩ := h
  refine TS_num (op := .rem) (k := .i64) (k' := .i64) (m := a0) (i := a1) (of_decide_eq_true hc1) rfl (by simp) (by kernel_rfl) (by kernel_rfl) ?_
  refine TS_go 2 ?_
  refine TS_cut ⟨[(0, []), (1, [])], []⟩ (.mk [.code (codeAt [1, 1] (bodyOf Try.f19))] .normal ⟨[(0, .c (.lit (.int .i64 (Int.tmod a0 a1)))), (1, .c (.lit (.int .i64 (a1))))], []⟩) (by kernel_rfl) (by kernel_rfl) ?_
  refine TS_joinB ⟨[(0, [])], []⟩ (fun (v2 : Int) => [(0, .c (.lit (.int .i64 (v2))))]) (fun (v2 : Int) => []) (F_made_Mod_j1) r ?_ ?_
  · clear h
    intro v2 h
    unfold F_made_Mod_j1 at h
    refine TS_go 6 ?_
    have ret := Option.some.inj h
    subst ret
    exact TS_ret (by kernel_rfl) (by kernel_rfl) (by kernel_rfl)
  · refine TS_go 5 ?_
    replace h := condO h
    rcases h with ⟨hb3, h⟩ | ⟨hb3, h⟩
    · refine TS_know 9 (b := true) hb3 (by kernel_rfl) (by kernel_rfl) ?_
      refine TS_T (by kernel_rfl) rfl ?_
      refine TS_go 6 ?_
      exact TS_meet (IntKind.wrap .i64 ((Int.tmod a0 a1) + a1)) ⟨[(0, [])], []⟩ h (by kernel_rfl) (by kernel_rfl)
    · refine TS_know 9 (b := false) hb3 (by kernel_rfl) (by kernel_rfl) ?_
      refine TS_F (by kernel_rfl) rfl ?_
      refine TS_go 1 ?_
      exact TS_meet (Int.tmod a0 a1) ⟨[(0, [])], []⟩ h (by kernel_rfl) (by kernel_rfl)

/-- slices.Equal[[]multihop/api.Noticemultihop/api.Notice] -/
noncomputable def F_slices_Equal_api_Notice_api_Notice_l1 (a0 : List S_Notice) (a1 : List S_Notice) (s2 : Int) : Option ((Int) ⊕ ((Unit) ⊕ (Bool))) :=
  bif (decide (s2 < (List.length a0 : Int))) then
    (idx a0 s2).bind fun e6 =>
    (idx a1 s2).bind fun e7 =>
    bif (S_Notice.eqb e6 e7) then
      some (Sum.inl (IntKind.wrap .i64 (s2 + 1)))
    else
      some (Sum.inr (Sum.inr false))
  else
    some (Sum.inr (Sum.inl ()))
noncomputable def F_slices_Equal_api_Notice_api_Notice (a0 : List S_Notice) (a1 : List S_Notice) : Option (Bool) :=
  bif ((List.length a0 : Int) != (List.length a1 : Int)) then
    some (false)
  else
    (loopO (F_slices_Equal_api_Notice_api_Notice_l1 a0 a1) 0).bind (Sum.elim (fun b3 =>
      some (true)
    ) (fun w9 => some w9))
set_option maxRecDepth 100000 in
set_option maxHeartbeats 40000000 in
theorem ok_slices_Equal_api_Notice_api_Notice (a0 : List S_Notice) (a1 : List S_Notice) (r : Bool) (h : F_slices_Equal_api_Notice_api_Notice a0 a1 = some r) : Con Try.prog 24 [.c (eS 40 S_Notice.cs (a0)), .c (eS 40 S_Notice.cs (a1))] [] (.c (.lit (.bool (r)))) [] := by
  unfold F_slices_Equal_api_Notice_api_Notice at h
  refine con_of [] [] 26 Try.func24 rfl rfl (by kernel_rfl) (fun K => ?_)
  refine TS_go 13 ?_
  replace h := condO h
  rcases h with ⟨hb1, h⟩ | ⟨hb1, h⟩
  · refine TS_know 10 (b := true) hb1 (by kernel_rfl) (by kernel_rfl) ?_
    refine TS_T (by kernel_rfl) rfl ?_
    refine TS_go 6 ?_
    have ret := Option.some.inj h
    subst ret
    exact TS_ret (by kernel_rfl) (by kernel_rfl) (by kernel_rfl)
  · refine TS_know 10 (b := false) hb1 (by kernel_rfl) (by kernel_rfl) ?_
    refine TS_F (by kernel_rfl) rfl ?_
    refine TS_go 9 ?_
    refine TS_cut ⟨[(0, []), (1, []), (12, []), (13, [])], []⟩ (.mk [.code (codeAt [1, 1, 0, 1, 0] (bodyOf Try.f24)), .blk 0, .code (codeAt [1, 1, 1] (bodyOf Try.f24))] .normal ⟨[(0, .c (.slc 40 0 (List.length a0) (List.map S_Notice.cs a0))), (1, .c (.slc 40 0 (List.length a1) (List.map S_Notice.cs a1))), (12, .c (.lit (.int .i64 ((List.length a0 : Int))))), (13, .c (.lit (.int .i64 (0))))], []⟩) (by kernel_rfl) (by kernel_rfl) ?_
    replace h := bindO h
    obtain ⟨y4, hl1, hK1⟩ := h
    refine TS_loopB (F_slices_Equal_api_Notice_api_Notice_l1 a0 a1) ⟨[(0, []), (1, []), (12, []), (13, [])], []⟩ (fun (s2 : Int) => [(13, .c (.lit (.int .i64 (s2))))]) (fun (s2 : Int) => []) 0 y4 (.exit 0) (fun (b : Unit) => (Sum.inl b : (Unit) ⊕ (Bool))) ⟨[], []⟩ (fun (b3 : Unit) => []) (fun (b3 : Unit) => []) hl1 (by kernel_rfl) (by kernel_rfl) ?_ ?_
    · intro s2 x h hy1
      unfold F_slices_Equal_api_Notice_api_Notice_l1 at h
      refine TS_go 5 ?_
      replace h := condO h
      rcases h with ⟨hb5, h⟩ | ⟨hb5, h⟩
      · refine TS_know 14 (b := true) hb5 (by kernel_rfl) (by kernel_rfl) ?_
        refine TS_T (by kernel_rfl) rfl ?_
        refine TS_go 9 ?_
        refine TS_draw (by kernel_rfl) ?_
        refine TD_go 2 ?_
        replace h := bindO h
        obtain ⟨_e6, he6, h⟩ := h
        refine TD_idx S_Notice.cs he6 (by kernel_rfl) (by kernel_rfl) ?_
        refine TD_go 3 ?_
        replace h := bindO h
        obtain ⟨_e7, he7, h⟩ := h
        refine TD_idx S_Notice.cs he7 (by kernel_rfl) (by kernel_rfl) ?_
        refine TD_go 2 ?_
        refine TD_end (by kernel_rfl) ?_
        replace h := condO h
        rcases h with ⟨hb8, h⟩ | ⟨hb8, h⟩
        · refine TS_know 24 (b := false) (notF hb8) (by kernel_rfl) (by kernel_rfl) ?_
          refine TS_F (by kernel_rfl) rfl ?_
          refine TS_go 6 ?_
          have ret := Option.some.inj h
          subst ret
          exact TS_againB _ ⟨[(0, []), (1, []), (12, []), (13, [])], []⟩ rfl (by kernel_rfl) (by kernel_rfl)
        · refine TS_know 24 (b := true) (notT hb8) (by kernel_rfl) (by kernel_rfl) ?_
          refine TS_T (by kernel_rfl) rfl ?_
          refine TS_go 7 ?_
          have ret := Option.some.inj h
          subst ret
          have hy1q := hy1 _ rfl
          subst hy1q
          replace h := (elimR hK1)
          refine TS_retB rfl (by kernel_rfl) ?_
          refine TS_go 2 ?_
          have ret := Option.some.inj h
          subst ret
          exact TS_ret (by kernel_rfl) (by kernel_rfl) (by kernel_rfl)
      · refine TS_know 14 (b := false) hb5 (by kernel_rfl) (by kernel_rfl) ?_
        refine TS_F (by kernel_rfl) rfl ?_
        refine TS_go 2 ?_
        have ret := Option.some.inj h
        subst ret
        exact TS_brkB () ⟨[], []⟩ rfl (by kernel_rfl) (by kernel_rfl) (by kernel_rfl)
    · intro b3 hb
      subst y4
      have h := elimL hK1
      refine TS_go 6 ?_
      have ret := Option.some.inj h
      subst ret
      exact TS_ret (by kernel_rfl) (by kernel_rfl) (by kernel_rfl)

/-- slices.Concat[[]bytebyte] -/
noncomputable def F_slices_Concat_byte_byte_l1 (a0 : List (List Int)) (s1 : Int × Int) : Option ((Int × Int) ⊕ (Int)) :=
  bif (decide (s1.2 < (List.length a0 : Int))) then
    (idx a0 s1.2).bind fun e5 =>
    bif (decide ((IntKind.wrap .i64 (s1.1 + (List.length e5 : Int))) < 0)) then
      none
    else
      some (Sum.inl (IntKind.wrap .i64 (s1.1 + (List.length e5 : Int)), IntKind.wrap .i64 (s1.2 + 1)))
  else
    some (Sum.inr s1.1)
noncomputable def F_slices_Concat_byte_byte_l3 (a0 : List (List Int)) (s10 : Int × (List Int)) : Option ((Int × (List Int)) ⊕ ((List Int))) :=
  bif (decide (s10.1 < (List.length a0 : Int))) then
    (idx a0 s10.1).bind fun e14 =>
    (appO 1 (List.take (List.length s10.2) s10.2) (Cut.app .whole e14)).bind fun l15 =>
    some (Sum.inl (IntKind.wrap .i64 (s10.1 + 1), l15))
  else
    some (Sum.inr s10.2)
noncomputable def F_slices_Concat_byte_byte_j2 (a0 : List (List Int)) (v9 : (List Int)) : Option ((List Int)) :=
  (loopO (F_slices_Concat_byte_byte_l3 a0) (0, v9)).bind fun b11 =>
  some (b11)
noncomputable def F_slices_Concat_byte_byte (a0 : List (List Int)) : Option ((List Int)) :=
  (loopO (F_slices_Concat_byte_byte_l1 a0) (0, 0)).bind fun b2 =>
  bif (decide (b2 < 0)) then
    none
  else
    bif (decide ((IntKind.wrap .i64 (b2 - (IntKind.wrap .i64 (0 - 0)))) > 0)) then
      (appZO 1 ([] : List Int) (0 : Int) (IntKind.wrap .i64 (b2 - (IntKind.wrap .i64 (0 - 0))))).bind fun l18 =>
      bif decide ((0 : Int) ≤ 0 ∧ 0 ≤ 0 ∧ 0 ≤ (List.length l18 : Int)) then
        (F_slices_Concat_byte_byte_j2 a0) (List.take (Int.toNat 0) l18)
      else none
    else
      (F_slices_Concat_byte_byte_j2 a0) ([] : List Int)
set_option maxRecDepth 100000 in
set_option maxHeartbeats 40000000 in
theorem okT_slices_Concat_byte_byte (a0 : List (List Int)) (r : (List Int)) (h : F_slices_Concat_byte_byte a0 = some r) : Con Try.prog 27 [.c (eS 1 (ecS 1 (ecI .u8)) (a0))] [] (.c (.slc 1 900002 (List.length r) (List.map (ecI .u8) r))) [(900000, .spare 5 1 (List.length r))] := by
  unfold F_slices_Concat_byte_byte at h
  refine con_of [] [(900000, [])] 36 Try.func27 rfl rfl (by kernel_rfl) (fun K => ?_)
  refine TS_go 16 ?_
  refine TS_cut ⟨[(0, []), (3, []), (9, []), (10, []), (11, [])], []⟩ (.mk [.code (codeAt [1, 1, 0, 1, 0] (bodyOf Try.f27)), .blk 0, .code (codeAt [1, 1, 1] (bodyOf Try.f27))] .normal ⟨[(0, .c (.slc 1 0 (List.length a0) (List.map (ecS 1 (ecI .u8)) a0))), (3, .c (.lit (.int .i64 (0)))), (9, .c (.slc 1 0 (List.length a0) (List.map (ecS 1 (ecI .u8)) a0))), (10, .c (.lit (.int .i64 ((List.length a0 : Int))))), (11, .c (.lit (.int .i64 (0))))], []⟩) (by kernel_rfl) (by kernel_rfl) ?_
  replace h := bindO h
  obtain ⟨y3, hl1, hK1⟩ := h
  refine TS_loopB (F_slices_Concat_byte_byte_l1 a0) ⟨[(0, []), (3, []), (9, []), (10, []), (11, [])], []⟩ (fun (s1 : Int × Int) => [(0, .c (.slc 1 0 (List.length a0) (List.map (ecS 1 (ecI .u8)) a0))), (3, .c (.lit (.int .i64 (s1.1)))), (9, .c (.slc 1 0 (List.length a0) (List.map (ecS 1 (ecI .u8)) a0))), (10, .c (.lit (.int .i64 ((List.length a0 : Int))))), (11, .c (.lit (.int .i64 (s1.2))))]) (fun (s1 : Int × Int) => []) (0, 0) y3 (.exit 0) (fun (b : Int) => b) ⟨[(0, []), (3, [])], []⟩ (fun (b2 : Int) => [(0, .c (.slc 1 0 (List.length a0) (List.map (ecS 1 (ecI .u8)) a0))), (3, .c (.lit (.int .i64 (b2))))]) (fun (b2 : Int) => []) hl1 (by kernel_rfl) (by kernel_rfl) ?_ ?_
  · intro s1 x h hy1
    unfold F_slices_Concat_byte_byte_l1 at h
    refine TS_go 5 ?_
    replace h := condO h
    rcases h with ⟨hb4, h⟩ | ⟨hb4, h⟩
    · refine TS_know 12 (b := true) hb4 (by kernel_rfl) (by kernel_rfl) ?_
      refine TS_T (by kernel_rfl) rfl ?_
      refine TS_go 5 ?_
      replace h := bindO h
      obtain ⟨_e5, he5, h⟩ := h
      refine TS_idx (ecS 1 (ecI .u8)) he5 (by kernel_rfl) (by kernel_rfl) ?_
      refine TS_go 16 ?_
      replace h := condO h
      rcases h with ⟨hb6, h⟩ | ⟨hb6, h⟩
      · refine TS_know 20 (b := true) hb6 (by kernel_rfl) (by kernel_rfl) ?_
        refine TS_T (by kernel_rfl) rfl ?_
        refine TS_go 1 ?_
        cases h
      · refine TS_know 20 (b := false) hb6 (by kernel_rfl) (by kernel_rfl) ?_
        refine TS_F (by kernel_rfl) rfl ?_
        refine TS_go 6 ?_
        have ret := Option.some.inj h
        subst ret
        exact TS_againB _ ⟨[(0, []), (3, []), (9, []), (10, []), (11, [])], []⟩ rfl (by kernel_rfl) (by kernel_rfl)
    · refine TS_know 12 (b := false) hb4 (by kernel_rfl) (by kernel_rfl) ?_
      refine TS_F (by kernel_rfl) rfl ?_
      refine TS_go 2 ?_
      have ret := Option.some.inj h
      subst ret
      exact TS_brkB s1.1 ⟨[(0, []), (3, [])], []⟩ rfl (by kernel_rfl) (by kernel_rfl) (by kernel_rfl)
  · intro b2 hb
    subst y3
    have h := hK1
    refine TS_go 4 ?_
    refine TS_cut ⟨[(0, []), (23, [])], []⟩ (.mk [opsFr (codeAt [1, 1, 1, 0] (bodyOf Try.f27)) 1, .code (codeAt [1, 1, 1, 1] (bodyOf Try.f27))] .normal ⟨[(0, .c (.slc 1 0 (List.length a0) (List.map (ecS 1 (ecI .u8)) a0))), (23, .c (.lit (.int .i64 (b2))))], []⟩) (by kernel_rfl) (by kernel_rfl) ?_
    refine TS_inl 27 Try.func52 rfl rfl (by kernel_rfl) (fun K20 => ?_)
    refine TS_go 10 ?_
    replace h := condO h
    rcases h with ⟨hb8, h⟩ | ⟨hb8, h⟩
    · refine TS_know 6 (b := true) hb8 (by kernel_rfl) (by kernel_rfl) ?_
      refine TS_T (by kernel_rfl) rfl ?_
      refine TS_go 1 ?_
      cases h
    · refine TS_know 6 (b := false) hb8 (by kernel_rfl) (by kernel_rfl) ?_
      refine TS_F (by kernel_rfl) rfl ?_
      refine TS_go 1 ?_
      refine TS_cut ⟨[(0, []), (1, []), (2000000, [])], []⟩ (.mk [.code (codeAt [1, 1] (bodyOf Try.f52))] .normal ⟨[(0, .c (.lit (.slice none 0 0))), (1, .c (.lit (.int .i64 (b2)))), (2000000, .c (.slc 1 0 (List.length a0) (List.map (ecS 1 (ecI .u8)) a0)))], []⟩) (by kernel_rfl) (by kernel_rfl) ?_
      refine TS_joinB ⟨[(0, []), (2000000, [])], []⟩ (fun (v9 : (List Int)) => [(0, .c (.own 22)), (2000000, .c (.slc 1 0 (List.length a0) (List.map (ecS 1 (ecI .u8)) a0)))]) (fun (v9 : (List Int)) => [(22, .row 5 1 (List.length v9) (List.map (ecI .u8) v9))]) (F_slices_Concat_byte_byte_j2 a0) r ?_ ?_
      · clear h
        intro v9 h
        unfold F_slices_Concat_byte_byte_j2 at h
        refine TS_go 6 ?_
        refine TS_inlR (by kernel_rfl) (by kernel_rfl) ?_
        refine TS_go 10 ?_
        refine TS_cut ⟨[(6, []), (25, []), (26, []), (27, [])], [(22, (22, []))]⟩ (.mk [.code (codeAt [1, 1, 1, 1, 0, 1, 0] (bodyOf Try.f27)), .blk 2, .code (codeAt [1, 1, 1, 1, 1] (bodyOf Try.f27))] .normal ⟨[(6, .c (.own 22)), (25, .c (.slc 1 0 (List.length a0) (List.map (ecS 1 (ecI .u8)) a0))), (26, .c (.lit (.int .i64 ((List.length a0 : Int))))), (27, .c (.lit (.int .i64 (0))))], [(22, .row 5 1 (List.length v9) (List.map (ecI .u8) v9))]⟩) (by kernel_rfl) (by kernel_rfl) ?_
        replace h := bindO h
        obtain ⟨y12, hl3, hK3⟩ := h
        refine TS_loopB (F_slices_Concat_byte_byte_l3 a0) ⟨[(6, []), (25, []), (26, []), (27, [])], [(22, (22, []))]⟩ (fun (s10 : Int × (List Int)) => [(6, .c (.own 22)), (25, .c (.slc 1 0 (List.length a0) (List.map (ecS 1 (ecI .u8)) a0))), (26, .c (.lit (.int .i64 ((List.length a0 : Int))))), (27, .c (.lit (.int .i64 (s10.1))))]) (fun (s10 : Int × (List Int)) => [(22, .row 5 1 (List.length s10.2) (List.map (ecI .u8) s10.2))]) (0, v9) y12 (.exit 2) (fun (b : (List Int)) => b) ⟨[(6, [])], [(22, (22, []))]⟩ (fun (b11 : (List Int)) => [(6, .c (.own 22))]) (fun (b11 : (List Int)) => [(22, .row 5 1 (List.length b11) (List.map (ecI .u8) b11))]) hl3 (by kernel_rfl) (by kernel_rfl) ?_ ?_
        · intro s10 x h hy3
          unfold F_slices_Concat_byte_byte_l3 at h
          refine TS_go 5 ?_
          replace h := condO h
          rcases h with ⟨hb13, h⟩ | ⟨hb13, h⟩
          · refine TS_know 28 (b := true) hb13 (by kernel_rfl) (by kernel_rfl) ?_
            refine TS_T (by kernel_rfl) rfl ?_
            refine TS_go 5 ?_
            replace h := bindO h
            obtain ⟨e14, he14, h⟩ := h
            refine TS_idx (ecS 1 (ecI .u8)) he14 (by kernel_rfl) (by kernel_rfl) ?_
            refine TS_go 6 ?_
            replace h := bindO h
            obtain ⟨_l15, hl15, h⟩ := h
            refine TS_appR (d := 22) (e := 5) (sz := 1) (N := List.length s10.2) (m := (List.length s10.2)) (ecI .u8) (fun _ => by kernel_rfl) (l1 := s10.2) (l2 := e14) (c := .whole) hl15 (by kernel_rfl) (by kernel_rfl) ?_
            refine TS_go 7 ?_
            have ret := Option.some.inj h
            subst ret
            exact TS_againB _ ⟨[(6, []), (25, []), (26, []), (27, [])], [(22, (22, []))]⟩ rfl (by kernel_rfl) (by kernel_rfl)
          · refine TS_know 28 (b := false) hb13 (by kernel_rfl) (by kernel_rfl) ?_
            refine TS_F (by kernel_rfl) rfl ?_
            refine TS_go 2 ?_
            have ret := Option.some.inj h
            subst ret
            exact TS_brkB s10.2 ⟨[(6, [])], [(22, (22, []))]⟩ rfl (by kernel_rfl) (by kernel_rfl) (by kernel_rfl)
        · intro b11 hb
          subst y12
          have h := hK3
          refine TS_go 6 ?_
          refine TS_settle 22 (by kernel_rfl) ?_
          refine TS_fitU ⟨[(2, [])], [(22, (900000, []))]⟩ (by kernel_rfl) ?_
          refine TS_go 1 ?_
          have ret := Option.some.inj h
          subst ret
          exact TS_ret (by kernel_rfl) (by kernel_rfl) (by kernel_rfl)
      · refine TS_go 4 ?_
        refine TS_capN (by kernel_rfl) (by kernel_rfl) (by kernel_rfl) ?_
        refine TS_go 11 ?_
        replace h := condO h
        rcases h with ⟨hb17, h⟩ | ⟨hb17, h⟩
        · refine TS_know 16 (b := true) hb17 (by kernel_rfl) (by kernel_rfl) ?_
          refine TS_T (by kernel_rfl) rfl ?_
          refine TS_go 3 ?_
          refine TS_capN (by kernel_rfl) (by kernel_rfl) (by kernel_rfl) ?_
          refine TS_slN (by kernel_rfl) (by kernel_rfl) (by kernel_rfl) ?_
          refine TS_go 1 ?_
          replace h := bindO h
          obtain ⟨l18, hl18, h⟩ := h
          refine TS_appNZR 22 5 1 (ecI .u8) (0 : Int) [] (cs := [.lit (.int .u8 (0))]) (m := IntKind.wrap .i64 (b2 - (IntKind.wrap .i64 (0 - 0)))) hl18 (by kernel_rfl) (by kernel_rfl) (by kernel_rfl) ?_
          refine TS_go 2 ?_
          replace h := chkO h
          obtain ⟨hc19, h⟩ := h
          refine TS_slRow 22 1 (List.length l18) (a := 0) (b := 0) hc19 rfl (by kernel_rfl) (by kernel_rfl) ?_
          refine TS_go 1 ?_
          refine TS_trunc 0 (d := 22) (m := (Int.toNat 0)) (e := 5) (sz := 1) (N := List.length l18) (xs := List.map (ecI .u8) l18) (List.length (List.take (Int.toNat 0) l18)) (List.map (ecI .u8) (List.take (Int.toNat 0) l18)) List.map_take.symm (List.length_map _) (by kernel_rfl) (by kernel_rfl) ?_
          refine TS_go 1 ?_
          exact TS_meet (List.take (Int.toNat 0) l18) ⟨[(0, []), (2000000, [])], [(22, (22, []))]⟩ h (by kernel_rfl) (by kernel_rfl)
        · refine TS_know 16 (b := false) hb17 (by kernel_rfl) (by kernel_rfl) ?_
          refine TS_F (by kernel_rfl) rfl ?_
          refine TS_nilR 0 600000 5 1 (by kernel_rfl) ?_
          refine TS_go 1 ?_
          exact TS_meet ([] : List Int) ⟨[(0, []), (2000000, [])], [(600000, (22, []))]⟩ h (by kernel_rfl) (by kernel_rfl)
end
section
open Go.RowKit
attribute [local irreducible] TS go TD goD

/-- slices.Clone[[]bytebyte] -/
noncomputable def F_slices_Clone_byte_byte_R (a0 : List Int) : Option ((List Int)) :=
  (appO 1 (List.take (List.length ([] : List Int)) ([] : List Int)) (Cut.app .whole a0)).bind fun l1 =>
  some (l1)
set_option maxRecDepth 100000 in
set_option maxHeartbeats 40000000 in
theorem okT_slices_Clone_byte_byte_R (a0 : List Int) (r : (List Int)) (h : F_slices_Clone_byte_byte_R a0 = some r) : Con Try.prog 23 [.c (eS 1 (ecI .u8) (a0))] [] (.c (.own 900000)) [(900000, .row 5 1 (List.length r) (List.map (ecI .u8) r))] := by
  unfold F_slices_Clone_byte_byte_R at h
  refine con_of [] [(900000, [])] 8 Try.func23 rfl rfl (by kernel_rfl) (fun K => ?_)
  refine TS_go 8 ?_
  refine TS_eqN (xs := List.map (ecI .u8) a0) (by kernel_rfl) (by kernel_rfl) ?_ ?_
  · intro hx
    have hx := List.map_eq_nil_iff.1 hx
    subst hx
    replace h : (some (([] : List Int))) = some r := by simpa [appO, Cut.app] using h
    refine TS_go 1 ?_
    refine TS_T (by kernel_rfl) rfl ?_
    refine TS_go 4 ?_
    refine TS_nilR 2 600000 5 1 (by kernel_rfl) ?_
    refine TS_fitU ⟨[(2, [])], [(600000, (900000, []))]⟩ (by kernel_rfl) ?_
    refine TS_go 2 ?_
    have ret := Option.some.inj h
    subst ret
    exact TS_ret (by kernel_rfl) (by kernel_rfl) (by kernel_rfl)
  · refine TS_go 1 ?_
    refine TS_F (by kernel_rfl) rfl ?_
    refine TS_go 3 ?_
    refine TS_litNR 5 5 1 (ecI .u8) [] ([] : List Int) (by kernel_rfl) (by kernel_rfl) ?_
    refine TS_go 1 ?_
    replace h := bindO h
    obtain ⟨l1, hl1, h⟩ := h
    refine TS_appR (d := 5) (e := 5) (sz := 1) (N := List.length ([] : List Int)) (m := (List.length ([] : List Int))) (ecI .u8) (fun _ => by kernel_rfl) (l1 := ([] : List Int)) (l2 := a0) (c := .whole) hl1 (by kernel_rfl) (by kernel_rfl) ?_
    refine TS_go 2 ?_
    refine TS_fitU ⟨[(2, [])], [(5, (900000, []))]⟩ (by kernel_rfl) ?_
    refine TS_go 1 ?_
    have ret := Option.some.inj h
    subst ret
    exact TS_ret (by kernel_rfl) (by kernel_rfl) (by kernel_rfl)

/-- multihop/multihopref29.Get -/
noncomputable def F_ref29_Get_l1 (a2 : Int) (a0 : List Int) (a1 : Int) (s1 : Int × Int) : Option ((Int × Int) ⊕ (Int)) :=
  bif (decide (s1.2 < a2)) then
    (idx a0 (IntKind.wrap .i64 (a1 + s1.2))).bind fun e5 =>
    some (Sum.inl (ior .u64 (ishl .u64 s1.1 8) (IntKind.wrap .u64 e5), IntKind.wrap .i64 (s1.2 + 1)))
  else
    some (Sum.inr s1.1)
noncomputable def F_ref29_Get (a0 : List Int) (a1 : Int) (a2 : Int) : Option (Int) :=
  (loopO (F_ref29_Get_l1 a2 a0 a1) (0, 0)).bind fun b2 =>
  some (b2)
set_option maxRecDepth 100000 in
set_option maxHeartbeats 40000000 in
theorem ok_ref29_Get (a0 : List Int) (a1 : Int) (a2 : Int) (r : Int) (h : F_ref29_Get a0 a1 a2 = some r) : Con Try.prog 68 [.c (eS 1 (ecI .u8) (a0)), .c (.lit (.int .i64 (a1))), .c (.lit (.int .i64 (a2)))] [] (.c (.lit (.int .u64 (r)))) [] := by
  unfold F_ref29_Get at h
  refine con_of [] [] 25 Try.func68 rfl rfl (by kernel_rfl) (fun K => ?_)
  refine TS_go 14 ?_
  refine TS_cut ⟨[(0, []), (1, []), (2, []), (7, []), (8, [])], []⟩ (.mk [.code (codeAt [1, 1, 0, 1, 0] (bodyOf Try.f68)), .blk 0, .code (codeAt [1, 1, 1] (bodyOf Try.f68))] .normal ⟨[(0, .c (.slc 1 0 (List.length a0) (List.map (ecI .u8) a0))), (1, .c (.lit (.int .i64 (a1)))), (2, .c (.lit (.int .i64 (a2)))), (7, .c (.lit (.int .u64 (0)))), (8, .c (.lit (.int .i64 (0))))], []⟩) (by kernel_rfl) (by kernel_rfl) ?_
  replace h := bindO h
  obtain ⟨y3, hl1, hK1⟩ := h
  refine TS_loopB (F_ref29_Get_l1 a2 a0 a1) ⟨[(0, []), (1, []), (2, []), (7, []), (8, [])], []⟩ (fun (s1 : Int × Int) => [(7, .c (.lit (.int .u64 (s1.1)))), (8, .c (.lit (.int .i64 (s1.2))))]) (fun (s1 : Int × Int) => []) (0, 0) y3 (.exit 0) (fun (b : Int) => b) ⟨[(7, [])], []⟩ (fun (b2 : Int) => [(7, .c (.lit (.int .u64 (b2))))]) (fun (b2 : Int) => []) hl1 (by kernel_rfl) (by kernel_rfl) ?_ ?_
  · intro s1 x h hy1
    unfold F_ref29_Get_l1 at h
    refine TS_go 7 ?_
    replace h := condO h
    rcases h with ⟨hb4, h⟩ | ⟨hb4, h⟩
    · refine TS_know 11 (b := true) hb4 (by kernel_rfl) (by kernel_rfl) ?_
      refine TS_T (by kernel_rfl) rfl ?_
      refine TS_go 10 ?_
      replace h := bindO h
      obtain ⟨_e5, he5, h⟩ := h
      refine TS_idx (ecI .u8) he5 (by kernel_rfl) (by kernel_rfl) ?_
      refine TS_go 11 ?_
      have ret := Option.some.inj h
      subst ret
      exact TS_againB _ ⟨[(0, []), (1, []), (2, []), (7, []), (8, [])], []⟩ rfl (by kernel_rfl) (by kernel_rfl)
    · refine TS_know 11 (b := false) hb4 (by kernel_rfl) (by kernel_rfl) ?_
      refine TS_F (by kernel_rfl) rfl ?_
      refine TS_go 2 ?_
      have ret := Option.some.inj h
      subst ret
      exact TS_brkB s1.1 ⟨[(7, [])], []⟩ rfl (by kernel_rfl) (by kernel_rfl) (by kernel_rfl)
  · intro b2 hb
    subst y3
    have h := hK1
    refine TS_go 7 ?_
    have ret := Option.some.inj h
    subst ret
    exact TS_ret (by kernel_rfl) (by kernel_rfl) (by kernel_rfl)

/-- multihop/multihopref29.prefix -/
noncomputable def F_ref29_prefix_j2 (s5 : Int × S_Prefix) (v9 : S_Prefix) : Option ((Int × S_Prefix) ⊕ (S_Prefix)) :=
  some (Sum.inl (IntKind.wrap .i64 (s5.1 + 1), v9))
noncomputable def F_ref29_prefix_l1 (v1 : Int) (a2 : Int) (a3 : List Int) (a0 : List Int) (s5 : Int × S_Prefix) : Option ((Int × S_Prefix) ⊕ (S_Prefix)) :=
  bif (decide (s5.1 < v1)) then
    bif (decide (s5.1 < a2)) then
      bif decide ((0 : Int) ≤ s5.1 ∧ s5.1 < (16 : Int)) then
        bif decide ((0 : Int) ≤ s5.1 ∧ s5.1 < (16 : Int)) then
          (F_ref29_prefix_j2 s5) (S_Prefix.mk (setA 16 s5.2.IP (Int.toNat s5.1) (List.getD a3 (Int.toNat s5.1) 0)) s5.2.Bits)
        else none
      else none
    else
      (idx a0 (IntKind.wrap .i64 (s5.1 - a2))).bind fun e13 =>
      bif decide ((0 : Int) ≤ s5.1 ∧ s5.1 < (16 : Int)) then
        (F_ref29_prefix_j2 s5) (S_Prefix.mk (setA 16 s5.2.IP (Int.toNat s5.1) e13) s5.2.Bits)
      else none
  else
    some (Sum.inr s5.2)
noncomputable def F_ref29_prefix (a0 : List Int) (a1 : Int) (a2 : Int) (a3 : List Int) : Option (S_Prefix × Int × Bool) :=
  (F_ref29_size a1).bind fun v1 =>
  bif (decide (a1 > 128)) then
    some (((S_Prefix.mk [0, 0, 0, 0, 0, 0, 0, 0, 0, 0, 0, 0, 0, 0, 0, 0] 0), 0, false))
  else
    bif (decide (a2 > v1)) then
      some (((S_Prefix.mk [0, 0, 0, 0, 0, 0, 0, 0, 0, 0, 0, 0, 0, 0, 0, 0] 0), 0, false))
    else
      bif (decide ((List.length a0 : Int) < (IntKind.wrap .i64 (v1 - a2)))) then
        some (((S_Prefix.mk [0, 0, 0, 0, 0, 0, 0, 0, 0, 0, 0, 0, 0, 0, 0, 0] 0), 0, false))
      else
        (loopO (F_ref29_prefix_l1 v1 a2 a3 a0) (0, (S_Prefix.mk [0, 0, 0, 0, 0, 0, 0, 0, 0, 0, 0, 0, 0, 0, 0, 0] a1))).bind fun b6 =>
        some ((b6, IntKind.wrap .i64 (v1 - a2), true))
set_option maxRecDepth 100000 in
set_option maxHeartbeats 40000000 in
theorem ok_ref29_prefix (a0 : List Int) (a1 : Int) (a2 : Int) (a3 : List Int) (r : S_Prefix × Int × Bool) (h : F_ref29_prefix a0 a1 a2 a3 = some r) : Con Try.prog 74 [.c (eS 1 (ecI .u8) (a0)), .c (.lit (.int .i64 (a1))), .c (.lit (.int .i64 (a2))), .agg (arrS .u8 16 a3)] [] (.tup [(true, S_Prefix.cs r.1), (false, [.lit (.int .i64 (r.2.1))]), (false, [.lit (.bool (r.2.2))])]) [] := by
  unfold F_ref29_prefix at h
  refine con_of [] [] 61 Try.func74 rfl rfl (by kernel_rfl) (fun K => ?_)
  refine TS_go 14 ?_
  replace h := bindO h
  obtain ⟨v1, hv1, h⟩ := h
  refine TS_call [] (ok_ref29_size a1 v1 hv1) (by kernel_rfl) (by kernel_rfl) ?_
  refine TS_go 8 ?_
  replace h := condO h
  rcases h with ⟨hb2, h⟩ | ⟨hb2, h⟩
  · refine TS_know 17 (b := true) hb2 (by kernel_rfl) (by kernel_rfl) ?_
    refine TS_know 18 (b := true) hb2 (by kernel_rfl) (by kernel_rfl) ?_
    refine TS_go 13 ?_
    refine TS_T (by kernel_rfl) rfl ?_
    refine TS_go 9 ?_
    have ret := Option.some.inj h
    subst ret
    exact TS_ret (by kernel_rfl) (by kernel_rfl) (by kernel_rfl)
  · refine TS_know 17 (b := false) hb2 (by kernel_rfl) (by kernel_rfl) ?_
    refine TS_know 18 (b := false) hb2 (by kernel_rfl) (by kernel_rfl) ?_
    refine TS_go 5 ?_
    replace h := condO h
    rcases h with ⟨hb3, h⟩ | ⟨hb3, h⟩
    · refine TS_know 21 (b := true) hb3 (by kernel_rfl) (by kernel_rfl) ?_
      refine TS_know 22 (b := true) hb3 (by kernel_rfl) (by kernel_rfl) ?_
      refine TS_know 23 (b := true) hb3 (by kernel_rfl) (by kernel_rfl) ?_
      refine TS_go 8 ?_
      refine TS_T (by kernel_rfl) rfl ?_
      refine TS_go 9 ?_
      have ret := Option.some.inj h
      subst ret
      exact TS_ret (by kernel_rfl) (by kernel_rfl) (by kernel_rfl)
    · refine TS_know 21 (b := false) hb3 (by kernel_rfl) (by kernel_rfl) ?_
      refine TS_know 22 (b := false) hb3 (by kernel_rfl) (by kernel_rfl) ?_
      refine TS_know 23 (b := false) hb3 (by kernel_rfl) (by kernel_rfl) ?_
      refine TS_go 8 ?_
      replace h := condO h
      rcases h with ⟨hb4, h⟩ | ⟨hb4, h⟩
      · refine TS_know 29 (b := true) hb4 (by kernel_rfl) (by kernel_rfl) ?_
        refine TS_know 30 (b := true) hb4 (by kernel_rfl) (by kernel_rfl) ?_
        refine TS_T (by kernel_rfl) rfl ?_
        refine TS_go 9 ?_
        have ret := Option.some.inj h
        subst ret
        exact TS_ret (by kernel_rfl) (by kernel_rfl) (by kernel_rfl)
      · refine TS_know 29 (b := false) hb4 (by kernel_rfl) (by kernel_rfl) ?_
        refine TS_know 30 (b := false) hb4 (by kernel_rfl) (by kernel_rfl) ?_
        refine TS_F (by kernel_rfl) rfl ?_
        refine TS_go 13 ?_
        refine TS_cut ⟨[(0, []), (2, []), (7, []), (8, []), (11, []), (12, []), (13, [])], [(7, (7, [])), (8, (8, [])), (11, (11, []))]⟩ (.mk [.code (codeAt [1, 1, 1, 1, 1, 0, 1, 0] (bodyOf Try.f74)), .blk 0, .code (codeAt [1, 1, 1, 1, 1, 1] (bodyOf Try.f74))] .normal ⟨[(0, .c (.slc 1 0 (List.length a0) (List.map (ecI .u8) a0))), (2, .c (.lit (.int .i64 (a2)))), (7, .c (.box 7 0)), (8, .c (.box 8 0)), (11, .c (.box 11 0)), (12, .c (.lit (.int .i64 (v1)))), (13, .c (.lit (.int .i64 (0))))], [(7, .box [.lit (.int .u8 ((a3.getD 0 0))), .lit (.int .u8 ((a3.getD 1 0))), .lit (.int .u8 ((a3.getD 2 0))), .lit (.int .u8 ((a3.getD 3 0))), .lit (.int .u8 ((a3.getD 4 0))), .lit (.int .u8 ((a3.getD 5 0))), .lit (.int .u8 ((a3.getD 6 0))), .lit (.int .u8 ((a3.getD 7 0))), .lit (.int .u8 ((a3.getD 8 0))), .lit (.int .u8 ((a3.getD 9 0))), .lit (.int .u8 ((a3.getD 10 0))), .lit (.int .u8 ((a3.getD 11 0))), .lit (.int .u8 ((a3.getD 12 0))), .lit (.int .u8 ((a3.getD 13 0))), .lit (.int .u8 ((a3.getD 14 0))), .lit (.int .u8 ((a3.getD 15 0)))]), (8, .box [.lit (.int .u8 (0)), .lit (.int .u8 (0)), .lit (.int .u8 (0)), .lit (.int .u8 (0)), .lit (.int .u8 (0)), .lit (.int .u8 (0)), .lit (.int .u8 (0)), .lit (.int .u8 (0)), .lit (.int .u8 (0)), .lit (.int .u8 (0)), .lit (.int .u8 (0)), .lit (.int .u8 (0)), .lit (.int .u8 (0)), .lit (.int .u8 (0)), .lit (.int .u8 (0)), .lit (.int .u8 (0)), .lit (.int .i64 (0))]), (11, .box [.lit (.int .u8 (0)), .lit (.int .u8 (0)), .lit (.int .u8 (0)), .lit (.int .u8 (0)), .lit (.int .u8 (0)), .lit (.int .u8 (0)), .lit (.int .u8 (0)), .lit (.int .u8 (0)), .lit (.int .u8 (0)), .lit (.int .u8 (0)), .lit (.int .u8 (0)), .lit (.int .u8 (0)), .lit (.int .u8 (0)), .lit (.int .u8 (0)), .lit (.int .u8 (0)), .lit (.int .u8 (0)), .lit (.int .i64 (a1))])]⟩) (by kernel_rfl) (by kernel_rfl) ?_
        replace h := bindO h
        obtain ⟨y7, hl1, hK1⟩ := h
        refine TS_loopB (F_ref29_prefix_l1 v1 a2 a3 a0) ⟨[(0, []), (2, []), (7, []), (8, []), (11, []), (12, []), (13, [])], [(7, (7, [])), (8, (8, [])), (11, (11, []))]⟩ (fun (s5 : Int × S_Prefix) => [(13, .c (.lit (.int .i64 (s5.1))))]) (fun (s5 : Int × S_Prefix) => [(11, .box (S_Prefix.cs s5.2))]) (0, (S_Prefix.mk [0, 0, 0, 0, 0, 0, 0, 0, 0, 0, 0, 0, 0, 0, 0, 0] a1)) y7 (.exit 0) (fun (b : S_Prefix) => b) ⟨[(2, []), (8, []), (11, []), (12, [])], [(8, (8, [])), (11, (11, []))]⟩ (fun (b6 : S_Prefix) => []) (fun (b6 : S_Prefix) => [(11, .box (S_Prefix.cs b6))]) hl1 (by kernel_rfl) (by kernel_rfl) ?_ ?_
        · intro s5 x h hy1
          unfold F_ref29_prefix_l1 at h
          refine TS_go 7 ?_
          replace h := condO h
          rcases h with ⟨hb8, h⟩ | ⟨hb8, h⟩
          · refine TS_know 36 (b := true) hb8 (by kernel_rfl) (by kernel_rfl) ?_
            refine TS_T (by kernel_rfl) rfl ?_
            refine TS_go 1 ?_
            refine TS_cut ⟨[(0, []), (2, []), (7, []), (8, []), (11, []), (12, []), (13, [])], [(7, (7, [])), (8, (8, [])), (11, (11, []))]⟩ (.mk [.code (codeAt [1, 1, 1, 1, 1, 0, 1, 0, 0, 1] (bodyOf Try.f74))] .normal ⟨[(0, .c (.slc 1 0 (List.length a0) (List.map (ecI .u8) a0))), (2, .c (.lit (.int .i64 (a2)))), (7, .c (.box 7 0)), (8, .c (.box 8 0)), (11, .c (.box 11 0)), (12, .c (.lit (.int .i64 (v1)))), (13, .c (.lit (.int .i64 (s5.1))))], [(7, .box [.lit (.int .u8 ((a3.getD 0 0))), .lit (.int .u8 ((a3.getD 1 0))), .lit (.int .u8 ((a3.getD 2 0))), .lit (.int .u8 ((a3.getD 3 0))), .lit (.int .u8 ((a3.getD 4 0))), .lit (.int .u8 ((a3.getD 5 0))), .lit (.int .u8 ((a3.getD 6 0))), .lit (.int .u8 ((a3.getD 7 0))), .lit (.int .u8 ((a3.getD 8 0))), .lit (.int .u8 ((a3.getD 9 0))), .lit (.int .u8 ((a3.getD 10 0))), .lit (.int .u8 ((a3.getD 11 0))), .lit (.int .u8 ((a3.getD 12 0))), .lit (.int .u8 ((a3.getD 13 0))), .lit (.int .u8 ((a3.getD 14 0))), .lit (.int .u8 ((a3.getD 15 0)))]), (8, .box [.lit (.int .u8 (0)), .lit (.int .u8 (0)), .lit (.int .u8 (0)), .lit (.int .u8 (0)), .lit (.int .u8 (0)), .lit (.int .u8 (0)), .lit (.int .u8 (0)), .lit (.int .u8 (0)), .lit (.int .u8 (0)), .lit (.int .u8 (0)), .lit (.int .u8 (0)), .lit (.int .u8 (0)), .lit (.int .u8 (0)), .lit (.int .u8 (0)), .lit (.int .u8 (0)), .lit (.int .u8 (0)), .lit (.int .i64 (0))]), (11, .box [.lit (.int .u8 ((s5.2.IP.getD 0 0))), .lit (.int .u8 ((s5.2.IP.getD 1 0))), .lit (.int .u8 ((s5.2.IP.getD 2 0))), .lit (.int .u8 ((s5.2.IP.getD 3 0))), .lit (.int .u8 ((s5.2.IP.getD 4 0))), .lit (.int .u8 ((s5.2.IP.getD 5 0))), .lit (.int .u8 ((s5.2.IP.getD 6 0))), .lit (.int .u8 ((s5.2.IP.getD 7 0))), .lit (.int .u8 ((s5.2.IP.getD 8 0))), .lit (.int .u8 ((s5.2.IP.getD 9 0))), .lit (.int .u8 ((s5.2.IP.getD 10 0))), .lit (.int .u8 ((s5.2.IP.getD 11 0))), .lit (.int .u8 ((s5.2.IP.getD 12 0))), .lit (.int .u8 ((s5.2.IP.getD 13 0))), .lit (.int .u8 ((s5.2.IP.getD 14 0))), .lit (.int .u8 ((s5.2.IP.getD 15 0))), .lit (.int .i64 (s5.2.Bits))])]⟩) (by kernel_rfl) (by kernel_rfl) ?_
            refine TS_joinB ⟨[(0, []), (2, []), (7, []), (8, []), (11, []), (12, []), (13, [])], [(7, (7, [])), (8, (8, [])), (11, (11, []))]⟩ (fun (v9 : S_Prefix) => []) (fun (v9 : S_Prefix) => [(11, .box (S_Prefix.cs v9))]) (F_ref29_prefix_j2 s5) x ?_ ?_
            · clear h
              intro v9 h
              unfold F_ref29_prefix_j2 at h
              refine TS_go 5 ?_
              have ret := Option.some.inj h
              subst ret
              exact TS_againB _ ⟨[(0, []), (2, []), (7, []), (8, []), (11, []), (12, []), (13, [])], [(7, (7, [])), (8, (8, [])), (11, (11, []))]⟩ rfl (by kernel_rfl) (by kernel_rfl)
            · refine TS_go 7 ?_
              replace h := condO h
              rcases h with ⟨hb10, h⟩ | ⟨hb10, h⟩
              · refine TS_know 41 (b := true) hb10 (by kernel_rfl) (by kernel_rfl) ?_
                refine TS_T (by kernel_rfl) rfl ?_
                refine TS_go 3 ?_
                replace h := chkO h
                obtain ⟨hc11, h⟩ := h
                refine TS_idxA 7 0 16 (i := s5.1) hc11 (by kernel_rfl) (by kernel_rfl) ?_
                refine TS_ldA .u8 0 16 (i := s5.1) a3 hc11 (by kernel_rfl) (by kernel_rfl) ?_
                refine TS_go 1 ?_
                replace h := chkO h
                obtain ⟨hc12, h⟩ := h
                refine TS_idxA 11 0 16 (i := s5.1) hc12 (by kernel_rfl) (by kernel_rfl) ?_
                refine TS_stA (k := .u8) (d := 11) 0 16 (i := s5.1) (v := (List.getD a3 (Int.toNat s5.1) 0)) s5.2.IP (pre := []) (post := [.lit (.int .i64 (s5.2.Bits))]) hc12 (by kernel_rfl) (by kernel_rfl) (by kernel_rfl) ?_
                refine TS_go 2 ?_
                exact TS_meet (S_Prefix.mk (setA 16 s5.2.IP (Int.toNat s5.1) (List.getD a3 (Int.toNat s5.1) 0)) s5.2.Bits) ⟨[(0, []), (2, []), (7, []), (8, []), (11, []), (12, []), (13, [])], [(7, (7, [])), (8, (8, [])), (11, (11, []))]⟩ h (by kernel_rfl) (by kernel_rfl)
              · refine TS_know 41 (b := false) hb10 (by kernel_rfl) (by kernel_rfl) ?_
                refine TS_F (by kernel_rfl) rfl ?_
                refine TS_go 6 ?_
                replace h := bindO h
                obtain ⟨e13, he13, h⟩ := h
                refine TS_idx (ecI .u8) he13 (by kernel_rfl) (by kernel_rfl) ?_
                refine TS_go 2 ?_
                replace h := chkO h
                obtain ⟨hc14, h⟩ := h
                refine TS_idxA 11 0 16 (i := s5.1) hc14 (by kernel_rfl) (by kernel_rfl) ?_
                refine TS_stA (k := .u8) (d := 11) 0 16 (i := s5.1) (v := e13) s5.2.IP (pre := []) (post := [.lit (.int .i64 (s5.2.Bits))]) hc14 (by kernel_rfl) (by kernel_rfl) (by kernel_rfl) ?_
                refine TS_go 2 ?_
                exact TS_meet (S_Prefix.mk (setA 16 s5.2.IP (Int.toNat s5.1) e13) s5.2.Bits) ⟨[(0, []), (2, []), (7, []), (8, []), (11, []), (12, []), (13, [])], [(7, (7, [])), (8, (8, [])), (11, (11, []))]⟩ h (by kernel_rfl) (by kernel_rfl)
          · refine TS_know 36 (b := false) hb8 (by kernel_rfl) (by kernel_rfl) ?_
            refine TS_F (by kernel_rfl) rfl ?_
            refine TS_go 2 ?_
            have ret := Option.some.inj h
            subst ret
            exact TS_brkB s5.2 ⟨[(2, []), (8, []), (11, []), (12, [])], [(8, (8, [])), (11, (11, []))]⟩ rfl (by kernel_rfl) (by kernel_rfl) (by kernel_rfl)
        · intro b6 hb
          subst y7
          have h := hK1
          refine TS_go 12 ?_
          have ret := Option.some.inj h
          subst ret
          exact TS_ret (by kernel_rfl) (by kernel_rfl) (by kernel_rfl)

/-- multihop/multihopref29.both -/
noncomputable def F_ref29_both (a0 : List Int) (a1 : Int) (a2 : Int) (a3 : Int) (a4 : List Int) : Option (S_Destination × Bool) :=
  (F_ref29_prefix a0 a1 a3 a4).bind fun v1 =>
  bif v1.2.2 then
    (subO a0 v1.2.1 (List.length a0 : Int)).bind fun l3 =>
    (F_ref29_prefix l3 a2 0 [0, 0, 0, 0, 0, 0, 0, 0, 0, 0, 0, 0, 0, 0, 0, 0]).bind fun v4 =>
    bif v4.2.2 then
      bif ((IntKind.wrap .i64 (v1.2.1 + v4.2.1)) != (List.length a0 : Int)) then
        some (((S_Destination.mk (S_Prefix.mk [0, 0, 0, 0, 0, 0, 0, 0, 0, 0, 0, 0, 0, 0, 0, 0] 0) (S_Prefix.mk [0, 0, 0, 0, 0, 0, 0, 0, 0, 0, 0, 0, 0, 0, 0, 0] 0) 0), false))
      else
        some (((S_Destination.mk v1.1 v4.1 0), true))
    else
      some (((S_Destination.mk (S_Prefix.mk [0, 0, 0, 0, 0, 0, 0, 0, 0, 0, 0, 0, 0, 0, 0, 0] 0) (S_Prefix.mk [0, 0, 0, 0, 0, 0, 0, 0, 0, 0, 0, 0, 0, 0, 0, 0] 0) 0), false))
  else
    some (((S_Destination.mk (S_Prefix.mk [0, 0, 0, 0, 0, 0, 0, 0, 0, 0, 0, 0, 0, 0, 0, 0] 0) (S_Prefix.mk [0, 0, 0, 0, 0, 0, 0, 0, 0, 0, 0, 0, 0, 0, 0, 0] 0) 0), false))
set_option maxRecDepth 100000 in
set_option maxHeartbeats 40000000 in
theorem ok_ref29_both (a0 : List Int) (a1 : Int) (a2 : Int) (a3 : Int) (a4 : List Int) (r : S_Destination × Bool) (h : F_ref29_both a0 a1 a2 a3 a4 = some r) : Con Try.prog 73 [.c (eS 1 (ecI .u8) (a0)), .c (.lit (.int .i64 (a1))), .c (.lit (.int .i64 (a2))), .c (.lit (.int .i64 (a3))), .agg (arrS .u8 16 a4)] [] (.tup [(true, S_Destination.cs r.1), (false, [.lit (.bool (r.2))])]) [] := by
  unfold F_ref29_both at h
  refine con_of [] [] 56 Try.func73 rfl rfl (by kernel_rfl) (fun K => ?_)
  refine TS_go 16 ?_
  replace h := bindO h
  obtain ⟨v1, hv1, h⟩ := h
  refine TS_call [] (ok_ref29_prefix a0 a1 a3 a4 v1 hv1) (by kernel_rfl) (by kernel_rfl) ?_
  refine TS_go 15 ?_
  replace h := condO h
  rcases h with ⟨hb2, h⟩ | ⟨hb2, h⟩
  · refine TS_know 26 (b := true) hb2 (by kernel_rfl) (by kernel_rfl) ?_
    refine TS_know 15 (b := true) hb2 (by kernel_rfl) (by kernel_rfl) ?_
    refine TS_know 27 (b := true) hb2 (by kernel_rfl) (by kernel_rfl) ?_
    refine TS_know 28 (b := false) (notF hb2) (by kernel_rfl) (by kernel_rfl) ?_
    refine TS_F (by kernel_rfl) rfl ?_
    refine TS_go 5 ?_
    replace h := bindO h
    obtain ⟨l3, hl3, h⟩ := h
    refine TS_sub (ecI .u8) 1 hl3 (by kernel_rfl) (by kernel_rfl) ?_
    refine TS_go 2 ?_
    replace h := bindO h
    obtain ⟨v4, hv4, h⟩ := h
    refine TS_call [] (ok_ref29_prefix l3 a2 0 [0, 0, 0, 0, 0, 0, 0, 0, 0, 0, 0, 0, 0, 0, 0, 0] v4 hv4) (by kernel_rfl) (by kernel_rfl) ?_
    refine TS_go 15 ?_
    replace h := condO h
    rcases h with ⟨hb5, h⟩ | ⟨hb5, h⟩
    · refine TS_know 15 (b := true) hb5 (by kernel_rfl) (by kernel_rfl) ?_
      refine TS_know 39 (b := true) hb5 (by kernel_rfl) (by kernel_rfl) ?_
      refine TS_know 40 (b := true) hb5 (by kernel_rfl) (by kernel_rfl) ?_
      refine TS_know 41 (b := false) (notF hb5) (by kernel_rfl) (by kernel_rfl) ?_
      refine TS_know 42 (b := false) (notF hb5) (by kernel_rfl) (by kernel_rfl) ?_
      refine TS_go 8 ?_
      replace h := condO h
      rcases h with ⟨hb6, h⟩ | ⟨hb6, h⟩
      · refine TS_know 48 (b := true) hb6 (by kernel_rfl) (by kernel_rfl) ?_
        refine TS_know 49 (b := true) hb6 (by kernel_rfl) (by kernel_rfl) ?_
        refine TS_T (by kernel_rfl) rfl ?_
        refine TS_go 8 ?_
        have ret := Option.some.inj h
        subst ret
        exact TS_ret (by kernel_rfl) (by kernel_rfl) (by kernel_rfl)
      · refine TS_know 48 (b := false) hb6 (by kernel_rfl) (by kernel_rfl) ?_
        refine TS_know 49 (b := false) hb6 (by kernel_rfl) (by kernel_rfl) ?_
        refine TS_F (by kernel_rfl) rfl ?_
        refine TS_go 2 ?_
        refine TS_draw (by kernel_rfl) ?_
        refine TD_go 6 ?_
        refine TD_end (by kernel_rfl) ?_
        refine TS_go 7 ?_
        have ret := Option.some.inj h
        subst ret
        exact TS_ret (by kernel_rfl) (by kernel_rfl) (by kernel_rfl)
    · refine TS_know 15 (b := false) hb5 (by kernel_rfl) (by kernel_rfl) ?_
      refine TS_know 39 (b := false) hb5 (by kernel_rfl) (by kernel_rfl) ?_
      refine TS_know 40 (b := false) hb5 (by kernel_rfl) (by kernel_rfl) ?_
      refine TS_know 41 (b := true) (notT hb5) (by kernel_rfl) (by kernel_rfl) ?_
      refine TS_know 42 (b := true) (notT hb5) (by kernel_rfl) (by kernel_rfl) ?_
      refine TS_go 8 ?_
      refine TS_T (by kernel_rfl) rfl ?_
      refine TS_go 8 ?_
      have ret := Option.some.inj h
      subst ret
      exact TS_ret (by kernel_rfl) (by kernel_rfl) (by kernel_rfl)
  · refine TS_know 26 (b := false) hb2 (by kernel_rfl) (by kernel_rfl) ?_
    refine TS_know 15 (b := false) hb2 (by kernel_rfl) (by kernel_rfl) ?_
    refine TS_know 27 (b := false) hb2 (by kernel_rfl) (by kernel_rfl) ?_
    refine TS_know 28 (b := true) (notT hb2) (by kernel_rfl) (by kernel_rfl) ?_
    refine TS_T (by kernel_rfl) rfl ?_
    refine TS_go 8 ?_
    have ret := Option.some.inj h
    subst ret
    exact TS_ret (by kernel_rfl) (by kernel_rfl) (by kernel_rfl)
end
end Go.Proofs.Ytcemblilhbidgaa
