/-
  Part 4 of what the proof of this law rests on.
-/
import Derived.Test.YtcemblilhbidgaaKP3
namespace Go.Proofs.Ytcemblilhbidgaa
section
open Go.RowKit
attribute [local irreducible] TS go TD goD

/-- multihop/messages.Decode -/
noncomputable def F_messages_Decode (a0 : List Int) : Option (Int × (List S_Notice) × Int) :=
  bif (decide ((List.length a0 : Int) < 9)) then
    some ((0, ([] : List S_Notice), 4))
  else
    (F_octets_Uint a0 2 5).bind fun v2 =>
    (F_octets_Uint a0 7 2).bind fun v3 =>
    bif (decide ((IntKind.wrap .i64 ((List.length a0 : Int) - 9)) < (IntKind.wrap .i64 v3.1))) then
      some ((0, ([] : List S_Notice), 4))
    else
      (subO a0 9 (List.length a0 : Int)).bind fun l5 =>
      (F_messages_parse l5).bind fun v6 =>
      bif v6.2 then
        (F_messages_Encode (IntKind.wrap .i64 v2.1) v6.1).bind fun v8 =>
        bif (v8.2 != 0) then
          some ((0, ([] : List S_Notice), 5))
        else
          (F_bytes_Equal v8.1 a0).bind fun v10 =>
          bif v10 then
            some ((IntKind.wrap .i64 v2.1, v6.1, 0))
          else
            some ((0, ([] : List S_Notice), 5))
      else
        some ((0, ([] : List S_Notice), 5))
set_option maxRecDepth 100000 in
set_option maxHeartbeats 40000000 in
theorem okT_messages_Decode (a0 : List Int) (r : Int × (List S_Notice) × Int) (h : F_messages_Decode a0 = some r) : Con Try.prog 22 [.c (eS 1 (ecI .u8) (a0))] [] (.tup [(false, [.lit (.int .i64 (r.1))]), (false, [.slc 40 900066 (List.length r.2.1) (List.map S_Notice.cs r.2.1)]), (false, [.lit (.int .i64 (r.2.2))])]) [(900064, .spare 39 40 (List.length r.2.1))] := by
  unfold F_messages_Decode at h
  refine con_of [] [(900064, [])] 58 Try.func22 rfl rfl (by kernel_rfl) (fun K => ?_)
  refine TS_go 13 ?_
  replace h := condO h
  rcases h with ⟨hb1, h⟩ | ⟨hb1, h⟩
  · refine TS_know 15 (b := true) hb1 (by kernel_rfl) (by kernel_rfl) ?_
    refine TS_T (by kernel_rfl) rfl ?_
    refine TS_go 6 ?_
    refine TS_nilT 3 600000 39 40 (by kernel_rfl) ?_
    refine TS_fitU ⟨[(2, []), (3, []), (4, [])], [(600000, (900064, []))]⟩ (by kernel_rfl) ?_
    refine TS_go 2 ?_
    have ret := Option.some.inj h
    subst ret
    exact TS_ret (by kernel_rfl) (by kernel_rfl) (by kernel_rfl)
  · refine TS_know 15 (b := false) hb1 (by kernel_rfl) (by kernel_rfl) ?_
    refine TS_F (by kernel_rfl) rfl ?_
    refine TS_go 4 ?_
    replace h := bindO h
    obtain ⟨v2, hv2, h⟩ := h
    refine TS_call [] (ok_octets_Uint a0 2 5 v2 hv2) (by kernel_rfl) (by kernel_rfl) ?_
    refine TS_go 9 ?_
    replace h := bindO h
    obtain ⟨v3, hv3, h⟩ := h
    refine TS_call [] (ok_octets_Uint a0 7 2 v3 hv3) (by kernel_rfl) (by kernel_rfl) ?_
    refine TS_go 16 ?_
    replace h := condO h
    rcases h with ⟨hb4, h⟩ | ⟨hb4, h⟩
    · refine TS_know 31 (b := true) hb4 (by kernel_rfl) (by kernel_rfl) ?_
      refine TS_T (by kernel_rfl) rfl ?_
      refine TS_go 6 ?_
      refine TS_nilT 3 600000 39 40 (by kernel_rfl) ?_
      refine TS_fitU ⟨[(2, []), (3, []), (4, [])], [(600000, (900064, []))]⟩ (by kernel_rfl) ?_
      refine TS_go 2 ?_
      have ret := Option.some.inj h
      subst ret
      exact TS_ret (by kernel_rfl) (by kernel_rfl) (by kernel_rfl)
    · refine TS_know 31 (b := false) hb4 (by kernel_rfl) (by kernel_rfl) ?_
      refine TS_F (by kernel_rfl) rfl ?_
      refine TS_go 4 ?_
      replace h := bindO h
      obtain ⟨l5, hl5, h⟩ := h
      refine TS_sub (ecI .u8) 1 hl5 (by kernel_rfl) (by kernel_rfl) ?_
      replace h := bindO h
      obtain ⟨v6, hv6, h⟩ := h
      refine TS_con [] [(35, 900000)] none (okT_messages_parse l5 v6 hv6) (by kernel_rfl) (by kernel_rfl) (by kernel_rfl) ?_
      refine TS_go 12 ?_
      replace h := condO h
      rcases h with ⟨hb7, h⟩ | ⟨hb7, h⟩
      · refine TS_know 37 (b := true) hb7 (by kernel_rfl) (by kernel_rfl) ?_
        refine TS_know 10 (b := true) hb7 (by kernel_rfl) (by kernel_rfl) ?_
        refine TS_know 38 (b := true) hb7 (by kernel_rfl) (by kernel_rfl) ?_
        refine TS_know 39 (b := false) (notF hb7) (by kernel_rfl) (by kernel_rfl) ?_
        refine TS_F (by kernel_rfl) rfl ?_
        refine TS_go 6 ?_
        replace h := bindO h
        obtain ⟨v8, hv8, h⟩ := h
        refine TS_con [[], [41]] [(44, 900000)] none (okT_messages_Encode (IntKind.wrap .i64 v2.1) v6.1 v8 hv8) (by kernel_rfl) (by kernel_rfl) (by kernel_rfl) ?_
        refine TS_go 12 ?_
        replace h := condO h
        rcases h with ⟨hb9, h⟩ | ⟨hb9, h⟩
        · refine TS_know 48 (b := true) hb9 (by kernel_rfl) (by kernel_rfl) ?_
          refine TS_know 49 (b := true) hb9 (by kernel_rfl) (by kernel_rfl) ?_
          refine TS_go 6 ?_
          refine TS_T (by kernel_rfl) rfl ?_
          refine TS_go 6 ?_
          refine TS_nilT 3 600000 39 40 (by kernel_rfl) ?_
          refine TS_fitU ⟨[(2, []), (3, []), (4, [])], [(600000, (900064, []))]⟩ (by kernel_rfl) ?_
          refine TS_go 2 ?_
          have ret := Option.some.inj h
          subst ret
          exact TS_ret (by kernel_rfl) (by kernel_rfl) (by kernel_rfl)
        · refine TS_know 48 (b := false) hb9 (by kernel_rfl) (by kernel_rfl) ?_
          refine TS_know 49 (b := false) hb9 (by kernel_rfl) (by kernel_rfl) ?_
          refine TS_go 2 ?_
          replace h := bindO h
          obtain ⟨v10, hv10, h⟩ := h
          refine TS_call [[2]] (ok_bytes_Equal v8.1 a0 v10 hv10) (by kernel_rfl) (by kernel_rfl) ?_
          refine TS_go 3 ?_
          replace h := condO h
          rcases h with ⟨hb11, h⟩ | ⟨hb11, h⟩
          · subst hb11
            refine TS_F (by kernel_rfl) rfl ?_
            refine TS_go 10 ?_
            refine TS_fitU ⟨[(2, []), (3, []), (4, [])], [(35, (900064, []))]⟩ (by kernel_rfl) ?_
            refine TS_go 1 ?_
            have ret := Option.some.inj h
            subst ret
            exact TS_ret (by kernel_rfl) (by kernel_rfl) (by kernel_rfl)
          · subst hb11
            refine TS_T (by kernel_rfl) rfl ?_
            refine TS_go 6 ?_
            refine TS_nilT 3 600000 39 40 (by kernel_rfl) ?_
            refine TS_fitU ⟨[(2, []), (3, []), (4, [])], [(600000, (900064, []))]⟩ (by kernel_rfl) ?_
            refine TS_go 2 ?_
            have ret := Option.some.inj h
            subst ret
            exact TS_ret (by kernel_rfl) (by kernel_rfl) (by kernel_rfl)
      · refine TS_know 37 (b := false) hb7 (by kernel_rfl) (by kernel_rfl) ?_
        refine TS_know 10 (b := false) hb7 (by kernel_rfl) (by kernel_rfl) ?_
        refine TS_know 38 (b := false) hb7 (by kernel_rfl) (by kernel_rfl) ?_
        refine TS_know 39 (b := true) (notT hb7) (by kernel_rfl) (by kernel_rfl) ?_
        refine TS_T (by kernel_rfl) rfl ?_
        refine TS_go 6 ?_
        refine TS_nilT 3 600000 39 40 (by kernel_rfl) ?_
        refine TS_fitU ⟨[(2, []), (3, []), (4, [])], [(600000, (900064, []))]⟩ (by kernel_rfl) ?_
        refine TS_go 2 ?_
        have ret := Option.some.inj h
        subst ret
        exact TS_ret (by kernel_rfl) (by kernel_rfl) (by kernel_rfl)
/-- multihop/multihoplaw29.known -/
noncomputable def F_law29_known  : Option (Bool) :=
  (F_messages_Encode 7 ([(S_Notice.mk 1 258 0 0 (S_Destination.mk (S_Prefix.mk [0, 0, 0, 0, 0, 0, 0, 0, 0, 0, 0, 0, 0, 0, 0, 0] 0) (S_Prefix.mk [0, 0, 0, 0, 0, 0, 0, 0, 0, 0, 0, 0, 0, 0, 0, 0] 0) 0) 0)] : List S_Notice)).bind fun v1 =>
  (F_messages_Decode v1.1).bind fun v2 =>
  bif (v1.2 == 0) then
    bif (v2.2.2 == 0) then
      (F_bytes_Equal v1.1 ([42, 1, 0, 0, 0, 0, 7, 0, 4, 1, 2, 1, 2] : List Int)).bind fun v5 =>
      bif v5 then
        bif (v2.1 == 7) then
          bif ((List.length v2.2.1 : Int) == 1) then
            (idx v2.2.1 0).bind fun e9 =>
            some ((e9.Seq == 258))
          else
            some (false)
        else
          some (false)
      else
        some (false)
    else
      some (false)
  else
    some (false)
set_option maxRecDepth 100000 in
set_option maxHeartbeats 40000000 in
theorem ok_law29_known  (r : Bool) (h : F_law29_known  = some r) : Con Try.prog 10 [] [] (.c (.lit (.bool (r)))) [] := by
  unfold F_law29_known at h
  refine con_of [] [] 45 Try.func10 rfl rfl (by kernel_rfl) (fun K => ?_)
  refine TS_go 7 ?_
  refine TS_litNT 8 39 40 S_Notice.cs [] ([(S_Notice.mk 1 258 0 0 (S_Destination.mk (S_Prefix.mk [0, 0, 0, 0, 0, 0, 0, 0, 0, 0, 0, 0, 0, 0, 0, 0] 0) (S_Prefix.mk [0, 0, 0, 0, 0, 0, 0, 0, 0, 0, 0, 0, 0, 0, 0, 0] 0) 0) 0)] : List S_Notice) (by kernel_rfl) (by kernel_rfl) ?_
  replace h := bindO h
  obtain ⟨v1, hv1, h⟩ := h
  refine TS_con [[], [41]] [(9, 900000)] none (okT_messages_Encode 7 ([(S_Notice.mk 1 258 0 0 (S_Destination.mk (S_Prefix.mk [0, 0, 0, 0, 0, 0, 0, 0, 0, 0, 0, 0, 0, 0, 0, 0] 0) (S_Prefix.mk [0, 0, 0, 0, 0, 0, 0, 0, 0, 0, 0, 0, 0, 0, 0, 0] 0) 0) 0)] : List S_Notice) v1 hv1) (by kernel_rfl) (by kernel_rfl) (by kernel_rfl) ?_
  refine TS_go 9 ?_
  replace h := bindO h
  obtain ⟨v2, hv2, h⟩ := h
  refine TS_con [[2]] [(14, 900064)] none (okT_messages_Decode v1.1 v2 hv2) (by kernel_rfl) (by kernel_rfl) (by kernel_rfl) ?_
  refine TS_go 13 ?_
  replace h := condO h
  rcases h with ⟨hb3, h⟩ | ⟨hb3, h⟩
  · refine TS_know 19 (b := true) hb3 (by kernel_rfl) (by kernel_rfl) ?_
    refine TS_know 20 (b := true) hb3 (by kernel_rfl) (by kernel_rfl) ?_
    refine TS_go 4 ?_
    replace h := condO h
    rcases h with ⟨hb4, h⟩ | ⟨hb4, h⟩
    · refine TS_know 22 (b := true) hb4 (by kernel_rfl) (by kernel_rfl) ?_
      refine TS_know 23 (b := true) hb4 (by kernel_rfl) (by kernel_rfl) ?_
      refine TS_know 24 (b := true) hb4 (by kernel_rfl) (by kernel_rfl) ?_
      refine TS_go 1 ?_
      refine TS_litNT 26 5 1 (ecI .u8) [] ([42, 1, 0, 0, 0, 0, 7, 0, 4, 1, 2, 1, 2] : List Int) (by kernel_rfl) (by kernel_rfl) ?_
      replace h := bindO h
      obtain ⟨v5, hv5, h⟩ := h
      refine TS_call [[2], [2]] (ok_bytes_Equal v1.1 ([42, 1, 0, 0, 0, 0, 7, 0, 4, 1, 2, 1, 2] : List Int) v5 hv5) (by kernel_rfl) (by kernel_rfl) ?_
      refine TS_go 2 ?_
      replace h := condO h
      rcases h with ⟨hb6, h⟩ | ⟨hb6, h⟩
      · subst hb6
        refine TS_go 4 ?_
        replace h := condO h
        rcases h with ⟨hb7, h⟩ | ⟨hb7, h⟩
        · refine TS_know 31 (b := true) hb7 (by kernel_rfl) (by kernel_rfl) ?_
          refine TS_know 32 (b := true) hb7 (by kernel_rfl) (by kernel_rfl) ?_
          refine TS_know 33 (b := true) hb7 (by kernel_rfl) (by kernel_rfl) ?_
          refine TS_go 5 ?_
          replace h := condO h
          rcases h with ⟨hb8, h⟩ | ⟨hb8, h⟩
          · refine TS_know 36 (b := true) hb8 (by kernel_rfl) (by kernel_rfl) ?_
            refine TS_know 37 (b := true) hb8 (by kernel_rfl) (by kernel_rfl) ?_
            refine TS_know 38 (b := true) hb8 (by kernel_rfl) (by kernel_rfl) ?_
            refine TS_go 1 ?_
            replace h := bindO h
            obtain ⟨_e9, he9, h⟩ := h
            refine TS_idx S_Notice.cs he9 (by kernel_rfl) (by kernel_rfl) ?_
            refine TS_go 7 ?_
            have ret := Option.some.inj h
            subst ret
            exact TS_ret (by kernel_rfl) (by kernel_rfl) (by kernel_rfl)
          · refine TS_know 36 (b := false) hb8 (by kernel_rfl) (by kernel_rfl) ?_
            refine TS_know 37 (b := false) hb8 (by kernel_rfl) (by kernel_rfl) ?_
            refine TS_know 38 (b := false) hb8 (by kernel_rfl) (by kernel_rfl) ?_
            refine TS_go 9 ?_
            have ret := Option.some.inj h
            subst ret
            exact TS_ret (by kernel_rfl) (by kernel_rfl) (by kernel_rfl)
        · refine TS_know 31 (b := false) hb7 (by kernel_rfl) (by kernel_rfl) ?_
          refine TS_know 32 (b := false) hb7 (by kernel_rfl) (by kernel_rfl) ?_
          refine TS_know 33 (b := false) hb7 (by kernel_rfl) (by kernel_rfl) ?_
          refine TS_go 14 ?_
          have ret := Option.some.inj h
          subst ret
          exact TS_ret (by kernel_rfl) (by kernel_rfl) (by kernel_rfl)
      · subst hb6
        refine TS_go 18 ?_
        have ret := Option.some.inj h
        subst ret
        exact TS_ret (by kernel_rfl) (by kernel_rfl) (by kernel_rfl)
    · refine TS_know 22 (b := false) hb4 (by kernel_rfl) (by kernel_rfl) ?_
      refine TS_know 23 (b := false) hb4 (by kernel_rfl) (by kernel_rfl) ?_
      refine TS_know 24 (b := false) hb4 (by kernel_rfl) (by kernel_rfl) ?_
      refine TS_go 23 ?_
      have ret := Option.some.inj h
      subst ret
      exact TS_ret (by kernel_rfl) (by kernel_rfl) (by kernel_rfl)
  · refine TS_know 19 (b := false) hb3 (by kernel_rfl) (by kernel_rfl) ?_
    refine TS_know 20 (b := false) hb3 (by kernel_rfl) (by kernel_rfl) ?_
    refine TS_go 27 ?_
    have ret := Option.some.inj h
    subst ret
    exact TS_ret (by kernel_rfl) (by kernel_rfl) (by kernel_rfl)

/-- multihop/multihopmade.New -/
noncomputable def F_made_New_j1  (v1 : (List Int)) : Option (S_multihopmade_Tape) :=
  some ((S_multihopmade_Tape.mk v1 0))
noncomputable def F_made_New (a0 : List Int) : Option (S_multihopmade_Tape) :=
  bif (decide ((List.length a0 : Int) > 400)) then
    (subO a0 0 400).bind fun l3 =>
    (F_made_New_j1) l3
  else
    (F_made_New_j1) a0
set_option maxRecDepth 100000 in
set_option maxHeartbeats 40000000 in
theorem ok_made_New (a0 : List Int) (r : S_multihopmade_Tape) (h : F_made_New a0 = some r) : Con Try.prog 11 [.c (eS 1 (ecI .i64) (a0))] [] (.c (.box 10 0)) [(10, .box (S_multihopmade_Tape.cs r))] := by
  unfold F_made_New at h
  refine con_of [] [(10, [2])] 11 Try.func11 rfl rfl (by kernel_rfl) (fun K => ?_)
  refine TS_go 4 ?_
  refine TS_cut ⟨[(0, [])], []⟩ (.mk [.code (codeAt [1] (bodyOf Try.f11))] .normal ⟨[(0, .c (.slc 1 0 (List.length a0) (List.map (ecI .i64) a0)))], []⟩) (by kernel_rfl) (by kernel_rfl) ?_
  refine TS_joinB ⟨[(0, [])], []⟩ (fun (v1 : (List Int)) => [(0, .c (eS 1 (ecI .i64) (v1)))]) (fun (v1 : (List Int)) => []) (F_made_New_j1) r ?_ ?_
  · clear h
    intro v1 h
    unfold F_made_New_j1 at h
    refine TS_go 8 ?_
    have ret := Option.some.inj h
    subst ret
    exact TS_ret (by kernel_rfl) (by kernel_rfl) (by kernel_rfl)
  · refine TS_go 6 ?_
    replace h := condO h
    rcases h with ⟨hb2, h⟩ | ⟨hb2, h⟩
    · refine TS_know 5 (b := true) hb2 (by kernel_rfl) (by kernel_rfl) ?_
      refine TS_T (by kernel_rfl) rfl ?_
      refine TS_go 2 ?_
      replace h := bindO h
      obtain ⟨l3, hl3, h⟩ := h
      refine TS_sub (ecI .i64) 1 hl3 (by kernel_rfl) (by kernel_rfl) ?_
      refine TS_go 2 ?_
      exact TS_meet l3 ⟨[(0, [])], []⟩ h (by kernel_rfl) (by kernel_rfl)
    · refine TS_know 5 (b := false) hb2 (by kernel_rfl) (by kernel_rfl) ?_
      refine TS_F (by kernel_rfl) rfl ?_
      refine TS_go 1 ?_
      exact TS_meet a0 ⟨[(0, [])], []⟩ h (by kernel_rfl) (by kernel_rfl)

/-- (*multihop/multihopmade.Tape).Next -/
noncomputable def F_made_Tape_Next_j1 (a0 : S_multihopmade_Tape) (v4 : Int) : Option (Int × S_multihopmade_Tape) :=
  some ((v4, (S_multihopmade_Tape.mk a0.l (IntKind.wrap .i64 (a0.at_ + 1)))))
noncomputable def F_made_Tape_Next (a0 : S_multihopmade_Tape) (a1 : Int) : Option (Int × S_multihopmade_Tape) :=
  bif (decide (a0.at_ ≥ (List.length a0.l : Int))) then
    some ((0, a0))
  else
    (idx a0.l a0.at_).bind fun e2 =>
    bif decide (a1 ≠ 0) then
      bif (decide ((Int.tmod e2 a1) < 0)) then
        (F_made_Tape_Next_j1 a0) (IntKind.wrap .i64 ((Int.tmod e2 a1) + a1))
      else
        (F_made_Tape_Next_j1 a0) (Int.tmod e2 a1)
    else none
set_option maxRecDepth 100000 in
set_option maxHeartbeats 40000000 in
theorem ok_made_Tape_Next (a0 : S_multihopmade_Tape) (a1 : Int) (r : Int × S_multihopmade_Tape) (h : F_made_Tape_Next a0 a1 = some r) : Con Try.prog 20 [.c (.box 1000000 0), .c (.lit (.int .i64 (a1)))] [(1000000, .box (S_multihopmade_Tape.cs a0))] (.c (.lit (.int .i64 (r.1)))) [(1000000, .box (S_multihopmade_Tape.cs r.2))] := by
  unfold F_made_Tape_Next at h
  refine con_of [] [(1000000, [2])] 41 Try.func20 rfl rfl (by kernel_rfl) (fun K => ?_)
  refine TS_go 6 ?_
  refine TS_draw (by kernel_rfl) ?_
  refine TD_go 10 ?_
  refine TD_end (by kernel_rfl) ?_
  replace h := condO h
  rcases h with ⟨hb1, h⟩ | ⟨hb1, h⟩
  · refine TS_know 15 (b := true) hb1 (by kernel_rfl) (by kernel_rfl) ?_
    refine TS_T (by kernel_rfl) rfl ?_
    refine TS_go 6 ?_
    have ret := Option.some.inj h
    subst ret
    exact TS_ret (by kernel_rfl) (by kernel_rfl) (by kernel_rfl)
  · refine TS_know 15 (b := false) hb1 (by kernel_rfl) (by kernel_rfl) ?_
    refine TS_F (by kernel_rfl) rfl ?_
    refine TS_go 2 ?_
    refine TS_draw (by kernel_rfl) ?_
    refine TD_go 8 ?_
    replace h := bindO h
    obtain ⟨e2, he2, h⟩ := h
    refine TD_idx (ecI .i64) he2 (by kernel_rfl) (by kernel_rfl) ?_
    refine TD_go 2 ?_
    replace h := chkO h
    obtain ⟨hc3, h⟩ := h
    refine TD_num (op := .rem) (k := .i64) (k' := .i64) (m := e2) (i := a1) (of_decide_eq_true hc3) rfl (by simp) (by kernel_rfl) (by kernel_rfl) ?_
    refine TD_go 1 ?_
    refine TD_end (by kernel_rfl) ?_
    refine TS_go 11 ?_
    refine TS_cut ⟨[(1, []), (5, [])], [(1000000, (1000000, []))]⟩ (.mk [.code (codeAt [1, 1, 1, 1] (bodyOf Try.f20))] .normal ⟨[(1, .c (.lit (.int .i64 (a1)))), (5, .c (.lit (.int .i64 (Int.tmod e2 a1))))], [(1000000, .box [.slc 1 0 (List.length a0.l) (List.map (ecI .i64) a0.l), .lit (.int .i64 (IntKind.wrap .i64 (a0.at_ + 1)))])]⟩) (by kernel_rfl) (by kernel_rfl) ?_
    refine TS_joinB ⟨[(5, [])], [(1000000, (1000000, []))]⟩ (fun (v4 : Int) => [(5, .c (.lit (.int .i64 (v4))))]) (fun (v4 : Int) => []) (F_made_Tape_Next_j1 a0) r ?_ ?_
    · clear h
      intro v4 h
      unfold F_made_Tape_Next_j1 at h
      refine TS_go 6 ?_
      have ret := Option.some.inj h
      subst ret
      exact TS_ret (by kernel_rfl) (by kernel_rfl) (by kernel_rfl)
    · refine TS_go 5 ?_
      replace h := condO h
      rcases h with ⟨hb5, h⟩ | ⟨hb5, h⟩
      · refine TS_know 36 (b := true) hb5 (by kernel_rfl) (by kernel_rfl) ?_
        refine TS_T (by kernel_rfl) rfl ?_
        refine TS_go 6 ?_
        exact TS_meet (IntKind.wrap .i64 ((Int.tmod e2 a1) + a1)) ⟨[(5, [])], [(1000000, (1000000, []))]⟩ h (by kernel_rfl) (by kernel_rfl)
      · refine TS_know 36 (b := false) hb5 (by kernel_rfl) (by kernel_rfl) ?_
        refine TS_F (by kernel_rfl) rfl ?_
        refine TS_go 1 ?_
        exact TS_meet (Int.tmod e2 a1) ⟨[(5, [])], [(1000000, (1000000, []))]⟩ h (by kernel_rfl) (by kernel_rfl)

/-- multihop/multihopworld.Seq -/
noncomputable def F_world_Seq (a0 : S_multihopmade_Tape) : Option (Int × S_multihopmade_Tape) :=
  (F_made_Tape_Next a0 6).bind fun v1 =>
  some ((IntKind.wrap .u16 (IntKind.wrap .i64 (v1.1 - 2)), v1.2))
set_option maxRecDepth 100000 in
set_option maxHeartbeats 40000000 in
theorem ok_world_Seq (a0 : S_multihopmade_Tape) (r : Int × S_multihopmade_Tape) (h : F_world_Seq a0 = some r) : Con Try.prog 32 [.c (.box 1000000 0)] [(1000000, .box (S_multihopmade_Tape.cs a0))] (.c (.lit (.int .u16 (r.1)))) [(1000000, .box (S_multihopmade_Tape.cs r.2))] := by
  unfold F_world_Seq at h
  refine con_of [] [(1000000, [2])] 7 Try.func32 rfl rfl (by kernel_rfl) (fun K => ?_)
  refine TS_go 7 ?_
  replace h := bindO h
  obtain ⟨v1, hv1, h⟩ := h
  refine TS_con [] [] (some (1000000, 0)) (ok_made_Tape_Next a0 6 v1 hv1) (by kernel_rfl) (by kernel_rfl) (by kernel_rfl) ?_
  refine TS_go 5 ?_
  have ret := Option.some.inj h
  subst ret
  exact TS_ret (by kernel_rfl) (by kernel_rfl) (by kernel_rfl)

/-- multihop/multihopworld.EUI -/
noncomputable def F_world_EUI (a0 : S_multihopmade_Tape) : Option (Int × S_multihopmade_Tape) :=
  (F_made_Tape_Next a0 5).bind fun v1 =>
  some ((IntKind.wrap .u64 (IntKind.wrap .i64 (1 + v1.1)), v1.2))
set_option maxRecDepth 100000 in
set_option maxHeartbeats 40000000 in
theorem ok_world_EUI (a0 : S_multihopmade_Tape) (r : Int × S_multihopmade_Tape) (h : F_world_EUI a0 = some r) : Con Try.prog 33 [.c (.box 1000000 0)] [(1000000, .box (S_multihopmade_Tape.cs a0))] (.c (.lit (.int .u64 (r.1)))) [(1000000, .box (S_multihopmade_Tape.cs r.2))] := by
  unfold F_world_EUI at h
  refine con_of [] [(1000000, [2])] 7 Try.func33 rfl rfl (by kernel_rfl) (fun K => ?_)
  refine TS_go 7 ?_
  replace h := bindO h
  obtain ⟨v1, hv1, h⟩ := h
  refine TS_con [] [] (some (1000000, 0)) (ok_made_Tape_Next a0 5 v1 hv1) (by kernel_rfl) (by kernel_rfl) (by kernel_rfl) ?_
  refine TS_go 5 ?_
  have ret := Option.some.inj h
  subst ret
  exact TS_ret (by kernel_rfl) (by kernel_rfl) (by kernel_rfl)

/-- multihop/multihopworld.Cost -/
noncomputable def F_world_Cost (a0 : S_multihopmade_Tape) : Option (Int × S_multihopmade_Tape) :=
  (F_made_Tape_Next a0 6).bind fun v1 =>
  bif (v1.1 == 0) then
    (F_made_Tape_Next v1.2 4).bind fun v3 =>
    some ((v3.1, v3.2))
  else
    bif (v1.1 == 1) then
      (F_made_Tape_Next v1.2 600).bind fun v5 =>
      some ((IntKind.wrap .i64 (65534 - v5.1), v5.2))
    else
      (F_made_Tape_Next v1.2 30).bind fun v6 =>
      some ((IntKind.wrap .i64 (256 + (IntKind.wrap .i64 (32 * v6.1))), v6.2))
set_option maxRecDepth 100000 in
set_option maxHeartbeats 40000000 in
theorem ok_world_Cost (a0 : S_multihopmade_Tape) (r : Int × S_multihopmade_Tape) (h : F_world_Cost a0 = some r) : Con Try.prog 34 [.c (.box 1000000 0)] [(1000000, .box (S_multihopmade_Tape.cs a0))] (.c (.lit (.int .i64 (r.1)))) [(1000000, .box (S_multihopmade_Tape.cs r.2))] := by
  unfold F_world_Cost at h
  refine con_of [] [(1000000, [2])] 18 Try.func34 rfl rfl (by kernel_rfl) (fun K => ?_)
  refine TS_go 8 ?_
  replace h := bindO h
  obtain ⟨v1, hv1, h⟩ := h
  refine TS_con [] [] (some (1000000, 0)) (ok_made_Tape_Next a0 6 v1 hv1) (by kernel_rfl) (by kernel_rfl) (by kernel_rfl) ?_
  refine TS_go 7 ?_
  replace h := condO h
  rcases h with ⟨hb2, h⟩ | ⟨hb2, h⟩
  · refine TS_know 6 (b := true) hb2 (by kernel_rfl) (by kernel_rfl) ?_
    refine TS_know 5 (b := true) hb2 (by kernel_rfl) (by kernel_rfl) ?_
    refine TS_T (by kernel_rfl) rfl ?_
    refine TS_go 3 ?_
    replace h := bindO h
    obtain ⟨v3, hv3, h⟩ := h
    refine TS_con [] [] (some (1000000, 0)) (ok_made_Tape_Next v1.2 4 v3 hv3) (by kernel_rfl) (by kernel_rfl) (by kernel_rfl) ?_
    refine TS_go 5 ?_
    have ret := Option.some.inj h
    subst ret
    exact TS_ret (by kernel_rfl) (by kernel_rfl) (by kernel_rfl)
  · refine TS_know 6 (b := false) hb2 (by kernel_rfl) (by kernel_rfl) ?_
    refine TS_know 5 (b := false) hb2 (by kernel_rfl) (by kernel_rfl) ?_
    refine TS_F (by kernel_rfl) rfl ?_
    refine TS_go 5 ?_
    replace h := condO h
    rcases h with ⟨hb4, h⟩ | ⟨hb4, h⟩
    · refine TS_know 10 (b := true) hb4 (by kernel_rfl) (by kernel_rfl) ?_
      refine TS_know 9 (b := true) hb4 (by kernel_rfl) (by kernel_rfl) ?_
      refine TS_T (by kernel_rfl) rfl ?_
      refine TS_go 3 ?_
      replace h := bindO h
      obtain ⟨v5, hv5, h⟩ := h
      refine TS_con [] [] (some (1000000, 0)) (ok_made_Tape_Next v1.2 600 v5 hv5) (by kernel_rfl) (by kernel_rfl) (by kernel_rfl) ?_
      refine TS_go 6 ?_
      have ret := Option.some.inj h
      subst ret
      exact TS_ret (by kernel_rfl) (by kernel_rfl) (by kernel_rfl)
    · refine TS_know 10 (b := false) hb4 (by kernel_rfl) (by kernel_rfl) ?_
      refine TS_know 9 (b := false) hb4 (by kernel_rfl) (by kernel_rfl) ?_
      refine TS_F (by kernel_rfl) rfl ?_
      refine TS_go 5 ?_
      replace h := bindO h
      obtain ⟨v6, hv6, h⟩ := h
      refine TS_con [] [] (some (1000000, 0)) (ok_made_Tape_Next v1.2 30 v6 hv6) (by kernel_rfl) (by kernel_rfl) (by kernel_rfl) ?_
      refine TS_go 5 ?_
      have ret := Option.some.inj h
      subst ret
      exact TS_ret (by kernel_rfl) (by kernel_rfl) (by kernel_rfl)

/-- (*multihop/multihopmade.Tape).Bool -/
noncomputable def F_made_Tape_Bool (a0 : S_multihopmade_Tape) (a1 : Int) : Option (Bool × S_multihopmade_Tape) :=
  (F_made_Tape_Next a0 a1).bind fun v1 =>
  some (((v1.1 == (IntKind.wrap .i64 (a1 - 1))), v1.2))
set_option maxRecDepth 100000 in
set_option maxHeartbeats 40000000 in
theorem ok_made_Tape_Bool (a0 : S_multihopmade_Tape) (a1 : Int) (r : Bool × S_multihopmade_Tape) (h : F_made_Tape_Bool a0 a1 = some r) : Con Try.prog 35 [.c (.box 1000000 0), .c (.lit (.int .i64 (a1)))] [(1000000, .box (S_multihopmade_Tape.cs a0))] (.c (.lit (.bool (r.1)))) [(1000000, .box (S_multihopmade_Tape.cs r.2))] := by
  unfold F_made_Tape_Bool at h
  refine con_of [] [(1000000, [2])] 11 Try.func35 rfl rfl (by kernel_rfl) (fun K => ?_)
  refine TS_go 8 ?_
  replace h := bindO h
  obtain ⟨v1, hv1, h⟩ := h
  refine TS_con [] [] (some (1000000, 0)) (ok_made_Tape_Next a0 a1 v1 hv1) (by kernel_rfl) (by kernel_rfl) (by kernel_rfl) ?_
  refine TS_go 6 ?_
  have ret := Option.some.inj h
  subst ret
  exact TS_ret (by kernel_rfl) (by kernel_rfl) (by kernel_rfl)

/-- (*multihop/multihopmade.Tape).Word -/
noncomputable def F_made_Tape_Word (a0 : S_multihopmade_Tape) : Option (Int × S_multihopmade_Tape) :=
  (F_made_Tape_Next a0 65536).bind fun v1 =>
  (F_made_Tape_Next v1.2 5).bind fun v2 =>
  bif (v2.1 == 0) then
    some ((IntKind.wrap .u64 v1.1, v2.2))
  else
    bif (v2.1 == 1) then
      some ((IntKind.wrap .u64 ((ishl .u64 (IntKind.wrap .u64 v1.1) 48) + (IntKind.wrap .u64 v1.1)), v2.2))
    else
      bif (v2.1 == 2) then
        some ((IntKind.wrap .u64 (9223372036854775808 + (IntKind.wrap .u64 v1.1)), v2.2))
      else
        bif (v2.1 == 3) then
          some ((IntKind.wrap .u64 (18446744073709551615 - (Int.tmod (IntKind.wrap .u64 v1.1) 4)), v2.2))
        else
          some ((Int.tmod (IntKind.wrap .u64 v1.1) 4, v2.2))
set_option maxRecDepth 100000 in
set_option maxHeartbeats 40000000 in
theorem ok_made_Tape_Word (a0 : S_multihopmade_Tape) (r : Int × S_multihopmade_Tape) (h : F_made_Tape_Word a0 = some r) : Con Try.prog 36 [.c (.box 1000000 0)] [(1000000, .box (S_multihopmade_Tape.cs a0))] (.c (.lit (.int .u64 (r.1)))) [(1000000, .box (S_multihopmade_Tape.cs r.2))] := by
  unfold F_made_Tape_Word at h
  refine con_of [] [(1000000, [2])] 29 Try.func36 rfl rfl (by kernel_rfl) (fun K => ?_)
  refine TS_go 7 ?_
  replace h := bindO h
  obtain ⟨v1, hv1, h⟩ := h
  refine TS_con [] [] (some (1000000, 0)) (ok_made_Tape_Next a0 65536 v1 hv1) (by kernel_rfl) (by kernel_rfl) (by kernel_rfl) ?_
  refine TS_go 7 ?_
  replace h := bindO h
  obtain ⟨v2, hv2, h⟩ := h
  refine TS_con [] [] (some (1000000, 0)) (ok_made_Tape_Next v1.2 5 v2 hv2) (by kernel_rfl) (by kernel_rfl) (by kernel_rfl) ?_
  refine TS_go 7 ?_
  replace h := condO h
  rcases h with ⟨hb3, h⟩ | ⟨hb3, h⟩
  · refine TS_know 10 (b := true) hb3 (by kernel_rfl) (by kernel_rfl) ?_
    refine TS_know 9 (b := true) hb3 (by kernel_rfl) (by kernel_rfl) ?_
    refine TS_T (by kernel_rfl) rfl ?_
    refine TS_go 8 ?_
    have ret := Option.some.inj h
    subst ret
    exact TS_ret (by kernel_rfl) (by kernel_rfl) (by kernel_rfl)
  · refine TS_know 10 (b := false) hb3 (by kernel_rfl) (by kernel_rfl) ?_
    refine TS_know 9 (b := false) hb3 (by kernel_rfl) (by kernel_rfl) ?_
    refine TS_F (by kernel_rfl) rfl ?_
    refine TS_go 5 ?_
    replace h := condO h
    rcases h with ⟨hb4, h⟩ | ⟨hb4, h⟩
    · refine TS_know 13 (b := true) hb4 (by kernel_rfl) (by kernel_rfl) ?_
      refine TS_know 12 (b := true) hb4 (by kernel_rfl) (by kernel_rfl) ?_
      refine TS_T (by kernel_rfl) rfl ?_
      refine TS_go 11 ?_
      have ret := Option.some.inj h
      subst ret
      exact TS_ret (by kernel_rfl) (by kernel_rfl) (by kernel_rfl)
    · refine TS_know 13 (b := false) hb4 (by kernel_rfl) (by kernel_rfl) ?_
      refine TS_know 12 (b := false) hb4 (by kernel_rfl) (by kernel_rfl) ?_
      refine TS_F (by kernel_rfl) rfl ?_
      refine TS_go 5 ?_
      replace h := condO h
      rcases h with ⟨hb5, h⟩ | ⟨hb5, h⟩
      · refine TS_know 19 (b := true) hb5 (by kernel_rfl) (by kernel_rfl) ?_
        refine TS_know 18 (b := true) hb5 (by kernel_rfl) (by kernel_rfl) ?_
        refine TS_T (by kernel_rfl) rfl ?_
        refine TS_go 9 ?_
        have ret := Option.some.inj h
        subst ret
        exact TS_ret (by kernel_rfl) (by kernel_rfl) (by kernel_rfl)
      · refine TS_know 19 (b := false) hb5 (by kernel_rfl) (by kernel_rfl) ?_
        refine TS_know 18 (b := false) hb5 (by kernel_rfl) (by kernel_rfl) ?_
        refine TS_F (by kernel_rfl) rfl ?_
        refine TS_go 5 ?_
        replace h := condO h
        rcases h with ⟨hb6, h⟩ | ⟨hb6, h⟩
        · refine TS_know 23 (b := true) hb6 (by kernel_rfl) (by kernel_rfl) ?_
          refine TS_know 22 (b := true) hb6 (by kernel_rfl) (by kernel_rfl) ?_
          refine TS_T (by kernel_rfl) rfl ?_
          refine TS_go 10 ?_
          have ret := Option.some.inj h
          subst ret
          exact TS_ret (by kernel_rfl) (by kernel_rfl) (by kernel_rfl)
        · refine TS_know 23 (b := false) hb6 (by kernel_rfl) (by kernel_rfl) ?_
          refine TS_know 22 (b := false) hb6 (by kernel_rfl) (by kernel_rfl) ?_
          refine TS_F (by kernel_rfl) rfl ?_
          refine TS_go 9 ?_
          have ret := Option.some.inj h
          subst ret
          exact TS_ret (by kernel_rfl) (by kernel_rfl) (by kernel_rfl)

/-- multihop/multihopworld.IP -/
noncomputable def F_world_IP_j1  (v4 : S_multihopmade_Tape × (List Int)) : Option ((List Int) × S_multihopmade_Tape) :=
  some ((v4.2, v4.1))
noncomputable def F_world_IP (a0 : S_multihopmade_Tape) : Option ((List Int) × S_multihopmade_Tape) :=
  (F_made_Tape_Next a0 2).bind fun v1 =>
  (F_made_Tape_Next v1.2 2).bind fun v2 =>
  (F_made_Tape_Next v2.2 6).bind fun v3 =>
  (F_made_Tape_Bool v3.2 9).bind fun v5 =>
  bif v5.1 then
    (F_made_Tape_Next v5.2 16).bind fun v7 =>
    bif decide ((0 : Int) ≤ v7.1 ∧ v7.1 < (16 : Int)) then
      (F_made_Tape_Next v7.2 8).bind fun v9 =>
      bif decide (0 ≤ (IntKind.wrap .u64 v9.1)) then
        bif decide ((0 : Int) ≤ v7.1 ∧ v7.1 < (16 : Int)) then
          (F_world_IP_j1) (v9.2, (setA 16 [32, 1, 13, 184, 0, IntKind.wrap .u8 v1.1, IntKind.wrap .u8 v2.1, 0, 0, 0, 0, 0, 0, 0, 0, IntKind.wrap .u8 v3.1] (Int.toNat v7.1) (ixor .u8 (List.getD [32, 1, 13, 184, 0, IntKind.wrap .u8 v1.1, IntKind.wrap .u8 v2.1, 0, 0, 0, 0, 0, 0, 0, 0, IntKind.wrap .u8 v3.1] (Int.toNat v7.1) 0) (ishl .u8 1 (IntKind.wrap .u64 v9.1)))))
        else none
      else none
    else none
  else
    (F_world_IP_j1) (v5.2, [32, 1, 13, 184, 0, IntKind.wrap .u8 v1.1, IntKind.wrap .u8 v2.1, 0, 0, 0, 0, 0, 0, 0, 0, IntKind.wrap .u8 v3.1])
set_option maxRecDepth 100000 in
set_option maxHeartbeats 40000000 in
theorem ok_world_IP (a0 : S_multihopmade_Tape) (r : (List Int) × S_multihopmade_Tape) (h : F_world_IP a0 = some r) : Con Try.prog 56 [.c (.box 1000000 0)] [(1000000, .box (S_multihopmade_Tape.cs a0))] (.agg (arrS .u8 16 r.1)) [(1000000, .box (S_multihopmade_Tape.cs r.2))] := by
  unfold F_world_IP at h
  refine con_of [] [(1000000, [2])] 28 Try.func56 rfl rfl (by kernel_rfl) (fun K => ?_)
  refine TS_go 7 ?_
  replace h := bindO h
  obtain ⟨v1, hv1, h⟩ := h
  refine TS_con [] [] (some (1000000, 0)) (ok_made_Tape_Next a0 2 v1 hv1) (by kernel_rfl) (by kernel_rfl) (by kernel_rfl) ?_
  refine TS_go 2 ?_
  replace h := bindO h
  obtain ⟨v2, hv2, h⟩ := h
  refine TS_con [] [] (some (1000000, 0)) (ok_made_Tape_Next v1.2 2 v2 hv2) (by kernel_rfl) (by kernel_rfl) (by kernel_rfl) ?_
  refine TS_go 8 ?_
  replace h := bindO h
  obtain ⟨v3, hv3, h⟩ := h
  refine TS_con [] [] (some (1000000, 0)) (ok_made_Tape_Next v2.2 6 v3 hv3) (by kernel_rfl) (by kernel_rfl) (by kernel_rfl) ?_
  refine TS_go 4 ?_
  refine TS_cut ⟨[(0, []), (2, []), (3, [])], [(1000000, (1000000, [])), (2, (2, [])), (3, (3, []))]⟩ (.mk [.code (codeAt [1, 1, 1] (bodyOf Try.f56))] .normal ⟨[(0, .c (.box 1000000 0)), (2, .c (.box 2 0)), (3, .c (.box 3 0))], [(1000000, .box [.slc 1 0 (List.length v3.2.l) (List.map (ecI .i64) v3.2.l), .lit (.int .i64 (v3.2.at_))]), (2, .box [.lit (.int .u8 (0)), .lit (.int .u8 (0)), .lit (.int .u8 (0)), .lit (.int .u8 (0)), .lit (.int .u8 (0)), .lit (.int .u8 (0)), .lit (.int .u8 (0)), .lit (.int .u8 (0)), .lit (.int .u8 (0)), .lit (.int .u8 (0)), .lit (.int .u8 (0)), .lit (.int .u8 (0)), .lit (.int .u8 (0)), .lit (.int .u8 (0)), .lit (.int .u8 (0)), .lit (.int .u8 (0))]), (3, .box [.lit (.int .u8 (32)), .lit (.int .u8 (1)), .lit (.int .u8 (13)), .lit (.int .u8 (184)), .lit (.int .u8 (0)), .lit (.int .u8 (IntKind.wrap .u8 v1.1)), .lit (.int .u8 (IntKind.wrap .u8 v2.1)), .lit (.int .u8 (0)), .lit (.int .u8 (0)), .lit (.int .u8 (0)), .lit (.int .u8 (0)), .lit (.int .u8 (0)), .lit (.int .u8 (0)), .lit (.int .u8 (0)), .lit (.int .u8 (0)), .lit (.int .u8 (IntKind.wrap .u8 v3.1))])]⟩) (by kernel_rfl) (by kernel_rfl) ?_
  refine TS_joinB ⟨[(2, []), (3, [])], [(1000000, (1000000, [])), (2, (2, [])), (3, (3, []))]⟩ (fun (v4 : S_multihopmade_Tape × (List Int)) => []) (fun (v4 : S_multihopmade_Tape × (List Int)) => [(1000000, .box (S_multihopmade_Tape.cs v4.1)), (3, .box (arrS .u8 16 v4.2))]) (F_world_IP_j1) r ?_ ?_
  · clear h
    intro v4 h
    unfold F_world_IP_j1 at h
    refine TS_go 6 ?_
    have ret := Option.some.inj h
    subst ret
    exact TS_ret (by kernel_rfl) (by kernel_rfl) (by kernel_rfl)
  · refine TS_go 3 ?_
    replace h := bindO h
    obtain ⟨v5, hv5, h⟩ := h
    refine TS_con [] [] (some (1000000, 0)) (ok_made_Tape_Bool v3.2 9 v5 hv5) (by kernel_rfl) (by kernel_rfl) (by kernel_rfl) ?_
    refine TS_go 1 ?_
    replace h := condO h
    rcases h with ⟨hb6, h⟩ | ⟨hb6, h⟩
    · refine TS_know 16 (b := true) hb6 (by kernel_rfl) (by kernel_rfl) ?_
      refine TS_T (by kernel_rfl) rfl ?_
      refine TS_draw (by kernel_rfl) ?_
      refine TD_go 1 ?_
      replace h := bindO h
      obtain ⟨v7, hv7, h⟩ := h
      refine TD_con (_h := []) (_h' := []) [] 1000000 0 [.slc 1 0 (List.length v5.2.l) (List.map (ecI .i64) v5.2.l), .lit (.int .i64 (v5.2.at_))] _ _ (ok_made_Tape_Next v5.2 16 v7 hv7) (by kernel_rfl) (by kernel_rfl) (by kernel_rfl) (by kernel_rfl) ?_
      replace h := chkO h
      obtain ⟨hc8, h⟩ := h
      refine TD_idxA 3 0 16 (i := v7.1) hc8 (by kernel_rfl) (by kernel_rfl) ?_
      refine TD_ldA .u8 0 16 (i := v7.1) [32, 1, 13, 184, 0, IntKind.wrap .u8 v1.1, IntKind.wrap .u8 v2.1, 0, 0, 0, 0, 0, 0, 0, 0, IntKind.wrap .u8 v3.1] hc8 (by kernel_rfl) (by kernel_rfl) ?_
      refine TD_go 1 ?_
      replace h := bindO h
      obtain ⟨v9, hv9, h⟩ := h
      refine TD_con (_h := []) (_h' := []) [] 1000000 0 [.slc 1 0 (List.length v7.2.l) (List.map (ecI .i64) v7.2.l), .lit (.int .i64 (v7.2.at_))] _ _ (ok_made_Tape_Next v7.2 8 v9 hv9) (by kernel_rfl) (by kernel_rfl) (by kernel_rfl) (by kernel_rfl) ?_
      refine TD_go 1 ?_
      replace h := chkO h
      obtain ⟨hc10, h⟩ := h
      refine TD_num (op := .shl) (k := .u8) (k' := .u64) (m := 1) (i := IntKind.wrap .u64 v9.1) (of_decide_eq_true hc10) rfl (by simp) (by kernel_rfl) (by kernel_rfl) ?_
      refine TD_go 1 ?_
      replace h := chkO h
      obtain ⟨hc11, h⟩ := h
      refine TD_idxA 3 0 16 (i := v7.1) hc11 (by kernel_rfl) (by kernel_rfl) ?_
      refine TD_stA (k := .u8) (d := 3) 0 16 (i := v7.1) (v := ixor .u8 (List.getD [32, 1, 13, 184, 0, IntKind.wrap .u8 v1.1, IntKind.wrap .u8 v2.1, 0, 0, 0, 0, 0, 0, 0, 0, IntKind.wrap .u8 v3.1] (Int.toNat v7.1) 0) (ishl .u8 1 (IntKind.wrap .u64 v9.1))) [32, 1, 13, 184, 0, IntKind.wrap .u8 v1.1, IntKind.wrap .u8 v2.1, 0, 0, 0, 0, 0, 0, 0, 0, IntKind.wrap .u8 v3.1] (pre := []) (post := []) hc11 (by kernel_rfl) (by kernel_rfl) (by kernel_rfl) ?_
      refine TD_end (by kernel_rfl) ?_
      exact TS_meet (v9.2, (setA 16 [32, 1, 13, 184, 0, IntKind.wrap .u8 v1.1, IntKind.wrap .u8 v2.1, 0, 0, 0, 0, 0, 0, 0, 0, IntKind.wrap .u8 v3.1] (Int.toNat v7.1) (ixor .u8 (List.getD [32, 1, 13, 184, 0, IntKind.wrap .u8 v1.1, IntKind.wrap .u8 v2.1, 0, 0, 0, 0, 0, 0, 0, 0, IntKind.wrap .u8 v3.1] (Int.toNat v7.1) 0) (ishl .u8 1 (IntKind.wrap .u64 v9.1))))) ⟨[(2, []), (3, [])], [(1000000, (1000000, [])), (2, (2, [])), (3, (3, []))]⟩ h (by kernel_rfl) (by kernel_rfl)
    · refine TS_know 16 (b := false) hb6 (by kernel_rfl) (by kernel_rfl) ?_
      refine TS_F (by kernel_rfl) rfl ?_
      refine TS_go 1 ?_
      exact TS_meet (v5.2, [32, 1, 13, 184, 0, IntKind.wrap .u8 v1.1, IntKind.wrap .u8 v2.1, 0, 0, 0, 0, 0, 0, 0, 0, IntKind.wrap .u8 v3.1]) ⟨[(2, []), (3, [])], [(1000000, (1000000, [])), (2, (2, [])), (3, (3, []))]⟩ h (by kernel_rfl) (by kernel_rfl)

/-- multihop/multihopref04.bit -/
noncomputable def F_ref04_bit (a0 : List Int) (a1 : Int) : Option (Int) :=
  bif decide ((0 : Int) ≤ (iquo .i64 a1 8) ∧ (iquo .i64 a1 8) < (16 : Int)) then
    bif decide (0 ≤ (IntKind.wrap .u64 (7 - (IntKind.wrap .u64 (Int.tmod a1 8))))) then
      some (iand .u8 (ishr .u8 (List.getD a0 (Int.toNat (iquo .i64 a1 8)) 0) (IntKind.wrap .u64 (7 - (IntKind.wrap .u64 (Int.tmod a1 8))))) 1)
    else none
  else none
set_option maxRecDepth 100000 in
set_option maxHeartbeats 40000000 in
theorem ok_ref04_bit (a0 : List Int) (a1 : Int) (r : Int) (h : F_ref04_bit a0 a1 = some r) : Con Try.prog 59 [.agg (arrS .u8 16 a0), .c (.lit (.int .i64 (a1)))] [] (.c (.lit (.int .u8 (r)))) [] := by
  unfold F_ref04_bit at h
  refine con_of [] [] 15 Try.func59 rfl rfl (by kernel_rfl) (fun K => ?_)
  refine TS_go 9 ?_
  replace h := chkO h
  obtain ⟨hc1, h⟩ := h
  refine TS_idxA 2 0 16 (i := iquo .i64 a1 8) hc1 (by kernel_rfl) (by kernel_rfl) ?_
  refine TS_ldA .u8 0 16 (i := iquo .i64 a1 8) a0 hc1 (by kernel_rfl) (by kernel_rfl) ?_
  refine TS_go 4 ?_
  replace h := chkO h
  obtain ⟨hc2, h⟩ := h
  refine TS_num (op := .shr) (k := .u8) (k' := .u64) (m := (List.getD a0 (Int.toNat (iquo .i64 a1 8)) 0)) (i := IntKind.wrap .u64 (7 - (IntKind.wrap .u64 (Int.tmod a1 8)))) (of_decide_eq_true hc2) rfl (by simp) (by kernel_rfl) (by kernel_rfl) ?_
  refine TS_go 4 ?_
  have ret := Option.some.inj h
  subst ret
  exact TS_ret (by kernel_rfl) (by kernel_rfl) (by kernel_rfl)

/-- multihop/multihopref04.Mask -/
noncomputable def F_ref04_Mask_l1 (a1 : Int) (a0 : List Int) (s1 : Int × S_Prefix) : Option ((Int × S_Prefix) ⊕ (S_Prefix)) :=
  bif (decide (s1.1 < (if 128 < if a1 < 0 then 0 else a1 then 128 else if a1 < 0 then 0 else a1))) then
    bif decide ((0 : Int) ≤ (iquo .i64 s1.1 8) ∧ (iquo .i64 s1.1 8) < (16 : Int)) then
      (F_ref04_bit a0 s1.1).bind fun v6 =>
      bif decide (0 ≤ (IntKind.wrap .u64 (7 - (IntKind.wrap .u64 (Int.tmod s1.1 8))))) then
        bif decide ((0 : Int) ≤ (iquo .i64 s1.1 8) ∧ (iquo .i64 s1.1 8) < (16 : Int)) then
          some (Sum.inl (IntKind.wrap .i64 (s1.1 + 1), (S_Prefix.mk (setA 16 s1.2.IP (Int.toNat (iquo .i64 s1.1 8)) (ior .u8 (List.getD s1.2.IP (Int.toNat (iquo .i64 s1.1 8)) 0) (ishl .u8 v6 (IntKind.wrap .u64 (7 - (IntKind.wrap .u64 (Int.tmod s1.1 8))))))) s1.2.Bits)))
        else none
      else none
    else none
  else
    some (Sum.inr s1.2)
noncomputable def F_ref04_Mask (a0 : List Int) (a1 : Int) : Option (S_Prefix) :=
  (loopO (F_ref04_Mask_l1 a1 a0) (0, (S_Prefix.mk [0, 0, 0, 0, 0, 0, 0, 0, 0, 0, 0, 0, 0, 0, 0, 0] (if 128 < if a1 < 0 then 0 else a1 then 128 else if a1 < 0 then 0 else a1)))).bind fun b2 =>
  some (b2)
set_option maxRecDepth 100000 in
set_option maxHeartbeats 40000000 in
theorem ok_ref04_Mask (a0 : List Int) (a1 : Int) (r : S_Prefix) (h : F_ref04_Mask a0 a1 = some r) : Con Try.prog 55 [.agg (arrS .u8 16 a0), .c (.lit (.int .i64 (a1)))] [] (.agg (S_Prefix.cs r)) [] := by
  unfold F_ref04_Mask at h
  refine con_of [] [] 34 Try.func55 rfl rfl (by kernel_rfl) (fun K => ?_)
  refine TS_go 25 ?_
  refine TS_cut ⟨[(1, []), (2, []), (4, []), (5, []), (6, [])], [(2, (2, [])), (4, (4, [])), (5, (5, []))]⟩ (.mk [.code (codeAt [1, 1, 1, 0, 1, 0] (bodyOf Try.f55)), .blk 0, .code (codeAt [1, 1, 1, 1] (bodyOf Try.f55))] .normal ⟨[(1, .c (.lit (.int .i64 (if 128 < if a1 < 0 then 0 else a1 then 128 else if a1 < 0 then 0 else a1)))), (2, .c (.box 2 0)), (4, .c (.box 4 0)), (5, .c (.box 5 0)), (6, .c (.lit (.int .i64 (0))))], [(2, .box [.lit (.int .u8 ((a0.getD 0 0))), .lit (.int .u8 ((a0.getD 1 0))), .lit (.int .u8 ((a0.getD 2 0))), .lit (.int .u8 ((a0.getD 3 0))), .lit (.int .u8 ((a0.getD 4 0))), .lit (.int .u8 ((a0.getD 5 0))), .lit (.int .u8 ((a0.getD 6 0))), .lit (.int .u8 ((a0.getD 7 0))), .lit (.int .u8 ((a0.getD 8 0))), .lit (.int .u8 ((a0.getD 9 0))), .lit (.int .u8 ((a0.getD 10 0))), .lit (.int .u8 ((a0.getD 11 0))), .lit (.int .u8 ((a0.getD 12 0))), .lit (.int .u8 ((a0.getD 13 0))), .lit (.int .u8 ((a0.getD 14 0))), .lit (.int .u8 ((a0.getD 15 0)))]), (4, .box [.lit (.int .u8 (0)), .lit (.int .u8 (0)), .lit (.int .u8 (0)), .lit (.int .u8 (0)), .lit (.int .u8 (0)), .lit (.int .u8 (0)), .lit (.int .u8 (0)), .lit (.int .u8 (0)), .lit (.int .u8 (0)), .lit (.int .u8 (0)), .lit (.int .u8 (0)), .lit (.int .u8 (0)), .lit (.int .u8 (0)), .lit (.int .u8 (0)), .lit (.int .u8 (0)), .lit (.int .u8 (0)), .lit (.int .i64 (0))]), (5, .box [.lit (.int .u8 (0)), .lit (.int .u8 (0)), .lit (.int .u8 (0)), .lit (.int .u8 (0)), .lit (.int .u8 (0)), .lit (.int .u8 (0)), .lit (.int .u8 (0)), .lit (.int .u8 (0)), .lit (.int .u8 (0)), .lit (.int .u8 (0)), .lit (.int .u8 (0)), .lit (.int .u8 (0)), .lit (.int .u8 (0)), .lit (.int .u8 (0)), .lit (.int .u8 (0)), .lit (.int .u8 (0)), .lit (.int .i64 (if 128 < if a1 < 0 then 0 else a1 then 128 else if a1 < 0 then 0 else a1))])]⟩) (by kernel_rfl) (by kernel_rfl) ?_
  replace h := bindO h
  obtain ⟨y3, hl1, hK1⟩ := h
  refine TS_loopB (F_ref04_Mask_l1 a1 a0) ⟨[(1, []), (2, []), (4, []), (5, []), (6, [])], [(2, (2, [])), (4, (4, [])), (5, (5, []))]⟩ (fun (s1 : Int × S_Prefix) => [(6, .c (.lit (.int .i64 (s1.1))))]) (fun (s1 : Int × S_Prefix) => [(5, .box (S_Prefix.cs s1.2))]) (0, (S_Prefix.mk [0, 0, 0, 0, 0, 0, 0, 0, 0, 0, 0, 0, 0, 0, 0, 0] (if 128 < if a1 < 0 then 0 else a1 then 128 else if a1 < 0 then 0 else a1))) y3 (.exit 0) (fun (b : S_Prefix) => b) ⟨[(4, []), (5, [])], [(4, (4, [])), (5, (5, []))]⟩ (fun (b2 : S_Prefix) => []) (fun (b2 : S_Prefix) => [(5, .box (S_Prefix.cs b2))]) hl1 (by kernel_rfl) (by kernel_rfl) ?_ ?_
  · intro s1 x h hy1
    unfold F_ref04_Mask_l1 at h
    refine TS_go 7 ?_
    replace h := condO h
    rcases h with ⟨hb4, h⟩ | ⟨hb4, h⟩
    · refine TS_know 14 (b := true) hb4 (by kernel_rfl) (by kernel_rfl) ?_
      refine TS_T (by kernel_rfl) rfl ?_
      refine TS_go 3 ?_
      refine TS_draw (by kernel_rfl) ?_
      refine TD_go 3 ?_
      replace h := chkO h
      obtain ⟨hc5, h⟩ := h
      refine TD_idxA 5 0 16 (i := iquo .i64 s1.1 8) hc5 (by kernel_rfl) (by kernel_rfl) ?_
      refine TD_ldA .u8 0 16 (i := iquo .i64 s1.1 8) s1.2.IP hc5 (by kernel_rfl) (by kernel_rfl) ?_
      refine TD_go 2 ?_
      replace h := bindO h
      obtain ⟨v6, hv6, h⟩ := h
      refine TD_call [] (ok_ref04_bit a0 s1.1 v6 hv6) (by kernel_rfl) (by kernel_rfl) ?_
      refine TD_go 4 ?_
      replace h := chkO h
      obtain ⟨hc7, h⟩ := h
      refine TD_num (op := .shl) (k := .u8) (k' := .u64) (m := v6) (i := IntKind.wrap .u64 (7 - (IntKind.wrap .u64 (Int.tmod s1.1 8)))) (of_decide_eq_true hc7) rfl (by simp) (by kernel_rfl) (by kernel_rfl) ?_
      refine TD_go 2 ?_
      replace h := chkO h
      obtain ⟨hc8, h⟩ := h
      refine TD_idxA 5 0 16 (i := iquo .i64 s1.1 8) hc8 (by kernel_rfl) (by kernel_rfl) ?_
      refine TD_stA (k := .u8) (d := 5) 0 16 (i := iquo .i64 s1.1 8) (v := ior .u8 (List.getD s1.2.IP (Int.toNat (iquo .i64 s1.1 8)) 0) (ishl .u8 v6 (IntKind.wrap .u64 (7 - (IntKind.wrap .u64 (Int.tmod s1.1 8)))))) s1.2.IP (pre := []) (post := [.lit (.int .i64 (s1.2.Bits))]) hc8 (by kernel_rfl) (by kernel_rfl) (by kernel_rfl) ?_
      refine TD_end (by kernel_rfl) ?_
      refine TS_go 6 ?_
      have ret := Option.some.inj h
      subst ret
      exact TS_againB _ ⟨[(1, []), (2, []), (4, []), (5, []), (6, [])], [(2, (2, [])), (4, (4, [])), (5, (5, []))]⟩ rfl (by kernel_rfl) (by kernel_rfl)
    · refine TS_know 14 (b := false) hb4 (by kernel_rfl) (by kernel_rfl) ?_
      refine TS_F (by kernel_rfl) rfl ?_
      refine TS_go 2 ?_
      have ret := Option.some.inj h
      subst ret
      exact TS_brkB s1.2 ⟨[(4, []), (5, [])], [(4, (4, [])), (5, (5, []))]⟩ rfl (by kernel_rfl) (by kernel_rfl) (by kernel_rfl)
  · intro b2 hb
    subst y3
    have h := hK1
    refine TS_go 7 ?_
    have ret := Option.some.inj h
    subst ret
    exact TS_ret (by kernel_rfl) (by kernel_rfl) (by kernel_rfl)

/-- multihop/multihopworld.Prefix -/
noncomputable def F_world_Prefix_j1  (v3 : Int × S_multihopmade_Tape) : Option (S_Prefix × S_multihopmade_Tape) :=
  (F_world_IP v3.2).bind fun v4 =>
  (F_ref04_Mask v4.1 v3.1).bind fun v5 =>
  some ((v5, v4.2))
noncomputable def F_world_Prefix (a0 : S_multihopmade_Tape) : Option (S_Prefix × S_multihopmade_Tape) :=
  (F_made_Tape_Next a0 10).bind fun v1 =>
  (idx ([128, 128, 64, 56, 48, 32, 0, 127, 3, 60] : List Int) v1.1).bind fun e2 =>
  (F_made_Tape_Bool v1.2 7).bind fun v6 =>
  bif v6.1 then
    (F_made_Tape_Next v6.2 129).bind fun v8 =>
    (F_world_Prefix_j1) (v8.1, v8.2)
  else
    (F_world_Prefix_j1) (e2, v6.2)
set_option maxRecDepth 100000 in
set_option maxHeartbeats 40000000 in
theorem ok_world_Prefix (a0 : S_multihopmade_Tape) (r : S_Prefix × S_multihopmade_Tape) (h : F_world_Prefix a0 = some r) : Con Try.prog 57 [.c (.box 1000000 0)] [(1000000, .box (S_multihopmade_Tape.cs a0))] (.agg (S_Prefix.cs r.1)) [(1000000, .box (S_multihopmade_Tape.cs r.2))] := by
  unfold F_world_Prefix at h
  refine con_of [] [(1000000, [2])] 17 Try.func57 rfl rfl (by kernel_rfl) (fun K => ?_)
  refine TS_go 6 ?_
  refine TS_litNT 4 3 1 (ecI .i64) [] ([128, 128, 64, 56, 48, 32, 0, 127, 3, 60] : List Int) (by kernel_rfl) (by kernel_rfl) ?_
  refine TS_go 1 ?_
  replace h := bindO h
  obtain ⟨v1, hv1, h⟩ := h
  refine TS_con [] [] (some (1000000, 0)) (ok_made_Tape_Next a0 10 v1 hv1) (by kernel_rfl) (by kernel_rfl) (by kernel_rfl) ?_
  replace h := bindO h
  obtain ⟨e2, he2, h⟩ := h
  refine TS_idx (ecI .i64) he2 (by kernel_rfl) (by kernel_rfl) ?_
  refine TS_go 3 ?_
  refine TS_cut ⟨[(0, []), (2, []), (3, [])], [(1000000, (1000000, [])), (2, (2, []))]⟩ (.mk [.code (codeAt [1, 1] (bodyOf Try.f57))] .normal ⟨[(0, .c (.box 1000000 0)), (2, .c (.box 2 0)), (3, .c (.lit (.int .i64 (e2))))], [(1000000, .box [.slc 1 0 (List.length v1.2.l) (List.map (ecI .i64) v1.2.l), .lit (.int .i64 (v1.2.at_))]), (2, .box [.lit (.int .u8 (0)), .lit (.int .u8 (0)), .lit (.int .u8 (0)), .lit (.int .u8 (0)), .lit (.int .u8 (0)), .lit (.int .u8 (0)), .lit (.int .u8 (0)), .lit (.int .u8 (0)), .lit (.int .u8 (0)), .lit (.int .u8 (0)), .lit (.int .u8 (0)), .lit (.int .u8 (0)), .lit (.int .u8 (0)), .lit (.int .u8 (0)), .lit (.int .u8 (0)), .lit (.int .u8 (0)), .lit (.int .i64 (0))])]⟩) (by kernel_rfl) (by kernel_rfl) ?_
  refine TS_joinB ⟨[(0, []), (2, []), (3, [])], [(1000000, (1000000, [])), (2, (2, []))]⟩ (fun (v3 : Int × S_multihopmade_Tape) => [(3, .c (.lit (.int .i64 (v3.1))))]) (fun (v3 : Int × S_multihopmade_Tape) => [(1000000, .box (S_multihopmade_Tape.cs v3.2))]) (F_world_Prefix_j1) r ?_ ?_
  · clear h
    intro v3 h
    unfold F_world_Prefix_j1 at h
    refine TS_go 3 ?_
    replace h := bindO h
    obtain ⟨v4, hv4, h⟩ := h
    refine TS_con [] [] (some (1000000, 0)) (ok_world_IP v3.2 v4 hv4) (by kernel_rfl) (by kernel_rfl) (by kernel_rfl) ?_
    refine TS_go 1 ?_
    replace h := bindO h
    obtain ⟨v5, hv5, h⟩ := h
    refine TS_call [] (ok_ref04_Mask v4.1 v3.1 v5 hv5) (by kernel_rfl) (by kernel_rfl) ?_
    refine TS_go 3 ?_
    have ret := Option.some.inj h
    subst ret
    exact TS_ret (by kernel_rfl) (by kernel_rfl) (by kernel_rfl)
  · refine TS_go 3 ?_
    replace h := bindO h
    obtain ⟨v6, hv6, h⟩ := h
    refine TS_con [] [] (some (1000000, 0)) (ok_made_Tape_Bool v1.2 7 v6 hv6) (by kernel_rfl) (by kernel_rfl) (by kernel_rfl) ?_
    refine TS_go 1 ?_
    replace h := condO h
    rcases h with ⟨hb7, h⟩ | ⟨hb7, h⟩
    · refine TS_know 10 (b := true) hb7 (by kernel_rfl) (by kernel_rfl) ?_
      refine TS_T (by kernel_rfl) rfl ?_
      refine TS_go 2 ?_
      replace h := bindO h
      obtain ⟨v8, hv8, h⟩ := h
      refine TS_con [] [] (some (1000000, 0)) (ok_made_Tape_Next v6.2 129 v8 hv8) (by kernel_rfl) (by kernel_rfl) (by kernel_rfl) ?_
      refine TS_go 2 ?_
      exact TS_meet (v8.1, v8.2) ⟨[(0, []), (2, []), (3, [])], [(1000000, (1000000, [])), (2, (2, []))]⟩ h (by kernel_rfl) (by kernel_rfl)
    · refine TS_know 10 (b := false) hb7 (by kernel_rfl) (by kernel_rfl) ?_
      refine TS_F (by kernel_rfl) rfl ?_
      refine TS_go 1 ?_
      exact TS_meet (e2, v6.2) ⟨[(0, []), (2, []), (3, [])], [(1000000, (1000000, [])), (2, (2, []))]⟩ h (by kernel_rfl) (by kernel_rfl)

/-- multihop/multihopworld.To -/
noncomputable def F_world_To_j1  (v6 : S_multihopmade_Tape × S_Destination) : Option (S_Destination × S_multihopmade_Tape) :=
  some ((v6.2, v6.1))
noncomputable def F_world_To (a0 : S_multihopmade_Tape) : Option (S_Destination × S_multihopmade_Tape) :=
  (F_world_IP a0).bind fun v1 =>
  (F_made_Tape_Next v1.2 4).bind fun v2 =>
  (idx ([128, 128, 64, 0] : List Int) v2.1).bind fun e3 =>
  (F_ref04_Mask v1.1 e3).bind fun v4 =>
  (F_world_EUI v2.2).bind fun v5 =>
  (F_made_Tape_Bool v5.2 3).bind fun v7 =>
  bif v7.1 then
    (F_world_Prefix v7.2).bind fun v9 =>
    (F_world_To_j1) (v9.2, (S_Destination.mk v4 v9.1 v5.1))
  else
    (F_world_To_j1) (v7.2, (S_Destination.mk v4 (S_Prefix.mk [0, 0, 0, 0, 0, 0, 0, 0, 0, 0, 0, 0, 0, 0, 0, 0] 0) v5.1))
set_option maxRecDepth 100000 in
set_option maxHeartbeats 40000000 in
theorem ok_world_To (a0 : S_multihopmade_Tape) (r : S_Destination × S_multihopmade_Tape) (h : F_world_To a0 = some r) : Con Try.prog 37 [.c (.box 1000000 0)] [(1000000, .box (S_multihopmade_Tape.cs a0))] (.agg (S_Destination.cs r.1)) [(1000000, .box (S_multihopmade_Tape.cs r.2))] := by
  unfold F_world_To at h
  refine con_of [] [(1000000, [2])] 21 Try.func37 rfl rfl (by kernel_rfl) (fun K => ?_)
  refine TS_go 7 ?_
  replace h := bindO h
  obtain ⟨v1, hv1, h⟩ := h
  refine TS_con [] [] (some (1000000, 0)) (ok_world_IP a0 v1 hv1) (by kernel_rfl) (by kernel_rfl) (by kernel_rfl) ?_
  refine TS_litNT 6 3 1 (ecI .i64) [] ([128, 128, 64, 0] : List Int) (by kernel_rfl) (by kernel_rfl) ?_
  refine TS_go 1 ?_
  replace h := bindO h
  obtain ⟨v2, hv2, h⟩ := h
  refine TS_con [] [] (some (1000000, 0)) (ok_made_Tape_Next v1.2 4 v2 hv2) (by kernel_rfl) (by kernel_rfl) (by kernel_rfl) ?_
  replace h := bindO h
  obtain ⟨e3, he3, h⟩ := h
  refine TS_idx (ecI .i64) he3 (by kernel_rfl) (by kernel_rfl) ?_
  refine TS_go 1 ?_
  replace h := bindO h
  obtain ⟨v4, hv4, h⟩ := h
  refine TS_call [] (ok_ref04_Mask v1.1 e3 v4 hv4) (by kernel_rfl) (by kernel_rfl) ?_
  refine TS_go 1 ?_
  replace h := bindO h
  obtain ⟨v5, hv5, h⟩ := h
  refine TS_con [] [] (some (1000000, 0)) (ok_world_EUI v2.2 v5 hv5) (by kernel_rfl) (by kernel_rfl) (by kernel_rfl) ?_
  refine TS_go 4 ?_
  refine TS_cut ⟨[(0, []), (2, []), (3, [])], [(1000000, (1000000, [])), (2, (2, [])), (3, (3, []))]⟩ (.mk [.code (codeAt [1, 1] (bodyOf Try.f37))] .normal ⟨[(0, .c (.box 1000000 0)), (2, .c (.box 2 0)), (3, .c (.box 3 0))], [(1000000, .box [.slc 1 0 (List.length v5.2.l) (List.map (ecI .i64) v5.2.l), .lit (.int .i64 (v5.2.at_))]), (2, .box [.lit (.int .u8 (0)), .lit (.int .u8 (0)), .lit (.int .u8 (0)), .lit (.int .u8 (0)), .lit (.int .u8 (0)), .lit (.int .u8 (0)), .lit (.int .u8 (0)), .lit (.int .u8 (0)), .lit (.int .u8 (0)), .lit (.int .u8 (0)), .lit (.int .u8 (0)), .lit (.int .u8 (0)), .lit (.int .u8 (0)), .lit (.int .u8 (0)), .lit (.int .u8 (0)), .lit (.int .u8 (0)), .lit (.int .i64 (0)), .lit (.int .u8 (0)), .lit (.int .u8 (0)), .lit (.int .u8 (0)), .lit (.int .u8 (0)), .lit (.int .u8 (0)), .lit (.int .u8 (0)), .lit (.int .u8 (0)), .lit (.int .u8 (0)), .lit (.int .u8 (0)), .lit (.int .u8 (0)), .lit (.int .u8 (0)), .lit (.int .u8 (0)), .lit (.int .u8 (0)), .lit (.int .u8 (0)), .lit (.int .u8 (0)), .lit (.int .u8 (0)), .lit (.int .i64 (0)), .lit (.int .u64 (0))]), (3, .box [.lit (.int .u8 ((v4.IP.getD 0 0))), .lit (.int .u8 ((v4.IP.getD 1 0))), .lit (.int .u8 ((v4.IP.getD 2 0))), .lit (.int .u8 ((v4.IP.getD 3 0))), .lit (.int .u8 ((v4.IP.getD 4 0))), .lit (.int .u8 ((v4.IP.getD 5 0))), .lit (.int .u8 ((v4.IP.getD 6 0))), .lit (.int .u8 ((v4.IP.getD 7 0))), .lit (.int .u8 ((v4.IP.getD 8 0))), .lit (.int .u8 ((v4.IP.getD 9 0))), .lit (.int .u8 ((v4.IP.getD 10 0))), .lit (.int .u8 ((v4.IP.getD 11 0))), .lit (.int .u8 ((v4.IP.getD 12 0))), .lit (.int .u8 ((v4.IP.getD 13 0))), .lit (.int .u8 ((v4.IP.getD 14 0))), .lit (.int .u8 ((v4.IP.getD 15 0))), .lit (.int .i64 (v4.Bits)), .lit (.int .u8 (0)), .lit (.int .u8 (0)), .lit (.int .u8 (0)), .lit (.int .u8 (0)), .lit (.int .u8 (0)), .lit (.int .u8 (0)), .lit (.int .u8 (0)), .lit (.int .u8 (0)), .lit (.int .u8 (0)), .lit (.int .u8 (0)), .lit (.int .u8 (0)), .lit (.int .u8 (0)), .lit (.int .u8 (0)), .lit (.int .u8 (0)), .lit (.int .u8 (0)), .lit (.int .u8 (0)), .lit (.int .i64 (0)), .lit (.int .u64 (v5.1))])]⟩) (by kernel_rfl) (by kernel_rfl) ?_
  refine TS_joinB ⟨[(2, []), (3, [])], [(1000000, (1000000, [])), (2, (2, [])), (3, (3, []))]⟩ (fun (v6 : S_multihopmade_Tape × S_Destination) => []) (fun (v6 : S_multihopmade_Tape × S_Destination) => [(1000000, .box (S_multihopmade_Tape.cs v6.1)), (3, .box (S_Destination.cs v6.2))]) (F_world_To_j1) r ?_ ?_
  · clear h
    intro v6 h
    unfold F_world_To_j1 at h
    refine TS_go 6 ?_
    have ret := Option.some.inj h
    subst ret
    exact TS_ret (by kernel_rfl) (by kernel_rfl) (by kernel_rfl)
  · refine TS_go 3 ?_
    replace h := bindO h
    obtain ⟨v7, hv7, h⟩ := h
    refine TS_con [] [] (some (1000000, 0)) (ok_made_Tape_Bool v5.2 3 v7 hv7) (by kernel_rfl) (by kernel_rfl) (by kernel_rfl) ?_
    refine TS_go 1 ?_
    replace h := condO h
    rcases h with ⟨hb8, h⟩ | ⟨hb8, h⟩
    · refine TS_know 16 (b := true) hb8 (by kernel_rfl) (by kernel_rfl) ?_
      refine TS_T (by kernel_rfl) rfl ?_
      refine TS_go 2 ?_
      replace h := bindO h
      obtain ⟨v9, hv9, h⟩ := h
      refine TS_con [] [] (some (1000000, 0)) (ok_world_Prefix v7.2 v9 hv9) (by kernel_rfl) (by kernel_rfl) (by kernel_rfl) ?_
      refine TS_go 3 ?_
      exact TS_meet (v9.2, (S_Destination.mk v4 v9.1 v5.1)) ⟨[(2, []), (3, [])], [(1000000, (1000000, [])), (2, (2, [])), (3, (3, []))]⟩ h (by kernel_rfl) (by kernel_rfl)
    · refine TS_know 16 (b := false) hb8 (by kernel_rfl) (by kernel_rfl) ?_
      refine TS_F (by kernel_rfl) rfl ?_
      refine TS_go 1 ?_
      exact TS_meet (v7.2, (S_Destination.mk v4 (S_Prefix.mk [0, 0, 0, 0, 0, 0, 0, 0, 0, 0, 0, 0, 0, 0, 0, 0] 0) v5.1)) ⟨[(2, []), (3, [])], [(1000000, (1000000, [])), (2, (2, [])), (3, (3, []))]⟩ h (by kernel_rfl) (by kernel_rfl)

/-- multihop/multihopworld.Notice -/
noncomputable def F_world_Notice_j1  (v2 : S_multihopmade_Tape × S_Notice) : Option (S_Notice × S_multihopmade_Tape) :=
  some ((v2.2, v2.1))
noncomputable def F_world_Notice (a0 : S_multihopmade_Tape) : Option (S_Notice × S_multihopmade_Tape) :=
  (F_made_Tape_Next a0 5).bind fun v1 =>
  bif ((IntKind.wrap .i64 (1 + v1.1)) == 1) then
    (F_world_Seq v1.2).bind fun v4 =>
    (F_world_Notice_j1) (v4.2, (S_Notice.mk (IntKind.wrap .i64 (1 + v1.1)) v4.1 0 0 (S_Destination.mk (S_Prefix.mk [0, 0, 0, 0, 0, 0, 0, 0, 0, 0, 0, 0, 0, 0, 0, 0] 0) (S_Prefix.mk [0, 0, 0, 0, 0, 0, 0, 0, 0, 0, 0, 0, 0, 0, 0, 0] 0) 0) 0))
  else
    bif ((IntKind.wrap .i64 (1 + v1.1)) == 2) then
      (F_world_EUI v1.2).bind fun v6 =>
      (F_world_Cost v6.2).bind fun v7 =>
      (F_made_Tape_Bool v7.2 5).bind fun v8 =>
      bif v8.1 then
        (F_made_Tape_Word v8.2).bind fun v10 =>
        (F_world_Notice_j1) (v10.2, (S_Notice.mk (IntKind.wrap .i64 (1 + v1.1)) 0 v7.1 (ior .u64 v10.1 1) (S_Destination.mk (S_Prefix.mk [0, 0, 0, 0, 0, 0, 0, 0, 0, 0, 0, 0, 0, 0, 0, 0] 0) (S_Prefix.mk [0, 0, 0, 0, 0, 0, 0, 0, 0, 0, 0, 0, 0, 0, 0, 0] 0) 0) 0))
      else
        (F_world_Notice_j1) (v8.2, (S_Notice.mk (IntKind.wrap .i64 (1 + v1.1)) 0 v7.1 v6.1 (S_Destination.mk (S_Prefix.mk [0, 0, 0, 0, 0, 0, 0, 0, 0, 0, 0, 0, 0, 0, 0, 0] 0) (S_Prefix.mk [0, 0, 0, 0, 0, 0, 0, 0, 0, 0, 0, 0, 0, 0, 0, 0] 0) 0) 0))
    else
      bif ((IntKind.wrap .i64 (1 + v1.1)) == 3) then
        (F_world_To v1.2).bind fun v12 =>
        (F_world_Seq v12.2).bind fun v13 =>
        (F_world_Cost v13.2).bind fun v14 =>
        (F_made_Tape_Bool v14.2 5).bind fun v15 =>
        bif v15.1 then
          (F_world_Notice_j1) (v15.2, (S_Notice.mk (IntKind.wrap .i64 (1 + v1.1)) v13.1 65535 0 v12.1 0))
        else
          (F_world_Notice_j1) (v15.2, (S_Notice.mk (IntKind.wrap .i64 (1 + v1.1)) v13.1 v14.1 0 v12.1 0))
      else
        bif ((IntKind.wrap .i64 (1 + v1.1)) == 4) then
          (F_world_To v1.2).bind fun v18 =>
          (F_made_Tape_Bool v18.2 3).bind fun v19 =>
          bif v19.1 then
            (F_world_Notice_j1) (v19.2, (S_Notice.mk (IntKind.wrap .i64 (1 + v1.1)) 0 0 0 (S_Destination.mk (S_Prefix.mk [0, 0, 0, 0, 0, 0, 0, 0, 0, 0, 0, 0, 0, 0, 0, 0] 0) (S_Prefix.mk [0, 0, 0, 0, 0, 0, 0, 0, 0, 0, 0, 0, 0, 0, 0, 0] 0) 0) 0))
          else
            (F_world_Notice_j1) (v19.2, (S_Notice.mk (IntKind.wrap .i64 (1 + v1.1)) 0 0 0 (S_Destination.mk v18.1.Dst v18.1.Src 0) 0))
        else
          bif ((IntKind.wrap .i64 (1 + v1.1)) == 5) then
            (F_world_To v1.2).bind fun v22 =>
            (F_world_Seq v22.2).bind fun v23 =>
            (F_made_Tape_Next v23.2 32).bind fun v24 =>
            (F_world_Notice_j1) (v24.2, (S_Notice.mk (IntKind.wrap .i64 (1 + v1.1)) v23.1 0 0 v22.1 (IntKind.wrap .i64 (1 + v24.1))))
          else
            (F_world_Notice_j1) (v1.2, (S_Notice.mk (IntKind.wrap .i64 (1 + v1.1)) 0 0 0 (S_Destination.mk (S_Prefix.mk [0, 0, 0, 0, 0, 0, 0, 0, 0, 0, 0, 0, 0, 0, 0, 0] 0) (S_Prefix.mk [0, 0, 0, 0, 0, 0, 0, 0, 0, 0, 0, 0, 0, 0, 0, 0] 0) 0) 0))
set_option maxRecDepth 100000 in
set_option maxHeartbeats 40000000 in
theorem ok_world_Notice (a0 : S_multihopmade_Tape) (r : S_Notice × S_multihopmade_Tape) (h : F_world_Notice a0 = some r) : Con Try.prog 15 [.c (.box 1000000 0)] [(1000000, .box (S_multihopmade_Tape.cs a0))] (.agg (S_Notice.cs r.1)) [(1000000, .box (S_multihopmade_Tape.cs r.2))] := by
  unfold F_world_Notice at h
  refine con_of [] [(1000000, [2])] 67 Try.func15 rfl rfl (by kernel_rfl) (fun K => ?_)
  refine TS_go 7 ?_
  replace h := bindO h
  obtain ⟨v1, hv1, h⟩ := h
  refine TS_con [] [] (some (1000000, 0)) (ok_made_Tape_Next a0 5 v1 hv1) (by kernel_rfl) (by kernel_rfl) (by kernel_rfl) ?_
  refine TS_go 5 ?_
  refine TS_cut ⟨[(0, []), (2, []), (3, [])], [(1000000, (1000000, [])), (2, (2, [])), (3, (3, []))]⟩ (.mk [.code (codeAt [1, 1] (bodyOf Try.f15))] .normal ⟨[(0, .c (.box 1000000 0)), (2, .c (.box 2 0)), (3, .c (.box 3 0))], [(1000000, .box [.slc 1 0 (List.length v1.2.l) (List.map (ecI .i64) v1.2.l), .lit (.int .i64 (v1.2.at_))]), (2, .box [.lit (.int .i64 (0)), .lit (.int .u16 (0)), .lit (.int .i64 (0)), .lit (.int .u64 (0)), .lit (.int .u8 (0)), .lit (.int .u8 (0)), .lit (.int .u8 (0)), .lit (.int .u8 (0)), .lit (.int .u8 (0)), .lit (.int .u8 (0)), .lit (.int .u8 (0)), .lit (.int .u8 (0)), .lit (.int .u8 (0)), .lit (.int .u8 (0)), .lit (.int .u8 (0)), .lit (.int .u8 (0)), .lit (.int .u8 (0)), .lit (.int .u8 (0)), .lit (.int .u8 (0)), .lit (.int .u8 (0)), .lit (.int .i64 (0)), .lit (.int .u8 (0)), .lit (.int .u8 (0)), .lit (.int .u8 (0)), .lit (.int .u8 (0)), .lit (.int .u8 (0)), .lit (.int .u8 (0)), .lit (.int .u8 (0)), .lit (.int .u8 (0)), .lit (.int .u8 (0)), .lit (.int .u8 (0)), .lit (.int .u8 (0)), .lit (.int .u8 (0)), .lit (.int .u8 (0)), .lit (.int .u8 (0)), .lit (.int .u8 (0)), .lit (.int .u8 (0)), .lit (.int .i64 (0)), .lit (.int .u64 (0)), .lit (.int .i64 (0))]), (3, .box [.lit (.int .i64 (IntKind.wrap .i64 (1 + v1.1))), .lit (.int .u16 (0)), .lit (.int .i64 (0)), .lit (.int .u64 (0)), .lit (.int .u8 (0)), .lit (.int .u8 (0)), .lit (.int .u8 (0)), .lit (.int .u8 (0)), .lit (.int .u8 (0)), .lit (.int .u8 (0)), .lit (.int .u8 (0)), .lit (.int .u8 (0)), .lit (.int .u8 (0)), .lit (.int .u8 (0)), .lit (.int .u8 (0)), .lit (.int .u8 (0)), .lit (.int .u8 (0)), .lit (.int .u8 (0)), .lit (.int .u8 (0)), .lit (.int .u8 (0)), .lit (.int .i64 (0)), .lit (.int .u8 (0)), .lit (.int .u8 (0)), .lit (.int .u8 (0)), .lit (.int .u8 (0)), .lit (.int .u8 (0)), .lit (.int .u8 (0)), .lit (.int .u8 (0)), .lit (.int .u8 (0)), .lit (.int .u8 (0)), .lit (.int .u8 (0)), .lit (.int .u8 (0)), .lit (.int .u8 (0)), .lit (.int .u8 (0)), .lit (.int .u8 (0)), .lit (.int .u8 (0)), .lit (.int .u8 (0)), .lit (.int .i64 (0)), .lit (.int .u64 (0)), .lit (.int .i64 (0))])]⟩) (by kernel_rfl) (by kernel_rfl) ?_
  refine TS_joinB ⟨[(2, []), (3, [])], [(1000000, (1000000, [])), (2, (2, [])), (3, (3, []))]⟩ (fun (v2 : S_multihopmade_Tape × S_Notice) => []) (fun (v2 : S_multihopmade_Tape × S_Notice) => [(1000000, .box (S_multihopmade_Tape.cs v2.1)), (3, .box (S_Notice.cs v2.2))]) (F_world_Notice_j1) r ?_ ?_
  · clear h
    intro v2 h
    unfold F_world_Notice_j1 at h
    refine TS_go 6 ?_
    have ret := Option.some.inj h
    subst ret
    exact TS_ret (by kernel_rfl) (by kernel_rfl) (by kernel_rfl)
  · refine TS_go 11 ?_
    replace h := condO h
    rcases h with ⟨hb3, h⟩ | ⟨hb3, h⟩
    · refine TS_know 11 (b := true) hb3 (by kernel_rfl) (by kernel_rfl) ?_
      refine TS_know 10 (b := true) hb3 (by kernel_rfl) (by kernel_rfl) ?_
      refine TS_T (by kernel_rfl) rfl ?_
      refine TS_go 2 ?_
      replace h := bindO h
      obtain ⟨v4, hv4, h⟩ := h
      refine TS_con [] [] (some (1000000, 0)) (ok_world_Seq v1.2 v4 hv4) (by kernel_rfl) (by kernel_rfl) (by kernel_rfl) ?_
      refine TS_go 4 ?_
      exact TS_meet (v4.2, (S_Notice.mk (IntKind.wrap .i64 (1 + v1.1)) v4.1 0 0 (S_Destination.mk (S_Prefix.mk [0, 0, 0, 0, 0, 0, 0, 0, 0, 0, 0, 0, 0, 0, 0, 0] 0) (S_Prefix.mk [0, 0, 0, 0, 0, 0, 0, 0, 0, 0, 0, 0, 0, 0, 0, 0] 0) 0) 0)) ⟨[(2, []), (3, [])], [(1000000, (1000000, [])), (2, (2, [])), (3, (3, []))]⟩ h (by kernel_rfl) (by kernel_rfl)
    · refine TS_know 11 (b := false) hb3 (by kernel_rfl) (by kernel_rfl) ?_
      refine TS_know 10 (b := false) hb3 (by kernel_rfl) (by kernel_rfl) ?_
      refine TS_F (by kernel_rfl) rfl ?_
      refine TS_go 5 ?_
      replace h := condO h
      rcases h with ⟨hb5, h⟩ | ⟨hb5, h⟩
      · refine TS_know 16 (b := true) hb5 (by kernel_rfl) (by kernel_rfl) ?_
        refine TS_know 15 (b := true) hb5 (by kernel_rfl) (by kernel_rfl) ?_
        refine TS_T (by kernel_rfl) rfl ?_
        refine TS_go 3 ?_
        replace h := bindO h
        obtain ⟨v6, hv6, h⟩ := h
        refine TS_con [] [] (some (1000000, 0)) (ok_world_EUI v1.2 v6 hv6) (by kernel_rfl) (by kernel_rfl) (by kernel_rfl) ?_
        refine TS_go 1 ?_
        replace h := bindO h
        obtain ⟨v7, hv7, h⟩ := h
        refine TS_con [] [] (some (1000000, 0)) (ok_world_Cost v6.2 v7 hv7) (by kernel_rfl) (by kernel_rfl) (by kernel_rfl) ?_
        refine TS_go 8 ?_
        replace h := bindO h
        obtain ⟨v8, hv8, h⟩ := h
        refine TS_con [] [] (some (1000000, 0)) (ok_made_Tape_Bool v7.2 5 v8 hv8) (by kernel_rfl) (by kernel_rfl) (by kernel_rfl) ?_
        refine TS_go 1 ?_
        replace h := condO h
        rcases h with ⟨hb9, h⟩ | ⟨hb9, h⟩
        · refine TS_know 24 (b := true) hb9 (by kernel_rfl) (by kernel_rfl) ?_
          refine TS_T (by kernel_rfl) rfl ?_
          refine TS_go 2 ?_
          replace h := bindO h
          obtain ⟨v10, hv10, h⟩ := h
          refine TS_con [] [] (some (1000000, 0)) (ok_made_Tape_Word v8.2 v10 hv10) (by kernel_rfl) (by kernel_rfl) (by kernel_rfl) ?_
          refine TS_go 5 ?_
          exact TS_meet (v10.2, (S_Notice.mk (IntKind.wrap .i64 (1 + v1.1)) 0 v7.1 (ior .u64 v10.1 1) (S_Destination.mk (S_Prefix.mk [0, 0, 0, 0, 0, 0, 0, 0, 0, 0, 0, 0, 0, 0, 0, 0] 0) (S_Prefix.mk [0, 0, 0, 0, 0, 0, 0, 0, 0, 0, 0, 0, 0, 0, 0, 0] 0) 0) 0)) ⟨[(2, []), (3, [])], [(1000000, (1000000, [])), (2, (2, [])), (3, (3, []))]⟩ h (by kernel_rfl) (by kernel_rfl)
        · refine TS_know 24 (b := false) hb9 (by kernel_rfl) (by kernel_rfl) ?_
          refine TS_F (by kernel_rfl) rfl ?_
          refine TS_go 2 ?_
          exact TS_meet (v8.2, (S_Notice.mk (IntKind.wrap .i64 (1 + v1.1)) 0 v7.1 v6.1 (S_Destination.mk (S_Prefix.mk [0, 0, 0, 0, 0, 0, 0, 0, 0, 0, 0, 0, 0, 0, 0, 0] 0) (S_Prefix.mk [0, 0, 0, 0, 0, 0, 0, 0, 0, 0, 0, 0, 0, 0, 0, 0] 0) 0) 0)) ⟨[(2, []), (3, [])], [(1000000, (1000000, [])), (2, (2, [])), (3, (3, []))]⟩ h (by kernel_rfl) (by kernel_rfl)
      · refine TS_know 16 (b := false) hb5 (by kernel_rfl) (by kernel_rfl) ?_
        refine TS_know 15 (b := false) hb5 (by kernel_rfl) (by kernel_rfl) ?_
        refine TS_F (by kernel_rfl) rfl ?_
        refine TS_go 5 ?_
        replace h := condO h
        rcases h with ⟨hb11, h⟩ | ⟨hb11, h⟩
        · refine TS_know 30 (b := true) hb11 (by kernel_rfl) (by kernel_rfl) ?_
          refine TS_know 29 (b := true) hb11 (by kernel_rfl) (by kernel_rfl) ?_
          refine TS_T (by kernel_rfl) rfl ?_
          refine TS_go 3 ?_
          replace h := bindO h
          obtain ⟨v12, hv12, h⟩ := h
          refine TS_con [] [] (some (1000000, 0)) (ok_world_To v1.2 v12 hv12) (by kernel_rfl) (by kernel_rfl) (by kernel_rfl) ?_
          refine TS_go 1 ?_
          replace h := bindO h
          obtain ⟨v13, hv13, h⟩ := h
          refine TS_con [] [] (some (1000000, 0)) (ok_world_Seq v12.2 v13 hv13) (by kernel_rfl) (by kernel_rfl) (by kernel_rfl) ?_
          refine TS_go 1 ?_
          replace h := bindO h
          obtain ⟨v14, hv14, h⟩ := h
          refine TS_con [] [] (some (1000000, 0)) (ok_world_Cost v13.2 v14 hv14) (by kernel_rfl) (by kernel_rfl) (by kernel_rfl) ?_
          refine TS_go 10 ?_
          replace h := bindO h
          obtain ⟨v15, hv15, h⟩ := h
          refine TS_con [] [] (some (1000000, 0)) (ok_made_Tape_Bool v14.2 5 v15 hv15) (by kernel_rfl) (by kernel_rfl) (by kernel_rfl) ?_
          refine TS_go 1 ?_
          replace h := condO h
          rcases h with ⟨hb16, h⟩ | ⟨hb16, h⟩
          · refine TS_know 41 (b := true) hb16 (by kernel_rfl) (by kernel_rfl) ?_
            refine TS_T (by kernel_rfl) rfl ?_
            refine TS_go 5 ?_
            exact TS_meet (v15.2, (S_Notice.mk (IntKind.wrap .i64 (1 + v1.1)) v13.1 65535 0 v12.1 0)) ⟨[(2, []), (3, [])], [(1000000, (1000000, [])), (2, (2, [])), (3, (3, []))]⟩ h (by kernel_rfl) (by kernel_rfl)
          · refine TS_know 41 (b := false) hb16 (by kernel_rfl) (by kernel_rfl) ?_
            refine TS_F (by kernel_rfl) rfl ?_
            refine TS_go 2 ?_
            exact TS_meet (v15.2, (S_Notice.mk (IntKind.wrap .i64 (1 + v1.1)) v13.1 v14.1 0 v12.1 0)) ⟨[(2, []), (3, [])], [(1000000, (1000000, [])), (2, (2, [])), (3, (3, []))]⟩ h (by kernel_rfl) (by kernel_rfl)
        · refine TS_know 30 (b := false) hb11 (by kernel_rfl) (by kernel_rfl) ?_
          refine TS_know 29 (b := false) hb11 (by kernel_rfl) (by kernel_rfl) ?_
          refine TS_F (by kernel_rfl) rfl ?_
          refine TS_go 5 ?_
          replace h := condO h
          rcases h with ⟨hb17, h⟩ | ⟨hb17, h⟩
          · refine TS_know 44 (b := true) hb17 (by kernel_rfl) (by kernel_rfl) ?_
            refine TS_know 43 (b := true) hb17 (by kernel_rfl) (by kernel_rfl) ?_
            refine TS_T (by kernel_rfl) rfl ?_
            refine TS_go 3 ?_
            replace h := bindO h
            obtain ⟨v18, hv18, h⟩ := h
            refine TS_con [] [] (some (1000000, 0)) (ok_world_To v1.2 v18 hv18) (by kernel_rfl) (by kernel_rfl) (by kernel_rfl) ?_
            refine TS_go 12 ?_
            replace h := bindO h
            obtain ⟨v19, hv19, h⟩ := h
            refine TS_con [] [] (some (1000000, 0)) (ok_made_Tape_Bool v18.2 3 v19 hv19) (by kernel_rfl) (by kernel_rfl) (by kernel_rfl) ?_
            refine TS_go 1 ?_
            replace h := condO h
            rcases h with ⟨hb20, h⟩ | ⟨hb20, h⟩
            · refine TS_know 51 (b := true) hb20 (by kernel_rfl) (by kernel_rfl) ?_
              refine TS_T (by kernel_rfl) rfl ?_
              refine TS_go 6 ?_
              exact TS_meet (v19.2, (S_Notice.mk (IntKind.wrap .i64 (1 + v1.1)) 0 0 0 (S_Destination.mk (S_Prefix.mk [0, 0, 0, 0, 0, 0, 0, 0, 0, 0, 0, 0, 0, 0, 0, 0] 0) (S_Prefix.mk [0, 0, 0, 0, 0, 0, 0, 0, 0, 0, 0, 0, 0, 0, 0, 0] 0) 0) 0)) ⟨[(2, []), (3, [])], [(1000000, (1000000, [])), (2, (2, [])), (3, (3, []))]⟩ h (by kernel_rfl) (by kernel_rfl)
            · refine TS_know 51 (b := false) hb20 (by kernel_rfl) (by kernel_rfl) ?_
              refine TS_F (by kernel_rfl) rfl ?_
              refine TS_go 2 ?_
              exact TS_meet (v19.2, (S_Notice.mk (IntKind.wrap .i64 (1 + v1.1)) 0 0 0 (S_Destination.mk v18.1.Dst v18.1.Src 0) 0)) ⟨[(2, []), (3, [])], [(1000000, (1000000, [])), (2, (2, [])), (3, (3, []))]⟩ h (by kernel_rfl) (by kernel_rfl)
          · refine TS_know 44 (b := false) hb17 (by kernel_rfl) (by kernel_rfl) ?_
            refine TS_know 43 (b := false) hb17 (by kernel_rfl) (by kernel_rfl) ?_
            refine TS_F (by kernel_rfl) rfl ?_
            refine TS_go 5 ?_
            replace h := condO h
            rcases h with ⟨hb21, h⟩ | ⟨hb21, h⟩
            · refine TS_know 55 (b := true) hb21 (by kernel_rfl) (by kernel_rfl) ?_
              refine TS_know 54 (b := true) hb21 (by kernel_rfl) (by kernel_rfl) ?_
              refine TS_T (by kernel_rfl) rfl ?_
              refine TS_go 2 ?_
              replace h := bindO h
              obtain ⟨v22, hv22, h⟩ := h
              refine TS_con [] [] (some (1000000, 0)) (ok_world_To v1.2 v22 hv22) (by kernel_rfl) (by kernel_rfl) (by kernel_rfl) ?_
              refine TS_go 1 ?_
              replace h := bindO h
              obtain ⟨v23, hv23, h⟩ := h
              refine TS_con [] [] (some (1000000, 0)) (ok_world_Seq v22.2 v23 hv23) (by kernel_rfl) (by kernel_rfl) (by kernel_rfl) ?_
              refine TS_go 1 ?_
              replace h := bindO h
              obtain ⟨v24, hv24, h⟩ := h
              refine TS_con [] [] (some (1000000, 0)) (ok_made_Tape_Next v23.2 32 v24 hv24) (by kernel_rfl) (by kernel_rfl) (by kernel_rfl) ?_
              refine TS_go 9 ?_
              exact TS_meet (v24.2, (S_Notice.mk (IntKind.wrap .i64 (1 + v1.1)) v23.1 0 0 v22.1 (IntKind.wrap .i64 (1 + v24.1)))) ⟨[(2, []), (3, [])], [(1000000, (1000000, [])), (2, (2, [])), (3, (3, []))]⟩ h (by kernel_rfl) (by kernel_rfl)
            · refine TS_know 55 (b := false) hb21 (by kernel_rfl) (by kernel_rfl) ?_
              refine TS_know 54 (b := false) hb21 (by kernel_rfl) (by kernel_rfl) ?_
              refine TS_F (by kernel_rfl) rfl ?_
              refine TS_go 2 ?_
              exact TS_meet (v1.2, (S_Notice.mk (IntKind.wrap .i64 (1 + v1.1)) 0 0 0 (S_Destination.mk (S_Prefix.mk [0, 0, 0, 0, 0, 0, 0, 0, 0, 0, 0, 0, 0, 0, 0, 0] 0) (S_Prefix.mk [0, 0, 0, 0, 0, 0, 0, 0, 0, 0, 0, 0, 0, 0, 0, 0] 0) 0) 0)) ⟨[(2, []), (3, [])], [(1000000, (1000000, [])), (2, (2, [])), (3, (3, []))]⟩ h (by kernel_rfl) (by kernel_rfl)

/-- multihop/multihopworld.Notices -/
noncomputable def F_world_Notices_l1  (s2 : (List S_Notice) × Int × S_multihopmade_Tape) : Option (((List S_Notice) × Int × S_multihopmade_Tape) ⊕ ((List S_Notice) × S_multihopmade_Tape)) :=
  bif (decide (s2.2.1 > 0)) then
    (F_world_Notice s2.2.2).bind fun v6 =>
    (appO 96 s2.1 (Cut.app .whole ([v6.1] : List S_Notice))).bind fun l7 =>
    some (Sum.inl (l7, IntKind.wrap .i64 (s2.2.1 - 1), v6.2))
  else
    some (Sum.inr (s2.1, s2.2.2))
noncomputable def F_world_Notices (a0 : S_multihopmade_Tape) (a1 : Int) : Option ((List S_Notice) × S_multihopmade_Tape) :=
  (F_made_Tape_Next a0 (IntKind.wrap .i64 (a1 + 1))).bind fun v1 =>
  (loopO (F_world_Notices_l1) (([] : List S_Notice), v1.1, v1.2)).bind fun b3 =>
  some ((b3.1, b3.2))
set_option maxRecDepth 100000 in
set_option maxHeartbeats 40000000 in
theorem okT_world_Notices (a0 : S_multihopmade_Tape) (a1 : Int) (r : (List S_Notice) × S_multihopmade_Tape) (h : F_world_Notices a0 a1 = some r) : Con Try.prog 12 [.c (.box 1000000 0), .c (.lit (.int .i64 (a1)))] [(1000000, .box (S_multihopmade_Tape.cs a0))] (.c (.slc 40 900002 (List.length r.1) (List.map S_Notice.cs r.1))) [(1000000, .box (S_multihopmade_Tape.cs r.2)), (900000, .spare 39 40 (List.length r.1))] := by
  unfold F_world_Notices at h
  refine con_of [] [(1000000, [2]), (900000, [])] 21 Try.func12 rfl rfl (by kernel_rfl) (fun K => ?_)
  refine TS_go 14 ?_
  replace h := bindO h
  obtain ⟨v1, hv1, h⟩ := h
  refine TS_con [] [] (some (1000000, 0)) (ok_made_Tape_Next a0 (IntKind.wrap .i64 (a1 + 1)) v1 hv1) (by kernel_rfl) (by kernel_rfl) (by kernel_rfl) ?_
  refine TS_go 3 ?_
  refine TS_nilT 5 600000 39 40 (by kernel_rfl) ?_
  refine TS_cut ⟨[(0, []), (5, []), (6, [])], [(1000000, (1000000, [])), (600000, (600000, []))]⟩ (.mk [.code (codeAt [1, 1, 0, 1, 0] (bodyOf Try.f12)), .blk 0, .code (codeAt [1, 1, 1] (bodyOf Try.f12))] .normal ⟨[(0, .c (.box 1000000 0)), (5, .c (.slc 40 600002 (List.length ([] : List S_Notice)) (List.map S_Notice.cs ([] : List S_Notice)))), (6, .c (.lit (.int .i64 (v1.1))))], [(1000000, .box [.slc 1 0 (List.length v1.2.l) (List.map (ecI .i64) v1.2.l), .lit (.int .i64 (v1.2.at_))]), (600000, .spare 39 40 (List.length ([] : List S_Notice)))]⟩) (by kernel_rfl) (by kernel_rfl) ?_
  replace h := bindO h
  obtain ⟨y4, hl1, hK1⟩ := h
  refine TS_loopB (F_world_Notices_l1) ⟨[(0, []), (5, []), (6, [])], [(1000000, (1000000, [])), (600000, (600000, []))]⟩ (fun (s2 : (List S_Notice) × Int × S_multihopmade_Tape) => [(5, .c (.slc 40 600002 (List.length s2.1) (List.map S_Notice.cs s2.1))), (6, .c (.lit (.int .i64 (s2.2.1))))]) (fun (s2 : (List S_Notice) × Int × S_multihopmade_Tape) => [(1000000, .box (S_multihopmade_Tape.cs s2.2.2)), (600000, .spare 39 40 (List.length s2.1))]) (([] : List S_Notice), v1.1, v1.2) y4 (.exit 0) (fun (b : (List S_Notice) × S_multihopmade_Tape) => b) ⟨[(5, [])], [(1000000, (1000000, [])), (600000, (600000, []))]⟩ (fun (b3 : (List S_Notice) × S_multihopmade_Tape) => [(5, .c (.slc 40 600002 (List.length b3.1) (List.map S_Notice.cs b3.1)))]) (fun (b3 : (List S_Notice) × S_multihopmade_Tape) => [(1000000, .box (S_multihopmade_Tape.cs b3.2)), (600000, .spare 39 40 (List.length b3.1))]) hl1 (by kernel_rfl) (by kernel_rfl) ?_ ?_
  · intro s2 x h hy1
    unfold F_world_Notices_l1 at h
    refine TS_go 6 ?_
    replace h := condO h
    rcases h with ⟨hb5, h⟩ | ⟨hb5, h⟩
    · refine TS_know 12 (b := true) hb5 (by kernel_rfl) (by kernel_rfl) ?_
      refine TS_T (by kernel_rfl) rfl ?_
      refine TS_go 6 ?_
      replace h := bindO h
      obtain ⟨v6, hv6, h⟩ := h
      refine TS_con [] [] (some (1000000, 0)) (ok_world_Notice s2.2.2 v6 hv6) (by kernel_rfl) (by kernel_rfl) (by kernel_rfl) ?_
      refine TS_litNT 18 39 40 S_Notice.cs [] ([v6.1] : List S_Notice) (by kernel_rfl) (by kernel_rfl) ?_
      replace h := bindO h
      obtain ⟨_l7, hl7, h⟩ := h
      refine TS_appT (d := 600000) (e := 39) (sz := 40) (N := List.length s2.1) S_Notice.cs (fun _ => by kernel_rfl) (l1 := s2.1) (l2 := ([v6.1] : List S_Notice)) (c := .whole) hl7 (by kernel_rfl) (by kernel_rfl) ?_
      refine TS_go 8 ?_
      have ret := Option.some.inj h
      subst ret
      exact TS_againB _ ⟨[(0, []), (5, []), (6, [])], [(1000000, (1000000, [])), (600000, (600000, []))]⟩ rfl (by kernel_rfl) (by kernel_rfl)
    · refine TS_know 12 (b := false) hb5 (by kernel_rfl) (by kernel_rfl) ?_
      refine TS_F (by kernel_rfl) rfl ?_
      refine TS_go 2 ?_
      have ret := Option.some.inj h
      subst ret
      exact TS_brkB (s2.1, s2.2.2) ⟨[(5, [])], [(1000000, (1000000, [])), (600000, (600000, []))]⟩ rfl (by kernel_rfl) (by kernel_rfl) (by kernel_rfl)
  · intro b3 hb
    subst y4
    have h := hK1
    refine TS_go 6 ?_
    refine TS_fitU ⟨[(4, [])], [(600000, (900000, [])), (1000000, (1000000, []))]⟩ (by kernel_rfl) ?_
    refine TS_go 1 ?_
    have ret := Option.some.inj h
    subst ret
    exact TS_ret (by kernel_rfl) (by kernel_rfl) (by kernel_rfl)
/-- slices.Clone[[]multihop/api.Noticemultihop/api.Notice] -/
noncomputable def F_slices_Clone_api_Notice_api_Notice (a0 : List S_Notice) : Option ((List S_Notice)) :=
  (appO 96 ([] : List S_Notice) (Cut.app .whole a0)).bind fun l1 =>
  some (l1)
set_option maxRecDepth 100000 in
set_option maxHeartbeats 40000000 in
theorem okT_slices_Clone_api_Notice_api_Notice (a0 : List S_Notice) (r : (List S_Notice)) (h : F_slices_Clone_api_Notice_api_Notice a0 = some r) : Con Try.prog 13 [.c (eS 40 S_Notice.cs (a0))] [] (.c (.slc 40 900002 (List.length r) (List.map S_Notice.cs r))) [(900000, .spare 39 40 (List.length r))] := by
  unfold F_slices_Clone_api_Notice_api_Notice at h
  refine con_of [] [(900000, [])] 8 Try.func13 rfl rfl (by kernel_rfl) (fun K => ?_)
  refine TS_go 8 ?_
  refine TS_eqN (xs := List.map S_Notice.cs a0) (by kernel_rfl) (by kernel_rfl) ?_ ?_
  · intro hx
    have hx := List.map_eq_nil_iff.1 hx
    subst hx
    replace h : (some (([] : List S_Notice))) = some r := by simpa [appO, Cut.app] using h
    refine TS_go 1 ?_
    refine TS_T (by kernel_rfl) rfl ?_
    refine TS_go 4 ?_
    refine TS_nilT 2 600000 39 40 (by kernel_rfl) ?_
    refine TS_fitU ⟨[(2, [])], [(600000, (900000, []))]⟩ (by kernel_rfl) ?_
    refine TS_go 2 ?_
    have ret := Option.some.inj h
    subst ret
    exact TS_ret (by kernel_rfl) (by kernel_rfl) (by kernel_rfl)
  · refine TS_go 1 ?_
    refine TS_F (by kernel_rfl) rfl ?_
    refine TS_go 3 ?_
    refine TS_litNT 5 39 40 S_Notice.cs [] ([] : List S_Notice) (by kernel_rfl) (by kernel_rfl) ?_
    refine TS_go 1 ?_
    replace h := bindO h
    obtain ⟨l1, hl1, h⟩ := h
    refine TS_appT (d := 5) (e := 39) (sz := 40) (N := List.length ([] : List S_Notice)) S_Notice.cs (fun _ => by kernel_rfl) (l1 := ([] : List S_Notice)) (l2 := a0) (c := .whole) hl1 (by kernel_rfl) (by kernel_rfl) ?_
    refine TS_go 2 ?_
    refine TS_fitU ⟨[(2, [])], [(5, (900000, []))]⟩ (by kernel_rfl) ?_
    refine TS_go 1 ?_
    have ret := Option.some.inj h
    subst ret
    exact TS_ret (by kernel_rfl) (by kernel_rfl) (by kernel_rfl)
/-- multihop/multihoplaw29.spoiled -/
noncomputable def F_law29_spoiled_j1  (v1 : S_multihopmade_Tape × S_Notice) : Option (S_Notice × S_multihopmade_Tape) :=
  some ((v1.2, v1.1))
noncomputable def F_law29_spoiled (a0 : S_multihopmade_Tape) (a1 : S_Notice) : Option (S_Notice × S_multihopmade_Tape) :=
  (F_made_Tape_Next a0 8).bind fun v2 =>
  bif (v2.1 == 0) then
    (F_made_Tape_Next v2.2 9).bind fun v4 =>
    (F_law29_spoiled_j1) (v4.2, (S_Notice.mk (IntKind.wrap .i64 (v4.1 - 1)) a1.Seq a1.Metric a1.Neighbour a1.To a1.Hops))
  else
    bif (v2.1 == 1) then
      (F_made_Tape_Next v2.2 3).bind fun v6 =>
      (idx ([(-1), 65536, 1] : List Int) v6.1).bind fun e7 =>
      (F_law29_spoiled_j1) (v6.2, (S_Notice.mk a1.Kind a1.Seq e7 a1.Neighbour a1.To a1.Hops))
    else
      bif (v2.1 == 2) then
        (F_made_Tape_Next v2.2 2).bind fun v9 =>
        (F_law29_spoiled_j1) (v9.2, (S_Notice.mk a1.Kind a1.Seq a1.Metric (IntKind.wrap .u64 v9.1) a1.To a1.Hops))
      else
        bif (v2.1 == 3) then
          (F_made_Tape_Next v2.2 2).bind fun v11 =>
          (F_law29_spoiled_j1) (v11.2, (S_Notice.mk a1.Kind a1.Seq a1.Metric a1.Neighbour (S_Destination.mk a1.To.Dst a1.To.Src (IntKind.wrap .u64 v11.1)) a1.Hops))
        else
          bif (v2.1 == 4) then
            (F_made_Tape_Next v2.2 2).bind fun v13 =>
            (F_law29_spoiled_j1) (v13.2, (S_Notice.mk a1.Kind a1.Seq a1.Metric a1.Neighbour a1.To (IntKind.wrap .i64 (33 * v13.1))))
          else
            bif (v2.1 == 5) then
              (F_made_Tape_Next v2.2 140).bind fun v15 =>
              (F_law29_spoiled_j1) (v15.2, (S_Notice.mk a1.Kind a1.Seq a1.Metric a1.Neighbour (S_Destination.mk (S_Prefix.mk a1.To.Dst.IP (IntKind.wrap .i64 (129 - v15.1))) a1.To.Src a1.To.Router) a1.Hops))
            else
              bif (v2.1 == 6) then
                (F_made_Tape_Next v2.2 16).bind fun v17 =>
                bif decide ((0 : Int) ≤ v17.1 ∧ v17.1 < (16 : Int)) then
                  bif decide ((0 : Int) ≤ v17.1 ∧ v17.1 < (16 : Int)) then
                    (F_law29_spoiled_j1) (v17.2, (S_Notice.mk a1.Kind a1.Seq a1.Metric a1.Neighbour (S_Destination.mk a1.To.Dst (S_Prefix.mk (setA 16 a1.To.Src.IP (Int.toNat v17.1) (ixor .u8 (List.getD a1.To.Src.IP (Int.toNat v17.1) 0) 1)) a1.To.Src.Bits) a1.To.Router) a1.Hops))
                  else none
                else none
              else
                (F_law29_spoiled_j1) (v2.2, (S_Notice.mk a1.Kind 9 a1.Metric a1.Neighbour a1.To a1.Hops))
set_option maxRecDepth 100000 in
set_option maxHeartbeats 40000000 in
theorem ok_law29_spoiled (a0 : S_multihopmade_Tape) (a1 : S_Notice) (r : S_Notice × S_multihopmade_Tape) (h : F_law29_spoiled a0 a1 = some r) : Con Try.prog 14 [.c (.box 1000000 0), .agg (S_Notice.cs a1)] [(1000000, .box (S_multihopmade_Tape.cs a0))] (.agg (S_Notice.cs r.1)) [(1000000, .box (S_multihopmade_Tape.cs r.2))] := by
  unfold F_law29_spoiled at h
  refine con_of [] [(1000000, [2])] 64 Try.func14 rfl rfl (by kernel_rfl) (fun K => ?_)
  refine TS_go 5 ?_
  refine TS_cut ⟨[(0, []), (3, []), (4, [])], [(1000000, (1000000, [])), (3, (3, [])), (4, (4, []))]⟩ (.mk [.code (codeAt [1] (bodyOf Try.f14))] .normal ⟨[(0, .c (.box 1000000 0)), (3, .c (.box 3 0)), (4, .c (.box 4 0))], [(1000000, .box [.slc 1 0 (List.length a0.l) (List.map (ecI .i64) a0.l), .lit (.int .i64 (a0.at_))]), (3, .box [.lit (.int .i64 (a1.Kind)), .lit (.int .u16 (a1.Seq)), .lit (.int .i64 (a1.Metric)), .lit (.int .u64 (a1.Neighbour)), .lit (.int .u8 ((a1.To.Dst.IP.getD 0 0))), .lit (.int .u8 ((a1.To.Dst.IP.getD 1 0))), .lit (.int .u8 ((a1.To.Dst.IP.getD 2 0))), .lit (.int .u8 ((a1.To.Dst.IP.getD 3 0))), .lit (.int .u8 ((a1.To.Dst.IP.getD 4 0))), .lit (.int .u8 ((a1.To.Dst.IP.getD 5 0))), .lit (.int .u8 ((a1.To.Dst.IP.getD 6 0))), .lit (.int .u8 ((a1.To.Dst.IP.getD 7 0))), .lit (.int .u8 ((a1.To.Dst.IP.getD 8 0))), .lit (.int .u8 ((a1.To.Dst.IP.getD 9 0))), .lit (.int .u8 ((a1.To.Dst.IP.getD 10 0))), .lit (.int .u8 ((a1.To.Dst.IP.getD 11 0))), .lit (.int .u8 ((a1.To.Dst.IP.getD 12 0))), .lit (.int .u8 ((a1.To.Dst.IP.getD 13 0))), .lit (.int .u8 ((a1.To.Dst.IP.getD 14 0))), .lit (.int .u8 ((a1.To.Dst.IP.getD 15 0))), .lit (.int .i64 (a1.To.Dst.Bits)), .lit (.int .u8 ((a1.To.Src.IP.getD 0 0))), .lit (.int .u8 ((a1.To.Src.IP.getD 1 0))), .lit (.int .u8 ((a1.To.Src.IP.getD 2 0))), .lit (.int .u8 ((a1.To.Src.IP.getD 3 0))), .lit (.int .u8 ((a1.To.Src.IP.getD 4 0))), .lit (.int .u8 ((a1.To.Src.IP.getD 5 0))), .lit (.int .u8 ((a1.To.Src.IP.getD 6 0))), .lit (.int .u8 ((a1.To.Src.IP.getD 7 0))), .lit (.int .u8 ((a1.To.Src.IP.getD 8 0))), .lit (.int .u8 ((a1.To.Src.IP.getD 9 0))), .lit (.int .u8 ((a1.To.Src.IP.getD 10 0))), .lit (.int .u8 ((a1.To.Src.IP.getD 11 0))), .lit (.int .u8 ((a1.To.Src.IP.getD 12 0))), .lit (.int .u8 ((a1.To.Src.IP.getD 13 0))), .lit (.int .u8 ((a1.To.Src.IP.getD 14 0))), .lit (.int .u8 ((a1.To.Src.IP.getD 15 0))), .lit (.int .i64 (a1.To.Src.Bits)), .lit (.int .u64 (a1.To.Router)), .lit (.int .i64 (a1.Hops))]), (4, .box [.lit (.int .i64 (0)), .lit (.int .u16 (0)), .lit (.int .i64 (0)), .lit (.int .u64 (0)), .lit (.int .u8 (0)), .lit (.int .u8 (0)), .lit (.int .u8 (0)), .lit (.int .u8 (0)), .lit (.int .u8 (0)), .lit (.int .u8 (0)), .lit (.int .u8 (0)), .lit (.int .u8 (0)), .lit (.int .u8 (0)), .lit (.int .u8 (0)), .lit (.int .u8 (0)), .lit (.int .u8 (0)), .lit (.int .u8 (0)), .lit (.int .u8 (0)), .lit (.int .u8 (0)), .lit (.int .u8 (0)), .lit (.int .i64 (0)), .lit (.int .u8 (0)), .lit (.int .u8 (0)), .lit (.int .u8 (0)), .lit (.int .u8 (0)), .lit (.int .u8 (0)), .lit (.int .u8 (0)), .lit (.int .u8 (0)), .lit (.int .u8 (0)), .lit (.int .u8 (0)), .lit (.int .u8 (0)), .lit (.int .u8 (0)), .lit (.int .u8 (0)), .lit (.int .u8 (0)), .lit (.int .u8 (0)), .lit (.int .u8 (0)), .lit (.int .u8 (0)), .lit (.int .i64 (0)), .lit (.int .u64 (0)), .lit (.int .i64 (0))])]⟩) (by kernel_rfl) (by kernel_rfl) ?_
  refine TS_joinB ⟨[(3, []), (4, [])], [(1000000, (1000000, [])), (3, (3, [])), (4, (4, []))]⟩ (fun (v1 : S_multihopmade_Tape × S_Notice) => []) (fun (v1 : S_multihopmade_Tape × S_Notice) => [(1000000, .box (S_multihopmade_Tape.cs v1.1)), (3, .box (S_Notice.cs v1.2))]) (F_law29_spoiled_j1) r ?_ ?_
  · clear h
    intro v1 h
    unfold F_law29_spoiled_j1 at h
    refine TS_go 6 ?_
    have ret := Option.some.inj h
    subst ret
    exact TS_ret (by kernel_rfl) (by kernel_rfl) (by kernel_rfl)
  · refine TS_go 3 ?_
    replace h := bindO h
    obtain ⟨v2, hv2, h⟩ := h
    refine TS_con [] [] (some (1000000, 0)) (ok_made_Tape_Next a0 8 v2 hv2) (by kernel_rfl) (by kernel_rfl) (by kernel_rfl) ?_
    refine TS_go 7 ?_
    replace h := condO h
    rcases h with ⟨hb3, h⟩ | ⟨hb3, h⟩
    · refine TS_know 9 (b := true) hb3 (by kernel_rfl) (by kernel_rfl) ?_
      refine TS_know 8 (b := true) hb3 (by kernel_rfl) (by kernel_rfl) ?_
      refine TS_T (by kernel_rfl) rfl ?_
      refine TS_go 2 ?_
      replace h := bindO h
      obtain ⟨v4, hv4, h⟩ := h
      refine TS_con [] [] (some (1000000, 0)) (ok_made_Tape_Next v2.2 9 v4 hv4) (by kernel_rfl) (by kernel_rfl) (by kernel_rfl) ?_
      refine TS_go 5 ?_
      exact TS_meet (v4.2, (S_Notice.mk (IntKind.wrap .i64 (v4.1 - 1)) a1.Seq a1.Metric a1.Neighbour a1.To a1.Hops)) ⟨[(3, []), (4, [])], [(1000000, (1000000, [])), (3, (3, [])), (4, (4, []))]⟩ h (by kernel_rfl) (by kernel_rfl)
    · refine TS_know 9 (b := false) hb3 (by kernel_rfl) (by kernel_rfl) ?_
      refine TS_know 8 (b := false) hb3 (by kernel_rfl) (by kernel_rfl) ?_
      refine TS_F (by kernel_rfl) rfl ?_
      refine TS_go 5 ?_
      replace h := condO h
      rcases h with ⟨hb5, h⟩ | ⟨hb5, h⟩
      · refine TS_know 15 (b := true) hb5 (by kernel_rfl) (by kernel_rfl) ?_
        refine TS_know 14 (b := true) hb5 (by kernel_rfl) (by kernel_rfl) ?_
        refine TS_T (by kernel_rfl) rfl ?_
        refine TS_go 1 ?_
        refine TS_litNT 16 3 1 (ecI .i64) [] ([(-1), 65536, 1] : List Int) (by kernel_rfl) (by kernel_rfl) ?_
        refine TS_go 1 ?_
        replace h := bindO h
        obtain ⟨v6, hv6, h⟩ := h
        refine TS_con [] [] (some (1000000, 0)) (ok_made_Tape_Next v2.2 3 v6 hv6) (by kernel_rfl) (by kernel_rfl) (by kernel_rfl) ?_
        replace h := bindO h
        obtain ⟨e7, he7, h⟩ := h
        refine TS_idx (ecI .i64) he7 (by kernel_rfl) (by kernel_rfl) ?_
        refine TS_go 5 ?_
        exact TS_meet (v6.2, (S_Notice.mk a1.Kind a1.Seq e7 a1.Neighbour a1.To a1.Hops)) ⟨[(3, []), (4, [])], [(1000000, (1000000, [])), (3, (3, [])), (4, (4, []))]⟩ h (by kernel_rfl) (by kernel_rfl)
      · refine TS_know 15 (b := false) hb5 (by kernel_rfl) (by kernel_rfl) ?_
        refine TS_know 14 (b := false) hb5 (by kernel_rfl) (by kernel_rfl) ?_
        refine TS_F (by kernel_rfl) rfl ?_
        refine TS_go 5 ?_
        replace h := condO h
        rcases h with ⟨hb8, h⟩ | ⟨hb8, h⟩
        · refine TS_know 23 (b := true) hb8 (by kernel_rfl) (by kernel_rfl) ?_
          refine TS_know 22 (b := true) hb8 (by kernel_rfl) (by kernel_rfl) ?_
          refine TS_T (by kernel_rfl) rfl ?_
          refine TS_go 2 ?_
          replace h := bindO h
          obtain ⟨v9, hv9, h⟩ := h
          refine TS_con [] [] (some (1000000, 0)) (ok_made_Tape_Next v2.2 2 v9 hv9) (by kernel_rfl) (by kernel_rfl) (by kernel_rfl) ?_
          refine TS_go 5 ?_
          exact TS_meet (v9.2, (S_Notice.mk a1.Kind a1.Seq a1.Metric (IntKind.wrap .u64 v9.1) a1.To a1.Hops)) ⟨[(3, []), (4, [])], [(1000000, (1000000, [])), (3, (3, [])), (4, (4, []))]⟩ h (by kernel_rfl) (by kernel_rfl)
        · refine TS_know 23 (b := false) hb8 (by kernel_rfl) (by kernel_rfl) ?_
          refine TS_know 22 (b := false) hb8 (by kernel_rfl) (by kernel_rfl) ?_
          refine TS_F (by kernel_rfl) rfl ?_
          refine TS_go 5 ?_
          replace h := condO h
          rcases h with ⟨hb10, h⟩ | ⟨hb10, h⟩
          · refine TS_know 29 (b := true) hb10 (by kernel_rfl) (by kernel_rfl) ?_
            refine TS_know 28 (b := true) hb10 (by kernel_rfl) (by kernel_rfl) ?_
            refine TS_T (by kernel_rfl) rfl ?_
            refine TS_go 2 ?_
            replace h := bindO h
            obtain ⟨v11, hv11, h⟩ := h
            refine TS_con [] [] (some (1000000, 0)) (ok_made_Tape_Next v2.2 2 v11 hv11) (by kernel_rfl) (by kernel_rfl) (by kernel_rfl) ?_
            refine TS_go 6 ?_
            exact TS_meet (v11.2, (S_Notice.mk a1.Kind a1.Seq a1.Metric a1.Neighbour (S_Destination.mk a1.To.Dst a1.To.Src (IntKind.wrap .u64 v11.1)) a1.Hops)) ⟨[(3, []), (4, [])], [(1000000, (1000000, [])), (3, (3, [])), (4, (4, []))]⟩ h (by kernel_rfl) (by kernel_rfl)
          · refine TS_know 29 (b := false) hb10 (by kernel_rfl) (by kernel_rfl) ?_
            refine TS_know 28 (b := false) hb10 (by kernel_rfl) (by kernel_rfl) ?_
            refine TS_F (by kernel_rfl) rfl ?_
            refine TS_go 5 ?_
            replace h := condO h
            rcases h with ⟨hb12, h⟩ | ⟨hb12, h⟩
            · refine TS_know 36 (b := true) hb12 (by kernel_rfl) (by kernel_rfl) ?_
              refine TS_know 35 (b := true) hb12 (by kernel_rfl) (by kernel_rfl) ?_
              refine TS_T (by kernel_rfl) rfl ?_
              refine TS_go 2 ?_
              replace h := bindO h
              obtain ⟨v13, hv13, h⟩ := h
              refine TS_con [] [] (some (1000000, 0)) (ok_made_Tape_Next v2.2 2 v13 hv13) (by kernel_rfl) (by kernel_rfl) (by kernel_rfl) ?_
              refine TS_go 5 ?_
              exact TS_meet (v13.2, (S_Notice.mk a1.Kind a1.Seq a1.Metric a1.Neighbour a1.To (IntKind.wrap .i64 (33 * v13.1)))) ⟨[(3, []), (4, [])], [(1000000, (1000000, [])), (3, (3, [])), (4, (4, []))]⟩ h (by kernel_rfl) (by kernel_rfl)
            · refine TS_know 36 (b := false) hb12 (by kernel_rfl) (by kernel_rfl) ?_
              refine TS_know 35 (b := false) hb12 (by kernel_rfl) (by kernel_rfl) ?_
              refine TS_F (by kernel_rfl) rfl ?_
              refine TS_go 5 ?_
              replace h := condO h
              rcases h with ⟨hb14, h⟩ | ⟨hb14, h⟩
              · refine TS_know 42 (b := true) hb14 (by kernel_rfl) (by kernel_rfl) ?_
                refine TS_know 41 (b := true) hb14 (by kernel_rfl) (by kernel_rfl) ?_
                refine TS_T (by kernel_rfl) rfl ?_
                refine TS_go 2 ?_
                replace h := bindO h
                obtain ⟨v15, hv15, h⟩ := h
                refine TS_con [] [] (some (1000000, 0)) (ok_made_Tape_Next v2.2 140 v15 hv15) (by kernel_rfl) (by kernel_rfl) (by kernel_rfl) ?_
                refine TS_go 7 ?_
                exact TS_meet (v15.2, (S_Notice.mk a1.Kind a1.Seq a1.Metric a1.Neighbour (S_Destination.mk (S_Prefix.mk a1.To.Dst.IP (IntKind.wrap .i64 (129 - v15.1))) a1.To.Src a1.To.Router) a1.Hops)) ⟨[(3, []), (4, [])], [(1000000, (1000000, [])), (3, (3, [])), (4, (4, []))]⟩ h (by kernel_rfl) (by kernel_rfl)
              · refine TS_know 42 (b := false) hb14 (by kernel_rfl) (by kernel_rfl) ?_
                refine TS_know 41 (b := false) hb14 (by kernel_rfl) (by kernel_rfl) ?_
                refine TS_F (by kernel_rfl) rfl ?_
                refine TS_go 5 ?_
                replace h := condO h
                rcases h with ⟨hb16, h⟩ | ⟨hb16, h⟩
                · refine TS_know 50 (b := true) hb16 (by kernel_rfl) (by kernel_rfl) ?_
                  refine TS_know 49 (b := true) hb16 (by kernel_rfl) (by kernel_rfl) ?_
                  refine TS_T (by kernel_rfl) rfl ?_
                  refine TS_go 2 ?_
                  replace h := bindO h
                  obtain ⟨v17, hv17, h⟩ := h
                  refine TS_con [] [] (some (1000000, 0)) (ok_made_Tape_Next v2.2 16 v17 hv17) (by kernel_rfl) (by kernel_rfl) (by kernel_rfl) ?_
                  refine TS_go 3 ?_
                  replace h := chkO h
                  obtain ⟨hc18, h⟩ := h
                  refine TS_idxA 3 21 16 (i := v17.1) hc18 (by kernel_rfl) (by kernel_rfl) ?_
                  refine TS_ldA .u8 21 16 (i := v17.1) a1.To.Src.IP hc18 (by kernel_rfl) (by kernel_rfl) ?_
                  refine TS_go 4 ?_
                  replace h := chkO h
                  obtain ⟨hc19, h⟩ := h
                  refine TS_idxA 3 21 16 (i := v17.1) hc19 (by kernel_rfl) (by kernel_rfl) ?_
                  refine TS_stA (k := .u8) (d := 3) 21 16 (i := v17.1) (v := ixor .u8 (List.getD a1.To.Src.IP (Int.toNat v17.1) 0) 1) a1.To.Src.IP (pre := [.lit (.int .i64 (a1.Kind)), .lit (.int .u16 (a1.Seq)), .lit (.int .i64 (a1.Metric)), .lit (.int .u64 (a1.Neighbour)), .lit (.int .u8 ((a1.To.Dst.IP.getD 0 0))), .lit (.int .u8 ((a1.To.Dst.IP.getD 1 0))), .lit (.int .u8 ((a1.To.Dst.IP.getD 2 0))), .lit (.int .u8 ((a1.To.Dst.IP.getD 3 0))), .lit (.int .u8 ((a1.To.Dst.IP.getD 4 0))), .lit (.int .u8 ((a1.To.Dst.IP.getD 5 0))), .lit (.int .u8 ((a1.To.Dst.IP.getD 6 0))), .lit (.int .u8 ((a1.To.Dst.IP.getD 7 0))), .lit (.int .u8 ((a1.To.Dst.IP.getD 8 0))), .lit (.int .u8 ((a1.To.Dst.IP.getD 9 0))), .lit (.int .u8 ((a1.To.Dst.IP.getD 10 0))), .lit (.int .u8 ((a1.To.Dst.IP.getD 11 0))), .lit (.int .u8 ((a1.To.Dst.IP.getD 12 0))), .lit (.int .u8 ((a1.To.Dst.IP.getD 13 0))), .lit (.int .u8 ((a1.To.Dst.IP.getD 14 0))), .lit (.int .u8 ((a1.To.Dst.IP.getD 15 0))), .lit (.int .i64 (a1.To.Dst.Bits))]) (post := [.lit (.int .i64 (a1.To.Src.Bits)), .lit (.int .u64 (a1.To.Router)), .lit (.int .i64 (a1.Hops))]) hc19 (by kernel_rfl) (by kernel_rfl) (by kernel_rfl) ?_
                  refine TS_go 2 ?_
                  exact TS_meet (v17.2, (S_Notice.mk a1.Kind a1.Seq a1.Metric a1.Neighbour (S_Destination.mk a1.To.Dst (S_Prefix.mk (setA 16 a1.To.Src.IP (Int.toNat v17.1) (ixor .u8 (List.getD a1.To.Src.IP (Int.toNat v17.1) 0) 1)) a1.To.Src.Bits) a1.To.Router) a1.Hops)) ⟨[(3, []), (4, [])], [(1000000, (1000000, [])), (3, (3, [])), (4, (4, []))]⟩ h (by kernel_rfl) (by kernel_rfl)
                · refine TS_know 50 (b := false) hb16 (by kernel_rfl) (by kernel_rfl) ?_
                  refine TS_know 49 (b := false) hb16 (by kernel_rfl) (by kernel_rfl) ?_
                  refine TS_F (by kernel_rfl) rfl ?_
                  refine TS_go 5 ?_
                  exact TS_meet (v2.2, (S_Notice.mk a1.Kind 9 a1.Metric a1.Neighbour a1.To a1.Hops)) ⟨[(3, []), (4, [])], [(1000000, (1000000, [])), (3, (3, [])), (4, (4, []))]⟩ h (by kernel_rfl) (by kernel_rfl)

/-- multihop/multihopref24.Valid -/
noncomputable def F_ref24_Valid (a0 : Int) : Option (Bool) :=
  bif (decide (a0 ≥ 0)) then
    some ((decide (a0 ≤ 65535)))
  else
    some (false)
set_option maxRecDepth 100000 in
set_option maxHeartbeats 40000000 in
theorem ok_ref24_Valid (a0 : Int) (r : Bool) (h : F_ref24_Valid a0 = some r) : Con Try.prog 41 [.c (.lit (.int .i64 (a0)))] [] (.c (.lit (.bool (r)))) [] := by
  unfold F_ref24_Valid at h
  refine con_of [] [] 9 Try.func41 rfl rfl (by kernel_rfl) (fun K => ?_)
  refine TS_go 9 ?_
  replace h := condO h
  rcases h with ⟨hb1, h⟩ | ⟨hb1, h⟩
  · refine TS_know 4 (b := true) hb1 (by kernel_rfl) (by kernel_rfl) ?_
    refine TS_know 5 (b := true) hb1 (by kernel_rfl) (by kernel_rfl) ?_
    refine TS_go 6 ?_
    have ret := Option.some.inj h
    subst ret
    exact TS_ret (by kernel_rfl) (by kernel_rfl) (by kernel_rfl)
  · refine TS_know 4 (b := false) hb1 (by kernel_rfl) (by kernel_rfl) ?_
    refine TS_know 5 (b := false) hb1 (by kernel_rfl) (by kernel_rfl) ?_
    refine TS_go 6 ?_
    have ret := Option.some.inj h
    subst ret
    exact TS_ret (by kernel_rfl) (by kernel_rfl) (by kernel_rfl)

/-- multihop/multihopref04.ValidPrefix -/
noncomputable def F_ref04_ValidPrefix_l1 (a0 : S_Prefix) (s3 : Int) : Option ((Int) ⊕ ((Unit) ⊕ (Bool))) :=
  bif (decide (s3 < 128)) then
    (F_ref04_bit a0.IP s3).bind fun v7 =>
    bif (v7 != 0) then
      some (Sum.inr (Sum.inr false))
    else
      some (Sum.inl (IntKind.wrap .i64 (s3 + 1)))
  else
    some (Sum.inr (Sum.inl ()))
noncomputable def F_ref04_ValidPrefix (a0 : S_Prefix) : Option (Bool) :=
  bif (decide (a0.Bits < 0)) then
    some (false)
  else
    bif (decide (a0.Bits > 128)) then
      some (false)
    else
      (loopO (F_ref04_ValidPrefix_l1 a0) a0.Bits).bind (Sum.elim (fun b4 =>
        some (true)
      ) (fun w9 => some w9))
set_option maxRecDepth 100000 in
set_option maxHeartbeats 40000000 in
theorem ok_ref04_ValidPrefix (a0 : S_Prefix) (r : Bool) (h : F_ref04_ValidPrefix a0 = some r) : Con Try.prog 43 [.agg (S_Prefix.cs a0)] [] (.c (.lit (.bool (r)))) [] := by
  unfold F_ref04_ValidPrefix at h
  refine con_of [] [] 23 Try.func43 rfl rfl (by kernel_rfl) (fun K => ?_)
  refine TS_go 12 ?_
  replace h := condO h
  rcases h with ⟨hb1, h⟩ | ⟨hb1, h⟩
  · refine TS_know 6 (b := true) hb1 (by kernel_rfl) (by kernel_rfl) ?_
    refine TS_know 7 (b := true) hb1 (by kernel_rfl) (by kernel_rfl) ?_
    refine TS_go 5 ?_
    refine TS_T (by kernel_rfl) rfl ?_
    refine TS_go 6 ?_
    have ret := Option.some.inj h
    subst ret
    exact TS_ret (by kernel_rfl) (by kernel_rfl) (by kernel_rfl)
  · refine TS_know 6 (b := false) hb1 (by kernel_rfl) (by kernel_rfl) ?_
    refine TS_know 7 (b := false) hb1 (by kernel_rfl) (by kernel_rfl) ?_
    refine TS_go 5 ?_
    replace h := condO h
    rcases h with ⟨hb2, h⟩ | ⟨hb2, h⟩
    · refine TS_know 10 (b := true) hb2 (by kernel_rfl) (by kernel_rfl) ?_
      refine TS_know 11 (b := true) hb2 (by kernel_rfl) (by kernel_rfl) ?_
      refine TS_T (by kernel_rfl) rfl ?_
      refine TS_go 6 ?_
      have ret := Option.some.inj h
      subst ret
      exact TS_ret (by kernel_rfl) (by kernel_rfl) (by kernel_rfl)
    · refine TS_know 10 (b := false) hb2 (by kernel_rfl) (by kernel_rfl) ?_
      refine TS_know 11 (b := false) hb2 (by kernel_rfl) (by kernel_rfl) ?_
      refine TS_F (by kernel_rfl) rfl ?_
      refine TS_go 9 ?_
      refine TS_cut ⟨[(1, []), (3, [])], [(1, (1, []))]⟩ (.mk [.code (codeAt [1, 1, 0, 1, 0] (bodyOf Try.f43)), .blk 0, .code (codeAt [1, 1, 1] (bodyOf Try.f43))] .normal ⟨[(1, .c (.box 1 0)), (3, .c (.lit (.int .i64 (a0.Bits))))], [(1, .box [.lit (.int .u8 ((a0.IP.getD 0 0))), .lit (.int .u8 ((a0.IP.getD 1 0))), .lit (.int .u8 ((a0.IP.getD 2 0))), .lit (.int .u8 ((a0.IP.getD 3 0))), .lit (.int .u8 ((a0.IP.getD 4 0))), .lit (.int .u8 ((a0.IP.getD 5 0))), .lit (.int .u8 ((a0.IP.getD 6 0))), .lit (.int .u8 ((a0.IP.getD 7 0))), .lit (.int .u8 ((a0.IP.getD 8 0))), .lit (.int .u8 ((a0.IP.getD 9 0))), .lit (.int .u8 ((a0.IP.getD 10 0))), .lit (.int .u8 ((a0.IP.getD 11 0))), .lit (.int .u8 ((a0.IP.getD 12 0))), .lit (.int .u8 ((a0.IP.getD 13 0))), .lit (.int .u8 ((a0.IP.getD 14 0))), .lit (.int .u8 ((a0.IP.getD 15 0))), .lit (.int .i64 (a0.Bits))])]⟩) (by kernel_rfl) (by kernel_rfl) ?_
      replace h := bindO h
      obtain ⟨y5, hl1, hK1⟩ := h
      refine TS_loopB (F_ref04_ValidPrefix_l1 a0) ⟨[(1, []), (3, [])], [(1, (1, []))]⟩ (fun (s3 : Int) => [(3, .c (.lit (.int .i64 (s3))))]) (fun (s3 : Int) => []) a0.Bits y5 (.exit 0) (fun (b : Unit) => (Sum.inl b : (Unit) ⊕ (Bool))) ⟨[], []⟩ (fun (b4 : Unit) => []) (fun (b4 : Unit) => []) hl1 (by kernel_rfl) (by kernel_rfl) ?_ ?_
      · intro s3 x h hy1
        unfold F_ref04_ValidPrefix_l1 at h
        refine TS_go 6 ?_
        replace h := condO h
        rcases h with ⟨hb6, h⟩ | ⟨hb6, h⟩
        · refine TS_know 15 (b := true) hb6 (by kernel_rfl) (by kernel_rfl) ?_
          refine TS_T (by kernel_rfl) rfl ?_
          refine TS_go 8 ?_
          replace h := bindO h
          obtain ⟨v7, hv7, h⟩ := h
          refine TS_call [] (ok_ref04_bit a0.IP s3 v7 hv7) (by kernel_rfl) (by kernel_rfl) ?_
          refine TS_go 2 ?_
          replace h := condO h
          rcases h with ⟨hb8, h⟩ | ⟨hb8, h⟩
          · refine TS_know 22 (b := true) hb8 (by kernel_rfl) (by kernel_rfl) ?_
            refine TS_T (by kernel_rfl) rfl ?_
            refine TS_go 7 ?_
            have ret := Option.some.inj h
            subst ret
            have hy1q := hy1 _ rfl
            subst hy1q
            replace h := (elimR hK1)
            refine TS_retB rfl (by kernel_rfl) ?_
            refine TS_go 2 ?_
            have ret := Option.some.inj h
            subst ret
            exact TS_ret (by kernel_rfl) (by kernel_rfl) (by kernel_rfl)
          · refine TS_know 22 (b := false) hb8 (by kernel_rfl) (by kernel_rfl) ?_
            refine TS_F (by kernel_rfl) rfl ?_
            refine TS_go 7 ?_
            have ret := Option.some.inj h
            subst ret
            exact TS_againB _ ⟨[(1, []), (3, [])], [(1, (1, []))]⟩ rfl (by kernel_rfl) (by kernel_rfl)
        · refine TS_know 15 (b := false) hb6 (by kernel_rfl) (by kernel_rfl) ?_
          refine TS_F (by kernel_rfl) rfl ?_
          refine TS_go 2 ?_
          have ret := Option.some.inj h
          subst ret
          exact TS_brkB () ⟨[], []⟩ rfl (by kernel_rfl) (by kernel_rfl) (by kernel_rfl)
      · intro b4 hb
        subst y5
        have h := elimL hK1
        refine TS_go 6 ?_
        have ret := Option.some.inj h
        subst ret
        exact TS_ret (by kernel_rfl) (by kernel_rfl) (by kernel_rfl)

/-- multihop/multihopref26.ValidTo -/
noncomputable def F_ref26_ValidTo (a0 : S_Destination) : Option (Bool) :=
  (F_ref04_ValidPrefix a0.Dst).bind fun v1 =>
  bif v1 then
    (F_ref04_ValidPrefix a0.Src).bind fun v3 =>
    bif v3 then
      some ((a0.Router != 0))
    else
      some (false)
  else
    some (false)
set_option maxRecDepth 100000 in
set_option maxHeartbeats 40000000 in
theorem ok_ref26_ValidTo (a0 : S_Destination) (r : Bool) (h : F_ref26_ValidTo a0 = some r) : Con Try.prog 42 [.agg (S_Destination.cs a0)] [] (.c (.lit (.bool (r)))) [] := by
  unfold F_ref26_ValidTo at h
  refine con_of [] [] 16 Try.func42 rfl rfl (by kernel_rfl) (fun K => ?_)
  refine TS_go 9 ?_
  replace h := bindO h
  obtain ⟨v1, hv1, h⟩ := h
  refine TS_call [] (ok_ref04_ValidPrefix a0.Dst v1 hv1) (by kernel_rfl) (by kernel_rfl) ?_
  refine TS_go 1 ?_
  replace h := condO h
  rcases h with ⟨hb2, h⟩ | ⟨hb2, h⟩
  · subst hb2
    refine TS_go 2 ?_
    replace h := bindO h
    obtain ⟨v3, hv3, h⟩ := h
    refine TS_call [] (ok_ref04_ValidPrefix a0.Src v3 hv3) (by kernel_rfl) (by kernel_rfl) ?_
    refine TS_go 2 ?_
    replace h := condO h
    rcases h with ⟨hb4, h⟩ | ⟨hb4, h⟩
    · subst hb4
      refine TS_go 7 ?_
      have ret := Option.some.inj h
      subst ret
      exact TS_ret (by kernel_rfl) (by kernel_rfl) (by kernel_rfl)
    · subst hb4
      refine TS_go 7 ?_
      have ret := Option.some.inj h
      subst ret
      exact TS_ret (by kernel_rfl) (by kernel_rfl) (by kernel_rfl)
  · subst hb2
    refine TS_go 12 ?_
    have ret := Option.some.inj h
    subst ret
    exact TS_ret (by kernel_rfl) (by kernel_rfl) (by kernel_rfl)

/-- multihop/multihopref29.Valid -/
noncomputable def F_ref29_Valid (a0 : S_Notice) : Option (Bool) :=
  bif (a0.Kind == 1) then
    some ((S_Notice.eqb a0 (S_Notice.mk a0.Kind a0.Seq 0 0 (S_Destination.mk (S_Prefix.mk [0, 0, 0, 0, 0, 0, 0, 0, 0, 0, 0, 0, 0, 0, 0, 0] 0) (S_Prefix.mk [0, 0, 0, 0, 0, 0, 0, 0, 0, 0, 0, 0, 0, 0, 0, 0] 0) 0) 0)))
  else
    bif (a0.Kind == 2) then
      bif (S_Notice.eqb a0 (S_Notice.mk a0.Kind 0 a0.Metric a0.Neighbour (S_Destination.mk (S_Prefix.mk [0, 0, 0, 0, 0, 0, 0, 0, 0, 0, 0, 0, 0, 0, 0, 0] 0) (S_Prefix.mk [0, 0, 0, 0, 0, 0, 0, 0, 0, 0, 0, 0, 0, 0, 0, 0] 0) 0) 0)) then
        bif (a0.Neighbour != 0) then
          (F_ref24_Valid a0.Metric).bind fun v5 =>
          some (v5)
        else
          some (false)
      else
        some (false)
    else
      bif (a0.Kind == 3) then
        bif (S_Notice.eqb a0 (S_Notice.mk a0.Kind a0.Seq a0.Metric 0 a0.To 0)) then
          (F_ref26_ValidTo a0.To).bind fun v8 =>
          bif v8 then
            (F_ref24_Valid a0.Metric).bind fun v10 =>
            some (v10)
          else
            some (false)
        else
          some (false)
      else
        bif (a0.Kind == 4) then
          bif (S_Notice.eqb a0 (S_Notice.mk a0.Kind 0 0 0 a0.To 0)) then
            bif (a0.To.Router == 0) then
              (F_ref04_ValidPrefix a0.To.Dst).bind fun v14 =>
              bif v14 then
                (F_ref04_ValidPrefix a0.To.Src).bind fun v16 =>
                some (v16)
              else
                some (false)
            else
              some (false)
          else
            some (false)
        else
          bif (a0.Kind == 5) then
            bif (S_Notice.eqb a0 (S_Notice.mk a0.Kind a0.Seq 0 0 a0.To a0.Hops)) then
              (F_ref26_ValidTo a0.To).bind fun v19 =>
              bif v19 then
                bif (decide (a0.Hops ≥ 1)) then
                  some ((decide (a0.Hops ≤ 32)))
                else
                  some (false)
              else
                some (false)
            else
              some (false)
          else
            some (false)
set_option maxRecDepth 100000 in
set_option maxHeartbeats 40000000 in
theorem ok_ref29_Valid (a0 : S_Notice) (r : Bool) (h : F_ref29_Valid a0 = some r) : Con Try.prog 17 [.agg (S_Notice.cs a0)] [] (.c (.lit (.bool (r)))) [] := by
  unfold F_ref29_Valid at h
  refine con_of [] [] 117 Try.func17 rfl rfl (by kernel_rfl) (fun K => ?_)
  refine TS_go 23 ?_
  replace h := condO h
  rcases h with ⟨hb1, h⟩ | ⟨hb1, h⟩
  · refine TS_know 8 (b := true) hb1 (by kernel_rfl) (by kernel_rfl) ?_
    refine TS_know 7 (b := true) hb1 (by kernel_rfl) (by kernel_rfl) ?_
    refine TS_T (by kernel_rfl) rfl ?_
    refine TS_go 14 ?_
    have ret := Option.some.inj h
    subst ret
    exact TS_ret (by kernel_rfl) (by kernel_rfl) (by kernel_rfl)
  · refine TS_know 8 (b := false) hb1 (by kernel_rfl) (by kernel_rfl) ?_
    refine TS_know 7 (b := false) hb1 (by kernel_rfl) (by kernel_rfl) ?_
    refine TS_F (by kernel_rfl) rfl ?_
    refine TS_go 5 ?_
    replace h := condO h
    rcases h with ⟨hb2, h⟩ | ⟨hb2, h⟩
    · refine TS_know 17 (b := true) hb2 (by kernel_rfl) (by kernel_rfl) ?_
      refine TS_know 16 (b := true) hb2 (by kernel_rfl) (by kernel_rfl) ?_
      refine TS_T (by kernel_rfl) rfl ?_
      refine TS_go 12 ?_
      replace h := condO h
      rcases h with ⟨hb3, h⟩ | ⟨hb3, h⟩
      · refine TS_know 26 (b := true) hb3 (by kernel_rfl) (by kernel_rfl) ?_
        refine TS_know 27 (b := true) hb3 (by kernel_rfl) (by kernel_rfl) ?_
        refine TS_go 5 ?_
        replace h := condO h
        rcases h with ⟨hb4, h⟩ | ⟨hb4, h⟩
        · refine TS_know 30 (b := true) hb4 (by kernel_rfl) (by kernel_rfl) ?_
          refine TS_know 31 (b := true) hb4 (by kernel_rfl) (by kernel_rfl) ?_
          refine TS_know 32 (b := true) hb4 (by kernel_rfl) (by kernel_rfl) ?_
          refine TS_go 2 ?_
          replace h := bindO h
          obtain ⟨v5, hv5, h⟩ := h
          refine TS_call [] (ok_ref24_Valid a0.Metric v5 hv5) (by kernel_rfl) (by kernel_rfl) ?_
          refine TS_go 6 ?_
          have ret := Option.some.inj h
          subst ret
          exact TS_ret (by kernel_rfl) (by kernel_rfl) (by kernel_rfl)
        · refine TS_know 30 (b := false) hb4 (by kernel_rfl) (by kernel_rfl) ?_
          refine TS_know 31 (b := false) hb4 (by kernel_rfl) (by kernel_rfl) ?_
          refine TS_know 32 (b := false) hb4 (by kernel_rfl) (by kernel_rfl) ?_
          refine TS_go 9 ?_
          have ret := Option.some.inj h
          subst ret
          exact TS_ret (by kernel_rfl) (by kernel_rfl) (by kernel_rfl)
      · refine TS_know 26 (b := false) hb3 (by kernel_rfl) (by kernel_rfl) ?_
        refine TS_know 27 (b := false) hb3 (by kernel_rfl) (by kernel_rfl) ?_
        refine TS_go 14 ?_
        have ret := Option.some.inj h
        subst ret
        exact TS_ret (by kernel_rfl) (by kernel_rfl) (by kernel_rfl)
    · refine TS_know 17 (b := false) hb2 (by kernel_rfl) (by kernel_rfl) ?_
      refine TS_know 16 (b := false) hb2 (by kernel_rfl) (by kernel_rfl) ?_
      refine TS_F (by kernel_rfl) rfl ?_
      refine TS_go 5 ?_
      replace h := condO h
      rcases h with ⟨hb6, h⟩ | ⟨hb6, h⟩
      · refine TS_know 38 (b := true) hb6 (by kernel_rfl) (by kernel_rfl) ?_
        refine TS_know 37 (b := true) hb6 (by kernel_rfl) (by kernel_rfl) ?_
        refine TS_T (by kernel_rfl) rfl ?_
        refine TS_go 14 ?_
        replace h := condO h
        rcases h with ⟨hb7, h⟩ | ⟨hb7, h⟩
        · refine TS_know 49 (b := true) hb7 (by kernel_rfl) (by kernel_rfl) ?_
          refine TS_know 50 (b := true) hb7 (by kernel_rfl) (by kernel_rfl) ?_
          refine TS_go 2 ?_
          replace h := bindO h
          obtain ⟨v8, hv8, h⟩ := h
          refine TS_call [] (ok_ref26_ValidTo a0.To v8 hv8) (by kernel_rfl) (by kernel_rfl) ?_
          refine TS_go 2 ?_
          replace h := condO h
          rcases h with ⟨hb9, h⟩ | ⟨hb9, h⟩
          · subst hb9
            refine TS_go 2 ?_
            replace h := bindO h
            obtain ⟨v10, hv10, h⟩ := h
            refine TS_call [] (ok_ref24_Valid a0.Metric v10 hv10) (by kernel_rfl) (by kernel_rfl) ?_
            refine TS_go 6 ?_
            have ret := Option.some.inj h
            subst ret
            exact TS_ret (by kernel_rfl) (by kernel_rfl) (by kernel_rfl)
          · subst hb9
            refine TS_go 9 ?_
            have ret := Option.some.inj h
            subst ret
            exact TS_ret (by kernel_rfl) (by kernel_rfl) (by kernel_rfl)
        · refine TS_know 49 (b := false) hb7 (by kernel_rfl) (by kernel_rfl) ?_
          refine TS_know 50 (b := false) hb7 (by kernel_rfl) (by kernel_rfl) ?_
          refine TS_go 14 ?_
          have ret := Option.some.inj h
          subst ret
          exact TS_ret (by kernel_rfl) (by kernel_rfl) (by kernel_rfl)
      · refine TS_know 38 (b := false) hb6 (by kernel_rfl) (by kernel_rfl) ?_
        refine TS_know 37 (b := false) hb6 (by kernel_rfl) (by kernel_rfl) ?_
        refine TS_F (by kernel_rfl) rfl ?_
        refine TS_go 5 ?_
        replace h := condO h
        rcases h with ⟨hb11, h⟩ | ⟨hb11, h⟩
        · refine TS_know 61 (b := true) hb11 (by kernel_rfl) (by kernel_rfl) ?_
          refine TS_know 60 (b := true) hb11 (by kernel_rfl) (by kernel_rfl) ?_
          refine TS_T (by kernel_rfl) rfl ?_
          refine TS_go 10 ?_
          replace h := condO h
          rcases h with ⟨hb12, h⟩ | ⟨hb12, h⟩
          · refine TS_know 68 (b := true) hb12 (by kernel_rfl) (by kernel_rfl) ?_
            refine TS_know 69 (b := true) hb12 (by kernel_rfl) (by kernel_rfl) ?_
            refine TS_go 8 ?_
            replace h := condO h
            rcases h with ⟨hb13, h⟩ | ⟨hb13, h⟩
            · refine TS_know 75 (b := true) hb13 (by kernel_rfl) (by kernel_rfl) ?_
              refine TS_know 76 (b := true) hb13 (by kernel_rfl) (by kernel_rfl) ?_
              refine TS_know 77 (b := true) hb13 (by kernel_rfl) (by kernel_rfl) ?_
              refine TS_go 3 ?_
              replace h := bindO h
              obtain ⟨v14, hv14, h⟩ := h
              refine TS_call [] (ok_ref04_ValidPrefix a0.To.Dst v14 hv14) (by kernel_rfl) (by kernel_rfl) ?_
              refine TS_go 2 ?_
              replace h := condO h
              rcases h with ⟨hb15, h⟩ | ⟨hb15, h⟩
              · subst hb15
                refine TS_go 3 ?_
                replace h := bindO h
                obtain ⟨v16, hv16, h⟩ := h
                refine TS_call [] (ok_ref04_ValidPrefix a0.To.Src v16 hv16) (by kernel_rfl) (by kernel_rfl) ?_
                refine TS_go 6 ?_
                have ret := Option.some.inj h
                subst ret
                exact TS_ret (by kernel_rfl) (by kernel_rfl) (by kernel_rfl)
              · subst hb15
                refine TS_go 10 ?_
                have ret := Option.some.inj h
                subst ret
                exact TS_ret (by kernel_rfl) (by kernel_rfl) (by kernel_rfl)
            · refine TS_know 75 (b := false) hb13 (by kernel_rfl) (by kernel_rfl) ?_
              refine TS_know 76 (b := false) hb13 (by kernel_rfl) (by kernel_rfl) ?_
              refine TS_know 77 (b := false) hb13 (by kernel_rfl) (by kernel_rfl) ?_
              refine TS_go 16 ?_
              have ret := Option.some.inj h
              subst ret
              exact TS_ret (by kernel_rfl) (by kernel_rfl) (by kernel_rfl)
          · refine TS_know 68 (b := false) hb12 (by kernel_rfl) (by kernel_rfl) ?_
            refine TS_know 69 (b := false) hb12 (by kernel_rfl) (by kernel_rfl) ?_
            refine TS_go 24 ?_
            have ret := Option.some.inj h
            subst ret
            exact TS_ret (by kernel_rfl) (by kernel_rfl) (by kernel_rfl)
        · refine TS_know 61 (b := false) hb11 (by kernel_rfl) (by kernel_rfl) ?_
          refine TS_know 60 (b := false) hb11 (by kernel_rfl) (by kernel_rfl) ?_
          refine TS_F (by kernel_rfl) rfl ?_
          refine TS_go 5 ?_
          replace h := condO h
          rcases h with ⟨hb17, h⟩ | ⟨hb17, h⟩
          · refine TS_know 90 (b := true) hb17 (by kernel_rfl) (by kernel_rfl) ?_
            refine TS_know 89 (b := true) hb17 (by kernel_rfl) (by kernel_rfl) ?_
            refine TS_T (by kernel_rfl) rfl ?_
            refine TS_go 14 ?_
            replace h := condO h
            rcases h with ⟨hb18, h⟩ | ⟨hb18, h⟩
            · refine TS_know 101 (b := true) hb18 (by kernel_rfl) (by kernel_rfl) ?_
              refine TS_know 102 (b := true) hb18 (by kernel_rfl) (by kernel_rfl) ?_
              refine TS_go 2 ?_
              replace h := bindO h
              obtain ⟨v19, hv19, h⟩ := h
              refine TS_call [] (ok_ref26_ValidTo a0.To v19 hv19) (by kernel_rfl) (by kernel_rfl) ?_
              refine TS_go 2 ?_
              replace h := condO h
              rcases h with ⟨hb20, h⟩ | ⟨hb20, h⟩
              · subst hb20
                refine TS_go 5 ?_
                replace h := condO h
                rcases h with ⟨hb21, h⟩ | ⟨hb21, h⟩
                · refine TS_know 110 (b := true) hb21 (by kernel_rfl) (by kernel_rfl) ?_
                  refine TS_know 111 (b := true) hb21 (by kernel_rfl) (by kernel_rfl) ?_
                  refine TS_know 112 (b := true) hb21 (by kernel_rfl) (by kernel_rfl) ?_
                  refine TS_go 9 ?_
                  have ret := Option.some.inj h
                  subst ret
                  exact TS_ret (by kernel_rfl) (by kernel_rfl) (by kernel_rfl)
                · refine TS_know 110 (b := false) hb21 (by kernel_rfl) (by kernel_rfl) ?_
                  refine TS_know 111 (b := false) hb21 (by kernel_rfl) (by kernel_rfl) ?_
                  refine TS_know 112 (b := false) hb21 (by kernel_rfl) (by kernel_rfl) ?_
                  refine TS_go 9 ?_
                  have ret := Option.some.inj h
                  subst ret
                  exact TS_ret (by kernel_rfl) (by kernel_rfl) (by kernel_rfl)
              · subst hb20
                refine TS_go 14 ?_
                have ret := Option.some.inj h
                subst ret
                exact TS_ret (by kernel_rfl) (by kernel_rfl) (by kernel_rfl)
            · refine TS_know 101 (b := false) hb18 (by kernel_rfl) (by kernel_rfl) ?_
              refine TS_know 102 (b := false) hb18 (by kernel_rfl) (by kernel_rfl) ?_
              refine TS_go 19 ?_
              have ret := Option.some.inj h
              subst ret
              exact TS_ret (by kernel_rfl) (by kernel_rfl) (by kernel_rfl)
          · refine TS_know 90 (b := false) hb17 (by kernel_rfl) (by kernel_rfl) ?_
            refine TS_know 89 (b := false) hb17 (by kernel_rfl) (by kernel_rfl) ?_
            refine TS_F (by kernel_rfl) rfl ?_
            refine TS_go 7 ?_
            have ret := Option.some.inj h
            subst ret
            exact TS_ret (by kernel_rfl) (by kernel_rfl) (by kernel_rfl)

/-- multihop/multihopref29.Put -/
noncomputable def F_ref29_Put_N0_l1 (a1 : Int) (s1 : (List Int) × Int) : Option (((List Int) × Int) ⊕ ((List Int))) :=
  bif (decide (s1.2 ≥ 0)) then
    bif decide (0 ≤ (IntKind.wrap .u64 (IntKind.wrap .i64 (8 * s1.2)))) then
      (appO 1 s1.1 (Cut.app .whole ([IntKind.wrap .u8 (ishr .u64 a1 (IntKind.wrap .u64 (IntKind.wrap .i64 (8 * s1.2))))] : List Int))).bind fun l6 =>
      some (Sum.inl (l6, IntKind.wrap .i64 (s1.2 - 1)))
    else none
  else
    some (Sum.inr s1.1)
noncomputable def F_ref29_Put_N0 (a1 : Int) (a2 : Int) : Option ((List Int)) :=
  (loopO (F_ref29_Put_N0_l1 a1) (([] : List Int), IntKind.wrap .i64 (a2 - 1))).bind fun b2 =>
  some (b2)
set_option maxRecDepth 100000 in
set_option maxHeartbeats 40000000 in
theorem okT_ref29_Put_N0 (a1 : Int) (a2 : Int) (r : (List Int)) (h : F_ref29_Put_N0 a1 a2 = some r) : Con Try.prog 51 [.c (.lit (.slice none 0 0)), .c (.lit (.int .u64 (a1))), .c (.lit (.int .i64 (a2)))] [] (.c (.slc 1 900002 (List.length r) (List.map (ecI .u8) r))) [(900000, .spare 5 1 (List.length r))] := by
  unfold F_ref29_Put_N0 at h
  refine con_of [] [(900000, [])] 24 Try.func51 rfl rfl (by kernel_rfl) (fun K => ?_)
  refine TS_go 12 ?_
  refine TS_nilT 0 600000 5 1 (by kernel_rfl) ?_
  refine TS_cut ⟨[(0, []), (1, []), (7, [])], [(600000, (600000, []))]⟩ (.mk [.code (codeAt [1, 0, 1, 0] (bodyOf Try.f51)), .blk 0, .code (codeAt [1, 1] (bodyOf Try.f51))] .normal ⟨[(0, .c (.slc 1 600002 (List.length ([] : List Int)) (List.map (ecI .u8) ([] : List Int)))), (1, .c (.lit (.int .u64 (a1)))), (7, .c (.lit (.int .i64 (IntKind.wrap .i64 (a2 - 1)))))], [(600000, .spare 5 1 (List.length ([] : List Int)))]⟩) (by kernel_rfl) (by kernel_rfl) ?_
  replace h := bindO h
  obtain ⟨y3, hl1, hK1⟩ := h
  refine TS_loopB (F_ref29_Put_N0_l1 a1) ⟨[(0, []), (1, []), (7, [])], [(600000, (600000, []))]⟩ (fun (s1 : (List Int) × Int) => [(0, .c (.slc 1 600002 (List.length s1.1) (List.map (ecI .u8) s1.1))), (7, .c (.lit (.int .i64 (s1.2))))]) (fun (s1 : (List Int) × Int) => [(600000, .spare 5 1 (List.length s1.1))]) (([] : List Int), IntKind.wrap .i64 (a2 - 1)) y3 (.exit 0) (fun (b : (List Int)) => b) ⟨[(0, [])], [(600000, (600000, []))]⟩ (fun (b2 : (List Int)) => [(0, .c (.slc 1 600002 (List.length b2) (List.map (ecI .u8) b2)))]) (fun (b2 : (List Int)) => [(600000, .spare 5 1 (List.length b2))]) hl1 (by kernel_rfl) (by kernel_rfl) ?_ ?_
  · intro s1 x h hy1
    unfold F_ref29_Put_N0_l1 at h
    refine TS_go 6 ?_
    replace h := condO h
    rcases h with ⟨hb4, h⟩ | ⟨hb4, h⟩
    · refine TS_know 11 (b := true) hb4 (by kernel_rfl) (by kernel_rfl) ?_
      refine TS_T (by kernel_rfl) rfl ?_
      refine TS_go 9 ?_
      replace h := chkO h
      obtain ⟨hc5, h⟩ := h
      refine TS_num (op := .shr) (k := .u64) (k' := .u64) (m := a1) (i := IntKind.wrap .u64 (IntKind.wrap .i64 (8 * s1.2))) (of_decide_eq_true hc5) rfl (by simp) (by kernel_rfl) (by kernel_rfl) ?_
      refine TS_go 1 ?_
      refine TS_litNT 21 5 1 (ecI .u8) [] ([IntKind.wrap .u8 (ishr .u64 a1 (IntKind.wrap .u64 (IntKind.wrap .i64 (8 * s1.2))))] : List Int) (by kernel_rfl) (by kernel_rfl) ?_
      replace h := bindO h
      obtain ⟨_l6, hl6, h⟩ := h
      refine TS_appT (d := 600000) (e := 5) (sz := 1) (N := List.length s1.1) (ecI .u8) (fun _ => by kernel_rfl) (l1 := s1.1) (l2 := ([IntKind.wrap .u8 (ishr .u64 a1 (IntKind.wrap .u64 (IntKind.wrap .i64 (8 * s1.2))))] : List Int)) (c := .whole) hl6 (by kernel_rfl) (by kernel_rfl) ?_
      refine TS_go 8 ?_
      have ret := Option.some.inj h
      subst ret
      exact TS_againB _ ⟨[(0, []), (1, []), (7, [])], [(600000, (600000, []))]⟩ rfl (by kernel_rfl) (by kernel_rfl)
    · refine TS_know 11 (b := false) hb4 (by kernel_rfl) (by kernel_rfl) ?_
      refine TS_F (by kernel_rfl) rfl ?_
      refine TS_go 2 ?_
      have ret := Option.some.inj h
      subst ret
      exact TS_brkB s1.1 ⟨[(0, [])], [(600000, (600000, []))]⟩ rfl (by kernel_rfl) (by kernel_rfl) (by kernel_rfl)
  · intro b2 hb
    subst y3
    have h := hK1
    refine TS_go 6 ?_
    refine TS_fitU ⟨[(6, [])], [(600000, (900000, []))]⟩ (by kernel_rfl) ?_
    refine TS_go 1 ?_
    have ret := Option.some.inj h
    subst ret
    exact TS_ret (by kernel_rfl) (by kernel_rfl) (by kernel_rfl)
/-- multihop/multihopref29.Put -/
noncomputable def F_ref29_Put_G0_l1 (a1 : Int) (s1 : (List Int) × Int) : Option (((List Int) × Int) ⊕ ((List Int))) :=
  bif (decide (s1.2 ≥ 0)) then
    bif decide (0 ≤ (IntKind.wrap .u64 (IntKind.wrap .i64 (8 * s1.2)))) then
      (appO 1 s1.1 (Cut.app .whole ([IntKind.wrap .u8 (ishr .u64 a1 (IntKind.wrap .u64 (IntKind.wrap .i64 (8 * s1.2))))] : List Int))).bind fun l6 =>
      some (Sum.inl (l6, IntKind.wrap .i64 (s1.2 - 1)))
    else none
  else
    some (Sum.inr s1.1)
noncomputable def F_ref29_Put_G0 (a0 : List Int) (a1 : Int) (a2 : Int) : Option ((List Int)) :=
  (loopO (F_ref29_Put_G0_l1 a1) (a0, IntKind.wrap .i64 (a2 - 1))).bind fun b2 =>
  some (b2)
set_option maxRecDepth 100000 in
set_option maxHeartbeats 40000000 in
theorem ok_ref29_Put_G0 (a0 : List Int) (a1 : Int) (a2 : Int) (r : (List Int)) (h : F_ref29_Put_G0 a0 a1 a2 = some r) : ConG Try.prog 51 [.c (.slc 1 1000003 (List.length a0) (List.map (ecI .u8) a0)), .c (.lit (.int .u64 (a1))), .c (.lit (.int .i64 (a2)))] 5 1 (List.length a0) (.c (.slc 1 1000003 (List.length r) (List.map (ecI .u8) r))) (List.length r) := by
  unfold F_ref29_Put_G0 at h
  refine con_ofG [] 24 0 Try.func51 rfl rfl (by kernel_rfl) rfl (fun K => ?_)
  refine TS_go 12 ?_
  refine TS_cut ⟨[(0, []), (2000000, []), (1, []), (7, [])], [(1000001, (1000001, []))]⟩ (.mk [.code (codeAt [1, 0, 1, 0] (bodyOf Try.f51)), .blk 0, .code (codeAt [1, 1] (bodyOf Try.f51))] .normal ⟨[(0, .c (.slc 1 1000003 (List.length a0) (List.map (ecI .u8) a0))), (2000000, .c (.slc 1 1000003 (List.length a0) (List.map (ecI .u8) a0))), (1, .c (.lit (.int .u64 (a1)))), (7, .c (.lit (.int .i64 (IntKind.wrap .i64 (a2 - 1)))))], [(1000001, .spare 5 1 (List.length a0))]⟩) (by kernel_rfl) (by kernel_rfl) ?_
  replace h := bindO h
  obtain ⟨y3, hl1, hK1⟩ := h
  refine TS_loopB (F_ref29_Put_G0_l1 a1) ⟨[(0, []), (1, []), (7, []), (2000000, [])], [(1000001, (1000001, []))]⟩ (fun (s1 : (List Int) × Int) => [(0, .c (.slc 1 1000003 (List.length s1.1) (List.map (ecI .u8) s1.1))), (7, .c (.lit (.int .i64 (s1.2))))]) (fun (s1 : (List Int) × Int) => [(1000001, .spare 5 1 (List.length s1.1))]) (a0, IntKind.wrap .i64 (a2 - 1)) y3 (.exit 0) (fun (b : (List Int)) => b) ⟨[(0, []), (2000000, [])], [(1000001, (1000001, []))]⟩ (fun (b2 : (List Int)) => [(0, .c (.slc 1 1000003 (List.length b2) (List.map (ecI .u8) b2)))]) (fun (b2 : (List Int)) => [(1000001, .spare 5 1 (List.length b2))]) hl1 (by kernel_rfl) (by kernel_rfl) ?_ ?_
  · intro s1 x h hy1
    unfold F_ref29_Put_G0_l1 at h
    refine TS_go 6 ?_
    replace h := condO h
    rcases h with ⟨hb4, h⟩ | ⟨hb4, h⟩
    · refine TS_know 11 (b := true) hb4 (by kernel_rfl) (by kernel_rfl) ?_
      refine TS_T (by kernel_rfl) rfl ?_
      refine TS_go 9 ?_
      replace h := chkO h
      obtain ⟨hc5, h⟩ := h
      refine TS_num (op := .shr) (k := .u64) (k' := .u64) (m := a1) (i := IntKind.wrap .u64 (IntKind.wrap .i64 (8 * s1.2))) (of_decide_eq_true hc5) rfl (by simp) (by kernel_rfl) (by kernel_rfl) ?_
      refine TS_go 1 ?_
      refine TS_litNT 21 5 1 (ecI .u8) [] ([IntKind.wrap .u8 (ishr .u64 a1 (IntKind.wrap .u64 (IntKind.wrap .i64 (8 * s1.2))))] : List Int) (by kernel_rfl) (by kernel_rfl) ?_
      replace h := bindO h
      obtain ⟨_l6, hl6, h⟩ := h
      refine TS_appT (d := 1000001) (e := 5) (sz := 1) (N := List.length s1.1) (ecI .u8) (fun _ => by kernel_rfl) (l1 := s1.1) (l2 := ([IntKind.wrap .u8 (ishr .u64 a1 (IntKind.wrap .u64 (IntKind.wrap .i64 (8 * s1.2))))] : List Int)) (c := .whole) hl6 (by kernel_rfl) (by kernel_rfl) ?_
      refine TS_go 8 ?_
      have ret := Option.some.inj h
      subst ret
      exact TS_againB _ ⟨[(0, []), (1, []), (7, []), (2000000, [])], [(1000001, (1000001, []))]⟩ rfl (by kernel_rfl) (by kernel_rfl)
    · refine TS_know 11 (b := false) hb4 (by kernel_rfl) (by kernel_rfl) ?_
      refine TS_F (by kernel_rfl) rfl ?_
      refine TS_go 2 ?_
      have ret := Option.some.inj h
      subst ret
      exact TS_brkB s1.1 ⟨[(0, []), (2000000, [])], [(1000001, (1000001, []))]⟩ rfl (by kernel_rfl) (by kernel_rfl) (by kernel_rfl)
  · intro b2 hb
    subst y3
    have h := hK1
    refine TS_go 7 ?_
    have ret := Option.some.inj h
    subst ret
    exact TS_retG (sz1 := 1) (xs1 := List.map (ecI .u8) a0) (by kernel_rfl) (by kernel_rfl) (by kernel_rfl) (by kernel_rfl)

/-- multihop/multihopref29.element -/
noncomputable def F_ref29_element_G0 (a0 : List Int) (a1 : Int) (a2 : List Int) : Option ((List Int)) :=
  (appO 1 a0 (Cut.app .whole ([a1, IntKind.wrap .u8 (List.length a2 : Int)] : List Int))).bind fun l1 =>
  (appO 1 l1 (Cut.app .whole a2)).bind fun l2 =>
  some (l2)
set_option maxRecDepth 100000 in
set_option maxHeartbeats 40000000 in
theorem ok_ref29_element_G0 (a0 : List Int) (a1 : Int) (a2 : List Int) (r : (List Int)) (h : F_ref29_element_G0 a0 a1 a2 = some r) : ConG Try.prog 65 [.c (.slc 1 1000003 (List.length a0) (List.map (ecI .u8) a0)), .c (.lit (.int .u8 (a1))), .c (eS 1 (ecI .u8) (a2))] 5 1 (List.length a0) (.c (.slc 1 1000003 (List.length r) (List.map (ecI .u8) r))) (List.length r) := by
  unfold F_ref29_element_G0 at h
  refine con_ofG [] 17 0 Try.func65 rfl rfl (by kernel_rfl) rfl (fun K => ?_)
  refine TS_go 11 ?_
  refine TS_litNT 12 5 1 (ecI .u8) [] ([a1, IntKind.wrap .u8 (List.length a2 : Int)] : List Int) (by kernel_rfl) (by kernel_rfl) ?_
  replace h := bindO h
  obtain ⟨l1, hl1, h⟩ := h
  refine TS_appT (d := 1000001) (e := 5) (sz := 1) (N := List.length a0) (ecI .u8) (fun _ => by kernel_rfl) (l1 := a0) (l2 := ([a1, IntKind.wrap .u8 (List.length a2 : Int)] : List Int)) (c := .whole) hl1 (by kernel_rfl) (by kernel_rfl) ?_
  refine TS_go 6 ?_
  replace h := bindO h
  obtain ⟨l2, hl2, h⟩ := h
  refine TS_appT (d := 1000001) (e := 5) (sz := 1) (N := List.length l1) (ecI .u8) (fun _ => by kernel_rfl) (l1 := l1) (l2 := a2) (c := .whole) hl2 (by kernel_rfl) (by kernel_rfl) ?_
  refine TS_go 3 ?_
  have ret := Option.some.inj h
  subst ret
  exact TS_retG (sz1 := 1) (xs1 := List.map (ecI .u8) a0) (by kernel_rfl) (by kernel_rfl) (by kernel_rfl) (by kernel_rfl)

/-- multihop/multihopref29.size -/
noncomputable def F_ref29_size (a0 : Int) : Option (Int) :=
  some (iquo .i64 (IntKind.wrap .i64 (a0 + 7)) 8)
set_option maxRecDepth 100000 in
set_option maxHeartbeats 40000000 in
theorem ok_ref29_size (a0 : Int) (r : Int) (h : F_ref29_size a0 = some r) : Con Try.prog 66 [.c (.lit (.int .i64 (a0)))] [] (.c (.lit (.int .i64 (r)))) [] := by
  unfold F_ref29_size at h
  refine con_of [] [] 6 Try.func66 rfl rfl (by kernel_rfl) (fun K => ?_)
  refine TS_go 12 ?_
  have ret := Option.some.inj h
  subst ret
  exact TS_ret (by kernel_rfl) (by kernel_rfl) (by kernel_rfl)

/-- multihop/multihopref29.part -/
noncomputable def F_ref29_part_l1 (a0 : S_Prefix) (s1 : (List Int) × Int) : Option (((List Int) × Int) ⊕ ((List Int))) :=
  (F_ref29_size a0.Bits).bind fun v4 =>
  bif (decide (s1.2 < v4)) then
    bif decide ((0 : Int) ≤ s1.2 ∧ s1.2 < (16 : Int)) then
      (appO 1 s1.1 (Cut.app .whole ([(List.getD a0.IP (Int.toNat s1.2) 0)] : List Int))).bind fun l7 =>
      some (Sum.inl (l7, IntKind.wrap .i64 (s1.2 + 1)))
    else none
  else
    some (Sum.inr s1.1)
noncomputable def F_ref29_part (a0 : S_Prefix) (a1 : Int) : Option ((List Int)) :=
  (loopO (F_ref29_part_l1 a0) (([] : List Int), a1)).bind fun b2 =>
  some (b2)
set_option maxRecDepth 100000 in
set_option maxHeartbeats 40000000 in
theorem okT_ref29_part (a0 : S_Prefix) (a1 : Int) (r : (List Int)) (h : F_ref29_part a0 a1 = some r) : Con Try.prog 67 [.agg (S_Prefix.cs a0), .c (.lit (.int .i64 (a1)))] [] (.c (.slc 1 900002 (List.length r) (List.map (ecI .u8) r))) [(900000, .spare 5 1 (List.length r))] := by
  unfold F_ref29_part at h
  refine con_of [] [(900000, [])] 23 Try.func67 rfl rfl (by kernel_rfl) (fun K => ?_)
  refine TS_go 16 ?_
  refine TS_nilT 5 600000 5 1 (by kernel_rfl) ?_
  refine TS_cut ⟨[(2, []), (5, []), (6, [])], [(2, (2, [])), (600000, (600000, []))]⟩ (.mk [.code (codeAt [1, 1, 0, 1, 0] (bodyOf Try.f67)), .blk 0, .code (codeAt [1, 1, 1] (bodyOf Try.f67))] .normal ⟨[(2, .c (.box 2 0)), (5, .c (.slc 1 600002 (List.length ([] : List Int)) (List.map (ecI .u8) ([] : List Int)))), (6, .c (.lit (.int .i64 (a1))))], [(2, .box [.lit (.int .u8 ((a0.IP.getD 0 0))), .lit (.int .u8 ((a0.IP.getD 1 0))), .lit (.int .u8 ((a0.IP.getD 2 0))), .lit (.int .u8 ((a0.IP.getD 3 0))), .lit (.int .u8 ((a0.IP.getD 4 0))), .lit (.int .u8 ((a0.IP.getD 5 0))), .lit (.int .u8 ((a0.IP.getD 6 0))), .lit (.int .u8 ((a0.IP.getD 7 0))), .lit (.int .u8 ((a0.IP.getD 8 0))), .lit (.int .u8 ((a0.IP.getD 9 0))), .lit (.int .u8 ((a0.IP.getD 10 0))), .lit (.int .u8 ((a0.IP.getD 11 0))), .lit (.int .u8 ((a0.IP.getD 12 0))), .lit (.int .u8 ((a0.IP.getD 13 0))), .lit (.int .u8 ((a0.IP.getD 14 0))), .lit (.int .u8 ((a0.IP.getD 15 0))), .lit (.int .i64 (a0.Bits))]), (600000, .spare 5 1 (List.length ([] : List Int)))]⟩) (by kernel_rfl) (by kernel_rfl) ?_
  replace h := bindO h
  obtain ⟨y3, hl1, hK1⟩ := h
  refine TS_loopB (F_ref29_part_l1 a0) ⟨[(2, []), (5, []), (6, [])], [(2, (2, [])), (600000, (600000, []))]⟩ (fun (s1 : (List Int) × Int) => [(5, .c (.slc 1 600002 (List.length s1.1) (List.map (ecI .u8) s1.1))), (6, .c (.lit (.int .i64 (s1.2))))]) (fun (s1 : (List Int) × Int) => [(600000, .spare 5 1 (List.length s1.1))]) (([] : List Int), a1) y3 (.exit 0) (fun (b : (List Int)) => b) ⟨[(5, [])], [(600000, (600000, []))]⟩ (fun (b2 : (List Int)) => [(5, .c (.slc 1 600002 (List.length b2) (List.map (ecI .u8) b2)))]) (fun (b2 : (List Int)) => [(600000, .spare 5 1 (List.length b2))]) hl1 (by kernel_rfl) (by kernel_rfl) ?_ ?_
  · intro s1 x h hy1
    unfold F_ref29_part_l1 at h
    refine TS_go 6 ?_
    replace h := bindO h
    obtain ⟨v4, hv4, h⟩ := h
    refine TS_call [] (ok_ref29_size a0.Bits v4 hv4) (by kernel_rfl) (by kernel_rfl) ?_
    refine TS_go 2 ?_
    replace h := condO h
    rcases h with ⟨hb5, h⟩ | ⟨hb5, h⟩
    · refine TS_know 12 (b := true) hb5 (by kernel_rfl) (by kernel_rfl) ?_
      refine TS_T (by kernel_rfl) rfl ?_
      refine TS_go 7 ?_
      replace h := chkO h
      obtain ⟨hc6, h⟩ := h
      refine TS_idxA 2 0 16 (i := s1.2) hc6 (by kernel_rfl) (by kernel_rfl) ?_
      refine TS_ldA .u8 0 16 (i := s1.2) a0.IP hc6 (by kernel_rfl) (by kernel_rfl) ?_
      refine TS_litNT 20 5 1 (ecI .u8) [] ([(List.getD a0.IP (Int.toNat s1.2) 0)] : List Int) (by kernel_rfl) (by kernel_rfl) ?_
      replace h := bindO h
      obtain ⟨_l7, hl7, h⟩ := h
      refine TS_appT (d := 600000) (e := 5) (sz := 1) (N := List.length s1.1) (ecI .u8) (fun _ => by kernel_rfl) (l1 := s1.1) (l2 := ([(List.getD a0.IP (Int.toNat s1.2) 0)] : List Int)) (c := .whole) hl7 (by kernel_rfl) (by kernel_rfl) ?_
      refine TS_go 8 ?_
      have ret := Option.some.inj h
      subst ret
      exact TS_againB _ ⟨[(2, []), (5, []), (6, [])], [(2, (2, [])), (600000, (600000, []))]⟩ rfl (by kernel_rfl) (by kernel_rfl)
    · refine TS_know 12 (b := false) hb5 (by kernel_rfl) (by kernel_rfl) ?_
      refine TS_F (by kernel_rfl) rfl ?_
      refine TS_go 2 ?_
      have ret := Option.some.inj h
      subst ret
      exact TS_brkB s1.1 ⟨[(5, [])], [(600000, (600000, []))]⟩ rfl (by kernel_rfl) (by kernel_rfl) (by kernel_rfl)
  · intro b2 hb
    subst y3
    have h := hK1
    refine TS_go 6 ?_
    refine TS_fitU ⟨[(4, [])], [(600000, (900000, []))]⟩ (by kernel_rfl) ?_
    refine TS_go 1 ?_
    have ret := Option.some.inj h
    subst ret
    exact TS_ret (by kernel_rfl) (by kernel_rfl) (by kernel_rfl)
end
section
open Go.RowKit
attribute [local irreducible] TS go TD goD

/-- multihop/multihopref29.Body -/
noncomputable def F_ref29_Body_j2 (s1 : (List Int) × Int × Int × (List Int)) (v5 : (List Int) × Int × (List Int)) : Option (((List Int) × Int × Int × (List Int)) ⊕ ((List Int))) :=
  some (Sum.inl (v5.1, v5.2.1, IntKind.wrap .i64 (s1.2.2.1 + 1), v5.2.2))
noncomputable def F_ref29_Body_l4 (e6 : S_Notice) (s1 : (List Int) × Int × Int × (List Int)) (s16 : Int) : Option ((Int) ⊕ (Int)) :=
  (F_ref29_size e6.To.Dst.Bits).bind fun v19 =>
  bif (decide (s16 < v19)) then
    bif decide ((0 : Int) ≤ s16 ∧ s16 < (16 : Int)) then
      bif decide ((0 : Int) ≤ s16 ∧ s16 < (16 : Int)) then
        bif ((List.getD e6.To.Dst.IP (Int.toNat s16) 0) == (List.getD s1.2.2.2 (Int.toNat s16) 0)) then
          some (Sum.inl (IntKind.wrap .i64 (s16 + 1)))
        else
          some (Sum.inr s16)
      else none
    else none
  else
    some (Sum.inr s16)
noncomputable def F_ref29_Body_j3 (e6 : S_Notice) (s1 : (List Int) × Int × Int × (List Int)) (v15 : (List Int) × Int) : Option (((List Int) × Int × Int × (List Int)) ⊕ ((List Int))) :=
  (loopO (F_ref29_Body_l4 e6 s1) 0).bind fun b17 =>
  (appO 1 ([] : List Int) (Cut.app .whole ([IntKind.wrap .u8 b17, IntKind.wrap .u8 e6.To.Dst.Bits, IntKind.wrap .u8 e6.To.Src.Bits] : List Int))).bind fun l25 =>
  (F_ref29_Put_G0 l25 (IntKind.wrap .u64 e6.Seq) 2).bind fun v26 =>
  (F_ref29_Put_G0 v26 (IntKind.wrap .u64 e6.Metric) 2).bind fun v27 =>
  (F_ref29_part e6.To.Dst b17).bind fun v28 =>
  (appO 1 v27 (Cut.app .whole v28)).bind fun l29 =>
  (F_ref29_part e6.To.Src 0).bind fun v30 =>
  (appO 1 l29 (Cut.app .whole v30)).bind fun l31 =>
  (F_ref29_element_G0 v15.1 3 l31).bind fun v32 =>
  (F_ref29_Body_j2 s1) (v32, v15.2, e6.To.Dst.IP)
noncomputable def F_ref29_Body_l1 (a0 : List S_Notice) (s1 : (List Int) × Int × Int × (List Int)) : Option (((List Int) × Int × Int × (List Int)) ⊕ ((List Int))) :=
  bif (decide (s1.2.2.1 < (List.length a0 : Int))) then
    (idx a0 s1.2.2.1).bind fun e6 =>
    bif (e6.Kind == 1) then
      (F_ref29_Put_N0 (IntKind.wrap .u64 e6.Seq) 2).bind fun v8 =>
      (F_ref29_element_G0 s1.1 1 v8).bind fun v9 =>
      (F_ref29_Body_j2 s1) (v9, s1.2.1, s1.2.2.2)
    else
      bif (e6.Kind == 2) then
        (F_ref29_Put_N0 e6.Neighbour 8).bind fun v11 =>
        (F_ref29_Put_G0 v11 (IntKind.wrap .u64 e6.Metric) 2).bind fun v12 =>
        (F_ref29_element_G0 s1.1 2 v12).bind fun v13 =>
        (F_ref29_Body_j2 s1) (v13, s1.2.1, s1.2.2.2)
      else
        bif (e6.Kind == 3) then
          bif (e6.To.Router != s1.2.1) then
            (F_ref29_Put_N0 e6.To.Router 8).bind fun v34 =>
            (F_ref29_element_G0 s1.1 6 v34).bind fun v35 =>
            (F_ref29_Body_j3 e6 s1) (v35, e6.To.Router)
          else
            (F_ref29_Body_j3 e6 s1) (s1.1, s1.2.1)
        else
          bif (e6.Kind == 4) then
            (appO 1 ([] : List Int) (Cut.app .whole ([IntKind.wrap .u8 e6.To.Dst.Bits, IntKind.wrap .u8 e6.To.Src.Bits] : List Int))).bind fun l37 =>
            (F_ref29_part e6.To.Dst 0).bind fun v38 =>
            (appO 1 l37 (Cut.app .whole v38)).bind fun l39 =>
            (F_ref29_part e6.To.Src 0).bind fun v40 =>
            (appO 1 l39 (Cut.app .whole v40)).bind fun l41 =>
            (F_ref29_element_G0 s1.1 4 l41).bind fun v42 =>
            (F_ref29_Body_j2 s1) (v42, s1.2.1, s1.2.2.2)
          else
            bif (e6.Kind == 5) then
              (appO 1 ([] : List Int) (Cut.app .whole ([IntKind.wrap .u8 e6.To.Dst.Bits, IntKind.wrap .u8 e6.To.Src.Bits] : List Int))).bind fun l44 =>
              (F_ref29_Put_G0 l44 (IntKind.wrap .u64 e6.Seq) 2).bind fun v45 =>
              (appO 1 v45 (Cut.app .whole ([IntKind.wrap .u8 e6.Hops] : List Int))).bind fun l46 =>
              (F_ref29_Put_G0 l46 e6.To.Router 8).bind fun v47 =>
              (F_ref29_part e6.To.Dst 0).bind fun v48 =>
              (appO 1 v47 (Cut.app .whole v48)).bind fun l49 =>
              (F_ref29_part e6.To.Src 0).bind fun v50 =>
              (appO 1 l49 (Cut.app .whole v50)).bind fun l51 =>
              (F_ref29_element_G0 s1.1 5 l51).bind fun v52 =>
              (F_ref29_Body_j2 s1) (v52, s1.2.1, s1.2.2.2)
            else
              (F_ref29_Body_j2 s1) (s1.1, s1.2.1, s1.2.2.2)
  else
    some (Sum.inr s1.1)
noncomputable def F_ref29_Body (a0 : List S_Notice) : Option ((List Int)) :=
  (loopO (F_ref29_Body_l1 a0) (([] : List Int), 0, 0, [0, 0, 0, 0, 0, 0, 0, 0, 0, 0, 0, 0, 0, 0, 0, 0])).bind fun b2 =>
  some (b2)
set_option maxRecDepth 100000 in
set_option maxHeartbeats 40000000 in
theorem okT_ref29_Body (a0 : List S_Notice) (r : (List Int)) (h : F_ref29_Body a0 = some r) : Con Try.prog 50 [.c (eS 40 S_Notice.cs (a0))] [] (.c (.slc 1 900002 (List.length r) (List.map (ecI .u8) r))) [(900000, .spare 5 1 (List.length r))] := by
  unfold F_ref29_Body at h
  refine con_of [] [(900000, [])] 191 Try.func50 rfl rfl (by kernel_rfl) (fun K => ?_)
  refine TS_go 24 ?_
  refine TS_nilT 3 600000 5 1 (by kernel_rfl) ?_
  refine TS_cut ⟨[(3, []), (4, []), (5, []), (10, []), (11, []), (12, [])], [(5, (5, [])), (600000, (600000, []))]⟩ (.mk [.code (codeAt [1, 1, 1, 1, 0, 1, 0] (bodyOf Try.f50)), .blk 0, .code (codeAt [1, 1, 1, 1, 1] (bodyOf Try.f50))] .normal ⟨[(3, .c (.slc 1 600002 (List.length ([] : List Int)) (List.map (ecI .u8) ([] : List Int)))), (4, .c (.lit (.int .u64 (0)))), (5, .c (.box 5 0)), (10, .c (.slc 40 0 (List.length a0) (List.map S_Notice.cs a0))), (11, .c (.lit (.int .i64 ((List.length a0 : Int))))), (12, .c (.lit (.int .i64 (0))))], [(5, .box [.lit (.int .u8 (0)), .lit (.int .u8 (0)), .lit (.int .u8 (0)), .lit (.int .u8 (0)), .lit (.int .u8 (0)), .lit (.int .u8 (0)), .lit (.int .u8 (0)), .lit (.int .u8 (0)), .lit (.int .u8 (0)), .lit (.int .u8 (0)), .lit (.int .u8 (0)), .lit (.int .u8 (0)), .lit (.int .u8 (0)), .lit (.int .u8 (0)), .lit (.int .u8 (0)), .lit (.int .u8 (0))]), (600000, .spare 5 1 (List.length ([] : List Int)))]⟩) (by kernel_rfl) (by kernel_rfl) ?_
  replace h := bindO h
  obtain ⟨y3, hl1, hK1⟩ := h
  refine TS_loopB (F_ref29_Body_l1 a0) ⟨[(3, []), (4, []), (5, []), (10, []), (11, []), (12, [])], [(600000, (600000, [])), (5, (5, []))]⟩ (fun (s1 : (List Int) × Int × Int × (List Int)) => [(3, .c (.slc 1 600002 (List.length s1.1) (List.map (ecI .u8) s1.1))), (4, .c (.lit (.int .u64 (s1.2.1)))), (12, .c (.lit (.int .i64 (s1.2.2.1))))]) (fun (s1 : (List Int) × Int × Int × (List Int)) => [(5, .box (arrS .u8 16 s1.2.2.2)), (600000, .spare 5 1 (List.length s1.1))]) (([] : List Int), 0, 0, [0, 0, 0, 0, 0, 0, 0, 0, 0, 0, 0, 0, 0, 0, 0, 0]) y3 (.exit 0) (fun (b : (List Int)) => b) ⟨[(3, [])], [(600000, (600000, []))]⟩ (fun (b2 : (List Int)) => [(3, .c (.slc 1 600002 (List.length b2) (List.map (ecI .u8) b2)))]) (fun (b2 : (List Int)) => [(600000, .spare 5 1 (List.length b2))]) hl1 (by kernel_rfl) (by kernel_rfl) ?_ ?_
  · intro s1 x h hy1
    unfold F_ref29_Body_l1 at h
    refine TS_go 5 ?_
    replace h := condO h
    rcases h with ⟨hb4, h⟩ | ⟨hb4, h⟩
    · refine TS_know 13 (b := true) hb4 (by kernel_rfl) (by kernel_rfl) ?_
      refine TS_T (by kernel_rfl) rfl ?_
      refine TS_go 1 ?_
      refine TS_cut ⟨[(3, []), (4, []), (5, []), (10, []), (11, []), (12, [])], [(600000, (600000, [])), (5, (5, []))]⟩ (.mk [.code (codeAt [1, 1, 1, 1, 0, 1, 0, 0, 1, 1] (bodyOf Try.f50))] .normal ⟨[(3, .c (.slc 1 600002 (List.length s1.1) (List.map (ecI .u8) s1.1))), (4, .c (.lit (.int .u64 (s1.2.1)))), (5, .c (.box 5 0)), (10, .c (.slc 40 0 (List.length a0) (List.map S_Notice.cs a0))), (11, .c (.lit (.int .i64 ((List.length a0 : Int))))), (12, .c (.lit (.int .i64 (s1.2.2.1))))], [(600000, .spare 5 1 (List.length s1.1)), (5, .box [.lit (.int .u8 ((s1.2.2.2.getD 0 0))), .lit (.int .u8 ((s1.2.2.2.getD 1 0))), .lit (.int .u8 ((s1.2.2.2.getD 2 0))), .lit (.int .u8 ((s1.2.2.2.getD 3 0))), .lit (.int .u8 ((s1.2.2.2.getD 4 0))), .lit (.int .u8 ((s1.2.2.2.getD 5 0))), .lit (.int .u8 ((s1.2.2.2.getD 6 0))), .lit (.int .u8 ((s1.2.2.2.getD 7 0))), .lit (.int .u8 ((s1.2.2.2.getD 8 0))), .lit (.int .u8 ((s1.2.2.2.getD 9 0))), .lit (.int .u8 ((s1.2.2.2.getD 10 0))), .lit (.int .u8 ((s1.2.2.2.getD 11 0))), .lit (.int .u8 ((s1.2.2.2.getD 12 0))), .lit (.int .u8 ((s1.2.2.2.getD 13 0))), .lit (.int .u8 ((s1.2.2.2.getD 14 0))), .lit (.int .u8 ((s1.2.2.2.getD 15 0)))])]⟩) (by kernel_rfl) (by kernel_rfl) ?_
      refine TS_joinB ⟨[(3, []), (4, []), (5, []), (10, []), (11, []), (12, [])], [(600000, (600000, [])), (5, (5, []))]⟩ (fun (v5 : (List Int) × Int × (List Int)) => [(3, .c (.slc 1 600002 (List.length v5.1) (List.map (ecI .u8) v5.1))), (4, .c (.lit (.int .u64 (v5.2.1))))]) (fun (v5 : (List Int) × Int × (List Int)) => [(5, .box (arrS .u8 16 v5.2.2)), (600000, .spare 5 1 (List.length v5.1))]) (F_ref29_Body_j2 s1) x ?_ ?_
      · clear h
        intro v5 h
        unfold F_ref29_Body_j2 at h
        refine TS_go 4 ?_
        have ret := Option.some.inj h
        subst ret
        exact TS_againB _ ⟨[(3, []), (4, []), (5, []), (10, []), (11, []), (12, [])], [(600000, (600000, [])), (5, (5, []))]⟩ rfl (by kernel_rfl) (by kernel_rfl)
      · refine TS_go 3 ?_
        replace h := bindO h
        obtain ⟨e6, he6, h⟩ := h
        refine TS_idx S_Notice.cs he6 (by kernel_rfl) (by kernel_rfl) ?_
        refine TS_go 19 ?_
        replace h := condO h
        rcases h with ⟨hb7, h⟩ | ⟨hb7, h⟩
        · refine TS_know 19 (b := true) hb7 (by kernel_rfl) (by kernel_rfl) ?_
          refine TS_know 18 (b := true) hb7 (by kernel_rfl) (by kernel_rfl) ?_
          refine TS_T (by kernel_rfl) rfl ?_
          refine TS_go 5 ?_
          replace h := bindO h
          obtain ⟨v8, hv8, h⟩ := h
          refine TS_con [] [(24, 900000)] none (okT_ref29_Put_N0 (IntKind.wrap .u64 e6.Seq) 2 v8 hv8) (by kernel_rfl) (by kernel_rfl) (by kernel_rfl) ?_
          replace h := bindO h
          obtain ⟨v9, hv9, h⟩ := h
          refine TS_conG 600000 [[], [], [2]] (ok_ref29_element_G0 s1.1 1 v8 v9 hv9) (by kernel_rfl) (by kernel_rfl) (by kernel_rfl) ?_
          refine TS_go 4 ?_
          exact TS_meet (v9, s1.2.1, s1.2.2.2) ⟨[(3, []), (4, []), (5, []), (10, []), (11, []), (12, [])], [(600000, (600000, [])), (5, (5, []))]⟩ h (by kernel_rfl) (by kernel_rfl)
        · refine TS_know 19 (b := false) hb7 (by kernel_rfl) (by kernel_rfl) ?_
          refine TS_know 18 (b := false) hb7 (by kernel_rfl) (by kernel_rfl) ?_
          refine TS_F (by kernel_rfl) rfl ?_
          refine TS_go 5 ?_
          replace h := condO h
          rcases h with ⟨hb10, h⟩ | ⟨hb10, h⟩
          · refine TS_know 27 (b := true) hb10 (by kernel_rfl) (by kernel_rfl) ?_
            refine TS_know 26 (b := true) hb10 (by kernel_rfl) (by kernel_rfl) ?_
            refine TS_T (by kernel_rfl) rfl ?_
            refine TS_draw (by kernel_rfl) ?_
            refine TD_go 3 ?_
            replace h := bindO h
            obtain ⟨v11, hv11, h⟩ := h
            refine TD_conX (d := 31) (e := 900000) [] (okT_ref29_Put_N0 e6.Neighbour 8 v11 hv11) (by kernel_rfl) (by kernel_rfl) ?_
            refine TD_go 3 ?_
            replace h := bindO h
            obtain ⟨v12, hv12, h⟩ := h
            refine TD_conG 31 [] (ok_ref29_Put_G0 v11 (IntKind.wrap .u64 e6.Metric) 2 v12 hv12) (by kernel_rfl) (by kernel_rfl) (by kernel_rfl) ?_
            replace h := bindO h
            obtain ⟨v13, hv13, h⟩ := h
            refine TD_conG 600000 [[], [], [2]] (ok_ref29_element_G0 s1.1 2 v12 v13 hv13) (by kernel_rfl) (by kernel_rfl) (by kernel_rfl) ?_
            refine TD_go 1 ?_
            refine TD_end (by kernel_rfl) ?_
            refine TS_go 2 ?_
            exact TS_meet (v13, s1.2.1, s1.2.2.2) ⟨[(3, []), (4, []), (5, []), (10, []), (11, []), (12, [])], [(600000, (600000, [])), (5, (5, []))]⟩ h (by kernel_rfl) (by kernel_rfl)
          · refine TS_know 27 (b := false) hb10 (by kernel_rfl) (by kernel_rfl) ?_
            refine TS_know 26 (b := false) hb10 (by kernel_rfl) (by kernel_rfl) ?_
            refine TS_F (by kernel_rfl) rfl ?_
            refine TS_go 5 ?_
            replace h := condO h
            rcases h with ⟨hb14, h⟩ | ⟨hb14, h⟩
            · refine TS_know 38 (b := true) hb14 (by kernel_rfl) (by kernel_rfl) ?_
              refine TS_know 37 (b := true) hb14 (by kernel_rfl) (by kernel_rfl) ?_
              refine TS_T (by kernel_rfl) rfl ?_
              refine TS_cut ⟨[(3, []), (4, []), (5, []), (10, []), (11, []), (12, []), (7, []), (8, [])], [(600000, (600000, [])), (5, (5, [])), (7, (7, []))]⟩ (.mk [.code (codeAt [1, 1, 1, 1, 0, 1, 0, 0, 1, 1, 0, 0, 1, 1, 1, 0, 1, 1, 1, 1, 1, 0] (bodyOf Try.f50)), .blk 2, .blk 1] .normal ⟨[(3, .c (.slc 1 600002 (List.length s1.1) (List.map (ecI .u8) s1.1))), (4, .c (.lit (.int .u64 (s1.2.1)))), (5, .c (.box 5 0)), (10, .c (.slc 40 0 (List.length a0) (List.map S_Notice.cs a0))), (11, .c (.lit (.int .i64 ((List.length a0 : Int))))), (12, .c (.lit (.int .i64 (s1.2.2.1)))), (7, .c (.box 7 0)), (8, .c (.lit (.slice none 0 0)))], [(600000, .spare 5 1 (List.length s1.1)), (5, .box [.lit (.int .u8 ((s1.2.2.2.getD 0 0))), .lit (.int .u8 ((s1.2.2.2.getD 1 0))), .lit (.int .u8 ((s1.2.2.2.getD 2 0))), .lit (.int .u8 ((s1.2.2.2.getD 3 0))), .lit (.int .u8 ((s1.2.2.2.getD 4 0))), .lit (.int .u8 ((s1.2.2.2.getD 5 0))), .lit (.int .u8 ((s1.2.2.2.getD 6 0))), .lit (.int .u8 ((s1.2.2.2.getD 7 0))), .lit (.int .u8 ((s1.2.2.2.getD 8 0))), .lit (.int .u8 ((s1.2.2.2.getD 9 0))), .lit (.int .u8 ((s1.2.2.2.getD 10 0))), .lit (.int .u8 ((s1.2.2.2.getD 11 0))), .lit (.int .u8 ((s1.2.2.2.getD 12 0))), .lit (.int .u8 ((s1.2.2.2.getD 13 0))), .lit (.int .u8 ((s1.2.2.2.getD 14 0))), .lit (.int .u8 ((s1.2.2.2.getD 15 0)))]), (7, .box [.lit (.int .i64 (e6.Kind)), .lit (.int .u16 (e6.Seq)), .lit (.int .i64 (e6.Metric)), .lit (.int .u64 (e6.Neighbour)), .lit (.int .u8 ((e6.To.Dst.IP.getD 0 0))), .lit (.int .u8 ((e6.To.Dst.IP.getD 1 0))), .lit (.int .u8 ((e6.To.Dst.IP.getD 2 0))), .lit (.int .u8 ((e6.To.Dst.IP.getD 3 0))), .lit (.int .u8 ((e6.To.Dst.IP.getD 4 0))), .lit (.int .u8 ((e6.To.Dst.IP.getD 5 0))), .lit (.int .u8 ((e6.To.Dst.IP.getD 6 0))), .lit (.int .u8 ((e6.To.Dst.IP.getD 7 0))), .lit (.int .u8 ((e6.To.Dst.IP.getD 8 0))), .lit (.int .u8 ((e6.To.Dst.IP.getD 9 0))), .lit (.int .u8 ((e6.To.Dst.IP.getD 10 0))), .lit (.int .u8 ((e6.To.Dst.IP.getD 11 0))), .lit (.int .u8 ((e6.To.Dst.IP.getD 12 0))), .lit (.int .u8 ((e6.To.Dst.IP.getD 13 0))), .lit (.int .u8 ((e6.To.Dst.IP.getD 14 0))), .lit (.int .u8 ((e6.To.Dst.IP.getD 15 0))), .lit (.int .i64 (e6.To.Dst.Bits)), .lit (.int .u8 ((e6.To.Src.IP.getD 0 0))), .lit (.int .u8 ((e6.To.Src.IP.getD 1 0))), .lit (.int .u8 ((e6.To.Src.IP.getD 2 0))), .lit (.int .u8 ((e6.To.Src.IP.getD 3 0))), .lit (.int .u8 ((e6.To.Src.IP.getD 4 0))), .lit (.int .u8 ((e6.To.Src.IP.getD 5 0))), .lit (.int .u8 ((e6.To.Src.IP.getD 6 0))), .lit (.int .u8 ((e6.To.Src.IP.getD 7 0))), .lit (.int .u8 ((e6.To.Src.IP.getD 8 0))), .lit (.int .u8 ((e6.To.Src.IP.getD 9 0))), .lit (.int .u8 ((e6.To.Src.IP.getD 10 0))), .lit (.int .u8 ((e6.To.Src.IP.getD 11 0))), .lit (.int .u8 ((e6.To.Src.IP.getD 12 0))), .lit (.int .u8 ((e6.To.Src.IP.getD 13 0))), .lit (.int .u8 ((e6.To.Src.IP.getD 14 0))), .lit (.int .u8 ((e6.To.Src.IP.getD 15 0))), .lit (.int .i64 (e6.To.Src.Bits)), .lit (.int .u64 (e6.To.Router)), .lit (.int .i64 (e6.Hops))])]⟩) (by kernel_rfl) (by kernel_rfl) ?_
              refine TS_joinB ⟨[(3, []), (4, []), (5, []), (7, []), (8, []), (10, []), (11, []), (12, [])], [(600000, (600000, [])), (5, (5, [])), (7, (7, []))]⟩ (fun (v15 : (List Int) × Int) => [(3, .c (.slc 1 600002 (List.length v15.1) (List.map (ecI .u8) v15.1))), (4, .c (.lit (.int .u64 (v15.2))))]) (fun (v15 : (List Int) × Int) => [(600000, .spare 5 1 (List.length v15.1))]) (F_ref29_Body_j3 e6 s1) x ?_ ?_
              · clear h
                intro v15 h
                unfold F_ref29_Body_j3 at h
                refine TS_go 6 ?_
                refine TS_cut ⟨[(3, []), (4, []), (5, []), (7, []), (8, []), (10, []), (11, []), (12, []), (9, [])], [(600000, (600000, [])), (5, (5, [])), (7, (7, []))]⟩ (.mk [.code (codeAt [1, 1, 1, 1, 0, 1, 0, 0, 1, 1, 0, 0, 1, 1, 1, 0, 1, 1, 1, 1, 1, 0, 1, 1, 0, 0] (bodyOf Try.f50)), .blk 3, .code (codeAt [1, 1, 1, 1, 0, 1, 0, 0, 1, 1, 0, 0, 1, 1, 1, 0, 1, 1, 1, 1, 1, 0, 1, 1, 1] (bodyOf Try.f50)), .blk 2, .blk 1] .normal ⟨[(3, .c (.slc 1 600002 (List.length v15.1) (List.map (ecI .u8) v15.1))), (4, .c (.lit (.int .u64 (v15.2)))), (5, .c (.box 5 0)), (7, .c (.box 7 0)), (8, .c (.lit (.slice none 0 0))), (10, .c (.slc 40 0 (List.length a0) (List.map S_Notice.cs a0))), (11, .c (.lit (.int .i64 ((List.length a0 : Int))))), (12, .c (.lit (.int .i64 (s1.2.2.1)))), (9, .c (.lit (.int .i64 (0))))], [(600000, .spare 5 1 (List.length v15.1)), (5, .box [.lit (.int .u8 ((s1.2.2.2.getD 0 0))), .lit (.int .u8 ((s1.2.2.2.getD 1 0))), .lit (.int .u8 ((s1.2.2.2.getD 2 0))), .lit (.int .u8 ((s1.2.2.2.getD 3 0))), .lit (.int .u8 ((s1.2.2.2.getD 4 0))), .lit (.int .u8 ((s1.2.2.2.getD 5 0))), .lit (.int .u8 ((s1.2.2.2.getD 6 0))), .lit (.int .u8 ((s1.2.2.2.getD 7 0))), .lit (.int .u8 ((s1.2.2.2.getD 8 0))), .lit (.int .u8 ((s1.2.2.2.getD 9 0))), .lit (.int .u8 ((s1.2.2.2.getD 10 0))), .lit (.int .u8 ((s1.2.2.2.getD 11 0))), .lit (.int .u8 ((s1.2.2.2.getD 12 0))), .lit (.int .u8 ((s1.2.2.2.getD 13 0))), .lit (.int .u8 ((s1.2.2.2.getD 14 0))), .lit (.int .u8 ((s1.2.2.2.getD 15 0)))]), (7, .box [.lit (.int .i64 (e6.Kind)), .lit (.int .u16 (e6.Seq)), .lit (.int .i64 (e6.Metric)), .lit (.int .u64 (e6.Neighbour)), .lit (.int .u8 ((e6.To.Dst.IP.getD 0 0))), .lit (.int .u8 ((e6.To.Dst.IP.getD 1 0))), .lit (.int .u8 ((e6.To.Dst.IP.getD 2 0))), .lit (.int .u8 ((e6.To.Dst.IP.getD 3 0))), .lit (.int .u8 ((e6.To.Dst.IP.getD 4 0))), .lit (.int .u8 ((e6.To.Dst.IP.getD 5 0))), .lit (.int .u8 ((e6.To.Dst.IP.getD 6 0))), .lit (.int .u8 ((e6.To.Dst.IP.getD 7 0))), .lit (.int .u8 ((e6.To.Dst.IP.getD 8 0))), .lit (.int .u8 ((e6.To.Dst.IP.getD 9 0))), .lit (.int .u8 ((e6.To.Dst.IP.getD 10 0))), .lit (.int .u8 ((e6.To.Dst.IP.getD 11 0))), .lit (.int .u8 ((e6.To.Dst.IP.getD 12 0))), .lit (.int .u8 ((e6.To.Dst.IP.getD 13 0))), .lit (.int .u8 ((e6.To.Dst.IP.getD 14 0))), .lit (.int .u8 ((e6.To.Dst.IP.getD 15 0))), .lit (.int .i64 (e6.To.Dst.Bits)), .lit (.int .u8 ((e6.To.Src.IP.getD 0 0))), .lit (.int .u8 ((e6.To.Src.IP.getD 1 0))), .lit (.int .u8 ((e6.To.Src.IP.getD 2 0))), .lit (.int .u8 ((e6.To.Src.IP.getD 3 0))), .lit (.int .u8 ((e6.To.Src.IP.getD 4 0))), .lit (.int .u8 ((e6.To.Src.IP.getD 5 0))), .lit (.int .u8 ((e6.To.Src.IP.getD 6 0))), .lit (.int .u8 ((e6.To.Src.IP.getD 7 0))), .lit (.int .u8 ((e6.To.Src.IP.getD 8 0))), .lit (.int .u8 ((e6.To.Src.IP.getD 9 0))), .lit (.int .u8 ((e6.To.Src.IP.getD 10 0))), .lit (.int .u8 ((e6.To.Src.IP.getD 11 0))), .lit (.int .u8 ((e6.To.Src.IP.getD 12 0))), .lit (.int .u8 ((e6.To.Src.IP.getD 13 0))), .lit (.int .u8 ((e6.To.Src.IP.getD 14 0))), .lit (.int .u8 ((e6.To.Src.IP.getD 15 0))), .lit (.int .i64 (e6.To.Src.Bits)), .lit (.int .u64 (e6.To.Router)), .lit (.int .i64 (e6.Hops))])]⟩) (by kernel_rfl) (by kernel_rfl) ?_
                replace h := bindO h
                obtain ⟨y18, hl4, hK4⟩ := h
                refine TS_loopB (F_ref29_Body_l4 e6 s1) ⟨[(3, []), (4, []), (5, []), (7, []), (8, []), (9, []), (10, []), (11, []), (12, [])], [(600000, (600000, [])), (5, (5, [])), (7, (7, []))]⟩ (fun (s16 : Int) => [(9, .c (.lit (.int .i64 (s16))))]) (fun (s16 : Int) => []) 0 y18 (.exit 3) (fun (b : Int) => b) ⟨[(3, []), (4, []), (5, []), (7, []), (8, []), (9, []), (10, []), (11, []), (12, [])], [(600000, (600000, [])), (5, (5, [])), (7, (7, []))]⟩ (fun (b17 : Int) => [(9, .c (.lit (.int .i64 (b17))))]) (fun (b17 : Int) => []) hl4 (by kernel_rfl) (by kernel_rfl) ?_ ?_
                · intro s16 x h hy4
                  unfold F_ref29_Body_l4 at h
                  refine TS_go 2 ?_
                  refine TS_draw (by kernel_rfl) ?_
                  refine TD_go 5 ?_
                  replace h := bindO h
                  obtain ⟨v19, hv19, h⟩ := h
                  refine TD_call [] (ok_ref29_size e6.To.Dst.Bits v19 hv19) (by kernel_rfl) (by kernel_rfl) ?_
                  refine TD_go 1 ?_
                  replace h := condO h
                  rcases h with ⟨hb20, h⟩ | ⟨hb20, h⟩
                  · refine TD_know 58 (b := true) hb20 trivial (by kernel_rfl) (by kernel_rfl) ?_
                    refine TD_go 4 ?_
                    replace h := chkO h
                    obtain ⟨hc21, h⟩ := h
                    refine TD_idxA 7 4 16 (i := s16) hc21 (by kernel_rfl) (by kernel_rfl) ?_
                    refine TD_ldA .u8 4 16 (i := s16) e6.To.Dst.IP hc21 (by kernel_rfl) (by kernel_rfl) ?_
                    refine TD_go 1 ?_
                    replace h := chkO h
                    obtain ⟨hc22, h⟩ := h
                    refine TD_idxA 5 0 16 (i := s16) hc22 (by kernel_rfl) (by kernel_rfl) ?_
                    refine TD_ldA .u8 0 16 (i := s16) s1.2.2.2 hc22 (by kernel_rfl) (by kernel_rfl) ?_
                    refine TD_go 2 ?_
                    refine TD_end (by kernel_rfl) ?_
                    replace h := condO h
                    rcases h with ⟨hb23, h⟩ | ⟨hb23, h⟩
                    · refine TS_know 57 (b := true) hb20 (by kernel_rfl) (by kernel_rfl) ?_
                      refine TS_know 68 (b := true) hb23 (by kernel_rfl) (by kernel_rfl) ?_
                      refine TS_know 69 (b := true) hb23 (by kernel_rfl) (by kernel_rfl) ?_
                      refine TS_T (by kernel_rfl) rfl ?_
                      refine TS_go 8 ?_
                      have ret := Option.some.inj h
                      subst ret
                      exact TS_againB _ ⟨[(3, []), (4, []), (5, []), (7, []), (8, []), (9, []), (10, []), (11, []), (12, [])], [(600000, (600000, [])), (5, (5, [])), (7, (7, []))]⟩ rfl (by kernel_rfl) (by kernel_rfl)
                    · refine TS_know 57 (b := true) hb20 (by kernel_rfl) (by kernel_rfl) ?_
                      refine TS_know 68 (b := false) hb23 (by kernel_rfl) (by kernel_rfl) ?_
                      refine TS_know 69 (b := false) hb23 (by kernel_rfl) (by kernel_rfl) ?_
                      refine TS_F (by kernel_rfl) rfl ?_
                      refine TS_go 2 ?_
                      have ret := Option.some.inj h
                      subst ret
                      exact TS_brkB s16 ⟨[(3, []), (4, []), (5, []), (7, []), (8, []), (9, []), (10, []), (11, []), (12, [])], [(600000, (600000, [])), (5, (5, [])), (7, (7, []))]⟩ rfl (by kernel_rfl) (by kernel_rfl) (by kernel_rfl)
                  · refine TD_know 58 (b := false) hb20 trivial (by kernel_rfl) (by kernel_rfl) ?_
                    refine TD_go 11 ?_
                    refine TD_end (by kernel_rfl) ?_
                    refine TS_F (by kernel_rfl) rfl ?_
                    refine TS_go 2 ?_
                    have ret := Option.some.inj h
                    subst ret
                    exact TS_brkB s16 ⟨[(3, []), (4, []), (5, []), (7, []), (8, []), (9, []), (10, []), (11, []), (12, [])], [(600000, (600000, [])), (5, (5, [])), (7, (7, []))]⟩ rfl (by kernel_rfl) (by kernel_rfl) (by kernel_rfl)
                · intro b17 hb
                  subst y18
                  have h := hK4
                  refine TS_go 24 ?_
                  refine TS_litNT 89 5 1 (ecI .u8) [] ([IntKind.wrap .u8 b17, IntKind.wrap .u8 e6.To.Dst.Bits, IntKind.wrap .u8 e6.To.Src.Bits] : List Int) (by kernel_rfl) (by kernel_rfl) ?_
                  replace h := bindO h
                  obtain ⟨l25, hl25, h⟩ := h
                  refine TS_appNT 90 5 1 (ecI .u8) (fun _ => by kernel_rfl) (l2 := ([IntKind.wrap .u8 b17, IntKind.wrap .u8 e6.To.Dst.Bits, IntKind.wrap .u8 e6.To.Src.Bits] : List Int)) .whole hl25 (by kernel_rfl) (by kernel_rfl) ?_
                  refine TS_go 3 ?_
                  refine TS_draw (by kernel_rfl) ?_
                  refine TD_go 4 ?_
                  replace h := bindO h
                  obtain ⟨v26, hv26, h⟩ := h
                  refine TD_conG 90 [] (ok_ref29_Put_G0 l25 (IntKind.wrap .u64 e6.Seq) 2 v26 hv26) (by kernel_rfl) (by kernel_rfl) (by kernel_rfl) ?_
                  refine TD_go 3 ?_
                  replace h := bindO h
                  obtain ⟨v27, hv27, h⟩ := h
                  refine TD_conG 90 [] (ok_ref29_Put_G0 v26 (IntKind.wrap .u64 e6.Metric) 2 v27 hv27) (by kernel_rfl) (by kernel_rfl) (by kernel_rfl) ?_
                  refine TD_go 1 ?_
                  refine TD_end (by kernel_rfl) ?_
                  refine TS_go 7 ?_
                  replace h := bindO h
                  obtain ⟨v28, hv28, h⟩ := h
                  refine TS_con [] [(105, 900000)] none (okT_ref29_part e6.To.Dst b17 v28 hv28) (by kernel_rfl) (by kernel_rfl) (by kernel_rfl) ?_
                  replace h := bindO h
                  obtain ⟨l29, hl29, h⟩ := h
                  refine TS_appT (d := 90) (e := 5) (sz := 1) (N := List.length v27) (ecI .u8) (fun _ => by kernel_rfl) (l1 := v27) (l2 := v28) (c := .whole) hl29 (by kernel_rfl) (by kernel_rfl) ?_
                  refine TS_go 8 ?_
                  replace h := bindO h
                  obtain ⟨v30, hv30, h⟩ := h
                  refine TS_con [] [(112, 900000)] none (okT_ref29_part e6.To.Src 0 v30 hv30) (by kernel_rfl) (by kernel_rfl) (by kernel_rfl) ?_
                  replace h := bindO h
                  obtain ⟨l31, hl31, h⟩ := h
                  refine TS_appT (d := 90) (e := 5) (sz := 1) (N := List.length l29) (ecI .u8) (fun _ => by kernel_rfl) (l1 := l29) (l2 := v30) (c := .whole) hl31 (by kernel_rfl) (by kernel_rfl) ?_
                  replace h := bindO h
                  obtain ⟨v32, hv32, h⟩ := h
                  refine TS_conG 600000 [[], [], [2]] (ok_ref29_element_G0 v15.1 3 l31 v32 hv32) (by kernel_rfl) (by kernel_rfl) (by kernel_rfl) ?_
                  refine TS_go 4 ?_
                  exact TS_meet (v32, v15.2, e6.To.Dst.IP) ⟨[(3, []), (4, []), (5, []), (10, []), (11, []), (12, [])], [(600000, (600000, [])), (5, (5, []))]⟩ h (by kernel_rfl) (by kernel_rfl)
              · refine TS_go 8 ?_
                replace h := condO h
                rcases h with ⟨hb33, h⟩ | ⟨hb33, h⟩
                · refine TS_know 43 (b := true) hb33 (by kernel_rfl) (by kernel_rfl) ?_
                  refine TS_T (by kernel_rfl) rfl ?_
                  refine TS_go 10 ?_
                  replace h := bindO h
                  obtain ⟨v34, hv34, h⟩ := h
                  refine TS_con [] [(49, 900000)] none (okT_ref29_Put_N0 e6.To.Router 8 v34 hv34) (by kernel_rfl) (by kernel_rfl) (by kernel_rfl) ?_
                  replace h := bindO h
                  obtain ⟨v35, hv35, h⟩ := h
                  refine TS_conG 600000 [[], [], [2]] (ok_ref29_element_G0 s1.1 6 v34 v35 hv35) (by kernel_rfl) (by kernel_rfl) (by kernel_rfl) ?_
                  refine TS_go 2 ?_
                  exact TS_meet (v35, e6.To.Router) ⟨[(3, []), (4, []), (5, []), (7, []), (8, []), (10, []), (11, []), (12, [])], [(600000, (600000, [])), (5, (5, [])), (7, (7, []))]⟩ h (by kernel_rfl) (by kernel_rfl)
                · refine TS_know 43 (b := false) hb33 (by kernel_rfl) (by kernel_rfl) ?_
                  refine TS_F (by kernel_rfl) rfl ?_
                  refine TS_go 1 ?_
                  exact TS_meet (s1.1, s1.2.1) ⟨[(3, []), (4, []), (5, []), (7, []), (8, []), (10, []), (11, []), (12, [])], [(600000, (600000, [])), (5, (5, [])), (7, (7, []))]⟩ h (by kernel_rfl) (by kernel_rfl)
            · refine TS_know 38 (b := false) hb14 (by kernel_rfl) (by kernel_rfl) ?_
              refine TS_know 37 (b := false) hb14 (by kernel_rfl) (by kernel_rfl) ?_
              refine TS_F (by kernel_rfl) rfl ?_
              refine TS_go 5 ?_
              replace h := condO h
              rcases h with ⟨hb36, h⟩ | ⟨hb36, h⟩
              · refine TS_know 116 (b := true) hb36 (by kernel_rfl) (by kernel_rfl) ?_
                refine TS_know 115 (b := true) hb36 (by kernel_rfl) (by kernel_rfl) ?_
                refine TS_T (by kernel_rfl) rfl ?_
                refine TS_go 13 ?_
                refine TS_litNT 128 5 1 (ecI .u8) [] ([IntKind.wrap .u8 e6.To.Dst.Bits, IntKind.wrap .u8 e6.To.Src.Bits] : List Int) (by kernel_rfl) (by kernel_rfl) ?_
                replace h := bindO h
                obtain ⟨l37, hl37, h⟩ := h
                refine TS_appNT 129 5 1 (ecI .u8) (fun _ => by kernel_rfl) (l2 := ([IntKind.wrap .u8 e6.To.Dst.Bits, IntKind.wrap .u8 e6.To.Src.Bits] : List Int)) .whole hl37 (by kernel_rfl) (by kernel_rfl) ?_
                refine TS_go 8 ?_
                replace h := bindO h
                obtain ⟨v38, hv38, h⟩ := h
                refine TS_con [] [(134, 900000)] none (okT_ref29_part e6.To.Dst 0 v38 hv38) (by kernel_rfl) (by kernel_rfl) (by kernel_rfl) ?_
                replace h := bindO h
                obtain ⟨l39, hl39, h⟩ := h
                refine TS_appT (d := 129) (e := 5) (sz := 1) (N := List.length l37) (ecI .u8) (fun _ => by kernel_rfl) (l1 := l37) (l2 := v38) (c := .whole) hl39 (by kernel_rfl) (by kernel_rfl) ?_
                refine TS_go 8 ?_
                replace h := bindO h
                obtain ⟨v40, hv40, h⟩ := h
                refine TS_con [] [(141, 900000)] none (okT_ref29_part e6.To.Src 0 v40 hv40) (by kernel_rfl) (by kernel_rfl) (by kernel_rfl) ?_
                replace h := bindO h
                obtain ⟨l41, hl41, h⟩ := h
                refine TS_appT (d := 129) (e := 5) (sz := 1) (N := List.length l39) (ecI .u8) (fun _ => by kernel_rfl) (l1 := l39) (l2 := v40) (c := .whole) hl41 (by kernel_rfl) (by kernel_rfl) ?_
                replace h := bindO h
                obtain ⟨v42, hv42, h⟩ := h
                refine TS_conG 600000 [[], [], [2]] (ok_ref29_element_G0 s1.1 4 l41 v42 hv42) (by kernel_rfl) (by kernel_rfl) (by kernel_rfl) ?_
                refine TS_go 4 ?_
                exact TS_meet (v42, s1.2.1, s1.2.2.2) ⟨[(3, []), (4, []), (5, []), (10, []), (11, []), (12, [])], [(600000, (600000, [])), (5, (5, []))]⟩ h (by kernel_rfl) (by kernel_rfl)
              · refine TS_know 116 (b := false) hb36 (by kernel_rfl) (by kernel_rfl) ?_
                refine TS_know 115 (b := false) hb36 (by kernel_rfl) (by kernel_rfl) ?_
                refine TS_F (by kernel_rfl) rfl ?_
                refine TS_go 5 ?_
                replace h := condO h
                rcases h with ⟨hb43, h⟩ | ⟨hb43, h⟩
                · refine TS_know 145 (b := true) hb43 (by kernel_rfl) (by kernel_rfl) ?_
                  refine TS_know 144 (b := true) hb43 (by kernel_rfl) (by kernel_rfl) ?_
                  refine TS_T (by kernel_rfl) rfl ?_
                  refine TS_go 13 ?_
                  refine TS_litNT 157 5 1 (ecI .u8) [] ([IntKind.wrap .u8 e6.To.Dst.Bits, IntKind.wrap .u8 e6.To.Src.Bits] : List Int) (by kernel_rfl) (by kernel_rfl) ?_
                  replace h := bindO h
                  obtain ⟨l44, hl44, h⟩ := h
                  refine TS_appNT 158 5 1 (ecI .u8) (fun _ => by kernel_rfl) (l2 := ([IntKind.wrap .u8 e6.To.Dst.Bits, IntKind.wrap .u8 e6.To.Src.Bits] : List Int)) .whole hl44 (by kernel_rfl) (by kernel_rfl) ?_
                  refine TS_go 8 ?_
                  replace h := bindO h
                  obtain ⟨v45, hv45, h⟩ := h
                  refine TS_conG 158 [] (ok_ref29_Put_G0 l44 (IntKind.wrap .u64 e6.Seq) 2 v45 hv45) (by kernel_rfl) (by kernel_rfl) (by kernel_rfl) ?_
                  refine TS_go 8 ?_
                  refine TS_litNT 168 5 1 (ecI .u8) [] ([IntKind.wrap .u8 e6.Hops] : List Int) (by kernel_rfl) (by kernel_rfl) ?_
                  replace h := bindO h
                  obtain ⟨l46, hl46, h⟩ := h
                  refine TS_appT (d := 158) (e := 5) (sz := 1) (N := List.length v45) (ecI .u8) (fun _ => by kernel_rfl) (l1 := v45) (l2 := ([IntKind.wrap .u8 e6.Hops] : List Int)) (c := .whole) hl46 (by kernel_rfl) (by kernel_rfl) ?_
                  refine TS_go 8 ?_
                  replace h := bindO h
                  obtain ⟨v47, hv47, h⟩ := h
                  refine TS_conG 158 [] (ok_ref29_Put_G0 l46 e6.To.Router 8 v47 hv47) (by kernel_rfl) (by kernel_rfl) (by kernel_rfl) ?_
                  refine TS_go 8 ?_
                  replace h := bindO h
                  obtain ⟨v48, hv48, h⟩ := h
                  refine TS_con [] [(179, 900000)] none (okT_ref29_part e6.To.Dst 0 v48 hv48) (by kernel_rfl) (by kernel_rfl) (by kernel_rfl) ?_
                  replace h := bindO h
                  obtain ⟨l49, hl49, h⟩ := h
                  refine TS_appT (d := 158) (e := 5) (sz := 1) (N := List.length v47) (ecI .u8) (fun _ => by kernel_rfl) (l1 := v47) (l2 := v48) (c := .whole) hl49 (by kernel_rfl) (by kernel_rfl) ?_
                  refine TS_go 8 ?_
                  replace h := bindO h
                  obtain ⟨v50, hv50, h⟩ := h
                  refine TS_con [] [(186, 900000)] none (okT_ref29_part e6.To.Src 0 v50 hv50) (by kernel_rfl) (by kernel_rfl) (by kernel_rfl) ?_
                  replace h := bindO h
                  obtain ⟨l51, hl51, h⟩ := h
                  refine TS_appT (d := 158) (e := 5) (sz := 1) (N := List.length l49) (ecI .u8) (fun _ => by kernel_rfl) (l1 := l49) (l2 := v50) (c := .whole) hl51 (by kernel_rfl) (by kernel_rfl) ?_
                  replace h := bindO h
                  obtain ⟨v52, hv52, h⟩ := h
                  refine TS_conG 600000 [[], [], [2]] (ok_ref29_element_G0 s1.1 5 l51 v52 hv52) (by kernel_rfl) (by kernel_rfl) (by kernel_rfl) ?_
                  refine TS_go 4 ?_
                  exact TS_meet (v52, s1.2.1, s1.2.2.2) ⟨[(3, []), (4, []), (5, []), (10, []), (11, []), (12, [])], [(600000, (600000, [])), (5, (5, []))]⟩ h (by kernel_rfl) (by kernel_rfl)
                · refine TS_know 145 (b := false) hb43 (by kernel_rfl) (by kernel_rfl) ?_
                  refine TS_know 144 (b := false) hb43 (by kernel_rfl) (by kernel_rfl) ?_
                  refine TS_F (by kernel_rfl) rfl ?_
                  refine TS_go 3 ?_
                  exact TS_meet (s1.1, s1.2.1, s1.2.2.2) ⟨[(3, []), (4, []), (5, []), (10, []), (11, []), (12, [])], [(600000, (600000, [])), (5, (5, []))]⟩ h (by kernel_rfl) (by kernel_rfl)
    · refine TS_know 13 (b := false) hb4 (by kernel_rfl) (by kernel_rfl) ?_
      refine TS_F (by kernel_rfl) rfl ?_
      refine TS_go 2 ?_
      have ret := Option.some.inj h
      subst ret
      exact TS_brkB s1.1 ⟨[(3, [])], [(600000, (600000, []))]⟩ rfl (by kernel_rfl) (by kernel_rfl) (by kernel_rfl)
  · intro b2 hb
    subst y3
    have h := hK1
    refine TS_go 6 ?_
    refine TS_fitU ⟨[(2, [])], [(600000, (900000, []))]⟩ (by kernel_rfl) ?_
    refine TS_go 1 ?_
    have ret := Option.some.inj h
    subst ret
    exact TS_ret (by kernel_rfl) (by kernel_rfl) (by kernel_rfl)
/-- multihop/multihopref29.Encode -/
noncomputable def F_ref29_Encode_l1 (a1 : List S_Notice) (s2 : Int) : Option ((Int) ⊕ ((Unit) ⊕ ((List Int) × Int))) :=
  bif (decide (s2 < (List.length a1 : Int))) then
    (idx a1 s2).bind fun e6 =>
    (F_ref29_Valid e6).bind fun v7 =>
    bif v7 then
      some (Sum.inl (IntKind.wrap .i64 (s2 + 1)))
    else
      some (Sum.inr (Sum.inr (([] : List Int), 1)))
  else
    some (Sum.inr (Sum.inl ()))
noncomputable def F_ref29_Encode (a0 : Int) (a1 : List S_Notice) : Option ((List Int) × Int) :=
  bif (decide ((List.length a1 : Int) > 64)) then
    some ((([] : List Int), 3))
  else
    (loopO (F_ref29_Encode_l1 a1) 0).bind (Sum.elim (fun b3 =>
      bif (decide (a0 < 0)) then
        some ((([] : List Int), 2))
      else
        bif (decide (a0 ≥ 1099511627776)) then
          some ((([] : List Int), 2))
        else
          (F_ref29_Body a1).bind fun v12 =>
          (F_ref29_Put_G0 ([42, 1] : List Int) (IntKind.wrap .u64 a0) 5).bind fun v13 =>
          (F_ref29_Put_G0 v13 (IntKind.wrap .u64 (List.length v12 : Int)) 2).bind fun v14 =>
          (appO 1 v14 (Cut.app .whole v12)).bind fun l15 =>
          some ((l15, 0))
    ) (fun w9 => some w9))
set_option maxRecDepth 100000 in
set_option maxHeartbeats 40000000 in
theorem okT_ref29_Encode (a0 : Int) (a1 : List S_Notice) (r : (List Int) × Int) (h : F_ref29_Encode a0 a1 = some r) : Con Try.prog 26 [.c (.lit (.int .i64 (a0))), .c (eS 40 S_Notice.cs (a1))] [] (.tup [(false, [.slc 1 900002 (List.length r.1) (List.map (ecI .u8) r.1)]), (false, [.lit (.int .i64 (r.2))])]) [(900000, .spare 5 1 (List.length r.1))] := by
  unfold F_ref29_Encode at h
  refine con_of [] [(900000, [])] 43 Try.func26 rfl rfl (by kernel_rfl) (fun K => ?_)
  refine TS_go 12 ?_
  replace h := condO h
  rcases h with ⟨hb1, h⟩ | ⟨hb1, h⟩
  · refine TS_know 12 (b := true) hb1 (by kernel_rfl) (by kernel_rfl) ?_
    refine TS_T (by kernel_rfl) rfl ?_
    refine TS_go 5 ?_
    refine TS_nilT 4 600000 5 1 (by kernel_rfl) ?_
    refine TS_fitU ⟨[(4, []), (5, [])], [(600000, (900000, []))]⟩ (by kernel_rfl) ?_
    refine TS_go 2 ?_
    have ret := Option.some.inj h
    subst ret
    exact TS_ret (by kernel_rfl) (by kernel_rfl) (by kernel_rfl)
  · refine TS_know 12 (b := false) hb1 (by kernel_rfl) (by kernel_rfl) ?_
    refine TS_F (by kernel_rfl) rfl ?_
    refine TS_go 9 ?_
    refine TS_cut ⟨[(0, []), (1, []), (13, []), (14, []), (15, [])], []⟩ (.mk [.code (codeAt [1, 1, 0, 1, 0] (bodyOf Try.f26)), .blk 0, .code (codeAt [1, 1, 1] (bodyOf Try.f26))] .normal ⟨[(0, .c (.lit (.int .i64 (a0)))), (1, .c (.slc 40 0 (List.length a1) (List.map S_Notice.cs a1))), (13, .c (.slc 40 0 (List.length a1) (List.map S_Notice.cs a1))), (14, .c (.lit (.int .i64 ((List.length a1 : Int))))), (15, .c (.lit (.int .i64 (0))))], []⟩) (by kernel_rfl) (by kernel_rfl) ?_
    replace h := bindO h
    obtain ⟨y4, hl1, hK1⟩ := h
    refine TS_loopB (F_ref29_Encode_l1 a1) ⟨[(0, []), (1, []), (13, []), (14, []), (15, [])], []⟩ (fun (s2 : Int) => [(15, .c (.lit (.int .i64 (s2))))]) (fun (s2 : Int) => []) 0 y4 (.exit 0) (fun (b : Unit) => (Sum.inl b : (Unit) ⊕ ((List Int) × Int))) ⟨[(0, []), (1, [])], []⟩ (fun (b3 : Unit) => []) (fun (b3 : Unit) => []) hl1 (by kernel_rfl) (by kernel_rfl) ?_ ?_
    · intro s2 x h hy1
      unfold F_ref29_Encode_l1 at h
      refine TS_go 5 ?_
      replace h := condO h
      rcases h with ⟨hb5, h⟩ | ⟨hb5, h⟩
      · refine TS_know 16 (b := true) hb5 (by kernel_rfl) (by kernel_rfl) ?_
        refine TS_T (by kernel_rfl) rfl ?_
        refine TS_go 5 ?_
        replace h := bindO h
        obtain ⟨e6, he6, h⟩ := h
        refine TS_idx S_Notice.cs he6 (by kernel_rfl) (by kernel_rfl) ?_
        refine TS_go 7 ?_
        replace h := bindO h
        obtain ⟨v7, hv7, h⟩ := h
        refine TS_call [] (ok_ref29_Valid e6 v7 hv7) (by kernel_rfl) (by kernel_rfl) ?_
        refine TS_go 2 ?_
        replace h := condO h
        rcases h with ⟨hb8, h⟩ | ⟨hb8, h⟩
        · subst hb8
          refine TS_F (by kernel_rfl) rfl ?_
          refine TS_go 6 ?_
          have ret := Option.some.inj h
          subst ret
          exact TS_againB _ ⟨[(0, []), (1, []), (13, []), (14, []), (15, [])], []⟩ rfl (by kernel_rfl) (by kernel_rfl)
        · subst hb8
          refine TS_T (by kernel_rfl) rfl ?_
          refine TS_go 5 ?_
          refine TS_nilT 4 600000 5 1 (by kernel_rfl) ?_
          refine TS_fitU ⟨[(4, []), (5, [])], [(600000, (900000, []))]⟩ (by kernel_rfl) ?_
          refine TS_go 3 ?_
          have ret := Option.some.inj h
          subst ret
          have hy1q := hy1 _ rfl
          subst hy1q
          replace h := (elimR hK1)
          refine TS_retB rfl (by kernel_rfl) ?_
          refine TS_go 2 ?_
          have ret := Option.some.inj h
          subst ret
          exact TS_ret (by kernel_rfl) (by kernel_rfl) (by kernel_rfl)
      · refine TS_know 16 (b := false) hb5 (by kernel_rfl) (by kernel_rfl) ?_
        refine TS_F (by kernel_rfl) rfl ?_
        refine TS_go 2 ?_
        have ret := Option.some.inj h
        subst ret
        exact TS_brkB () ⟨[(0, []), (1, [])], []⟩ rfl (by kernel_rfl) (by kernel_rfl) (by kernel_rfl)
    · intro b3 hb
      subst y4
      have h := elimL hK1
      refine TS_go 7 ?_
      replace h := condO h
      rcases h with ⟨hb10, h⟩ | ⟨hb10, h⟩
      · refine TS_know 24 (b := true) hb10 (by kernel_rfl) (by kernel_rfl) ?_
        refine TS_know 25 (b := true) hb10 (by kernel_rfl) (by kernel_rfl) ?_
        refine TS_go 4 ?_
        refine TS_T (by kernel_rfl) rfl ?_
        refine TS_go 5 ?_
        refine TS_nilT 4 600000 5 1 (by kernel_rfl) ?_
        refine TS_fitU ⟨[(4, []), (5, [])], [(600000, (900000, []))]⟩ (by kernel_rfl) ?_
        refine TS_go 2 ?_
        have ret := Option.some.inj h
        subst ret
        exact TS_ret (by kernel_rfl) (by kernel_rfl) (by kernel_rfl)
      · refine TS_know 24 (b := false) hb10 (by kernel_rfl) (by kernel_rfl) ?_
        refine TS_know 25 (b := false) hb10 (by kernel_rfl) (by kernel_rfl) ?_
        refine TS_go 4 ?_
        replace h := condO h
        rcases h with ⟨hb11, h⟩ | ⟨hb11, h⟩
        · refine TS_know 27 (b := true) hb11 (by kernel_rfl) (by kernel_rfl) ?_
          refine TS_know 28 (b := true) hb11 (by kernel_rfl) (by kernel_rfl) ?_
          refine TS_T (by kernel_rfl) rfl ?_
          refine TS_go 5 ?_
          refine TS_nilT 4 600000 5 1 (by kernel_rfl) ?_
          refine TS_fitU ⟨[(4, []), (5, [])], [(600000, (900000, []))]⟩ (by kernel_rfl) ?_
          refine TS_go 2 ?_
          have ret := Option.some.inj h
          subst ret
          exact TS_ret (by kernel_rfl) (by kernel_rfl) (by kernel_rfl)
        · refine TS_know 27 (b := false) hb11 (by kernel_rfl) (by kernel_rfl) ?_
          refine TS_know 28 (b := false) hb11 (by kernel_rfl) (by kernel_rfl) ?_
          refine TS_F (by kernel_rfl) rfl ?_
          refine TS_go 4 ?_
          replace h := bindO h
          obtain ⟨v12, hv12, h⟩ := h
          refine TS_con [] [(30, 900000)] none (okT_ref29_Body a1 v12 hv12) (by kernel_rfl) (by kernel_rfl) (by kernel_rfl) ?_
          refine TS_go 4 ?_
          refine TS_litNT 31 5 1 (ecI .u8) [] ([42, 1] : List Int) (by kernel_rfl) (by kernel_rfl) ?_
          refine TS_go 2 ?_
          replace h := bindO h
          obtain ⟨v13, hv13, h⟩ := h
          refine TS_conG 31 [] (ok_ref29_Put_G0 ([42, 1] : List Int) (IntKind.wrap .u64 a0) 5 v13 hv13) (by kernel_rfl) (by kernel_rfl) (by kernel_rfl) ?_
          refine TS_go 8 ?_
          replace h := bindO h
          obtain ⟨v14, hv14, h⟩ := h
          refine TS_conG 31 [] (ok_ref29_Put_G0 v13 (IntKind.wrap .u64 (List.length v12 : Int)) 2 v14 hv14) (by kernel_rfl) (by kernel_rfl) (by kernel_rfl) ?_
          refine TS_go 6 ?_
          replace h := bindO h
          obtain ⟨_l15, hl15, h⟩ := h
          refine TS_appT (d := 31) (e := 5) (sz := 1) (N := List.length v14) (ecI .u8) (fun _ => by kernel_rfl) (l1 := v14) (l2 := v12) (c := .whole) hl15 (by kernel_rfl) (by kernel_rfl) ?_
          refine TS_go 3 ?_
          refine TS_fitU ⟨[(4, []), (5, [])], [(31, (900000, []))]⟩ (by kernel_rfl) ?_
          refine TS_go 1 ?_
          have ret := Option.some.inj h
          subst ret
          exact TS_ret (by kernel_rfl) (by kernel_rfl) (by kernel_rfl)
/-- multihop/multihopmade.Mod -/
noncomputable def F_made_Mod_j1  (v2 : Int) : Option (Int) :=
  some (v2)
noncomputable def F_made_Mod (a0 : Int) (a1 : Int) : Option (Int) :=
  bif decide (a1 ≠ 0) then
    bif (decide ((Int.tmod a0 a1) < 0)) then
      (F_made_Mod_j1) (IntKind.wrap .i64 ((Int.tmod a0 a1) + a1))
    else
      (F_made_Mod_j1) (Int.tmod a0 a1)
  else none
set_option maxRecDepth 100000 in
set_option maxHeartbeats 40000000 in
theorem ok_made_Mod (a0 : Int) (a1 : Int) (r : Int) (h : F_made_Mod a0 a1 = some r) : Con Try.prog 19 [.c (.lit (.int .i64 (a0))), .c (.lit (.int .i64 (a1)))] [] (.c (.lit (.int .i64 (r)))) [] := by
  unfold F_made_Mod at h
  refine con_of [] [] 14 Try.func19 rfl rfl (by kernel_rfl) (fun K => ?_)
  refine TS_go 8 ?_
  replace h := chkO h
  obtain ⟨hc1, h⟩ := h
  refine TS_num (op := .rem) (k := .i64) (k' := .i64) (m := a0) (i := a1) (of_decide_eq_true hc1) rfl (by simp) (by kernel_rfl) (by kernel_rfl) ?_
  refine TS_go 2 ?_
  refine TS_cut ⟨[(0, []), (1, [])], []⟩ (.mk [.code (codeAt [1, 1] (bodyOf Try.f19))] .normal ⟨[(0, .c (.lit (.int .i64 (Int.tmod a0 a1)))), (1, .c (.lit (.int .i64 (a1))))], []⟩) (by kernel_rfl) (by kernel_rfl) ?_
  refine TS_joinB ⟨[(0, [])], []⟩ (fun (v2 : Int) => [(0, .c (.lit (.int .i64 (v2))))]) (fun (v2 : Int) => []) (F_made_Mod_j1) r ?_ ?_
  · clear h
    intro v2 h
    unfold F_made_Mod_j1 at h
    refine TS_go 6 ?_
    have ret := Option.some.inj h
    subst ret
    exact TS_ret (by kernel_rfl) (by kernel_rfl) (by kernel_rfl)
  · refine TS_go 5 ?_
    replace h := condO h
    rcases h with ⟨hb3, h⟩ | ⟨hb3, h⟩
    · refine TS_know 9 (b := true) hb3 (by kernel_rfl) (by kernel_rfl) ?_
      refine TS_T (by kernel_rfl) rfl ?_
      refine TS_go 6 ?_
      exact TS_meet (IntKind.wrap .i64 ((Int.tmod a0 a1) + a1)) ⟨[(0, [])], []⟩ h (by kernel_rfl) (by kernel_rfl)
    · refine TS_know 9 (b := false) hb3 (by kernel_rfl) (by kernel_rfl) ?_
      refine TS_F (by kernel_rfl) rfl ?_
      refine TS_go 1 ?_
      exact TS_meet (Int.tmod a0 a1) ⟨[(0, [])], []⟩ h (by kernel_rfl) (by kernel_rfl)

/-- multihop/messages.Pack -/
noncomputable def F_messages_Pack_l2 (s7 : (List S_Notice) × (List (List Int))) (a2 : Int) (s11 : Int × S_messages_state) : Option ((Int × S_messages_state) ⊕ (Int × S_messages_state)) :=
  bif (decide (s11.1 < (if 64 < (List.length s7.1 : Int) then 64 else (List.length s7.1 : Int)))) then
    (idx s7.1 s11.1).bind fun e15 =>
    (F_messages_state_notice_H00 s11.2 e15).bind fun v16 =>
    bif (decide ((IntKind.wrap .i64 (9 + (List.length v16.elements : Int))) > a2)) then
      some (Sum.inr (s11.1, s11.2))
    else
      some (Sum.inl (IntKind.wrap .i64 (s11.1 + 1), v16))
  else
    some (Sum.inr (s11.1, s11.2))
noncomputable def F_messages_Pack_l1 (a2 : Int) (a0 : Int) (s7 : (List S_Notice) × (List (List Int))) : Option (((List S_Notice) × (List (List Int))) ⊕ ((List (List Int)))) :=
  bif (decide ((List.length s7.1 : Int) > 0)) then
    (loopO (F_messages_Pack_l2 s7 a2) (0, (S_messages_state.mk ([] : List Int) 0 [0, 0, 0, 0, 0, 0, 0, 0, 0, 0, 0, 0, 0, 0, 0, 0]))).bind fun b12 =>
    (F_messages_state_packet b12.2 a0).bind fun v19 =>
    (appO 24 s7.2 (Cut.app .whole ([v19] : List (List Int)))).bind fun l20 =>
    (subO s7.1 b12.1 (List.length s7.1 : Int)).bind fun l21 =>
    some (Sum.inl (l21, l20))
  else
    some (Sum.inr s7.2)
noncomputable def F_messages_Pack (a0 : Int) (a1 : List S_Notice) (a2 : Int) : Option ((List (List Int)) × Int) :=
  (F_messages_allValid a1).bind fun v1 =>
  bif v1 then
    (F_messages_isCreation a0).bind fun v3 =>
    bif v3 then
      bif (decide (a2 < 72)) then
        some ((([] : List (List Int)), 2))
      else
        bif (decide (a2 > 1280)) then
          some ((([] : List (List Int)), 2))
        else
          (loopO (F_messages_Pack_l1 a2 a0) (a1, ([] : List (List Int)))).bind fun b8 =>
          some ((b8, 0))
    else
      some ((([] : List (List Int)), 2))
  else
    some ((([] : List (List Int)), 1))
set_option maxRecDepth 100000 in
set_option maxHeartbeats 40000000 in
theorem okT_messages_Pack (a0 : Int) (a1 : List S_Notice) (a2 : Int) (r : (List (List Int)) × Int) (h : F_messages_Pack a0 a1 a2 = some r) : Con Try.prog 25 [.c (.lit (.int .i64 (a0))), .c (eS 40 S_Notice.cs (a1)), .c (.lit (.int .i64 (a2)))] [] (.tup [(false, [.slc 1 900002 (List.length r.1) (List.map (ecS 1 (ecI .u8)) r.1)]), (false, [.lit (.int .i64 (r.2))])]) [(900000, .spare 47 1 (List.length r.1))] := by
  unfold F_messages_Pack at h
  refine con_of [] [(900000, [])] 59 Try.func25 rfl rfl (by kernel_rfl) (fun K => ?_)
  refine TS_go 9 ?_
  replace h := bindO h
  obtain ⟨v1, hv1, h⟩ := h
  refine TS_call [] (ok_messages_allValid a1 v1 hv1) (by kernel_rfl) (by kernel_rfl) ?_
  refine TS_go 2 ?_
  replace h := condO h
  rcases h with ⟨hb2, h⟩ | ⟨hb2, h⟩
  · subst hb2
    refine TS_F (by kernel_rfl) rfl ?_
    refine TS_go 5 ?_
    replace h := bindO h
    obtain ⟨v3, hv3, h⟩ := h
    refine TS_call [] (ok_messages_isCreation a0 v3 hv3) (by kernel_rfl) (by kernel_rfl) ?_
    refine TS_go 2 ?_
    replace h := condO h
    rcases h with ⟨hb4, h⟩ | ⟨hb4, h⟩
    · subst hb4
      refine TS_go 4 ?_
      replace h := condO h
      rcases h with ⟨hb5, h⟩ | ⟨hb5, h⟩
      · refine TS_know 20 (b := true) hb5 (by kernel_rfl) (by kernel_rfl) ?_
        refine TS_know 21 (b := true) hb5 (by kernel_rfl) (by kernel_rfl) ?_
        refine TS_know 22 (b := true) hb5 (by kernel_rfl) (by kernel_rfl) ?_
        refine TS_go 4 ?_
        refine TS_T (by kernel_rfl) rfl ?_
        refine TS_go 5 ?_
        refine TS_nilT 6 600000 47 1 (by kernel_rfl) ?_
        refine TS_fitU ⟨[(6, []), (7, [])], [(600000, (900000, []))]⟩ (by kernel_rfl) ?_
        refine TS_go 2 ?_
        have ret := Option.some.inj h
        subst ret
        exact TS_ret (by kernel_rfl) (by kernel_rfl) (by kernel_rfl)
      · refine TS_know 20 (b := false) hb5 (by kernel_rfl) (by kernel_rfl) ?_
        refine TS_know 21 (b := false) hb5 (by kernel_rfl) (by kernel_rfl) ?_
        refine TS_know 22 (b := false) hb5 (by kernel_rfl) (by kernel_rfl) ?_
        refine TS_go 4 ?_
        replace h := condO h
        rcases h with ⟨hb6, h⟩ | ⟨hb6, h⟩
        · refine TS_know 24 (b := true) hb6 (by kernel_rfl) (by kernel_rfl) ?_
          refine TS_know 25 (b := true) hb6 (by kernel_rfl) (by kernel_rfl) ?_
          refine TS_T (by kernel_rfl) rfl ?_
          refine TS_go 5 ?_
          refine TS_nilT 6 600000 47 1 (by kernel_rfl) ?_
          refine TS_fitU ⟨[(6, []), (7, [])], [(600000, (900000, []))]⟩ (by kernel_rfl) ?_
          refine TS_go 2 ?_
          have ret := Option.some.inj h
          subst ret
          exact TS_ret (by kernel_rfl) (by kernel_rfl) (by kernel_rfl)
        · refine TS_know 24 (b := false) hb6 (by kernel_rfl) (by kernel_rfl) ?_
          refine TS_know 25 (b := false) hb6 (by kernel_rfl) (by kernel_rfl) ?_
          refine TS_F (by kernel_rfl) rfl ?_
          refine TS_go 7 ?_
          refine TS_nilT 8 600000 47 1 (by kernel_rfl) ?_
          refine TS_cut ⟨[(0, []), (1, []), (2, []), (8, [])], [(600000, (600000, []))]⟩ (.mk [.code (codeAt [1, 1, 1, 1, 0, 0] (bodyOf Try.f25)), .blk 0, .code (codeAt [1, 1, 1, 1, 1] (bodyOf Try.f25))] .normal ⟨[(0, .c (.lit (.int .i64 (a0)))), (1, .c (.slc 40 0 (List.length a1) (List.map S_Notice.cs a1))), (2, .c (.lit (.int .i64 (a2)))), (8, .c (.slc 1 600002 (List.length ([] : List (List Int))) (List.map (ecS 1 (ecI .u8)) ([] : List (List Int)))))], [(600000, .spare 47 1 (List.length ([] : List (List Int))))]⟩) (by kernel_rfl) (by kernel_rfl) ?_
          replace h := bindO h
          obtain ⟨y9, hl1, hK1⟩ := h
          refine TS_loopB (F_messages_Pack_l1 a2 a0) ⟨[(0, []), (1, []), (2, []), (8, [])], [(600000, (600000, []))]⟩ (fun (s7 : (List S_Notice) × (List (List Int))) => [(1, .c (eS 40 S_Notice.cs (s7.1))), (8, .c (.slc 1 600002 (List.length s7.2) (List.map (ecS 1 (ecI .u8)) s7.2)))]) (fun (s7 : (List S_Notice) × (List (List Int))) => [(600000, .spare 47 1 (List.length s7.2))]) (a1, ([] : List (List Int))) y9 (.exit 0) (fun (b : (List (List Int))) => b) ⟨[(8, [])], [(600000, (600000, []))]⟩ (fun (b8 : (List (List Int))) => [(8, .c (.slc 1 600002 (List.length b8) (List.map (ecS 1 (ecI .u8)) b8)))]) (fun (b8 : (List (List Int))) => [(600000, .spare 47 1 (List.length b8))]) hl1 (by kernel_rfl) (by kernel_rfl) ?_ ?_
          · intro s7 x h hy1
            unfold F_messages_Pack_l1 at h
            refine TS_go 7 ?_
            replace h := condO h
            rcases h with ⟨hb10, h⟩ | ⟨hb10, h⟩
            · refine TS_know 28 (b := true) hb10 (by kernel_rfl) (by kernel_rfl) ?_
              refine TS_T (by kernel_rfl) rfl ?_
              refine TS_go 12 ?_
              refine TS_nilB 9 0 600001 5 1 (by kernel_rfl) ?_
              refine TS_cut ⟨[(0, []), (1, []), (2, []), (8, []), (9, []), (10, [])], [(600000, (600000, [])), (9, (9, [])), (600001, (600001, []))]⟩ (.mk [.code (codeAt [1, 1, 1, 1, 0, 0, 0, 1, 0, 1, 1, 0, 0] (bodyOf Try.f25)), .blk 2, .code (codeAt [1, 1, 1, 1, 0, 0, 0, 1, 0, 1, 1, 1] (bodyOf Try.f25)), .blk 1] .normal ⟨[(0, .c (.lit (.int .i64 (a0)))), (1, .c (.slc 40 0 (List.length s7.1) (List.map S_Notice.cs s7.1))), (2, .c (.lit (.int .i64 (a2)))), (8, .c (.slc 1 600002 (List.length s7.2) (List.map (ecS 1 (ecI .u8)) s7.2))), (9, .c (.box 9 0)), (10, .c (.lit (.int .i64 (0))))], [(600000, .spare 47 1 (List.length s7.2)), (9, .box [.slc 1 600003 (List.length ([] : List Int)) (List.map (ecI .u8) ([] : List Int)), .lit (.int .u64 (0)), .lit (.int .u8 (0)), .lit (.int .u8 (0)), .lit (.int .u8 (0)), .lit (.int .u8 (0)), .lit (.int .u8 (0)), .lit (.int .u8 (0)), .lit (.int .u8 (0)), .lit (.int .u8 (0)), .lit (.int .u8 (0)), .lit (.int .u8 (0)), .lit (.int .u8 (0)), .lit (.int .u8 (0)), .lit (.int .u8 (0)), .lit (.int .u8 (0)), .lit (.int .u8 (0)), .lit (.int .u8 (0))]), (600001, .spare 5 1 (List.length ([] : List Int)))]⟩) (by kernel_rfl) (by kernel_rfl) ?_
              replace h := bindO h
              obtain ⟨y13, hl2, hK2⟩ := h
              refine TS_loopB (F_messages_Pack_l2 s7 a2) ⟨[(0, []), (1, []), (2, []), (8, []), (9, []), (10, [])], [(600000, (600000, [])), (9, (9, [])), (600001, (600001, []))]⟩ (fun (s11 : Int × S_messages_state) => [(10, .c (.lit (.int .i64 (s11.1))))]) (fun (s11 : Int × S_messages_state) => [(9, .box [.slc 1 600003 (List.length s11.2.elements) (List.map (ecI .u8) s11.2.elements), .lit (.int .u64 (s11.2.router)), .lit (.int .u8 ((s11.2.dst.getD 0 0))), .lit (.int .u8 ((s11.2.dst.getD 1 0))), .lit (.int .u8 ((s11.2.dst.getD 2 0))), .lit (.int .u8 ((s11.2.dst.getD 3 0))), .lit (.int .u8 ((s11.2.dst.getD 4 0))), .lit (.int .u8 ((s11.2.dst.getD 5 0))), .lit (.int .u8 ((s11.2.dst.getD 6 0))), .lit (.int .u8 ((s11.2.dst.getD 7 0))), .lit (.int .u8 ((s11.2.dst.getD 8 0))), .lit (.int .u8 ((s11.2.dst.getD 9 0))), .lit (.int .u8 ((s11.2.dst.getD 10 0))), .lit (.int .u8 ((s11.2.dst.getD 11 0))), .lit (.int .u8 ((s11.2.dst.getD 12 0))), .lit (.int .u8 ((s11.2.dst.getD 13 0))), .lit (.int .u8 ((s11.2.dst.getD 14 0))), .lit (.int .u8 ((s11.2.dst.getD 15 0)))]), (600001, .spare 5 1 (List.length s11.2.elements))]) (0, (S_messages_state.mk ([] : List Int) 0 [0, 0, 0, 0, 0, 0, 0, 0, 0, 0, 0, 0, 0, 0, 0, 0])) y13 (.exit 2) (fun (b : Int × S_messages_state) => b) ⟨[(0, []), (1, []), (2, []), (8, []), (9, []), (10, [])], [(600000, (600000, [])), (9, (9, [2]))]⟩ (fun (b12 : Int × S_messages_state) => [(10, .c (.lit (.int .i64 (b12.1))))]) (fun (b12 : Int × S_messages_state) => [(9, .box (S_messages_state.cs b12.2))]) hl2 (by kernel_rfl) (by kernel_rfl) ?_ ?_
              · intro s11 x h hy2
                unfold F_messages_Pack_l2 at h
                refine TS_go 9 ?_
                replace h := condO h
                rcases h with ⟨hb14, h⟩ | ⟨hb14, h⟩
                · refine TS_know 33 (b := true) hb14 (by kernel_rfl) (by kernel_rfl) ?_
                  refine TS_T (by kernel_rfl) rfl ?_
                  refine TS_go 3 ?_
                  refine TS_draw (by kernel_rfl) ?_
                  refine TD_go 3 ?_
                  replace h := bindO h
                  obtain ⟨e15, he15, h⟩ := h
                  refine TD_idx S_Notice.cs he15 (by kernel_rfl) (by kernel_rfl) ?_
                  refine TD_go 1 ?_
                  replace h := bindO h
                  obtain ⟨v16, hv16, h⟩ := h
                  refine TD_conG 600001 [] (ok_messages_state_notice_H00 s11.2 e15 v16 hv16) (by kernel_rfl) (by kernel_rfl) (by kernel_rfl) ?_
                  refine TD_go 2 ?_
                  refine TD_end (by kernel_rfl) ?_
                  refine TS_go 10 ?_
                  replace h := condO h
                  rcases h with ⟨hb17, h⟩ | ⟨hb17, h⟩
                  · refine TS_know 45 (b := true) hb17 (by kernel_rfl) (by kernel_rfl) ?_
                    refine TS_T (by kernel_rfl) rfl ?_
                    refine TS_go 3 ?_
                    have ret := Option.some.inj h
                    subst ret
                    exact TS_brkB (s11.1, s11.2) ⟨[(0, []), (1, []), (2, []), (8, []), (9, []), (10, [])], [(600000, (600000, [])), (9, (9, [2]))]⟩ rfl (by kernel_rfl) (by kernel_rfl) (by kernel_rfl)
                  · refine TS_know 45 (b := false) hb17 (by kernel_rfl) (by kernel_rfl) ?_
                    refine TS_F (by kernel_rfl) rfl ?_
                    refine TS_go 12 ?_
                    have ret := Option.some.inj h
                    subst ret
                    exact TS_againB _ ⟨[(0, []), (1, []), (2, []), (8, []), (9, []), (10, [])], [(600000, (600000, [])), (9, (9, [])), (600001, (600001, []))]⟩ rfl (by kernel_rfl) (by kernel_rfl)
                · refine TS_know 33 (b := false) hb14 (by kernel_rfl) (by kernel_rfl) ?_
                  refine TS_F (by kernel_rfl) rfl ?_
                  refine TS_go 2 ?_
                  have ret := Option.some.inj h
                  subst ret
                  exact TS_brkB (s11.1, s11.2) ⟨[(0, []), (1, []), (2, []), (8, []), (9, []), (10, [])], [(600000, (600000, [])), (9, (9, [2]))]⟩ rfl (by kernel_rfl) (by kernel_rfl) (by kernel_rfl)
              · intro b12 hb
                subst y13
                have h := hK2
                refine TS_go 6 ?_
                replace h := bindO h
                obtain ⟨v19, hv19, h⟩ := h
                refine TS_con [] [(52, 900000)] none (okT_messages_state_packet b12.2 a0 v19 hv19) (by kernel_rfl) (by kernel_rfl) (by kernel_rfl) ?_
                refine TS_litNT 53 47 1 (ecS 1 (ecI .u8)) [2] ([v19] : List (List Int)) (by kernel_rfl) (by kernel_rfl) ?_
                replace h := bindO h
                obtain ⟨_l20, hl20, h⟩ := h
                refine TS_appT (d := 600000) (e := 47) (sz := 1) (N := List.length s7.2) (ecS 1 (ecI .u8)) (fun _ => by kernel_rfl) (l1 := s7.2) (l2 := ([v19] : List (List Int))) (c := .whole) hl20 (by kernel_rfl) (by kernel_rfl) ?_
                refine TS_go 5 ?_
                replace h := bindO h
                obtain ⟨_l21, hl21, h⟩ := h
                refine TS_sub S_Notice.cs 40 hl21 (by kernel_rfl) (by kernel_rfl) ?_
                refine TS_go 3 ?_
                have ret := Option.some.inj h
                subst ret
                exact TS_againB _ ⟨[(0, []), (1, []), (2, []), (8, [])], [(600000, (600000, []))]⟩ rfl (by kernel_rfl) (by kernel_rfl)
            · refine TS_know 28 (b := false) hb10 (by kernel_rfl) (by kernel_rfl) ?_
              refine TS_F (by kernel_rfl) rfl ?_
              refine TS_go 2 ?_
              have ret := Option.some.inj h
              subst ret
              exact TS_brkB s7.2 ⟨[(8, [])], [(600000, (600000, []))]⟩ rfl (by kernel_rfl) (by kernel_rfl) (by kernel_rfl)
          · intro b8 hb
            subst y9
            have h := hK1
            refine TS_go 7 ?_
            refine TS_fitU ⟨[(6, []), (7, [])], [(600000, (900000, []))]⟩ (by kernel_rfl) ?_
            refine TS_go 1 ?_
            have ret := Option.some.inj h
            subst ret
            exact TS_ret (by kernel_rfl) (by kernel_rfl) (by kernel_rfl)
    · subst hb4
      refine TS_go 8 ?_
      refine TS_T (by kernel_rfl) rfl ?_
      refine TS_go 5 ?_
      refine TS_nilT 6 600000 47 1 (by kernel_rfl) ?_
      refine TS_fitU ⟨[(6, []), (7, [])], [(600000, (900000, []))]⟩ (by kernel_rfl) ?_
      refine TS_go 2 ?_
      have ret := Option.some.inj h
      subst ret
      exact TS_ret (by kernel_rfl) (by kernel_rfl) (by kernel_rfl)
  · subst hb2
    refine TS_T (by kernel_rfl) rfl ?_
    refine TS_go 5 ?_
    refine TS_nilT 6 600000 47 1 (by kernel_rfl) ?_
    refine TS_fitU ⟨[(6, []), (7, [])], [(600000, (900000, []))]⟩ (by kernel_rfl) ?_
    refine TS_go 2 ?_
    have ret := Option.some.inj h
    subst ret
    exact TS_ret (by kernel_rfl) (by kernel_rfl) (by kernel_rfl)
end
section
open Go.RowKit
attribute [local irreducible] TS go TD goD

/-- multihop/multihopref29.Pack -/
noncomputable def F_ref29_Pack_l1 (a1 : List S_Notice) (s1 : Int) : Option ((Int) ⊕ ((Unit) ⊕ ((List (List Int)) × Int))) :=
  bif (decide (s1 < (List.length a1 : Int))) then
    (idx a1 s1).bind fun e5 =>
    (F_ref29_Valid e5).bind fun v6 =>
    bif v6 then
      some (Sum.inl (IntKind.wrap .i64 (s1 + 1)))
    else
      some (Sum.inr (Sum.inr (([] : List (List Int)), 1)))
  else
    some (Sum.inr (Sum.inl ()))
noncomputable def F_ref29_Pack_l3 (s13 : (List S_Notice) × (List (List Int))) (a2 : Int) (s17 : Int) : Option ((Int) ⊕ (Int)) :=
  bif (decide (s17 < (List.length s13.1 : Int))) then
    bif (decide (s17 < 64)) then
      (subO s13.1 0 (IntKind.wrap .i64 (s17 + 1))).bind fun l22 =>
      (F_ref29_Body l22).bind fun v23 =>
      bif (decide ((IntKind.wrap .i64 (9 + (List.length v23 : Int))) ≤ a2)) then
        some (Sum.inl (IntKind.wrap .i64 (s17 + 1)))
      else
        some (Sum.inr s17)
    else
      some (Sum.inr s17)
  else
    some (Sum.inr s17)
noncomputable def F_ref29_Pack_l2 (a2 : Int) (a0 : Int) (s13 : (List S_Notice) × (List (List Int))) : Option (((List S_Notice) × (List (List Int))) ⊕ ((List (List Int)))) :=
  bif (decide ((List.length s13.1 : Int) > 0)) then
    (loopO (F_ref29_Pack_l3 s13 a2) 1).bind fun b18 =>
    (subO s13.1 0 b18).bind fun l26 =>
    (F_ref29_Encode a0 l26).bind fun v27 =>
    (appO 24 s13.2 (Cut.app .whole ([v27.1] : List (List Int)))).bind fun l28 =>
    (subO s13.1 b18 (List.length s13.1 : Int)).bind fun l29 =>
    some (Sum.inl (l29, l28))
  else
    some (Sum.inr s13.2)
noncomputable def F_ref29_Pack (a0 : Int) (a1 : List S_Notice) (a2 : Int) : Option ((List (List Int)) × Int) :=
  (loopO (F_ref29_Pack_l1 a1) 0).bind (Sum.elim (fun b2 =>
    bif (decide (a0 < 0)) then
      some ((([] : List (List Int)), 2))
    else
      bif (decide (a0 ≥ 1099511627776)) then
        some ((([] : List (List Int)), 2))
      else
        bif (decide (a2 < 72)) then
          some ((([] : List (List Int)), 2))
        else
          bif (decide (a2 > 1280)) then
            some ((([] : List (List Int)), 2))
          else
            (loopO (F_ref29_Pack_l2 a2 a0) (a1, ([] : List (List Int)))).bind fun b14 =>
            some ((b14, 0))
  ) (fun w8 => some w8))
set_option maxRecDepth 100000 in
set_option maxHeartbeats 40000000 in
theorem okT_ref29_Pack (a0 : Int) (a1 : List S_Notice) (a2 : Int) (r : (List (List Int)) × Int) (h : F_ref29_Pack a0 a1 a2 = some r) : Con Try.prog 29 [.c (.lit (.int .i64 (a0))), .c (eS 40 S_Notice.cs (a1)), .c (.lit (.int .i64 (a2)))] [] (.tup [(false, [.slc 1 900002 (List.length r.1) (List.map (ecS 1 (ecI .u8)) r.1)]), (false, [.lit (.int .i64 (r.2))])]) [(900000, .spare 47 1 (List.length r.1))] := by
  unfold F_ref29_Pack at h
  refine con_of [] [(900000, [])] 78 Try.func29 rfl rfl (by kernel_rfl) (fun K => ?_)
  refine TS_go 13 ?_
  refine TS_cut ⟨[(0, []), (1, []), (2, []), (14, []), (15, []), (16, [])], []⟩ (.mk [.code (codeAt [1, 0, 1, 0] (bodyOf Try.f29)), .blk 0, .code (codeAt [1, 1] (bodyOf Try.f29))] .normal ⟨[(0, .c (.lit (.int .i64 (a0)))), (1, .c (.slc 40 0 (List.length a1) (List.map S_Notice.cs a1))), (2, .c (.lit (.int .i64 (a2)))), (14, .c (.slc 40 0 (List.length a1) (List.map S_Notice.cs a1))), (15, .c (.lit (.int .i64 ((List.length a1 : Int))))), (16, .c (.lit (.int .i64 (0))))], []⟩) (by kernel_rfl) (by kernel_rfl) ?_
  replace h := bindO h
  obtain ⟨y3, hl1, hK1⟩ := h
  refine TS_loopB (F_ref29_Pack_l1 a1) ⟨[(0, []), (1, []), (2, []), (14, []), (15, []), (16, [])], []⟩ (fun (s1 : Int) => [(16, .c (.lit (.int .i64 (s1))))]) (fun (s1 : Int) => []) 0 y3 (.exit 0) (fun (b : Unit) => (Sum.inl b : (Unit) ⊕ ((List (List Int)) × Int))) ⟨[(0, []), (1, []), (2, [])], []⟩ (fun (b2 : Unit) => []) (fun (b2 : Unit) => []) hl1 (by kernel_rfl) (by kernel_rfl) ?_ ?_
  · intro s1 x h hy1
    unfold F_ref29_Pack_l1 at h
    refine TS_go 5 ?_
    replace h := condO h
    rcases h with ⟨hb4, h⟩ | ⟨hb4, h⟩
    · refine TS_know 17 (b := true) hb4 (by kernel_rfl) (by kernel_rfl) ?_
      refine TS_T (by kernel_rfl) rfl ?_
      refine TS_go 5 ?_
      replace h := bindO h
      obtain ⟨e5, he5, h⟩ := h
      refine TS_idx S_Notice.cs he5 (by kernel_rfl) (by kernel_rfl) ?_
      refine TS_go 7 ?_
      replace h := bindO h
      obtain ⟨v6, hv6, h⟩ := h
      refine TS_call [] (ok_ref29_Valid e5 v6 hv6) (by kernel_rfl) (by kernel_rfl) ?_
      refine TS_go 2 ?_
      replace h := condO h
      rcases h with ⟨hb7, h⟩ | ⟨hb7, h⟩
      · subst hb7
        refine TS_F (by kernel_rfl) rfl ?_
        refine TS_go 6 ?_
        have ret := Option.some.inj h
        subst ret
        exact TS_againB _ ⟨[(0, []), (1, []), (2, []), (14, []), (15, []), (16, [])], []⟩ rfl (by kernel_rfl) (by kernel_rfl)
      · subst hb7
        refine TS_T (by kernel_rfl) rfl ?_
        refine TS_go 5 ?_
        refine TS_nilT 6 600000 47 1 (by kernel_rfl) ?_
        refine TS_fitU ⟨[(6, []), (7, [])], [(600000, (900000, []))]⟩ (by kernel_rfl) ?_
        refine TS_go 3 ?_
        have ret := Option.some.inj h
        subst ret
        have hy1q := hy1 _ rfl
        subst hy1q
        replace h := (elimR hK1)
        refine TS_retB rfl (by kernel_rfl) ?_
        refine TS_go 2 ?_
        have ret := Option.some.inj h
        subst ret
        exact TS_ret (by kernel_rfl) (by kernel_rfl) (by kernel_rfl)
    · refine TS_know 17 (b := false) hb4 (by kernel_rfl) (by kernel_rfl) ?_
      refine TS_F (by kernel_rfl) rfl ?_
      refine TS_go 2 ?_
      have ret := Option.some.inj h
      subst ret
      exact TS_brkB () ⟨[(0, []), (1, []), (2, [])], []⟩ rfl (by kernel_rfl) (by kernel_rfl) (by kernel_rfl)
  · intro b2 hb
    subst y3
    have h := elimL hK1
    refine TS_go 7 ?_
    replace h := condO h
    rcases h with ⟨hb9, h⟩ | ⟨hb9, h⟩
    · refine TS_know 25 (b := true) hb9 (by kernel_rfl) (by kernel_rfl) ?_
      refine TS_know 26 (b := true) hb9 (by kernel_rfl) (by kernel_rfl) ?_
      refine TS_go 12 ?_
      refine TS_T (by kernel_rfl) rfl ?_
      refine TS_go 5 ?_
      refine TS_nilT 6 600000 47 1 (by kernel_rfl) ?_
      refine TS_fitU ⟨[(6, []), (7, [])], [(600000, (900000, []))]⟩ (by kernel_rfl) ?_
      refine TS_go 2 ?_
      have ret := Option.some.inj h
      subst ret
      exact TS_ret (by kernel_rfl) (by kernel_rfl) (by kernel_rfl)
    · refine TS_know 25 (b := false) hb9 (by kernel_rfl) (by kernel_rfl) ?_
      refine TS_know 26 (b := false) hb9 (by kernel_rfl) (by kernel_rfl) ?_
      refine TS_go 4 ?_
      replace h := condO h
      rcases h with ⟨hb10, h⟩ | ⟨hb10, h⟩
      · refine TS_know 28 (b := true) hb10 (by kernel_rfl) (by kernel_rfl) ?_
        refine TS_know 29 (b := true) hb10 (by kernel_rfl) (by kernel_rfl) ?_
        refine TS_know 30 (b := true) hb10 (by kernel_rfl) (by kernel_rfl) ?_
        refine TS_go 8 ?_
        refine TS_T (by kernel_rfl) rfl ?_
        refine TS_go 5 ?_
        refine TS_nilT 6 600000 47 1 (by kernel_rfl) ?_
        refine TS_fitU ⟨[(6, []), (7, [])], [(600000, (900000, []))]⟩ (by kernel_rfl) ?_
        refine TS_go 2 ?_
        have ret := Option.some.inj h
        subst ret
        exact TS_ret (by kernel_rfl) (by kernel_rfl) (by kernel_rfl)
      · refine TS_know 28 (b := false) hb10 (by kernel_rfl) (by kernel_rfl) ?_
        refine TS_know 29 (b := false) hb10 (by kernel_rfl) (by kernel_rfl) ?_
        refine TS_know 30 (b := false) hb10 (by kernel_rfl) (by kernel_rfl) ?_
        refine TS_go 4 ?_
        replace h := condO h
        rcases h with ⟨hb11, h⟩ | ⟨hb11, h⟩
        · refine TS_know 32 (b := true) hb11 (by kernel_rfl) (by kernel_rfl) ?_
          refine TS_know 33 (b := true) hb11 (by kernel_rfl) (by kernel_rfl) ?_
          refine TS_know 34 (b := true) hb11 (by kernel_rfl) (by kernel_rfl) ?_
          refine TS_go 4 ?_
          refine TS_T (by kernel_rfl) rfl ?_
          refine TS_go 5 ?_
          refine TS_nilT 6 600000 47 1 (by kernel_rfl) ?_
          refine TS_fitU ⟨[(6, []), (7, [])], [(600000, (900000, []))]⟩ (by kernel_rfl) ?_
          refine TS_go 2 ?_
          have ret := Option.some.inj h
          subst ret
          exact TS_ret (by kernel_rfl) (by kernel_rfl) (by kernel_rfl)
        · refine TS_know 32 (b := false) hb11 (by kernel_rfl) (by kernel_rfl) ?_
          refine TS_know 33 (b := false) hb11 (by kernel_rfl) (by kernel_rfl) ?_
          refine TS_know 34 (b := false) hb11 (by kernel_rfl) (by kernel_rfl) ?_
          refine TS_go 4 ?_
          replace h := condO h
          rcases h with ⟨hb12, h⟩ | ⟨hb12, h⟩
          · refine TS_know 36 (b := true) hb12 (by kernel_rfl) (by kernel_rfl) ?_
            refine TS_know 37 (b := true) hb12 (by kernel_rfl) (by kernel_rfl) ?_
            refine TS_T (by kernel_rfl) rfl ?_
            refine TS_go 5 ?_
            refine TS_nilT 6 600000 47 1 (by kernel_rfl) ?_
            refine TS_fitU ⟨[(6, []), (7, [])], [(600000, (900000, []))]⟩ (by kernel_rfl) ?_
            refine TS_go 2 ?_
            have ret := Option.some.inj h
            subst ret
            exact TS_ret (by kernel_rfl) (by kernel_rfl) (by kernel_rfl)
          · refine TS_know 36 (b := false) hb12 (by kernel_rfl) (by kernel_rfl) ?_
            refine TS_know 37 (b := false) hb12 (by kernel_rfl) (by kernel_rfl) ?_
            refine TS_F (by kernel_rfl) rfl ?_
            refine TS_go 7 ?_
            refine TS_nilT 10 600000 47 1 (by kernel_rfl) ?_
            refine TS_cut ⟨[(0, []), (1, []), (2, []), (10, [])], [(600000, (600000, []))]⟩ (.mk [.code (codeAt [1, 1, 1, 1, 0, 0] (bodyOf Try.f29)), .blk 2, .code (codeAt [1, 1, 1, 1, 1] (bodyOf Try.f29))] .normal ⟨[(0, .c (.lit (.int .i64 (a0)))), (1, .c (.slc 40 0 (List.length a1) (List.map S_Notice.cs a1))), (2, .c (.lit (.int .i64 (a2)))), (10, .c (.slc 1 600002 (List.length ([] : List (List Int))) (List.map (ecS 1 (ecI .u8)) ([] : List (List Int)))))], [(600000, .spare 47 1 (List.length ([] : List (List Int))))]⟩) (by kernel_rfl) (by kernel_rfl) ?_
            replace h := bindO h
            obtain ⟨y15, hl2, hK2⟩ := h
            refine TS_loopB (F_ref29_Pack_l2 a2 a0) ⟨[(0, []), (1, []), (2, []), (10, [])], [(600000, (600000, []))]⟩ (fun (s13 : (List S_Notice) × (List (List Int))) => [(1, .c (eS 40 S_Notice.cs (s13.1))), (10, .c (.slc 1 600002 (List.length s13.2) (List.map (ecS 1 (ecI .u8)) s13.2)))]) (fun (s13 : (List S_Notice) × (List (List Int))) => [(600000, .spare 47 1 (List.length s13.2))]) (a1, ([] : List (List Int))) y15 (.exit 2) (fun (b : (List (List Int))) => b) ⟨[(10, [])], [(600000, (600000, []))]⟩ (fun (b14 : (List (List Int))) => [(10, .c (.slc 1 600002 (List.length b14) (List.map (ecS 1 (ecI .u8)) b14)))]) (fun (b14 : (List (List Int))) => [(600000, .spare 47 1 (List.length b14))]) hl2 (by kernel_rfl) (by kernel_rfl) ?_ ?_
            · intro s13 x h hy2
              unfold F_ref29_Pack_l2 at h
              refine TS_go 7 ?_
              replace h := condO h
              rcases h with ⟨hb16, h⟩ | ⟨hb16, h⟩
              · refine TS_know 40 (b := true) hb16 (by kernel_rfl) (by kernel_rfl) ?_
                refine TS_T (by kernel_rfl) rfl ?_
                refine TS_go 8 ?_
                refine TS_cut ⟨[(0, []), (1, []), (2, []), (10, []), (11, [])], [(600000, (600000, []))]⟩ (.mk [.code (codeAt [1, 1, 1, 1, 0, 0, 0, 1, 0, 1, 0, 0] (bodyOf Try.f29)), .blk 4, .code (codeAt [1, 1, 1, 1, 0, 0, 0, 1, 0, 1, 1] (bodyOf Try.f29)), .blk 3] .normal ⟨[(0, .c (.lit (.int .i64 (a0)))), (1, .c (.slc 40 0 (List.length s13.1) (List.map S_Notice.cs s13.1))), (2, .c (.lit (.int .i64 (a2)))), (10, .c (.slc 1 600002 (List.length s13.2) (List.map (ecS 1 (ecI .u8)) s13.2))), (11, .c (.lit (.int .i64 (1))))], [(600000, .spare 47 1 (List.length s13.2))]⟩) (by kernel_rfl) (by kernel_rfl) ?_
                replace h := bindO h
                obtain ⟨y19, hl3, hK3⟩ := h
                refine TS_loopB (F_ref29_Pack_l3 s13 a2) ⟨[(0, []), (1, []), (2, []), (10, []), (11, [])], [(600000, (600000, []))]⟩ (fun (s17 : Int) => [(11, .c (.lit (.int .i64 (s17))))]) (fun (s17 : Int) => []) 1 y19 (.exit 4) (fun (b : Int) => b) ⟨[(0, []), (1, []), (2, []), (10, []), (11, [])], [(600000, (600000, []))]⟩ (fun (b18 : Int) => [(11, .c (.lit (.int .i64 (b18))))]) (fun (b18 : Int) => []) hl3 (by kernel_rfl) (by kernel_rfl) ?_ ?_
                · intro s17 x h hy3
                  unfold F_ref29_Pack_l3 at h
                  refine TS_go 8 ?_
                  replace h := condO h
                  rcases h with ⟨hb20, h⟩ | ⟨hb20, h⟩
                  · refine TS_know 44 (b := true) hb20 (by kernel_rfl) (by kernel_rfl) ?_
                    refine TS_know 45 (b := true) hb20 (by kernel_rfl) (by kernel_rfl) ?_
                    refine TS_go 4 ?_
                    replace h := condO h
                    rcases h with ⟨hb21, h⟩ | ⟨hb21, h⟩
                    · refine TS_know 47 (b := true) hb21 (by kernel_rfl) (by kernel_rfl) ?_
                      refine TS_know 48 (b := true) hb21 (by kernel_rfl) (by kernel_rfl) ?_
                      refine TS_know 49 (b := true) hb21 (by kernel_rfl) (by kernel_rfl) ?_
                      refine TS_go 3 ?_
                      replace h := bindO h
                      obtain ⟨l22, hl22, h⟩ := h
                      refine TS_sub S_Notice.cs 40 hl22 (by kernel_rfl) (by kernel_rfl) ?_
                      replace h := bindO h
                      obtain ⟨v23, hv23, h⟩ := h
                      refine TS_con [] [(54, 900000)] none (okT_ref29_Body l22 v23 hv23) (by kernel_rfl) (by kernel_rfl) (by kernel_rfl) ?_
                      refine TS_go 6 ?_
                      replace h := condO h
                      rcases h with ⟨hb24, h⟩ | ⟨hb24, h⟩
                      · refine TS_know 58 (b := true) hb24 (by kernel_rfl) (by kernel_rfl) ?_
                        refine TS_know 59 (b := true) hb24 (by kernel_rfl) (by kernel_rfl) ?_
                        refine TS_T (by kernel_rfl) rfl ?_
                        refine TS_go 8 ?_
                        have ret := Option.some.inj h
                        subst ret
                        exact TS_againB _ ⟨[(0, []), (1, []), (2, []), (10, []), (11, [])], [(600000, (600000, []))]⟩ rfl (by kernel_rfl) (by kernel_rfl)
                      · refine TS_know 58 (b := false) hb24 (by kernel_rfl) (by kernel_rfl) ?_
                        refine TS_know 59 (b := false) hb24 (by kernel_rfl) (by kernel_rfl) ?_
                        refine TS_F (by kernel_rfl) rfl ?_
                        refine TS_go 2 ?_
                        have ret := Option.some.inj h
                        subst ret
                        exact TS_brkB s17 ⟨[(0, []), (1, []), (2, []), (10, []), (11, [])], [(600000, (600000, []))]⟩ rfl (by kernel_rfl) (by kernel_rfl) (by kernel_rfl)
                    · refine TS_know 47 (b := false) hb21 (by kernel_rfl) (by kernel_rfl) ?_
                      refine TS_know 48 (b := false) hb21 (by kernel_rfl) (by kernel_rfl) ?_
                      refine TS_know 49 (b := false) hb21 (by kernel_rfl) (by kernel_rfl) ?_
                      refine TS_go 11 ?_
                      refine TS_F (by kernel_rfl) rfl ?_
                      refine TS_go 2 ?_
                      have ret := Option.some.inj h
                      subst ret
                      exact TS_brkB s17 ⟨[(0, []), (1, []), (2, []), (10, []), (11, [])], [(600000, (600000, []))]⟩ rfl (by kernel_rfl) (by kernel_rfl) (by kernel_rfl)
                  · refine TS_know 44 (b := false) hb20 (by kernel_rfl) (by kernel_rfl) ?_
                    refine TS_know 45 (b := false) hb20 (by kernel_rfl) (by kernel_rfl) ?_
                    refine TS_go 15 ?_
                    refine TS_F (by kernel_rfl) rfl ?_
                    refine TS_go 2 ?_
                    have ret := Option.some.inj h
                    subst ret
                    exact TS_brkB s17 ⟨[(0, []), (1, []), (2, []), (10, []), (11, [])], [(600000, (600000, []))]⟩ rfl (by kernel_rfl) (by kernel_rfl) (by kernel_rfl)
                · intro b18 hb
                  subst y19
                  have h := hK3
                  refine TS_go 6 ?_
                  replace h := bindO h
                  obtain ⟨l26, hl26, h⟩ := h
                  refine TS_sub S_Notice.cs 40 hl26 (by kernel_rfl) (by kernel_rfl) ?_
                  replace h := bindO h
                  obtain ⟨v27, hv27, h⟩ := h
                  refine TS_con [] [(67, 900000)] none (okT_ref29_Encode a0 l26 v27 hv27) (by kernel_rfl) (by kernel_rfl) (by kernel_rfl) ?_
                  refine TS_go 10 ?_
                  refine TS_litNT 72 47 1 (ecS 1 (ecI .u8)) [2] ([v27.1] : List (List Int)) (by kernel_rfl) (by kernel_rfl) ?_
                  replace h := bindO h
                  obtain ⟨_l28, hl28, h⟩ := h
                  refine TS_appT (d := 600000) (e := 47) (sz := 1) (N := List.length s13.2) (ecS 1 (ecI .u8)) (fun _ => by kernel_rfl) (l1 := s13.2) (l2 := ([v27.1] : List (List Int))) (c := .whole) hl28 (by kernel_rfl) (by kernel_rfl) ?_
                  refine TS_go 5 ?_
                  replace h := bindO h
                  obtain ⟨_l29, hl29, h⟩ := h
                  refine TS_sub S_Notice.cs 40 hl29 (by kernel_rfl) (by kernel_rfl) ?_
                  refine TS_go 3 ?_
                  have ret := Option.some.inj h
                  subst ret
                  exact TS_againB _ ⟨[(0, []), (1, []), (2, []), (10, [])], [(600000, (600000, []))]⟩ rfl (by kernel_rfl) (by kernel_rfl)
              · refine TS_know 40 (b := false) hb16 (by kernel_rfl) (by kernel_rfl) ?_
                refine TS_F (by kernel_rfl) rfl ?_
                refine TS_go 2 ?_
                have ret := Option.some.inj h
                subst ret
                exact TS_brkB s13.2 ⟨[(10, [])], [(600000, (600000, []))]⟩ rfl (by kernel_rfl) (by kernel_rfl) (by kernel_rfl)
            · intro b14 hb
              subst y15
              have h := hK2
              refine TS_go 7 ?_
              refine TS_fitU ⟨[(6, []), (7, [])], [(600000, (900000, []))]⟩ (by kernel_rfl) ?_
              refine TS_go 1 ?_
              have ret := Option.some.inj h
              subst ret
              exact TS_ret (by kernel_rfl) (by kernel_rfl) (by kernel_rfl)
/-- slices.EqualFunc[[][]byte[][]byte[]byte[]byte] -/
noncomputable def F_slices_EqualFunc_byte_byte_byte_byte_F282_l1 (a0 : List (List Int)) (a1 : List (List Int)) (s2 : Int) : Option ((Int) ⊕ ((Unit) ⊕ (Bool))) :=
  bif (decide (s2 < (List.length a0 : Int))) then
    (idx a0 s2).bind fun e6 =>
    (idx a1 s2).bind fun e7 =>
    (F_bytes_Equal e6 e7).bind fun v8 =>
    bif v8 then
      some (Sum.inl (IntKind.wrap .i64 (s2 + 1)))
    else
      some (Sum.inr (Sum.inr false))
  else
    some (Sum.inr (Sum.inl ()))
noncomputable def F_slices_EqualFunc_byte_byte_byte_byte_F282 (a0 : List (List Int)) (a1 : List (List Int)) : Option (Bool) :=
  bif ((List.length a0 : Int) != (List.length a1 : Int)) then
    some (false)
  else
    (loopO (F_slices_EqualFunc_byte_byte_byte_byte_F282_l1 a0 a1) 0).bind (Sum.elim (fun b3 =>
      some (true)
    ) (fun w10 => some w10))
set_option maxRecDepth 100000 in
set_option maxHeartbeats 40000000 in
theorem ok_slices_EqualFunc_byte_byte_byte_byte_F282 (a0 : List (List Int)) (a1 : List (List Int)) (r : Bool) (h : F_slices_EqualFunc_byte_byte_byte_byte_F282 a0 a1 = some r) : Con Try.prog 53 [.c (eS 1 (ecS 1 (ecI .u8)) (a0)), .c (eS 1 (ecS 1 (ecI .u8)) (a1)), .c (.lit (.func (.func 28) #[] #[]))] [] (.c (.lit (.bool (r)))) [] := by
  unfold F_slices_EqualFunc_byte_byte_byte_byte_F282 at h
  refine con_of [] [] 32 Try.func53 rfl rfl (by kernel_rfl) (fun K => ?_)
  refine TS_go 13 ?_
  replace h := condO h
  rcases h with ⟨hb1, h⟩ | ⟨hb1, h⟩
  · refine TS_know 14 (b := true) hb1 (by kernel_rfl) (by kernel_rfl) ?_
    refine TS_T (by kernel_rfl) rfl ?_
    refine TS_go 6 ?_
    have ret := Option.some.inj h
    subst ret
    exact TS_ret (by kernel_rfl) (by kernel_rfl) (by kernel_rfl)
  · refine TS_know 14 (b := false) hb1 (by kernel_rfl) (by kernel_rfl) ?_
    refine TS_F (by kernel_rfl) rfl ?_
    refine TS_go 9 ?_
    refine TS_cut ⟨[(1, []), (2, []), (15, []), (16, []), (17, [])], []⟩ (.mk [.code (codeAt [1, 1, 0, 1, 0] (bodyOf Try.f53)), .blk 0, .code (codeAt [1, 1, 1] (bodyOf Try.f53))] .normal ⟨[(1, .c (.slc 1 0 (List.length a1) (List.map (ecS 1 (ecI .u8)) a1))), (2, .c (.lit (.func (.func 28) #[] #[]))), (15, .c (.slc 1 0 (List.length a0) (List.map (ecS 1 (ecI .u8)) a0))), (16, .c (.lit (.int .i64 ((List.length a0 : Int))))), (17, .c (.lit (.int .i64 (0))))], []⟩) (by kernel_rfl) (by kernel_rfl) ?_
    replace h := bindO h
    obtain ⟨y4, hl1, hK1⟩ := h
    refine TS_loopB (F_slices_EqualFunc_byte_byte_byte_byte_F282_l1 a0 a1) ⟨[(1, []), (2, []), (15, []), (16, []), (17, [])], []⟩ (fun (s2 : Int) => [(17, .c (.lit (.int .i64 (s2))))]) (fun (s2 : Int) => []) 0 y4 (.exit 0) (fun (b : Unit) => (Sum.inl b : (Unit) ⊕ (Bool))) ⟨[], []⟩ (fun (b3 : Unit) => []) (fun (b3 : Unit) => []) hl1 (by kernel_rfl) (by kernel_rfl) ?_ ?_
    · intro s2 x h hy1
      unfold F_slices_EqualFunc_byte_byte_byte_byte_F282_l1 at h
      refine TS_go 5 ?_
      replace h := condO h
      rcases h with ⟨hb5, h⟩ | ⟨hb5, h⟩
      · refine TS_know 18 (b := true) hb5 (by kernel_rfl) (by kernel_rfl) ?_
        refine TS_T (by kernel_rfl) rfl ?_
        refine TS_go 6 ?_
        replace h := bindO h
        obtain ⟨e6, he6, h⟩ := h
        refine TS_idx (ecS 1 (ecI .u8)) he6 (by kernel_rfl) (by kernel_rfl) ?_
        refine TS_go 8 ?_
        replace h := bindO h
        obtain ⟨e7, he7, h⟩ := h
        refine TS_idx (ecS 1 (ecI .u8)) he7 (by kernel_rfl) (by kernel_rfl) ?_
        refine TS_go 8 ?_
        replace h := bindO h
        obtain ⟨v8, hv8, h⟩ := h
        refine TS_call [] (ok_bytes_Equal e6 e7 v8 hv8) (by kernel_rfl) (by kernel_rfl) ?_
        refine TS_go 2 ?_
        replace h := condO h
        rcases h with ⟨hb9, h⟩ | ⟨hb9, h⟩
        · subst hb9
          refine TS_F (by kernel_rfl) rfl ?_
          refine TS_go 6 ?_
          have ret := Option.some.inj h
          subst ret
          exact TS_againB _ ⟨[(1, []), (2, []), (15, []), (16, []), (17, [])], []⟩ rfl (by kernel_rfl) (by kernel_rfl)
        · subst hb9
          refine TS_T (by kernel_rfl) rfl ?_
          refine TS_go 7 ?_
          have ret := Option.some.inj h
          subst ret
          have hy1q := hy1 _ rfl
          subst hy1q
          replace h := (elimR hK1)
          refine TS_retB rfl (by kernel_rfl) ?_
          refine TS_go 2 ?_
          have ret := Option.some.inj h
          subst ret
          exact TS_ret (by kernel_rfl) (by kernel_rfl) (by kernel_rfl)
      · refine TS_know 18 (b := false) hb5 (by kernel_rfl) (by kernel_rfl) ?_
        refine TS_F (by kernel_rfl) rfl ?_
        refine TS_go 2 ?_
        have ret := Option.some.inj h
        subst ret
        exact TS_brkB () ⟨[], []⟩ rfl (by kernel_rfl) (by kernel_rfl) (by kernel_rfl)
    · intro b3 hb
      subst y4
      have h := elimL hK1
      refine TS_go 6 ?_
      have ret := Option.some.inj h
      subst ret
      exact TS_ret (by kernel_rfl) (by kernel_rfl) (by kernel_rfl)

/-- multihop/multihopworld.SameBytes -/
noncomputable def F_world_SameBytes (a0 : List (List Int)) (a1 : List (List Int)) : Option (Bool) :=
  (F_slices_EqualFunc_byte_byte_byte_byte_F282 a0 a1).bind fun v1 =>
  some (v1)
set_option maxRecDepth 100000 in
set_option maxHeartbeats 40000000 in
theorem ok_world_SameBytes (a0 : List (List Int)) (a1 : List (List Int)) (r : Bool) (h : F_world_SameBytes a0 a1 = some r) : Con Try.prog 30 [.c (eS 1 (ecS 1 (ecI .u8)) (a0)), .c (eS 1 (ecS 1 (ecI .u8)) (a1))] [] (.c (.lit (.bool (r)))) [] := by
  unfold F_world_SameBytes at h
  refine con_of [] [] 8 Try.func30 rfl rfl (by kernel_rfl) (fun K => ?_)
  refine TS_go 8 ?_
  replace h := bindO h
  obtain ⟨v1, hv1, h⟩ := h
  refine TS_call [] (ok_slices_EqualFunc_byte_byte_byte_byte_F282 a0 a1 v1 hv1) (by kernel_rfl) (by kernel_rfl) ?_
  refine TS_go 3 ?_
  have ret := Option.some.inj h
  subst ret
  exact TS_ret (by kernel_rfl) (by kernel_rfl) (by kernel_rfl)

/-- multihop/multihoplaw29.MessagesPacks -/
noncomputable def F_law29_MessagesPacks_l2 (a3 : Int) (v14 : Int) (a2 : Int) (e13 : List S_Notice) (s15 : Int) : Option ((Int) ⊕ ((Unit) ⊕ (Bool))) :=
  bif (decide (s15 < (List.length ([a3, IntKind.wrap .i64 (72 + v14), 95, 71, 1280] : List Int) : Int))) then
    (idx ([a3, IntKind.wrap .i64 (72 + v14), 95, 71, 1280] : List Int) s15).bind fun e19 =>
    (F_messages_Pack a2 e13 e19).bind fun v20 =>
    (F_ref29_Pack a2 e13 e19).bind fun v21 =>
    (F_made_Mod a2 1000).bind fun v22 =>
    (F_messages_Pack v22 e13 e19).bind fun v23 =>
    (F_made_Mod a2 1000).bind fun v24 =>
    (F_ref29_Pack v24 e13 e19).bind fun v25 =>
    bif (v20.2 != v21.2) then
      some (Sum.inr (Sum.inr false))
    else
      (F_world_SameBytes v20.1 v21.1).bind fun v27 =>
      bif v27 then
        bif (v23.2 != v25.2) then
          some (Sum.inr (Sum.inr false))
        else
          (F_world_SameBytes v23.1 v25.1).bind fun v30 =>
          bif v30 then
            some (Sum.inl (IntKind.wrap .i64 (s15 + 1)))
          else
            some (Sum.inr (Sum.inr false))
      else
        some (Sum.inr (Sum.inr false))
  else
    some (Sum.inr (Sum.inl ()))
noncomputable def F_law29_MessagesPacks_l1 (a0 : List S_Notice) (v4 : (List S_Notice) × S_multihopmade_Tape) (l8 : List S_Notice) (a3 : Int) (a2 : Int) (s9 : Int) : Option ((Int) ⊕ ((Unit) ⊕ (Bool))) :=
  bif (decide (s9 < (List.length ([a0, v4.1, l8] : List (List S_Notice)) : Int))) then
    (idx ([a0, v4.1, l8] : List (List S_Notice)) s9).bind fun e13 =>
    (F_made_Mod a3 60).bind fun v14 =>
    (loopO (F_law29_MessagesPacks_l2 a3 v14 a2 e13) 0).bind (Sum.elim (fun b16 =>
      some (Sum.inl (IntKind.wrap .i64 (s9 + 1)))
    ) (fun w32 => some (Sum.inr (Sum.inr w32))))
  else
    some (Sum.inr (Sum.inl ()))
noncomputable def F_law29_MessagesPacks (a0 : List S_Notice) (a1 : List Int) (a2 : Int) (a3 : Int) : Option (Bool) :=
  bif (decide ((List.length a0 : Int) > 70)) then
    (F_law29_known ).bind fun v2 =>
    some (v2)
  else
    (F_made_New a1).bind fun v3 =>
    (F_world_Notices v3 20).bind fun v4 =>
    (F_slices_Clone_api_Notice_api_Notice v4.1).bind fun v5 =>
    (F_world_Notice v4.2).bind fun v6 =>
    (F_law29_spoiled v6.2 v6.1).bind fun v7 =>
    (appO 96 v5 (Cut.app .whole ([v7.1] : List S_Notice))).bind fun l8 =>
    (loopO (F_law29_MessagesPacks_l1 a0 v4 l8 a3 a2) 0).bind (Sum.elim (fun b10 =>
      (F_law29_known ).bind fun v34 =>
      some (v34)
    ) (fun w33 => some w33))
set_option maxRecDepth 100000 in
set_option maxHeartbeats 40000000 in
theorem ok_law29_MessagesPacks (a0 : List S_Notice) (a1 : List Int) (a2 : Int) (a3 : Int) (r : Bool) (h : F_law29_MessagesPacks a0 a1 a2 a3 = some r) : Con Try.prog 8 [.c (eS 40 S_Notice.cs (a0)), .c (eS 1 (ecI .i64) (a1)), .c (.lit (.int .i64 (a2))), .c (.lit (.int .i64 (a3)))] [] (.c (.lit (.bool (r)))) [] := by
  unfold F_law29_MessagesPacks at h
  refine con_of [] [] 112 Try.func8 rfl rfl (by kernel_rfl) (fun K => ?_)
  refine TS_go 11 ?_
  replace h := condO h
  rcases h with ⟨hb1, h⟩ | ⟨hb1, h⟩
  · refine TS_know 26 (b := true) hb1 (by kernel_rfl) (by kernel_rfl) ?_
    refine TS_T (by kernel_rfl) rfl ?_
    refine TS_go 2 ?_
    replace h := bindO h
    obtain ⟨v2, hv2, h⟩ := h
    refine TS_call [] (ok_law29_known  v2 hv2) (by kernel_rfl) (by kernel_rfl) ?_
    refine TS_go 4 ?_
    have ret := Option.some.inj h
    subst ret
    exact TS_ret (by kernel_rfl) (by kernel_rfl) (by kernel_rfl)
  · refine TS_know 26 (b := false) hb1 (by kernel_rfl) (by kernel_rfl) ?_
    refine TS_F (by kernel_rfl) rfl ?_
    refine TS_go 4 ?_
    replace h := bindO h
    obtain ⟨v3, hv3, h⟩ := h
    refine TS_con [] [(29, 10)] none (ok_made_New a1 v3 hv3) (by kernel_rfl) (by kernel_rfl) (by kernel_rfl) ?_
    refine TS_go 5 ?_
    replace h := bindO h
    obtain ⟨v4, hv4, h⟩ := h
    refine TS_con [] [(31, 900000)] (some (29, 0)) (okT_world_Notices v3 20 v4 hv4) (by kernel_rfl) (by kernel_rfl) (by kernel_rfl) ?_
    refine TS_go 5 ?_
    replace h := bindO h
    obtain ⟨v5, hv5, h⟩ := h
    refine TS_con [[41]] [(33, 900000)] none (okT_slices_Clone_api_Notice_api_Notice v4.1 v5 hv5) (by kernel_rfl) (by kernel_rfl) (by kernel_rfl) ?_
    refine TS_go 2 ?_
    replace h := bindO h
    obtain ⟨v6, hv6, h⟩ := h
    refine TS_con [] [] (some (29, 0)) (ok_world_Notice v4.2 v6 hv6) (by kernel_rfl) (by kernel_rfl) (by kernel_rfl) ?_
    replace h := bindO h
    obtain ⟨v7, hv7, h⟩ := h
    refine TS_con [] [] (some (29, 0)) (ok_law29_spoiled v6.2 v6.1 v7 hv7) (by kernel_rfl) (by kernel_rfl) (by kernel_rfl) ?_
    refine TS_litNT 38 39 40 S_Notice.cs [] ([v7.1] : List S_Notice) (by kernel_rfl) (by kernel_rfl) ?_
    replace h := bindO h
    obtain ⟨l8, hl8, h⟩ := h
    refine TS_appT (d := 33) (e := 39) (sz := 40) (N := List.length v5) S_Notice.cs (fun _ => by kernel_rfl) (l1 := v5) (l2 := ([v7.1] : List S_Notice)) (c := .whole) hl8 (by kernel_rfl) (by kernel_rfl) ?_
    refine TS_go 8 ?_
    refine TS_litNT 43 22 1 (ecS 40 S_Notice.cs) [41] ([a0, v4.1, l8] : List (List S_Notice)) (by kernel_rfl) (by kernel_rfl) ?_
    refine TS_go 4 ?_
    refine TS_cut ⟨[(2, []), (3, []), (43, []), (44, []), (45, [])], [(43, (43, []))]⟩ (.mk [.code (codeAt [1, 1, 1, 1, 1, 0, 1, 0] (bodyOf Try.f8)), .blk 0, .code (codeAt [1, 1, 1, 1, 1, 1] (bodyOf Try.f8))] .normal ⟨[(2, .c (.lit (.int .i64 (a2)))), (3, .c (.lit (.int .i64 (a3)))), (43, .c (.slc 1 45 (List.length ([a0, v4.1, l8] : List (List S_Notice))) (List.map (ecS 40 S_Notice.cs) ([a0, v4.1, l8] : List (List S_Notice))))), (44, .c (.lit (.int .i64 ((List.length ([a0, v4.1, l8] : List (List S_Notice)) : Int))))), (45, .c (.lit (.int .i64 (0))))], [(43, .spare 22 1 (List.length ([a0, v4.1, l8] : List (List S_Notice))))]⟩) (by kernel_rfl) (by kernel_rfl) ?_
    replace h := bindO h
    obtain ⟨y11, hl1, hK1⟩ := h
    refine TS_loopB (F_law29_MessagesPacks_l1 a0 v4 l8 a3 a2) ⟨[(2, []), (3, []), (43, []), (44, []), (45, [])], [(43, (43, []))]⟩ (fun (s9 : Int) => [(45, .c (.lit (.int .i64 (s9))))]) (fun (s9 : Int) => []) 0 y11 (.exit 0) (fun (b : Unit) => (Sum.inl b : (Unit) ⊕ (Bool))) ⟨[], []⟩ (fun (b10 : Unit) => []) (fun (b10 : Unit) => []) hl1 (by kernel_rfl) (by kernel_rfl) ?_ ?_
    · intro s9 x h hy1
      unfold F_law29_MessagesPacks_l1 at h
      refine TS_go 5 ?_
      replace h := condO h
      rcases h with ⟨hb12, h⟩ | ⟨hb12, h⟩
      · refine TS_know 46 (b := true) hb12 (by kernel_rfl) (by kernel_rfl) ?_
        refine TS_T (by kernel_rfl) rfl ?_
        refine TS_go 5 ?_
        replace h := bindO h
        obtain ⟨e13, he13, h⟩ := h
        refine TS_idx (ecS 40 S_Notice.cs) he13 (by kernel_rfl) (by kernel_rfl) ?_
        refine TS_go 7 ?_
        replace h := bindO h
        obtain ⟨v14, hv14, h⟩ := h
        refine TS_call [] (ok_made_Mod a3 60 v14 hv14) (by kernel_rfl) (by kernel_rfl) ?_
        refine TS_go 1 ?_
        refine TS_litNT 53 3 1 (ecI .i64) [] ([a3, IntKind.wrap .i64 (72 + v14), 95, 71, 1280] : List Int) (by kernel_rfl) (by kernel_rfl) ?_
        refine TS_go 4 ?_
        refine TS_cut ⟨[(2, []), (3, []), (43, []), (44, []), (45, []), (13, []), (53, []), (54, []), (55, [])], [(43, (43, [])), (53, (53, []))]⟩ (.mk [.code (codeAt [1, 1, 1, 1, 1, 0, 1, 0, 0, 1, 1, 0, 0, 1, 1, 0] (bodyOf Try.f8)), .blk 2, .blk 1, .code (codeAt [1, 1, 1, 1, 1, 0, 1, 0, 0, 1, 1, 1] (bodyOf Try.f8))] .normal ⟨[(2, .c (.lit (.int .i64 (a2)))), (3, .c (.lit (.int .i64 (a3)))), (43, .c (.slc 1 45 (List.length ([a0, v4.1, l8] : List (List S_Notice))) (List.map (ecS 40 S_Notice.cs) ([a0, v4.1, l8] : List (List S_Notice))))), (44, .c (.lit (.int .i64 ((List.length ([a0, v4.1, l8] : List (List S_Notice)) : Int))))), (45, .c (.lit (.int .i64 (s9)))), (13, .c (.slc 40 0 (List.length e13) (List.map S_Notice.cs e13))), (53, .c (.slc 1 55 (List.length ([a3, IntKind.wrap .i64 (72 + v14), 95, 71, 1280] : List Int)) (List.map (ecI .i64) ([a3, IntKind.wrap .i64 (72 + v14), 95, 71, 1280] : List Int)))), (54, .c (.lit (.int .i64 ((List.length ([a3, IntKind.wrap .i64 (72 + v14), 95, 71, 1280] : List Int) : Int))))), (55, .c (.lit (.int .i64 (0))))], [(43, .spare 22 1 (List.length ([a0, v4.1, l8] : List (List S_Notice)))), (53, .spare 3 1 (List.length ([a3, IntKind.wrap .i64 (72 + v14), 95, 71, 1280] : List Int)))]⟩) (by kernel_rfl) (by kernel_rfl) ?_
        replace h := bindO h
        obtain ⟨y17, hl2, hK2⟩ := h
        refine TS_loopB (F_law29_MessagesPacks_l2 a3 v14 a2 e13) ⟨[(2, []), (3, []), (13, []), (43, []), (44, []), (45, []), (53, []), (54, []), (55, [])], [(43, (43, [])), (53, (53, []))]⟩ (fun (s15 : Int) => [(55, .c (.lit (.int .i64 (s15))))]) (fun (s15 : Int) => []) 0 y17 (.exit 2) (fun (b : Unit) => (Sum.inl b : (Unit) ⊕ (Bool))) ⟨[(2, []), (3, []), (43, []), (44, []), (45, [])], [(43, (43, []))]⟩ (fun (b16 : Unit) => []) (fun (b16 : Unit) => []) hl2 (by kernel_rfl) (by kernel_rfl) ?_ ?_
        · intro s15 x h hy2
          unfold F_law29_MessagesPacks_l2 at h
          refine TS_go 5 ?_
          replace h := condO h
          rcases h with ⟨hb18, h⟩ | ⟨hb18, h⟩
          · refine TS_know 56 (b := true) hb18 (by kernel_rfl) (by kernel_rfl) ?_
            refine TS_T (by kernel_rfl) rfl ?_
            refine TS_go 5 ?_
            replace h := bindO h
            obtain ⟨e19, he19, h⟩ := h
            refine TS_idx (ecI .i64) he19 (by kernel_rfl) (by kernel_rfl) ?_
            refine TS_go 8 ?_
            replace h := bindO h
            obtain ⟨v20, hv20, h⟩ := h
            refine TS_con [] [(63, 900000)] none (okT_messages_Pack a2 e13 e19 v20 hv20) (by kernel_rfl) (by kernel_rfl) (by kernel_rfl) ?_
            refine TS_go 11 ?_
            replace h := bindO h
            obtain ⟨v21, hv21, h⟩ := h
            refine TS_con [] [(70, 900000)] none (okT_ref29_Pack a2 e13 e19 v21 hv21) (by kernel_rfl) (by kernel_rfl) (by kernel_rfl) ?_
            refine TS_go 9 ?_
            replace h := bindO h
            obtain ⟨v22, hv22, h⟩ := h
            refine TS_call [] (ok_made_Mod a2 1000 v22 hv22) (by kernel_rfl) (by kernel_rfl) ?_
            refine TS_go 2 ?_
            replace h := bindO h
            obtain ⟨v23, hv23, h⟩ := h
            refine TS_con [] [(78, 900000)] none (okT_messages_Pack v22 e13 e19 v23 hv23) (by kernel_rfl) (by kernel_rfl) (by kernel_rfl) ?_
            refine TS_go 9 ?_
            replace h := bindO h
            obtain ⟨v24, hv24, h⟩ := h
            refine TS_call [] (ok_made_Mod a2 1000 v24 hv24) (by kernel_rfl) (by kernel_rfl) ?_
            refine TS_go 2 ?_
            replace h := bindO h
            obtain ⟨v25, hv25, h⟩ := h
            refine TS_con [] [(86, 900000)] none (okT_ref29_Pack v24 e13 e19 v25 hv25) (by kernel_rfl) (by kernel_rfl) (by kernel_rfl) ?_
            refine TS_go 12 ?_
            replace h := condO h
            rcases h with ⟨hb26, h⟩ | ⟨hb26, h⟩
            · refine TS_know 91 (b := true) hb26 (by kernel_rfl) (by kernel_rfl) ?_
              refine TS_know 92 (b := true) hb26 (by kernel_rfl) (by kernel_rfl) ?_
              refine TS_go 17 ?_
              refine TS_T (by kernel_rfl) rfl ?_
              refine TS_go 7 ?_
              have ret := Option.some.inj h
              subst ret
              have hy2q := hy2 _ rfl
              subst hy2q
              replace h := (elimR hK2)
              refine TS_retB rfl (by kernel_rfl) ?_
              refine TS_go 3 ?_
              have ret := Option.some.inj h
              subst ret
              have hy1q := hy1 _ rfl
              subst hy1q
              replace h := (elimR hK1)
              refine TS_retB rfl (by kernel_rfl) ?_
              refine TS_go 2 ?_
              have ret := Option.some.inj h
              subst ret
              exact TS_ret (by kernel_rfl) (by kernel_rfl) (by kernel_rfl)
            · refine TS_know 91 (b := false) hb26 (by kernel_rfl) (by kernel_rfl) ?_
              refine TS_know 92 (b := false) hb26 (by kernel_rfl) (by kernel_rfl) ?_
              refine TS_go 2 ?_
              replace h := bindO h
              obtain ⟨v27, hv27, h⟩ := h
              refine TS_call [[2], [2]] (ok_world_SameBytes v20.1 v21.1 v27 hv27) (by kernel_rfl) (by kernel_rfl) ?_
              refine TS_go 3 ?_
              replace h := condO h
              rcases h with ⟨hb28, h⟩ | ⟨hb28, h⟩
              · subst hb28
                refine TS_go 5 ?_
                replace h := condO h
                rcases h with ⟨hb29, h⟩ | ⟨hb29, h⟩
                · refine TS_know 101 (b := true) hb29 (by kernel_rfl) (by kernel_rfl) ?_
                  refine TS_know 102 (b := true) hb29 (by kernel_rfl) (by kernel_rfl) ?_
                  refine TS_know 103 (b := true) hb29 (by kernel_rfl) (by kernel_rfl) ?_
                  refine TS_go 6 ?_
                  refine TS_T (by kernel_rfl) rfl ?_
                  refine TS_go 7 ?_
                  have ret := Option.some.inj h
                  subst ret
                  have hy2q := hy2 _ rfl
                  subst hy2q
                  replace h := (elimR hK2)
                  refine TS_retB rfl (by kernel_rfl) ?_
                  refine TS_go 3 ?_
                  have ret := Option.some.inj h
                  subst ret
                  have hy1q := hy1 _ rfl
                  subst hy1q
                  replace h := (elimR hK1)
                  refine TS_retB rfl (by kernel_rfl) ?_
                  refine TS_go 2 ?_
                  have ret := Option.some.inj h
                  subst ret
                  exact TS_ret (by kernel_rfl) (by kernel_rfl) (by kernel_rfl)
                · refine TS_know 101 (b := false) hb29 (by kernel_rfl) (by kernel_rfl) ?_
                  refine TS_know 102 (b := false) hb29 (by kernel_rfl) (by kernel_rfl) ?_
                  refine TS_know 103 (b := false) hb29 (by kernel_rfl) (by kernel_rfl) ?_
                  refine TS_go 2 ?_
                  replace h := bindO h
                  obtain ⟨v30, hv30, h⟩ := h
                  refine TS_call [[2], [2]] (ok_world_SameBytes v23.1 v25.1 v30 hv30) (by kernel_rfl) (by kernel_rfl) ?_
                  refine TS_go 3 ?_
                  replace h := condO h
                  rcases h with ⟨hb31, h⟩ | ⟨hb31, h⟩
                  · subst hb31
                    refine TS_F (by kernel_rfl) rfl ?_
                    refine TS_go 6 ?_
                    have ret := Option.some.inj h
                    subst ret
                    exact TS_againB _ ⟨[(2, []), (3, []), (13, []), (43, []), (44, []), (45, []), (53, []), (54, []), (55, [])], [(43, (43, [])), (53, (53, []))]⟩ rfl (by kernel_rfl) (by kernel_rfl)
                  · subst hb31
                    refine TS_T (by kernel_rfl) rfl ?_
                    refine TS_go 7 ?_
                    have ret := Option.some.inj h
                    subst ret
                    have hy2q := hy2 _ rfl
                    subst hy2q
                    replace h := (elimR hK2)
                    refine TS_retB rfl (by kernel_rfl) ?_
                    refine TS_go 3 ?_
                    have ret := Option.some.inj h
                    subst ret
                    have hy1q := hy1 _ rfl
                    subst hy1q
                    replace h := (elimR hK1)
                    refine TS_retB rfl (by kernel_rfl) ?_
                    refine TS_go 2 ?_
                    have ret := Option.some.inj h
                    subst ret
                    exact TS_ret (by kernel_rfl) (by kernel_rfl) (by kernel_rfl)
              · subst hb28
                refine TS_go 11 ?_
                refine TS_T (by kernel_rfl) rfl ?_
                refine TS_go 7 ?_
                have ret := Option.some.inj h
                subst ret
                have hy2q := hy2 _ rfl
                subst hy2q
                replace h := (elimR hK2)
                refine TS_retB rfl (by kernel_rfl) ?_
                refine TS_go 3 ?_
                have ret := Option.some.inj h
                subst ret
                have hy1q := hy1 _ rfl
                subst hy1q
                replace h := (elimR hK1)
                refine TS_retB rfl (by kernel_rfl) ?_
                refine TS_go 2 ?_
                have ret := Option.some.inj h
                subst ret
                exact TS_ret (by kernel_rfl) (by kernel_rfl) (by kernel_rfl)
          · refine TS_know 56 (b := false) hb18 (by kernel_rfl) (by kernel_rfl) ?_
            refine TS_F (by kernel_rfl) rfl ?_
            refine TS_go 2 ?_
            have ret := Option.some.inj h
            subst ret
            exact TS_brkB () ⟨[(2, []), (3, []), (43, []), (44, []), (45, [])], [(43, (43, []))]⟩ rfl (by kernel_rfl) (by kernel_rfl) (by kernel_rfl)
        · intro b16 hb
          subst y17
          have h := elimL hK2
          refine TS_go 6 ?_
          have ret := Option.some.inj h
          subst ret
          exact TS_againB _ ⟨[(2, []), (3, []), (43, []), (44, []), (45, [])], [(43, (43, []))]⟩ rfl (by kernel_rfl) (by kernel_rfl)
      · refine TS_know 46 (b := false) hb12 (by kernel_rfl) (by kernel_rfl) ?_
        refine TS_F (by kernel_rfl) rfl ?_
        refine TS_go 2 ?_
        have ret := Option.some.inj h
        subst ret
        exact TS_brkB () ⟨[], []⟩ rfl (by kernel_rfl) (by kernel_rfl) (by kernel_rfl)
    · intro b10 hb
      subst y11
      have h := elimL hK1
      refine TS_go 3 ?_
      replace h := bindO h
      obtain ⟨v34, hv34, h⟩ := h
      refine TS_call [] (ok_law29_known  v34 hv34) (by kernel_rfl) (by kernel_rfl) ?_
      refine TS_go 3 ?_
      have ret := Option.some.inj h
      subst ret
      exact TS_ret (by kernel_rfl) (by kernel_rfl) (by kernel_rfl)
end
section
open Go.ChangeShapes Go.WideShapes Go.ChangeAt Go.RowKit

theorem own : ownKnob Try.prog.godebug = none := by kernel_rfl
theorem laidOut : laidOutB Try.prog = true := by kernel_rfl

/-- the arguments read as before -/
theorem trodAll_below {H : Type} {enc : TypeId × Value → H} {P : Program} (hl : laidOutB P = true) {W W' : World} (hb : Below W.heap.size W W') :
    ∀ {ts : List TypeId} {vs : List Value} {ds : List (DataW H)} {ps : List MemPlace}, ts.all (fun t => P.readableRec t && decide (t < P.types.size)) = true →
      DataW.TrodAll enc P W 0 (fun _ => true) true ts vs ds ps → DataW.TrodAll enc P W' 0 (fun b => decide (b < W.heap.size)) true ts vs ds ps
  | [], _, _, _, _, h => by
    obtain ⟨rfl, rfl, rfl⟩ := trodAll_nil h
    exact trodAll_mk0
  | t :: ts, vs, ds, ps, hr, h => by
    obtain ⟨v, vs', d, ds', p, q, rfl, rfl, rfl, h1, h2⟩ := trodAll_cons h
    simp only [List.all_cons, Bool.and_eq_true, decide_eq_true_eq] at hr
    have lt : ∀ x ∈ p, x.block < W.heap.size := by obtain ⟨m, hm⟩ := h1; exact DataW.trod_lt m _ _ _ hm
    exact trodAll_cons_mk (Below.trod hl hr.1.1 hr.1.2 h1 hb lt) (trodAll_below hl hb hr.2 h2)

theorem u64_bd {x : Int} (h : (Lit.int .u64 x).wf = true) : 0 ≤ x ∧ x ≤ 18446744073709551615 := by
  simpa [Lit.wf, IntKind.min, IntKind.max, IntKind.signed, IntKind.bits] using h
/-- the reader that sees all -/
def rdAll (w : World) : Rd := fun b o => w.cell? ⟨b, o, none⟩
def env0 : Env := ⟨fun _ => (0, 0), fun _ => (.slice none 0 0, .slice none 0 0)⟩
theorem vrel_lit (rd : Rd) (g : Env) (v : Value) : VRel rd g v (.c (.lit v)) := IRel.lit v
def ArgsOk (rd : Rd) (g : Env) : List Value → List SV → Prop
  | [], [] => True
  | u :: us, x :: xs => VRel rd g u x ∧ ArgsOk rd g us xs
  | _, _ => False
theorem ArgsOk.get {rd : Rd} {g : Env} : ∀ {us : List Value} {xs : List SV}, ArgsOk rd g us xs → us.length = xs.length ∧ ∀ (i : Nat) (x : SV), xs[i]? = some x → ∃ u, us[i]? = some u ∧ VRel rd g u x
  | [], [], _ => ⟨rfl, fun i x h => by simp at h⟩
  | u :: us, y :: xs, h => by
    obtain ⟨h1, h2⟩ := h
    obtain ⟨k1, k2⟩ := h2.get
    refine ⟨by simp [k1], fun i x hx => ?_⟩
    rcases i with _ | i
    · cases hx; exact ⟨u, rfl, h1⟩
    · exact k2 i x (by simpa using hx)
/-- a law that is true -/
theorem con_true {P : Program} {f : FuncId} {args : List SV} (h : Con P f args [] (.c (.lit (.bool true))) []) {W : World} {us : List Value} (ha : ArgsOk (rdAll W) env0 us args) :
    Calls P f us.toArray W fun e w' => e = .returned (.bool true) ∧ Ext W w' := by
  obtain ⟨h1, h2⟩ := ha.get
  have nol : ∀ d (x : Res), look ([] : Hp) d = some x → False := fun d x hx => by simp [look] at hx
  have noin : ∀ g b o, ¬ InFoot g ([] : Hp) b o := by rintro g b o ⟨d, r, hd, _⟩; exact nol _ _ hd
  refine (h (rdAll W) env0 W us.toArray (fun b o v hv => hv) (by simpa using h1) (fun i x hx => by simpa using h2 i x hx) (fun d x hx => (nol d x hx).elim) (fun d d' r r' b o _ hd => (nol _ _ hd).elim) (fun b o hx => (noin _ _ _ hx).elim)).mono ?_
  rintro e w' ⟨u, g', rfl, hk, _, _, _, _, hu⟩
  have hE : Ext W w' := (hk.weak (fun b o x => noin _ _ _ x)).ext
  refine ⟨?_, hE⟩
  have := (hu (rdAll w') (by
    intro b o v hv
    obtain ⟨g, rfl⟩ := hE
    have hb := World.block_lt_of_cell? _ _ hv
    unfold rdAll
    rw [cell_plus _ _ _ _ _ hb]
    exact hv) (fun b o u _ _ hc => hc)).1
  cases this
  rfl
def wfI (k : IntKind) (n : Int) : Prop := (Lit.int k n).wf = true
def wfA (k : IntKind) (n : Nat) (l : List Int) : Prop := l.length = n ∧ ∀ z ∈ l, wfI k z
def Seg (rd : Rd) (cs : List Value) (off n : Nat) (l : List SC) : Prop := l.length = n ∧ ∀ (j : Nat) (y : SC), l[j]? = some y → ∃ u, cs[off + j]? = some u ∧ IRel rd u y
theorem Seg.append {rd : Rd} {cs : List Value} {off n m : Nat} {l l' : List SC} (h : Seg rd cs off n l) (k : Seg rd cs (off + n) m l') : Seg rd cs off (n + m) (l ++ l') := by
  refine ⟨by rw [List.length_append, h.1, k.1], fun j y hy => ?_⟩
  by_cases hj : j < l.length
  · rw [List.getElem?_append_left hj] at hy
    exact h.2 j y hy
  · rw [List.getElem?_append_right (by omega)] at hy
    obtain ⟨u, h1, h2⟩ := k.2 _ y hy
    have h3 := h.1
    refine ⟨u, ?_, h2⟩
    rw [← h1]
    congr 1
    omega

/-- a value of the type t is the shadow of an α -/
def Opens (P : Program) (t : TypeId) {α : Type} (f : α → List SC) (wf : α → Prop) : Prop :=
  ∀ (H : Type) (enc : TypeId × Value → H) (W : World) (fuel : Nat) (cs : List Value) (x : DataW H × List MemPlace), DataW.trod enc P W 0 (fun _ => true) true fuel t cs = some x → ∃ a : α, Seg (rdAll W) cs 0 cs.length (f a) ∧ wf a

theorem opens_int {P : Program} {t : TypeId} {k : IntKind} (ht : P.underlying t = some (.int k)) : Opens P t (ecI k) (wfI k) := by
  intro H enc W fuel cs x h
  obtain ⟨n, rfl, _, hw⟩ := DataW.trod_int ht h
  refine ⟨n, ⟨rfl, fun j y hy => ?_⟩, hw⟩
  rcases j with _ | j
  · simp only [ecI, List.getElem?_cons_zero, Option.some.injEq] at hy
    subst hy
    exact ⟨_, rfl, .lit _⟩
  · simp [ecI] at hy
theorem opens_arr {P : Program} {t e : TypeId} {n : Nat} {k : IntKind} (ht : P.underlying t = some (.array n e)) (he : P.underlying e = some (.int k)) (hc : P.cellsOf e = 1) (hct : P.cellsOf t = n) : Opens P t (arrS k n) (wfA k n) := by
  intro H enc W fuel cs x h
  obtain ⟨xs, m, _, _, hl, hyl, hy⟩ := DataW.trod_array ht h
  rw [hct] at hl
  have key : ∀ i, i < n → ∃ z, cs[i]? = some (.int k z) ∧ (Lit.int k z).wf = true := by
    intro i hi
    have h1 := hy i hi
    rw [hc] at h1
    simp only [Nat.mul_one] at h1
    have hc1 : (cs.drop i).take 1 = [cs[i]'(by omega)] := by
      rw [List.drop_eq_getElem_cons (by omega)]
      rfl
    obtain ⟨y, hyy⟩ : ∃ y, xs[i]? = some y := ⟨_, List.getElem?_eq_getElem (by omega)⟩
    rw [hc1, hyy] at h1
    obtain ⟨z, e0, _, wz⟩ := DataW.trod_int he h1
    simp only [List.cons.injEq, and_true] at e0
    exact ⟨z, by rw [List.getElem?_eq_getElem (by omega), e0], wz⟩
  refine ⟨cs.map (fun u => match u with | .int _ z => z | _ => 0), ⟨by simp [arrS, hl], fun j y hy => ?_⟩, by simp [hl], fun z hz => ?_⟩
  · unfold arrS at hy
    have hj : j < n := by
      have := (List.getElem?_eq_some_iff.1 hy).1
      simpa using this
    obtain ⟨z, h1, _⟩ := key j hj
    simp only [List.getElem?_map, List.getElem?_range hj, Option.map_some, Option.some.injEq] at hy
    subst hy
    rw [Nat.zero_add]
    refine ⟨_, h1, ?_⟩
    simp only [List.getD_eq_getElem?_getD, List.getElem?_map, h1, Option.map_some, Option.getD_some]
    exact .lit _
  · obtain ⟨u, hu, rfl⟩ := List.mem_map.1 hz
    obtain ⟨i, hi⟩ := List.getElem?_of_mem hu
    have hlt := (List.getElem?_eq_some_iff.1 hi).1
    obtain ⟨z, h1, h2⟩ := key i (by omega)
    rw [hi] at h1
    cases h1
    exact h2
end
section
open Go.ChangeShapes Go.WideShapes Go.ChangeAt Go.RowKit

def Wt (P : Program) (t : TypeId) {H : Type} (d : DataW H) : Prop := ∀ n ∈ d.weights P t, n ≤ reachBytes
def OpensR (P : Program) (t : TypeId) {α : Type} (f : α → List SC) (wf : α → Prop) : Prop :=
  ∀ (H : Type) (enc : TypeId × Value → H) (W : World) (fuel : Nat) (cs : List Value) (x : DataW H × List MemPlace), DataW.trod enc P W 0 (fun _ => true) true fuel t cs = some x → Wt P t x.1 → ∃ a : α, Seg (rdAll W) cs 0 cs.length (f a) ∧ wf a
theorem Opens.r {P : Program} {t : TypeId} {α : Type} {f : α → List SC} {wf : α → Prop} (h : Opens P t f wf) : OpensR P t f wf := fun H enc W fuel cs x h1 _ => h H enc W fuel cs x h1
def wfR {α : Type} (p : α → Prop) (l : List α) : Prop := l.length ≤ 140737488351232 ∧ ∀ z ∈ l, p z
theorem mem_weightsAll {H : Type} {P : Program} {e : TypeId} : ∀ {l : List (DataW H)} {d : DataW H}, d ∈ l → ∀ n ∈ d.weights P e, n ∈ DataW.weightsAll P e l
  | x :: l, d, h, n, hn => by
    simp only [DataW.weightsAll, List.mem_append]
    rcases List.mem_cons.1 h with rfl | h
    · exact Or.inl hn
    · exact Or.inr (mem_weightsAll h n hn)
theorem wt_of {H : Type} {P : Program} {ts : List TypeId} {ds : List (DataW H)} (h : (DataW.weightsEach P ts ds).all (· ≤ reachBytes) = true) {j : Nat} {t : TypeId} {d : DataW H} (ht : ts[j]? = some t) (hd : ds[j]? = some d) : Wt P t d := fun n hn => by
  have := List.all_eq_true.1 h _ (DataW.weights_mem_each ht hd n hn)
  simpa using this
theorem opens_fieldR {P : Program} {H : Type} {enc : TypeId × Value → H} {W : World} {fuel : Nat} {cs : List Value} {x : DataW H × List MemPlace} {t : TypeId} {fs : Array Field} (ht : P.underlying t = some (.struct fs)) (h : DataW.trod enc P W 0 (fun _ => true) true fuel t cs = some x) (i : Nat) (fd : Field) (hf : fs.toList[i]? = some fd) {α : Type} {f : α → List SC} {wf : α → Prop} {n off : Nat} (hn : P.cellsOf fd.type = n) (ho : fd.offset = off) (hfit : decide (off + n ≤ P.cellsOf t) = true) (hop : OpensR P fd.type f wf) (hw : Wt P t x.1) :
    ∃ a, Seg (rdAll W) cs off n (f a) ∧ wf a := by
  obtain ⟨xs, m, _, rfl, hl, hlen, hg⟩ := DataW.trod_struct ht h
  have hfit' := of_decide_eq_true hfit
  have h1 := hg i fd (by simpa using hf)
  have hi := (List.getElem?_eq_some_iff.1 hf).1
  obtain ⟨y, hy⟩ : ∃ y, xs[i]? = some y := ⟨_, List.getElem?_eq_getElem (by rw [hlen]; simpa using hi)⟩
  rw [hy, hn, ho] at h1
  have hwy : Wt P fd.type y.1 := fun n hn => hw n (by
    have e : DataW.weights P t (.agg (xs.map (·.1))) = DataW.weightsEach P (fs.toList.map (·.type)) (xs.map (·.1)) := by simp [DataW.weights, ht]
    rw [e]
    exact DataW.weights_mem_each (j := i) (t := fd.type) (d := y.1) (by rw [List.getElem?_map, hf]; rfl) (by rw [List.getElem?_map, hy]; rfl) n hn)
  obtain ⟨a, hs, hw⟩ := hop H enc W m _ y h1 hwy
  have hcl : ((cs.drop off).take n).length = n := by simp; omega
  rw [hcl] at hs
  refine ⟨a, ⟨hs.1, fun j z hz => ?_⟩, hw⟩
  obtain ⟨u, k1, k2⟩ := hs.2 j z hz
  have hj := (List.getElem?_eq_some_iff.1 hz).1
  rw [hs.1] at hj
  rw [Nat.zero_add, List.getElem?_take, if_pos hj, List.getElem?_drop] at k1
  exact ⟨u, k1, k2⟩


theorem opens_sliceR {P : Program} {t e : TypeId} {sz : Nat} (ht : P.underlying t = some (.slice e)) (hsz : P.cellsOf e = sz) {α : Type} {f : α → List SC} {wf : α → Prop} (hop : OpensR P e f wf) (hlen : ∀ a, (f a).length = sz) (hpos : decide (0 < sz) = true) (hby : decide (0 < P.bytesOf e) = true) : OpensR P t (ecS sz f) (wfR wf) := by
  intro H enc W fuel cs x h hw
  have hb := of_decide_eq_true hby
  have hp := of_decide_eq_true hpos
  rcases DataW.trod_slice ht h with ⟨rfl, _⟩ | ⟨a, len, cap, elems, rest, m, _, rfl, rfl, _, hlc, hcm, hel, hg, _⟩
  · refine ⟨[], ⟨rfl, fun j y hy => ?_⟩, by simp, fun z hz => absurd hz (by simp)⟩
    rcases j with _ | j
    · simp only [ecS, List.map_nil, List.getElem?_cons_zero, Option.some.injEq] at hy
      subst hy
      exact ⟨_, rfl, .nil _ _ _ (by decide)⟩
    · simp [ecS] at hy
  · have e0 : DataW.weights P t (.slice (elems.map (·.1)) (rest.map (·.1)) : DataW H) = (((elems.map (·.1)).length + (rest.map (·.1)).length) * P.bytesOf e :: (DataW.weightsAll P e (elems.map (·.1)) ++ DataW.weightsAll P e (rest.map (·.1)))) := by simp [DataW.weights, ht]
    have hlen' : len ≤ 140737488351232 := by
      have h2 := hw (((elems.map (·.1)).length + (rest.map (·.1)).length) * P.bytesOf e) (by rw [e0]; exact List.mem_cons_self)
      have h3 : len * 1 ≤ ((elems.map (·.1)).length + (rest.map (·.1)).length) * P.bytesOf e := Nat.mul_le_mul (by rw [List.length_map, hel]; omega) hb
      have h4 : reachBytes = 140737488351232 := rfl
      omega
    have key : ∀ i, i < len → ∃ (us : List Value) (b : α), W.cells? 0 (a.add (i * sz)) sz = some us ∧ Seg (rdAll W) us 0 us.length (f b) ∧ wf b := by
      intro i hi
      have h1 := hg i hi
      rw [hsz] at h1
      obtain ⟨y, hy⟩ : ∃ y, elems[i]? = some y := ⟨_, List.getElem?_eq_getElem (by omega)⟩
      rw [hy] at h1
      obtain ⟨us, k1, k2⟩ := Option.bind_eq_some_iff.1 h1
      obtain ⟨b, k3, k4⟩ := hop H enc W m us y k2 (fun n hn => hw n (by
        rw [e0]
        exact List.mem_cons_of_mem _ (List.mem_append_left _ (mem_weightsAll (d := y.1) (List.mem_map.2 ⟨y, List.mem_of_getElem? hy, rfl⟩) n hn))))
      exact ⟨us, b, k1, k3, k4⟩
    have key2 : ∃ l : List α, l.length = len ∧ ∀ i b, l[i]? = some b → wf b ∧ ∃ us, W.cells? 0 (a.add (i * sz)) sz = some us ∧ Seg (rdAll W) us 0 us.length (f b) := by
      have : ∀ q, q ≤ len → ∃ l : List α, l.length = q ∧ ∀ i b, l[i]? = some b → wf b ∧ ∃ us, W.cells? 0 (a.add (i * sz)) sz = some us ∧ Seg (rdAll W) us 0 us.length (f b) := by
        intro q
        induction q with
        | zero => exact fun _ => ⟨[], rfl, fun i b hb => by simp at hb⟩
        | succ q ih =>
          intro hq
          obtain ⟨l, hl, hall⟩ := ih (by omega)
          obtain ⟨us, b, k1, k2, k3⟩ := key q (by omega)
          refine ⟨l ++ [b], by simp [hl], fun i c hc => ?_⟩
          by_cases hi : i < l.length
          · rw [List.getElem?_append_left hi] at hc
            exact hall i c hc
          · rw [List.getElem?_append_right (by omega)] at hc
            have hi0 : i - l.length = 0 := by
              have := (List.getElem?_eq_some_iff.1 hc).1
              simp at this
              omega
            rw [hi0] at hc
            cases hc
            have : i = q := by omega
            subst this
            exact ⟨k3, us, k1, k2⟩
      exact this len (Nat.le_refl _)
    obtain ⟨l, hl, hall⟩ := key2
    refine ⟨l, ⟨rfl, fun j y hy => ?_⟩, by omega, fun z hz => ?_⟩
    · rcases j with _ | j
      · simp only [ecS, List.getElem?_cons_zero, Option.some.injEq] at hy
        subst hy
        refine ⟨_, rfl, ?_⟩
        rw [hl]
        by_cases hz : len = 0
        · subst hz
          have : l = [] := List.eq_nil_of_length_eq_zero hl
          subst this
          exact .nil _ _ _ hcm
        · obtain ⟨b0, hb0⟩ : ∃ b, l[0]? = some b := ⟨_, List.getElem?_eq_getElem (by omega)⟩
          obtain ⟨_, us0, k0, _⟩ := hall 0 b0 hb0
          obtain ⟨hlen0, _, hc0⟩ := World.cells?_some k0
          have hcell0 := hc0 0 (by omega)
          obtain ⟨bl, off, spot⟩ := a
          have hspot : spot = none := by
            obtain ⟨z, hz0⟩ : ∃ z, us0[0]? = some z := ⟨_, List.getElem?_eq_getElem (by omega)⟩
            rw [hz0] at hcell0
            simpa [Addr.add] using World.cell?_spot hcell0
          subst hspot
          have cellAt : ∀ i b, l[i]? = some b → ∀ j y, (f b)[j]? = some y → ∃ u, W.cell? ⟨bl, off + i * sz + j, none⟩ = some u ∧ IRel (rdAll W) u y := by
            intro i b hb j y hy
            obtain ⟨_, us, k1, k2⟩ := hall i b hb
            obtain ⟨hlen1, _, hc1⟩ := World.cells?_some k1
            obtain ⟨u, q1, q2⟩ := k2.2 j y hy
            rw [Nat.zero_add] at q1
            have hj : j < sz := by have := (List.getElem?_eq_some_iff.1 hy).1; rw [hlen b] at this; exact this
            have := hc1 j (by omega)
            rw [q1] at this
            refine ⟨u, ?_, q2⟩
            rw [Addr.add_mid, Addr.add_mid] at this
            exact this
          refine .slc bl off len cap sz (l.map f) (fun i j => (W.cell? ⟨bl, off + i * sz + j, none⟩).getD (.bool false)) (by simp [hl]) hlc hcm ?_ ?_ ?_
          · intro x hx
            obtain ⟨b, _, rfl⟩ := List.mem_map.1 hx
            exact hlen b
          · intro i x j y hx hy
            rw [List.getElem?_map] at hx
            obtain ⟨b, hb, rfl⟩ := Option.map_eq_some_iff.1 hx
            obtain ⟨u, q1, _⟩ := cellAt i b hb j y hy
            simp only [rdAll, q1, Option.getD_some]
          · intro i x j y hx hy
            rw [List.getElem?_map] at hx
            obtain ⟨b, hb, rfl⟩ := Option.map_eq_some_iff.1 hx
            obtain ⟨u, q1, q2⟩ := cellAt i b hb j y hy
            simp only [q1, Option.getD_some]
            exact q2
      · simp [ecS] at hy
    · obtain ⟨i, hi⟩ := List.getElem?_of_mem hz
      exact (hall i z hi).1

/-- a single cell as an argument -/
theorem open_cellR {P : Program} {t : TypeId} {H : Type} {enc : TypeId × Value → H} {W : World} {v : Value} {d : DataW H} {p : List MemPlace} {α : Type} {f : α → List SC} {wf : α → Prop} {c : α → SC} (hop : OpensR P t f wf) (hc : ∀ a, f a = [c a]) (hv : v.cells = #[v]) (h : DataW.Trod enc P W 0 (fun _ => true) true t v d p) (hw : Wt P t d) : ∃ a, VRel (rdAll W) env0 v (.c (c a)) ∧ wf a := by
  obtain ⟨fuel, hf⟩ := h
  obtain ⟨a, hs, hw2⟩ := hop H enc W fuel _ _ hf hw
  rw [hv] at hs
  refine ⟨a, ?_, hw2⟩
  obtain ⟨u, k1, k2⟩ := hs.2 0 (c a) (by rw [hc]; rfl)
  simp at k1
  subst k1
  exact k2.c
/-- a slice as an argument -/
theorem open_slcR {P : Program} {t e : TypeId} {H : Type} {enc : TypeId × Value → H} {W : World} {v : Value} {d : DataW H} {p : List MemPlace} {r : Reach} {b0 : Nat} {α : Type} {sz : Nat} {f : α → List SC} {wf : List α → Prop} (hop : OpensR P t (ecS sz f) wf) (ht : P.underlying t = some (.slice e))
    (hv : Value.okWide P W r b0 t v) (h : DataW.Trod enc P W 0 (fun _ => true) true t v d p) (hw : Wt P t d) : ∃ a, VRel (rdAll W) env0 v (.c (eS sz f a)) ∧ wf a := by
  obtain ⟨a0, len, cap, rfl⟩ := okWide_slice ht hv
  exact open_cellR hop (fun a => rfl) rfl h hw
end
section
open Go.ChangeShapes Go.WideShapes Go.ChangeAt Go.RowKit

def S_Prefix.wf (x : S_Prefix) : Prop := wfA .u8 16 x.IP ∧ wfI .i64 x.Bits
theorem opens_S_Prefix : OpensR Try.prog 35 S_Prefix.cs S_Prefix.wf := by
  intro H enc W fuel cs x h hw
  have hl := (DataW.trod_struct Try.underlying35 h)
  obtain ⟨_, _, _, _, hl, _⟩ := hl
  obtain ⟨a0, s0, w0⟩ := opens_fieldR Try.underlying35 h 0 _ rfl (n := 16) (off := 0) (by kernel_rfl) (by kernel_rfl) (by kernel_rfl) (opens_arr (n := 16) (k := .u8) Try.underlying33 Try.underlying5 (by kernel_rfl) (by kernel_rfl)).r hw
  obtain ⟨a1, s1, w1⟩ := opens_fieldR Try.underlying35 h 1 _ rfl (n := 1) (off := 16) (by kernel_rfl) (by kernel_rfl) (by kernel_rfl) (opens_int (k := .i64) Try.underlying3).r hw
  refine ⟨⟨a0, a1⟩, ?_, w0, w1⟩
  have hl2 : cs.length = 17 := hl.trans (by kernel_rfl)
  rw [hl2]
  exact (s0).append s1
def S_Destination.wf (x : S_Destination) : Prop := S_Prefix.wf x.Dst ∧ S_Prefix.wf x.Src ∧ wfI .u64 x.Router
theorem opens_S_Destination : OpensR Try.prog 37 S_Destination.cs S_Destination.wf := by
  intro H enc W fuel cs x h hw
  have hl := (DataW.trod_struct Try.underlying37 h)
  obtain ⟨_, _, _, _, hl, _⟩ := hl
  obtain ⟨a0, s0, w0⟩ := opens_fieldR Try.underlying37 h 0 _ rfl (n := 17) (off := 0) (by kernel_rfl) (by kernel_rfl) (by kernel_rfl) opens_S_Prefix hw
  obtain ⟨a1, s1, w1⟩ := opens_fieldR Try.underlying37 h 1 _ rfl (n := 17) (off := 17) (by kernel_rfl) (by kernel_rfl) (by kernel_rfl) opens_S_Prefix hw
  obtain ⟨a2, s2, w2⟩ := opens_fieldR Try.underlying37 h 2 _ rfl (n := 1) (off := 34) (by kernel_rfl) (by kernel_rfl) (by kernel_rfl) (opens_int (k := .u64) Try.underlying31).r hw
  refine ⟨⟨a0, a1, a2⟩, ?_, w0, w1, w2⟩
  have hl2 : cs.length = 35 := hl.trans (by kernel_rfl)
  rw [hl2]
  exact ((s0).append s1).append s2
def S_Notice.wf (x : S_Notice) : Prop := wfI .i64 x.Kind ∧ wfI .u16 x.Seq ∧ wfI .i64 x.Metric ∧ wfI .u64 x.Neighbour ∧ S_Destination.wf x.To ∧ wfI .i64 x.Hops
theorem opens_S_Notice : OpensR Try.prog 39 S_Notice.cs S_Notice.wf := by
  intro H enc W fuel cs x h hw
  have hl := (DataW.trod_struct Try.underlying39 h)
  obtain ⟨_, _, _, _, hl, _⟩ := hl
  obtain ⟨a0, s0, w0⟩ := opens_fieldR Try.underlying39 h 0 _ rfl (n := 1) (off := 0) (by kernel_rfl) (by kernel_rfl) (by kernel_rfl) (opens_int (k := .i64) Try.underlying3).r hw
  obtain ⟨a1, s1, w1⟩ := opens_fieldR Try.underlying39 h 1 _ rfl (n := 1) (off := 1) (by kernel_rfl) (by kernel_rfl) (by kernel_rfl) (opens_int (k := .u16) Try.underlying29).r hw
  obtain ⟨a2, s2, w2⟩ := opens_fieldR Try.underlying39 h 2 _ rfl (n := 1) (off := 2) (by kernel_rfl) (by kernel_rfl) (by kernel_rfl) (opens_int (k := .i64) Try.underlying3).r hw
  obtain ⟨a3, s3, w3⟩ := opens_fieldR Try.underlying39 h 3 _ rfl (n := 1) (off := 3) (by kernel_rfl) (by kernel_rfl) (by kernel_rfl) (opens_int (k := .u64) Try.underlying31).r hw
  obtain ⟨a4, s4, w4⟩ := opens_fieldR Try.underlying39 h 4 _ rfl (n := 35) (off := 4) (by kernel_rfl) (by kernel_rfl) (by kernel_rfl) opens_S_Destination hw
  obtain ⟨a5, s5, w5⟩ := opens_fieldR Try.underlying39 h 5 _ rfl (n := 1) (off := 39) (by kernel_rfl) (by kernel_rfl) (by kernel_rfl) (opens_int (k := .i64) Try.underlying3).r hw
  refine ⟨⟨a0, a1, a2, a3, a4, a5⟩, ?_, w0, w1, w2, w3, w4, w5⟩
  have hl2 : cs.length = 40 := hl.trans (by kernel_rfl)
  rw [hl2]
  exact (((((s0).append s1).append s2).append s3).append s4).append s5
end
section
open Go.ChangeShapes Go.WideShapes Go.ChangeAt Go.RowKit

set_option maxRecDepth 100000 in
theorem messagesPacks_lifted (hF : ∀ (a0 : List S_Notice) (a1 : List Int) (a2 : Int) (a3 : Int), wfR S_Notice.wf a0 → wfR (wfI .i64) a1 → wfI .i64 a2 → wfI .i64 a3 → F_law29_MessagesPacks a0 a1 a2 a3 = some true) (os : Os) (started : os.Started) (H : Type) (enc : TypeId × Value → H) :
    ReturnsInHanded {} Try.checked os 8 .any (Rows.messagesPacksSpec.pre6 enc Try.prog Try.f8 Rows.messagesPacksRow.domain false) (Rows.messagesPacksSpec.post enc Try.prog Try.f8 false true false false) := by
  refine returnsInHanded_of_change_sized (C := Try.checked) own started (by kernel_rfl) Try.func8
    (ChangeSpec.witness6 (enc := enc) (C := Try.checked) false ⟨#[], #[.slice none 0 0, .slice none 0 0, .int .i64 0, .int .i64 0], []⟩ 8 (by kernel_rfl) (by kernel_rfl) (by kernel_rfl) (by kernel_rfl)) ?_
  intro W base args ds gs before hval0 hW hcnd hsz0 _
  have hval : ∀ (j : Nat) t v, Try.f8.params[j]? = some t → args[j]? = some v → Value.okWide Try.prog W .any base t v := hval0
  have hW' := hW
  obtain ⟨p, q, hA0, hV, rfl, hfz, hnd⟩ := hW
  have hA : DataW.TrodAll enc Try.prog W 0 (fun _ => true) true Try.f8.params.toList args.toList ds p := hA0
  have hAll := hA
  rw [Try.params8] at hA hval hAll
  obtain ⟨v0, vs0, d0, ds0, p0, q0, hargs, rfl, rfl, h0, r0⟩ := trodAll_cons hA
  obtain ⟨v1, vs1, d1, ds1, p1, q1, rfl, rfl, rfl, h1, r1⟩ := trodAll_cons r0
  obtain ⟨v2, vs2, d2, ds2, p2, q2, rfl, rfl, rfl, h2, r2⟩ := trodAll_cons r1
  obtain ⟨v3, vs3, d3, ds3, p3, q3, rfl, rfl, rfl, h3, r3⟩ := trodAll_cons r2
  obtain ⟨rfl, rfl, rfl⟩ := trodAll_nil r3
  obtain rfl : args = #[v0, v1, v2, v3] := by cases args; simp_all
  obtain ⟨rfl, rfl⟩ := trodVars_none hV
  obtain ⟨x0, hR0, w0⟩ := open_slcR (opens_sliceR (sz := 40) Try.underlying22 (by kernel_rfl) opens_S_Notice (fun _ => by kernel_rfl) (by kernel_rfl) (by kernel_rfl)) Try.underlying22 (hval 0 22 v0 rfl rfl) h0 (wt_of hsz0 (j := 0) (by kernel_rfl) rfl)
  obtain ⟨x1, hR1, w1⟩ := open_slcR (opens_sliceR (sz := 1) Try.underlying23 (by kernel_rfl) (opens_int (k := .i64) Try.underlying3).r (fun _ => by kernel_rfl) (by kernel_rfl) (by kernel_rfl)) Try.underlying23 (hval 1 23 v1 rfl rfl) h1 (wt_of hsz0 (j := 1) (by kernel_rfl) rfl)
  obtain ⟨x2, rfl, rfl, rfl, w2⟩ := open_int Try.underlying3 (hval 2 3 v2 rfl rfl) h2
  obtain ⟨x3, rfl, rfl, rfl, w3⟩ := open_int Try.underlying3 (hval 3 3 v3 rfl rfl) h3
  clear hA0 hval0 hsz0
  refine (con_true (us := [v0, v1, .int .i64 x2, .int .i64 x3]) (ok_law29_MessagesPacks x0 x1 x2 x3 true (hF x0 x1 x2 x3 w0 w1 w2 w3)) ⟨hR0, hR1, vrel_lit _ _ _, vrel_lit _ _ _, trivial⟩).mono fun e W' ⟨he, hx⟩ => ?_
  subst he
  have bel := hx.below
  exact ⟨_, rfl, _, _, _, [], _, [], hW', trodAll_mk1 (shut_bool Try.underlying4 _), trodAll_below laidOut bel (by kernel_rfl) hAll, rfl, bel.frame _, fun h => by cases h⟩

theorem messagesPacks_of (hF : ∀ (a0 : List S_Notice) (a1 : List Int) (a2 : Int) (a3 : Int), wfR S_Notice.wf a0 → wfR (wfI .i64) a1 → wfI .i64 a2 → wfI .i64 a3 → F_law29_MessagesPacks a0 a1 a2 a3 = some true) : Rows.MessagesPacksSaid :=
  OpenClaim.holds_of_wide 8 Try.f8 rfl rfl rfl rfl rfl rfl rfl ⟨rfl, rfl, rfl, rfl, rfl⟩ rfl rfl rfl rfl rfl (by kernel_rfl) Try.func8 (by kernel_rfl)
    (of_decide_eq_true (by kernel_rfl)) (by unfold Func.isWrapper; first | (rw [if_pos (by decide +kernel)]; kernel_rfl) | (rw [if_neg (by decide +kernel)]; exact ⟨rfl, rfl⟩))
    (fun os started H enc _ => messagesPacks_lifted hF os started H enc)
end
section
open Go.RowKit

theorem beqF {α : Type} [BEq α] [LawfulBEq α] {a b : α} (h : ¬ a = b) : (a == b) = false := by simpa using h
theorem decT {p : Prop} [Decidable p] (h : p) : decide p = true := by simpa using h
theorem decF {p : Prop} [Decidable p] (h : ¬ p) : decide p = false := by simpa using h
theorem wi {x : Int} (h0 : -9223372036854775808 ≤ x) (h1 : x ≤ 9223372036854775807) : IntKind.wrap .i64 x = x := by
  simp [IntKind.wrap, IntKind.bits, IntKind.signed]
  omega
theorem wu {x : Int} (h0 : 0 ≤ x) (h1 : x < 18446744073709551616) : IntKind.wrap .u64 x = x := by
  simp [IntKind.wrap, IntKind.bits, IntKind.signed]
  omega
theorem wu16 {x : Int} (h0 : 0 ≤ x) (h1 : x < 65536) : IntKind.wrap .u16 x = x := by
  simp [IntKind.wrap, IntKind.bits, IntKind.signed]
  omega
theorem wu8 {x : Int} (h0 : 0 ≤ x) (h1 : x < 256) : IntKind.wrap .u8 x = x := by
  simp [IntKind.wrap, IntKind.bits, IntKind.signed]
  omega
theorem wk (k : Nat) (h : k < 9223372036854775807) : IntKind.wrap .i64 ((k : Int) + 1) = ((k + 1 : Nat) : Int) := by
  rw [wi (by omega) (by omega)]; rfl
theorem wrap8 (x : Int) : IntKind.wrap .u8 x = x % 256 := by
  simp [IntKind.wrap, IntKind.bits, IntKind.signed]
theorem wrap16 (x : Int) : IntKind.wrap .u16 x = x % 65536 := by
  simp [IntKind.wrap, IntKind.bits, IntKind.signed]
theorem wrap64 (x : Int) : IntKind.wrap .u64 x = x % 18446744073709551616 := by
  simp [IntKind.wrap, IntKind.bits, IntKind.signed]
theorem wrap8_bd (x : Int) : 0 ≤ IntKind.wrap .u8 x ∧ IntKind.wrap .u8 x ≤ 255 := by rw [wrap8]; omega

section
variable {σ ρ : Type} {step : σ → Option (σ ⊕ ρ)}
theorem loop_done {s : σ} {r : ρ} (h : step s = some (.inr r)) : loopO step s = some r := by rw [loopO_eq, h]
theorem loop_next {s s' : σ} (h : step s = some (.inl s')) : loopO step s = loopO step s' := by rw [loopO_eq, h]
/-- a loop that keeps I and ends with Q -/
theorem loop_inv (I : σ → Prop) (Q : ρ → Prop) (m : σ → Nat) (hs : ∀ s, I s → (∃ s', step s = some (.inl s') ∧ I s' ∧ m s' < m s) ∨ (∃ r, step s = some (.inr r) ∧ Q r)) (s : σ) (h : I s) : ∃ r, loopO step s = some r ∧ Q r := by
  induction hn : m s using Nat.strongRecOn generalizing s with
  | ind n ih =>
    subst hn
    rcases hs s h with ⟨s', h1, h2, h3⟩ | ⟨r, h1, h2⟩
    · obtain ⟨r, hr, hq⟩ := ih (m s') h3 s' h2 rfl
      exact ⟨r, by rw [loop_next h1]; exact hr, hq⟩
    · exact ⟨r, loop_done h1, h2⟩
/-- a loop whose states are known -/
theorem loop_to (S : Nat → σ) (n : Nat) (h : ∀ k, k < n → step (S k) = some (.inl (S (k + 1)))) : loopO step (S 0) = loopO step (S n) := by
  induction n with
  | zero => rfl
  | succ n ih => rw [ih (fun k hk => h k (by omega)), loop_next (h n (by omega))]
theorem loop_run (S : Nat → σ) (n : Nat) {r : ρ} (h : ∀ k, k < n → step (S k) = some (.inl (S (k + 1)))) (he : step (S n) = some (.inr r)) : loopO step (S 0) = some r := by
  rw [loop_to S n h, loop_done he]
/-- a loop that is left at the first place where p fails -/
theorem loop_first (S : Nat → σ) (n : Nat) (p : Nat → Bool) (out : Nat → ρ) {re : ρ} (h1 : ∀ k, k < n → p k = true → step (S k) = some (.inl (S (k + 1)))) (h2 : ∀ k, k < n → p k = false → step (S k) = some (.inr (out k))) (h3 : step (S n) = some (.inr re)) :
    (∃ k, k < n ∧ p k = false ∧ (∀ j, j < k → p j = true) ∧ loopO step (S 0) = some (out k)) ∨ ((∀ k, k < n → p k = true) ∧ loopO step (S 0) = some re) := by
  by_cases hx : ∀ k, k < n → p k = true
  · exact .inr ⟨hx, loop_run S n (fun k hk => h1 k hk (hx k hk)) h3⟩
  · have hx' : ∃ k, k < n ∧ p k = false := by
      apply Classical.byContradiction
      intro hno
      apply hx
      intro k hk
      cases hpk : p k with
      | true => rfl
      | false => exact absurd ⟨k, hk, hpk⟩ hno
    have : ∃ k, (k < n ∧ p k = false) ∧ ∀ j, j < k → ¬ (j < n ∧ p j = false) := by
      obtain ⟨k, hk⟩ := hx'
      induction k using Nat.strongRecOn with
      | ind k ih =>
        by_cases hj : ∃ j, j < k ∧ j < n ∧ p j = false
        · obtain ⟨j, hj1, hj2⟩ := hj; exact ih j hj1 hj2
        · exact ⟨k, hk, fun j hjk hh => hj ⟨j, hjk, hh⟩⟩
    obtain ⟨k, ⟨hk, hpk⟩, hmin⟩ := this
    have hall : ∀ j, j < k → p j = true := by
      intro j hj
      cases hpj : p j with
      | true => rfl
      | false => exact absurd ⟨by omega, hpj⟩ (hmin j hj)
    refine .inl ⟨k, hk, hpk, hall, ?_⟩
    rw [loop_to S k (fun j hj => h1 j (by omega) (hall j hj)), loop_done (h2 k hk hpk)]
/-- a loop that answers whether p holds everywhere -/
theorem loop_all (S : Nat → σ) (n : Nat) (p : Nat → Bool) {rt rf : ρ} (h1 : ∀ k, k < n → p k = true → step (S k) = some (.inl (S (k + 1)))) (h2 : ∀ k, k < n → p k = false → step (S k) = some (.inr rf)) (h3 : step (S n) = some (.inr rt)) :
    loopO step (S 0) = some (if ∀ k, k < n → p k = true then rt else rf) := by
  rcases loop_first S n p (fun _ => rf) h1 h2 h3 with ⟨k, hk, hpk, _, h⟩ | ⟨ha, h⟩
  · rw [h, if_neg]
    intro hh
    rw [hh k hk] at hpk
    cases hpk
  · rw [h, if_pos ha]
end
theorem idx_nat {α : Type} (l : List α) (k : Nat) : idx l (k : Int) = l[k]? := by simp [idx]
theorem idx_lt {α : Type} {l : List α} {k : Nat} (h : k < l.length) : idx l (k : Int) = some l[k] := by rw [idx_nat]; exact List.getElem?_eq_getElem h
theorem idx_int {α : Type} {l : List α} {i : Int} (h0 : 0 ≤ i) (h1 : i < l.length) : idx l i = some (l[i.toNat]'(by omega)) := by
  unfold idx; rw [if_pos h0]; exact List.getElem?_eq_getElem _
theorem appO_some {α : Type} {by_ : Nat} {l1 l2 : List α} (h : (l1.length + l2.length) * by_ ≤ 140737488355328) (h' : l1.length + l2.length ≤ 140737488355328) : appO by_ l1 l2 = some (l1 ++ l2) := by
  unfold appO; rw [if_pos ⟨h, h'⟩]
theorem subO_some {α : Type} {l : List α} {a b : Int} (h0 : 0 ≤ a) (h1 : a ≤ b) (h2 : b ≤ l.length) : subO l a b = some ((l.take b.toNat).drop a.toNat) := by
  unfold subO; rw [if_pos ⟨h0, h1, h2⟩]

theorem arrL_id {n : Nat} {l : List Int} (h : l.length = n) : arrL n l = l := by
  apply List.ext_getElem?
  intro i
  unfold arrL
  rcases Nat.lt_or_ge i n with hi | hi
  · rw [List.getElem?_map, List.getElem?_range hi, List.getElem?_eq_getElem (by omega)]
    simp [List.getD_eq_getElem?_getD, List.getElem?_eq_getElem (show i < l.length by omega)]
  · rw [List.getElem?_eq_none (by simpa using hi), List.getElem?_eq_none (by omega)]
theorem arrEq_iff {n : Nat} {a b : List Int} : arrEq n a b = true ↔ ∀ i, i < n → a.getD i 0 = b.getD i 0 := by
  unfold arrEq
  have : ∀ l : List Nat, (l.foldr (fun i r => (a.getD i 0 == b.getD i 0) && r) true) = true ↔ ∀ i ∈ l, a.getD i 0 = b.getD i 0 := by
    intro l
    induction l with
    | nil => simp
    | cons x l ih => simp only [List.foldr_cons, Bool.and_eq_true, beq_iff_eq, ih, List.mem_cons, forall_eq_or_imp]
  rw [this]
  simp
theorem arrEq_eq {n : Nat} {a b : List Int} (ha : a.length = n) (hb : b.length = n) : arrEq n a b = decide (a = b) := by
  rw [Bool.eq_iff_iff, arrEq_iff, decide_eq_true_iff]
  constructor
  · intro h
    apply List.ext_getElem (by omega)
    intro i h1 h2
    have := h i (by omega)
    simpa [List.getD_eq_getElem?_getD, List.getElem?_eq_getElem h1, List.getElem?_eq_getElem h2] using this
  · rintro rfl _ _; rfl
theorem setA_set {n : Nat} {l : List Int} {i : Nat} {v : Int} (h : l.length = n) : setA n l i v = l.set i v := by
  apply List.ext_getElem?
  intro j
  unfold setA
  rcases Nat.lt_or_ge j n with hj | hj
  · rw [List.getElem?_map, List.getElem?_range hj, List.getElem?_set]
    by_cases hij : i = j
    · subst hij; simp; omega
    · simp [hij, Ne.symm hij, List.getD_eq_getElem?_getD, List.getElem?_eq_getElem (show j < l.length by omega)]
  · rw [List.getElem?_eq_none (by simpa using hj), List.getElem?_eq_none (by simp; omega)]
theorem setA_len (n : Nat) (l : List Int) (i : Nat) (v : Int) : (setA n l i v).length = n := by simp [setA]

theorem getD_get {l : List Int} {i : Nat} (h : i < l.length) : l.getD i 0 = l[i] := by simp [List.getD_eq_getElem?_getD, List.getElem?_eq_getElem h]
theorem getD_mem {p : Int → Prop} {l : List Int} (h : ∀ z ∈ l, p z) (h0 : p 0) (i : Nat) : p (l.getD i 0) := by
  rcases Nat.lt_or_ge i l.length with hi | hi
  · rw [getD_get hi]; exact h _ (List.getElem_mem hi)
  · rw [List.getD_eq_getElem?_getD, List.getElem?_eq_none hi]; exact h0
end
end Go.Proofs.Ytcemblilhbidgaa
