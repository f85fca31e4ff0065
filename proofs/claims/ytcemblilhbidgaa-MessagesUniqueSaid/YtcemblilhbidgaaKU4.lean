/-
  Part 4 of what the proof of this law rests on.
-/
import Derived.Test.YtcemblilhbidgaaKU3
namespace Go.Proofs.Ytcemblilhbidgaa
section
open Go.RowKit
attribute [local irreducible] TS go TD goD

/-- multihop/messages.Decode -/
noncomputable def F_messages_Decode (a0 : List Int) : Option (Int × (List S_Notice) × Int) :=
  bif (decide ((List.length a0 : Int) < 9)) then
    some ((0, ([] : List S_Notice), 4))
  else
    (F_octets_Uint a0 2 5).bind fun v2 =>
    (F_octets_Uint a0 7 2).bind fun v3 =>
    bif (decide ((IntKind.wrap .i64 ((List.length a0 : Int) - 9)) < (IntKind.wrap .i64 v3.1))) then
      some ((0, ([] : List S_Notice), 4))
    else
      (subO a0 9 (List.length a0 : Int)).bind fun l5 =>
      (F_messages_parse l5).bind fun v6 =>
      bif v6.2 then
        (F_messages_Encode (IntKind.wrap .i64 v2.1) v6.1).bind fun v8 =>
        bif (v8.2 != 0) then
          some ((0, ([] : List S_Notice), 5))
        else
          (F_bytes_Equal v8.1 a0).bind fun v10 =>
          bif v10 then
            some ((IntKind.wrap .i64 v2.1, v6.1, 0))
          else
            some ((0, ([] : List S_Notice), 5))
      else
        some ((0, ([] : List S_Notice), 5))
set_option maxRecDepth 100000 in
set_option maxHeartbeats 40000000 in
theorem okT_messages_Decode (a0 : List Int) (r : Int × (List S_Notice) × Int) (h : F_messages_Decode a0 = some r) : Con Try.prog 22 [.c (eS 1 (ecI .u8) (a0))] [] (.tup [(false, [.lit (.int .i64 (r.1))]), (false, [.slc 40 900066 (List.length r.2.1) (List.map S_Notice.cs r.2.1)]), (false, [.lit (.int .i64 (r.2.2))])]) [(900064, .spare 39 40 (List.length r.2.1))] := by
  unfold F_messages_Decode at h
  refine con_of [] [(900064, [])] 58 Try.func22 rfl rfl (by kernel_rfl) (fun K => ?_)
  refine TS_go 13 ?_
  replace h := condO h
  rcases h with ⟨hb1, h⟩ | ⟨hb1, h⟩
  · refine TS_know 15 (b := true) hb1 (by kernel_rfl) (by kernel_rfl) ?_
    refine TS_T (by kernel_rfl) rfl ?_
    refine TS_go 6 ?_
    refine TS_nilT 3 600000 39 40 (by kernel_rfl) ?_
    refine TS_fitU ⟨[(2, []), (3, []), (4, [])], [(600000, (900064, []))]⟩ (by kernel_rfl) ?_
    refine TS_go 2 ?_
    have ret := Option.some.inj h
    subst ret
    exact TS_ret (by kernel_rfl) (by kernel_rfl) (by kernel_rfl)
  · refine TS_know 15 (b := false) hb1 (by kernel_rfl) (by kernel_rfl) ?_
    refine TS_F (by kernel_rfl) rfl ?_
    refine TS_go 4 ?_
    replace h := bindO h
    obtain ⟨v2, hv2, h⟩ := h
    refine TS_call [] (ok_octets_Uint a0 2 5 v2 hv2) (by kernel_rfl) (by kernel_rfl) ?_
    refine TS_go 9 ?_
    replace h := bindO h
    obtain ⟨v3, hv3, h⟩ := h
    refine TS_call [] (ok_octets_Uint a0 7 2 v3 hv3) (by kernel_rfl) (by kernel_rfl) ?_
    refine TS_go 16 ?_
    replace h := condO h
    rcases h with ⟨hb4, h⟩ | ⟨hb4, h⟩
    · refine TS_know 31 (b := true) hb4 (by kernel_rfl) (by kernel_rfl) ?_
      refine TS_T (by kernel_rfl) rfl ?_
      refine TS_go 6 ?_
      refine TS_nilT 3 600000 39 40 (by kernel_rfl) ?_
      refine TS_fitU ⟨[(2, []), (3, []), (4, [])], [(600000, (900064, []))]⟩ (by kernel_rfl) ?_
      refine TS_go 2 ?_
      have ret := Option.some.inj h
      subst ret
      exact TS_ret (by kernel_rfl) (by kernel_rfl) (by kernel_rfl)
    · refine TS_know 31 (b := false) hb4 (by kernel_rfl) (by kernel_rfl) ?_
      refine TS_F (by kernel_rfl) rfl ?_
      refine TS_go 4 ?_
      replace h := bindO h
      obtain ⟨l5, hl5, h⟩ := h
      refine TS_sub (ecI .u8) 1 hl5 (by kernel_rfl) (by kernel_rfl) ?_
      replace h := bindO h
      obtain ⟨v6, hv6, h⟩ := h
      refine TS_con [] [(35, 900000)] none (okT_messages_parse l5 v6 hv6) (by kernel_rfl) (by kernel_rfl) (by kernel_rfl) ?_
      refine TS_go 12 ?_
      replace h := condO h
      rcases h with ⟨hb7, h⟩ | ⟨hb7, h⟩
      · refine TS_know 37 (b := true) hb7 (by kernel_rfl) (by kernel_rfl) ?_
        refine TS_know 10 (b := true) hb7 (by kernel_rfl) (by kernel_rfl) ?_
        refine TS_know 38 (b := true) hb7 (by kernel_rfl) (by kernel_rfl) ?_
        refine TS_know 39 (b := false) (notF hb7) (by kernel_rfl) (by kernel_rfl) ?_
        refine TS_F (by kernel_rfl) rfl ?_
        refine TS_go 6 ?_
        replace h := bindO h
        obtain ⟨v8, hv8, h⟩ := h
        refine TS_con [[], [41]] [(44, 900000)] none (okT_messages_Encode (IntKind.wrap .i64 v2.1) v6.1 v8 hv8) (by kernel_rfl) (by kernel_rfl) (by kernel_rfl) ?_
        refine TS_go 12 ?_
        replace h := condO h
        rcases h with ⟨hb9, h⟩ | ⟨hb9, h⟩
        · refine TS_know 48 (b := true) hb9 (by kernel_rfl) (by kernel_rfl) ?_
          refine TS_know 49 (b := true) hb9 (by kernel_rfl) (by kernel_rfl) ?_
          refine TS_go 6 ?_
          refine TS_T (by kernel_rfl) rfl ?_
          refine TS_go 6 ?_
          refine TS_nilT 3 600000 39 40 (by kernel_rfl) ?_
          refine TS_fitU ⟨[(2, []), (3, []), (4, [])], [(600000, (900064, []))]⟩ (by kernel_rfl) ?_
          refine TS_go 2 ?_
          have ret := Option.some.inj h
          subst ret
          exact TS_ret (by kernel_rfl) (by kernel_rfl) (by kernel_rfl)
        · refine TS_know 48 (b := false) hb9 (by kernel_rfl) (by kernel_rfl) ?_
          refine TS_know 49 (b := false) hb9 (by kernel_rfl) (by kernel_rfl) ?_
          refine TS_go 2 ?_
          replace h := bindO h
          obtain ⟨v10, hv10, h⟩ := h
          refine TS_call [[2]] (ok_bytes_Equal v8.1 a0 v10 hv10) (by kernel_rfl) (by kernel_rfl) ?_
          refine TS_go 3 ?_
          replace h := condO h
          rcases h with ⟨hb11, h⟩ | ⟨hb11, h⟩
          · subst hb11
            refine TS_F (by kernel_rfl) rfl ?_
            refine TS_go 10 ?_
            refine TS_fitU ⟨[(2, []), (3, []), (4, [])], [(35, (900064, []))]⟩ (by kernel_rfl) ?_
            refine TS_go 1 ?_
            have ret := Option.some.inj h
            subst ret
            exact TS_ret (by kernel_rfl) (by kernel_rfl) (by kernel_rfl)
          · subst hb11
            refine TS_T (by kernel_rfl) rfl ?_
            refine TS_go 6 ?_
            refine TS_nilT 3 600000 39 40 (by kernel_rfl) ?_
            refine TS_fitU ⟨[(2, []), (3, []), (4, [])], [(600000, (900064, []))]⟩ (by kernel_rfl) ?_
            refine TS_go 2 ?_
            have ret := Option.some.inj h
            subst ret
            exact TS_ret (by kernel_rfl) (by kernel_rfl) (by kernel_rfl)
      · refine TS_know 37 (b := false) hb7 (by kernel_rfl) (by kernel_rfl) ?_
        refine TS_know 10 (b := false) hb7 (by kernel_rfl) (by kernel_rfl) ?_
        refine TS_know 38 (b := false) hb7 (by kernel_rfl) (by kernel_rfl) ?_
        refine TS_know 39 (b := true) (notT hb7) (by kernel_rfl) (by kernel_rfl) ?_
        refine TS_T (by kernel_rfl) rfl ?_
        refine TS_go 6 ?_
        refine TS_nilT 3 600000 39 40 (by kernel_rfl) ?_
        refine TS_fitU ⟨[(2, []), (3, []), (4, [])], [(600000, (900064, []))]⟩ (by kernel_rfl) ?_
        refine TS_go 2 ?_
        have ret := Option.some.inj h
        subst ret
        exact TS_ret (by kernel_rfl) (by kernel_rfl) (by kernel_rfl)
/-- multihop/multihoplaw29.known -/
noncomputable def F_law29_known  : Option (Bool) :=
  (F_messages_Encode 7 ([(S_Notice.mk 1 258 0 0 (S_Destination.mk (S_Prefix.mk [0, 0, 0, 0, 0, 0, 0, 0, 0, 0, 0, 0, 0, 0, 0, 0] 0) (S_Prefix.mk [0, 0, 0, 0, 0, 0, 0, 0, 0, 0, 0, 0, 0, 0, 0, 0] 0) 0) 0)] : List S_Notice)).bind fun v1 =>
  (F_messages_Decode v1.1).bind fun v2 =>
  bif (v1.2 == 0) then
    bif (v2.2.2 == 0) then
      (F_bytes_Equal v1.1 ([42, 1, 0, 0, 0, 0, 7, 0, 4, 1, 2, 1, 2] : List Int)).bind fun v5 =>
      bif v5 then
        bif (v2.1 == 7) then
          bif ((List.length v2.2.1 : Int) == 1) then
            (idx v2.2.1 0).bind fun e9 =>
            some ((e9.Seq == 258))
          else
            some (false)
        else
          some (false)
      else
        some (false)
    else
      some (false)
  else
    some (false)
set_option maxRecDepth 100000 in
set_option maxHeartbeats 40000000 in
theorem ok_law29_known  (r : Bool) (h : F_law29_known  = some r) : Con Try.prog 10 [] [] (.c (.lit (.bool (r)))) [] := by
  unfold F_law29_known at h
  refine con_of [] [] 45 Try.func10 rfl rfl (by kernel_rfl) (fun K => ?_)
  refine TS_go 7 ?_
  refine TS_litNT 8 39 40 S_Notice.cs [] ([(S_Notice.mk 1 258 0 0 (S_Destination.mk (S_Prefix.mk [0, 0, 0, 0, 0, 0, 0, 0, 0, 0, 0, 0, 0, 0, 0, 0] 0) (S_Prefix.mk [0, 0, 0, 0, 0, 0, 0, 0, 0, 0, 0, 0, 0, 0, 0, 0] 0) 0) 0)] : List S_Notice) (by kernel_rfl) (by kernel_rfl) ?_
  replace h := bindO h
  obtain ⟨v1, hv1, h⟩ := h
  refine TS_con [[], [41]] [(9, 900000)] none (okT_messages_Encode 7 ([(S_Notice.mk 1 258 0 0 (S_Destination.mk (S_Prefix.mk [0, 0, 0, 0, 0, 0, 0, 0, 0, 0, 0, 0, 0, 0, 0, 0] 0) (S_Prefix.mk [0, 0, 0, 0, 0, 0, 0, 0, 0, 0, 0, 0, 0, 0, 0, 0] 0) 0) 0)] : List S_Notice) v1 hv1) (by kernel_rfl) (by kernel_rfl) (by kernel_rfl) ?_
  refine TS_go 9 ?_
  replace h := bindO h
  obtain ⟨v2, hv2, h⟩ := h
  refine TS_con [[2]] [(14, 900064)] none (okT_messages_Decode v1.1 v2 hv2) (by kernel_rfl) (by kernel_rfl) (by kernel_rfl) ?_
  refine TS_go 13 ?_
  replace h := condO h
  rcases h with ⟨hb3, h⟩ | ⟨hb3, h⟩
  · refine TS_know 19 (b := true) hb3 (by kernel_rfl) (by kernel_rfl) ?_
    refine TS_know 20 (b := true) hb3 (by kernel_rfl) (by kernel_rfl) ?_
    refine TS_go 4 ?_
    replace h := condO h
    rcases h with ⟨hb4, h⟩ | ⟨hb4, h⟩
    · refine TS_know 22 (b := true) hb4 (by kernel_rfl) (by kernel_rfl) ?_
      refine TS_know 23 (b := true) hb4 (by kernel_rfl) (by kernel_rfl) ?_
      refine TS_know 24 (b := true) hb4 (by kernel_rfl) (by kernel_rfl) ?_
      refine TS_go 1 ?_
      refine TS_litNT 26 5 1 (ecI .u8) [] ([42, 1, 0, 0, 0, 0, 7, 0, 4, 1, 2, 1, 2] : List Int) (by kernel_rfl) (by kernel_rfl) ?_
      replace h := bindO h
      obtain ⟨v5, hv5, h⟩ := h
      refine TS_call [[2], [2]] (ok_bytes_Equal v1.1 ([42, 1, 0, 0, 0, 0, 7, 0, 4, 1, 2, 1, 2] : List Int) v5 hv5) (by kernel_rfl) (by kernel_rfl) ?_
      refine TS_go 2 ?_
      replace h := condO h
      rcases h with ⟨hb6, h⟩ | ⟨hb6, h⟩
      · subst hb6
        refine TS_go 4 ?_
        replace h := condO h
        rcases h with ⟨hb7, h⟩ | ⟨hb7, h⟩
        · refine TS_know 31 (b := true) hb7 (by kernel_rfl) (by kernel_rfl) ?_
          refine TS_know 32 (b := true) hb7 (by kernel_rfl) (by kernel_rfl) ?_
          refine TS_know 33 (b := true) hb7 (by kernel_rfl) (by kernel_rfl) ?_
          refine TS_go 5 ?_
          replace h := condO h
          rcases h with ⟨hb8, h⟩ | ⟨hb8, h⟩
          · refine TS_know 36 (b := true) hb8 (by kernel_rfl) (by kernel_rfl) ?_
            refine TS_know 37 (b := true) hb8 (by kernel_rfl) (by kernel_rfl) ?_
            refine TS_know 38 (b := true) hb8 (by kernel_rfl) (by kernel_rfl) ?_
            refine TS_go 1 ?_
            replace h := bindO h
            obtain ⟨_e9, he9, h⟩ := h
            refine TS_idx S_Notice.cs he9 (by kernel_rfl) (by kernel_rfl) ?_
            refine TS_go 7 ?_
            have ret := Option.some.inj h
            subst ret
            exact TS_ret (by kernel_rfl) (by kernel_rfl) (by kernel_rfl)
          · refine TS_know 36 (b := false) hb8 (by kernel_rfl) (by kernel_rfl) ?_
            refine TS_know 37 (b := false) hb8 (by kernel_rfl) (by kernel_rfl) ?_
            refine TS_know 38 (b := false) hb8 (by kernel_rfl) (by kernel_rfl) ?_
            refine TS_go 9 ?_
            have ret := Option.some.inj h
            subst ret
            exact TS_ret (by kernel_rfl) (by kernel_rfl) (by kernel_rfl)
        · refine TS_know 31 (b := false) hb7 (by kernel_rfl) (by kernel_rfl) ?_
          refine TS_know 32 (b := false) hb7 (by kernel_rfl) (by kernel_rfl) ?_
          refine TS_know 33 (b := false) hb7 (by kernel_rfl) (by kernel_rfl) ?_
          refine TS_go 14 ?_
          have ret := Option.some.inj h
          subst ret
          exact TS_ret (by kernel_rfl) (by kernel_rfl) (by kernel_rfl)
      · subst hb6
        refine TS_go 18 ?_
        have ret := Option.some.inj h
        subst ret
        exact TS_ret (by kernel_rfl) (by kernel_rfl) (by kernel_rfl)
    · refine TS_know 22 (b := false) hb4 (by kernel_rfl) (by kernel_rfl) ?_
      refine TS_know 23 (b := false) hb4 (by kernel_rfl) (by kernel_rfl) ?_
      refine TS_know 24 (b := false) hb4 (by kernel_rfl) (by kernel_rfl) ?_
      refine TS_go 23 ?_
      have ret := Option.some.inj h
      subst ret
      exact TS_ret (by kernel_rfl) (by kernel_rfl) (by kernel_rfl)
  · refine TS_know 19 (b := false) hb3 (by kernel_rfl) (by kernel_rfl) ?_
    refine TS_know 20 (b := false) hb3 (by kernel_rfl) (by kernel_rfl) ?_
    refine TS_go 27 ?_
    have ret := Option.some.inj h
    subst ret
    exact TS_ret (by kernel_rfl) (by kernel_rfl) (by kernel_rfl)

/-- multihop/multihopmade.New -/
noncomputable def F_made_New_j1  (v1 : (List Int)) : Option (S_multihopmade_Tape) :=
  some ((S_multihopmade_Tape.mk v1 0))
noncomputable def F_made_New (a0 : List Int) : Option (S_multihopmade_Tape) :=
  bif (decide ((List.length a0 : Int) > 400)) then
    (subO a0 0 400).bind fun l3 =>
    (F_made_New_j1) l3
  else
    (F_made_New_j1) a0
set_option maxRecDepth 100000 in
set_option maxHeartbeats 40000000 in
theorem ok_made_New (a0 : List Int) (r : S_multihopmade_Tape) (h : F_made_New a0 = some r) : Con Try.prog 11 [.c (eS 1 (ecI .i64) (a0))] [] (.c (.box 10 0)) [(10, .box (S_multihopmade_Tape.cs r))] := by
  unfold F_made_New at h
  refine con_of [] [(10, [2])] 11 Try.func11 rfl rfl (by kernel_rfl) (fun K => ?_)
  refine TS_go 4 ?_
  refine TS_cut ⟨[(0, [])], []⟩ (.mk [.code (codeAt [1] (bodyOf Try.f11))] .normal ⟨[(0, .c (.slc 1 0 (List.length a0) (List.map (ecI .i64) a0)))], []⟩) (by kernel_rfl) (by kernel_rfl) ?_
  refine TS_joinB ⟨[(0, [])], []⟩ (fun (v1 : (List Int)) => [(0, .c (eS 1 (ecI .i64) (v1)))]) (fun (v1 : (List Int)) => []) (F_made_New_j1) r ?_ ?_
  · clear h
    intro v1 h
    unfold F_made_New_j1 at h
    refine TS_go 8 ?_
    have ret := Option.some.inj h
    subst ret
    exact TS_ret (by kernel_rfl) (by kernel_rfl) (by kernel_rfl)
  · refine TS_go 6 ?_
    replace h := condO h
    rcases h with ⟨hb2, h⟩ | ⟨hb2, h⟩
    · refine TS_know 5 (b := true) hb2 (by kernel_rfl) (by kernel_rfl) ?_
      refine TS_T (by kernel_rfl) rfl ?_
      refine TS_go 2 ?_
      replace h := bindO h
      obtain ⟨l3, hl3, h⟩ := h
      refine TS_sub (ecI .i64) 1 hl3 (by kernel_rfl) (by kernel_rfl) ?_
      refine TS_go 2 ?_
      exact TS_meet l3 ⟨[(0, [])], []⟩ h (by kernel_rfl) (by kernel_rfl)
    · refine TS_know 5 (b := false) hb2 (by kernel_rfl) (by kernel_rfl) ?_
      refine TS_F (by kernel_rfl) rfl ?_
      refine TS_go 1 ?_
      exact TS_meet a0 ⟨[(0, [])], []⟩ h (by kernel_rfl) (by kernel_rfl)

/-- (*multihop/multihopmade.Tape).Next -/
noncomputable def F_made_Tape_Next_j1 (a0 : S_multihopmade_Tape) (v4 : Int) : Option (Int × S_multihopmade_Tape) :=
  some ((v4, (S_multihopmade_Tape.mk a0.l (IntKind.wrap .i64 (a0.at_ + 1)))))
noncomputable def F_made_Tape_Next (a0 : S_multihopmade_Tape) (a1 : Int) : Option (Int × S_multihopmade_Tape) :=
  bif (decide (a0.at_ ≥ (List.length a0.l : Int))) then
    some ((0, a0))
  else
    (idx a0.l a0.at_).bind fun e2 =>
    bif decide (a1 ≠ 0) then
      bif (decide ((Int.tmod e2 a1) < 0)) then
        (F_made_Tape_Next_j1 a0) (IntKind.wrap .i64 ((Int.tmod e2 a1) + a1))
      else
        (F_made_Tape_Next_j1 a0) (Int.tmod e2 a1)
    else none
set_option maxRecDepth 100000 in
set_option maxHeartbeats 40000000 in
theorem ok_made_Tape_Next (a0 : S_multihopmade_Tape) (a1 : Int) (r : Int × S_multihopmade_Tape) (h : F_made_Tape_Next a0 a1 = some r) : Con Try.prog 20 [.c (.box 1000000 0), .c (.lit (.int .i64 (a1)))] [(1000000, .box (S_multihopmade_Tape.cs a0))] (.c (.lit (.int .i64 (r.1)))) [(1000000, .box (S_multihopmade_Tape.cs r.2))] := by
  unfold F_made_Tape_Next at h
  refine con_of [] [(1000000, [2])] 41 Try.func20 rfl rfl (by kernel_rfl) (fun K => ?_)
  refine TS_go 6 ?_
  refine TS_draw (by kernel_rfl) ?_
  refine TD_go 10 ?_
  refine TD_end (by kernel_rfl) ?_
  replace h := condO h
  rcases h with ⟨hb1, h⟩ | ⟨hb1, h⟩
  · refine TS_know 15 (b := true) hb1 (by kernel_rfl) (by kernel_rfl) ?_
    refine TS_T (by kernel_rfl) rfl ?_
    refine TS_go 6 ?_
    have ret := Option.some.inj h
    subst ret
    exact TS_ret (by kernel_rfl) (by kernel_rfl) (by kernel_rfl)
  · refine TS_know 15 (b := false) hb1 (by kernel_rfl) (by kernel_rfl) ?_
    refine TS_F (by kernel_rfl) rfl ?_
    refine TS_go 2 ?_
    refine TS_draw (by kernel_rfl) ?_
    refine TD_go 8 ?_
    replace h := bindO h
    obtain ⟨e2, he2, h⟩ := h
    refine TD_idx (ecI .i64) he2 (by kernel_rfl) (by kernel_rfl) ?_
    refine TD_go 2 ?_
    replace h := chkO h
    obtain ⟨hc3, h⟩ := h
    refine TD_num (op := .rem) (k := .i64) (k' := .i64) (m := e2) (i := a1) (of_decide_eq_true hc3) rfl (by simp) (by kernel_rfl) (by kernel_rfl) ?_
    refine TD_go 1 ?_
    refine TD_end (by kernel_rfl) ?_
    refine TS_go 11 ?_
    refine TS_cut ⟨[(1, []), (5, [])], [(1000000, (1000000, []))]⟩ (.mk [.code (codeAt [1, 1, 1, 1] (bodyOf Try.f20))] .normal ⟨[(1, .c (.lit (.int .i64 (a1)))), (5, .c (.lit (.int .i64 (Int.tmod e2 a1))))], [(1000000, .box [.slc 1 0 (List.length a0.l) (List.map (ecI .i64) a0.l), .lit (.int .i64 (IntKind.wrap .i64 (a0.at_ + 1)))])]⟩) (by kernel_rfl) (by kernel_rfl) ?_
    refine TS_joinB ⟨[(5, [])], [(1000000, (1000000, []))]⟩ (fun (v4 : Int) => [(5, .c (.lit (.int .i64 (v4))))]) (fun (v4 : Int) => []) (F_made_Tape_Next_j1 a0) r ?_ ?_
    · clear h
      intro v4 h
      unfold F_made_Tape_Next_j1 at h
      refine TS_go 6 ?_
      have ret := Option.some.inj h
      subst ret
      exact TS_ret (by kernel_rfl) (by kernel_rfl) (by kernel_rfl)
    · refine TS_go 5 ?_
      replace h := condO h
      rcases h with ⟨hb5, h⟩ | ⟨hb5, h⟩
      · refine TS_know 36 (b := true) hb5 (by kernel_rfl) (by kernel_rfl) ?_
        refine TS_T (by kernel_rfl) rfl ?_
        refine TS_go 6 ?_
        exact TS_meet (IntKind.wrap .i64 ((Int.tmod e2 a1) + a1)) ⟨[(5, [])], [(1000000, (1000000, []))]⟩ h (by kernel_rfl) (by kernel_rfl)
      · refine TS_know 36 (b := false) hb5 (by kernel_rfl) (by kernel_rfl) ?_
        refine TS_F (by kernel_rfl) rfl ?_
        refine TS_go 1 ?_
        exact TS_meet (Int.tmod e2 a1) ⟨[(5, [])], [(1000000, (1000000, []))]⟩ h (by kernel_rfl) (by kernel_rfl)

/-- multihop/multihopworld.Seq -/
noncomputable def F_world_Seq (a0 : S_multihopmade_Tape) : Option (Int × S_multihopmade_Tape) :=
  (F_made_Tape_Next a0 6).bind fun v1 =>
  some ((IntKind.wrap .u16 (IntKind.wrap .i64 (v1.1 - 2)), v1.2))
set_option maxRecDepth 100000 in
set_option maxHeartbeats 40000000 in
theorem ok_world_Seq (a0 : S_multihopmade_Tape) (r : Int × S_multihopmade_Tape) (h : F_world_Seq a0 = some r) : Con Try.prog 32 [.c (.box 1000000 0)] [(1000000, .box (S_multihopmade_Tape.cs a0))] (.c (.lit (.int .u16 (r.1)))) [(1000000, .box (S_multihopmade_Tape.cs r.2))] := by
  unfold F_world_Seq at h
  refine con_of [] [(1000000, [2])] 7 Try.func32 rfl rfl (by kernel_rfl) (fun K => ?_)
  refine TS_go 7 ?_
  replace h := bindO h
  obtain ⟨v1, hv1, h⟩ := h
  refine TS_con [] [] (some (1000000, 0)) (ok_made_Tape_Next a0 6 v1 hv1) (by kernel_rfl) (by kernel_rfl) (by kernel_rfl) ?_
  refine TS_go 5 ?_
  have ret := Option.some.inj h
  subst ret
  exact TS_ret (by kernel_rfl) (by kernel_rfl) (by kernel_rfl)

/-- multihop/multihopworld.EUI -/
noncomputable def F_world_EUI (a0 : S_multihopmade_Tape) : Option (Int × S_multihopmade_Tape) :=
  (F_made_Tape_Next a0 5).bind fun v1 =>
  some ((IntKind.wrap .u64 (IntKind.wrap .i64 (1 + v1.1)), v1.2))
set_option maxRecDepth 100000 in
set_option maxHeartbeats 40000000 in
theorem ok_world_EUI (a0 : S_multihopmade_Tape) (r : Int × S_multihopmade_Tape) (h : F_world_EUI a0 = some r) : Con Try.prog 33 [.c (.box 1000000 0)] [(1000000, .box (S_multihopmade_Tape.cs a0))] (.c (.lit (.int .u64 (r.1)))) [(1000000, .box (S_multihopmade_Tape.cs r.2))] := by
  unfold F_world_EUI at h
  refine con_of [] [(1000000, [2])] 7 Try.func33 rfl rfl (by kernel_rfl) (fun K => ?_)
  refine TS_go 7 ?_
  replace h := bindO h
  obtain ⟨v1, hv1, h⟩ := h
  refine TS_con [] [] (some (1000000, 0)) (ok_made_Tape_Next a0 5 v1 hv1) (by kernel_rfl) (by kernel_rfl) (by kernel_rfl) ?_
  refine TS_go 5 ?_
  have ret := Option.some.inj h
  subst ret
  exact TS_ret (by kernel_rfl) (by kernel_rfl) (by kernel_rfl)

/-- multihop/multihopworld.Cost -/
noncomputable def F_world_Cost (a0 : S_multihopmade_Tape) : Option (Int × S_multihopmade_Tape) :=
  (F_made_Tape_Next a0 6).bind fun v1 =>
  bif (v1.1 == 0) then
    (F_made_Tape_Next v1.2 4).bind fun v3 =>
    some ((v3.1, v3.2))
  else
    bif (v1.1 == 1) then
      (F_made_Tape_Next v1.2 600).bind fun v5 =>
      some ((IntKind.wrap .i64 (65534 - v5.1), v5.2))
    else
      (F_made_Tape_Next v1.2 30).bind fun v6 =>
      some ((IntKind.wrap .i64 (256 + (IntKind.wrap .i64 (32 * v6.1))), v6.2))
set_option maxRecDepth 100000 in
set_option maxHeartbeats 40000000 in
theorem ok_world_Cost (a0 : S_multihopmade_Tape) (r : Int × S_multihopmade_Tape) (h : F_world_Cost a0 = some r) : Con Try.prog 34 [.c (.box 1000000 0)] [(1000000, .box (S_multihopmade_Tape.cs a0))] (.c (.lit (.int .i64 (r.1)))) [(1000000, .box (S_multihopmade_Tape.cs r.2))] := by
  unfold F_world_Cost at h
  refine con_of [] [(1000000, [2])] 18 Try.func34 rfl rfl (by kernel_rfl) (fun K => ?_)
  refine TS_go 8 ?_
  replace h := bindO h
  obtain ⟨v1, hv1, h⟩ := h
  refine TS_con [] [] (some (1000000, 0)) (ok_made_Tape_Next a0 6 v1 hv1) (by kernel_rfl) (by kernel_rfl) (by kernel_rfl) ?_
  refine TS_go 7 ?_
  replace h := condO h
  rcases h with ⟨hb2, h⟩ | ⟨hb2, h⟩
  · refine TS_know 6 (b := true) hb2 (by kernel_rfl) (by kernel_rfl) ?_
    refine TS_know 5 (b := true) hb2 (by kernel_rfl) (by kernel_rfl) ?_
    refine TS_T (by kernel_rfl) rfl ?_
    refine TS_go 3 ?_
    replace h := bindO h
    obtain ⟨v3, hv3, h⟩ := h
    refine TS_con [] [] (some (1000000, 0)) (ok_made_Tape_Next v1.2 4 v3 hv3) (by kernel_rfl) (by kernel_rfl) (by kernel_rfl) ?_
    refine TS_go 5 ?_
    have ret := Option.some.inj h
    subst ret
    exact TS_ret (by kernel_rfl) (by kernel_rfl) (by kernel_rfl)
  · refine TS_know 6 (b := false) hb2 (by kernel_rfl) (by kernel_rfl) ?_
    refine TS_know 5 (b := false) hb2 (by kernel_rfl) (by kernel_rfl) ?_
    refine TS_F (by kernel_rfl) rfl ?_
    refine TS_go 5 ?_
    replace h := condO h
    rcases h with ⟨hb4, h⟩ | ⟨hb4, h⟩
    · refine TS_know 10 (b := true) hb4 (by kernel_rfl) (by kernel_rfl) ?_
      refine TS_know 9 (b := true) hb4 (by kernel_rfl) (by kernel_rfl) ?_
      refine TS_T (by kernel_rfl) rfl ?_
      refine TS_go 3 ?_
      replace h := bindO h
      obtain ⟨v5, hv5, h⟩ := h
      refine TS_con [] [] (some (1000000, 0)) (ok_made_Tape_Next v1.2 600 v5 hv5) (by kernel_rfl) (by kernel_rfl) (by kernel_rfl) ?_
      refine TS_go 6 ?_
      have ret := Option.some.inj h
      subst ret
      exact TS_ret (by kernel_rfl) (by kernel_rfl) (by kernel_rfl)
    · refine TS_know 10 (b := false) hb4 (by kernel_rfl) (by kernel_rfl) ?_
      refine TS_know 9 (b := false) hb4 (by kernel_rfl) (by kernel_rfl) ?_
      refine TS_F (by kernel_rfl) rfl ?_
      refine TS_go 5 ?_
      replace h := bindO h
      obtain ⟨v6, hv6, h⟩ := h
      refine TS_con [] [] (some (1000000, 0)) (ok_made_Tape_Next v1.2 30 v6 hv6) (by kernel_rfl) (by kernel_rfl) (by kernel_rfl) ?_
      refine TS_go 5 ?_
      have ret := Option.some.inj h
      subst ret
      exact TS_ret (by kernel_rfl) (by kernel_rfl) (by kernel_rfl)

/-- (*multihop/multihopmade.Tape).Bool -/
noncomputable def F_made_Tape_Bool (a0 : S_multihopmade_Tape) (a1 : Int) : Option (Bool × S_multihopmade_Tape) :=
  (F_made_Tape_Next a0 a1).bind fun v1 =>
  some (((v1.1 == (IntKind.wrap .i64 (a1 - 1))), v1.2))
set_option maxRecDepth 100000 in
set_option maxHeartbeats 40000000 in
theorem ok_made_Tape_Bool (a0 : S_multihopmade_Tape) (a1 : Int) (r : Bool × S_multihopmade_Tape) (h : F_made_Tape_Bool a0 a1 = some r) : Con Try.prog 35 [.c (.box 1000000 0), .c (.lit (.int .i64 (a1)))] [(1000000, .box (S_multihopmade_Tape.cs a0))] (.c (.lit (.bool (r.1)))) [(1000000, .box (S_multihopmade_Tape.cs r.2))] := by
  unfold F_made_Tape_Bool at h
  refine con_of [] [(1000000, [2])] 11 Try.func35 rfl rfl (by kernel_rfl) (fun K => ?_)
  refine TS_go 8 ?_
  replace h := bindO h
  obtain ⟨v1, hv1, h⟩ := h
  refine TS_con [] [] (some (1000000, 0)) (ok_made_Tape_Next a0 a1 v1 hv1) (by kernel_rfl) (by kernel_rfl) (by kernel_rfl) ?_
  refine TS_go 6 ?_
  have ret := Option.some.inj h
  subst ret
  exact TS_ret (by kernel_rfl) (by kernel_rfl) (by kernel_rfl)

/-- (*multihop/multihopmade.Tape).Word -/
noncomputable def F_made_Tape_Word (a0 : S_multihopmade_Tape) : Option (Int × S_multihopmade_Tape) :=
  (F_made_Tape_Next a0 65536).bind fun v1 =>
  (F_made_Tape_Next v1.2 5).bind fun v2 =>
  bif (v2.1 == 0) then
    some ((IntKind.wrap .u64 v1.1, v2.2))
  else
    bif (v2.1 == 1) then
      some ((IntKind.wrap .u64 ((ishl .u64 (IntKind.wrap .u64 v1.1) 48) + (IntKind.wrap .u64 v1.1)), v2.2))
    else
      bif (v2.1 == 2) then
        some ((IntKind.wrap .u64 (9223372036854775808 + (IntKind.wrap .u64 v1.1)), v2.2))
      else
        bif (v2.1 == 3) then
          some ((IntKind.wrap .u64 (18446744073709551615 - (Int.tmod (IntKind.wrap .u64 v1.1) 4)), v2.2))
        else
          some ((Int.tmod (IntKind.wrap .u64 v1.1) 4, v2.2))
set_option maxRecDepth 100000 in
set_option maxHeartbeats 40000000 in
theorem ok_made_Tape_Word (a0 : S_multihopmade_Tape) (r : Int × S_multihopmade_Tape) (h : F_made_Tape_Word a0 = some r) : Con Try.prog 36 [.c (.box 1000000 0)] [(1000000, .box (S_multihopmade_Tape.cs a0))] (.c (.lit (.int .u64 (r.1)))) [(1000000, .box (S_multihopmade_Tape.cs r.2))] := by
  unfold F_made_Tape_Word at h
  refine con_of [] [(1000000, [2])] 29 Try.func36 rfl rfl (by kernel_rfl) (fun K => ?_)
  refine TS_go 7 ?_
  replace h := bindO h
  obtain ⟨v1, hv1, h⟩ := h
  refine TS_con [] [] (some (1000000, 0)) (ok_made_Tape_Next a0 65536 v1 hv1) (by kernel_rfl) (by kernel_rfl) (by kernel_rfl) ?_
  refine TS_go 7 ?_
  replace h := bindO h
  obtain ⟨v2, hv2, h⟩ := h
  refine TS_con [] [] (some (1000000, 0)) (ok_made_Tape_Next v1.2 5 v2 hv2) (by kernel_rfl) (by kernel_rfl) (by kernel_rfl) ?_
  refine TS_go 7 ?_
  replace h := condO h
  rcases h with ⟨hb3, h⟩ | ⟨hb3, h⟩
  · refine TS_know 10 (b := true) hb3 (by kernel_rfl) (by kernel_rfl) ?_
    refine TS_know 9 (b := true) hb3 (by kernel_rfl) (by kernel_rfl) ?_
    refine TS_T (by kernel_rfl) rfl ?_
    refine TS_go 8 ?_
    have ret := Option.some.inj h
    subst ret
    exact TS_ret (by kernel_rfl) (by kernel_rfl) (by kernel_rfl)
  · refine TS_know 10 (b := false) hb3 (by kernel_rfl) (by kernel_rfl) ?_
    refine TS_know 9 (b := false) hb3 (by kernel_rfl) (by kernel_rfl) ?_
    refine TS_F (by kernel_rfl) rfl ?_
    refine TS_go 5 ?_
    replace h := condO h
    rcases h with ⟨hb4, h⟩ | ⟨hb4, h⟩
    · refine TS_know 13 (b := true) hb4 (by kernel_rfl) (by kernel_rfl) ?_
      refine TS_know 12 (b := true) hb4 (by kernel_rfl) (by kernel_rfl) ?_
      refine TS_T (by kernel_rfl) rfl ?_
      refine TS_go 11 ?_
      have ret := Option.some.inj h
      subst ret
      exact TS_ret (by kernel_rfl) (by kernel_rfl) (by kernel_rfl)
    · refine TS_know 13 (b := false) hb4 (by kernel_rfl) (by kernel_rfl) ?_
      refine TS_know 12 (b := false) hb4 (by kernel_rfl) (by kernel_rfl) ?_
      refine TS_F (by kernel_rfl) rfl ?_
      refine TS_go 5 ?_
      replace h := condO h
      rcases h with ⟨hb5, h⟩ | ⟨hb5, h⟩
      · refine TS_know 19 (b := true) hb5 (by kernel_rfl) (by kernel_rfl) ?_
        refine TS_know 18 (b := true) hb5 (by kernel_rfl) (by kernel_rfl) ?_
        refine TS_T (by kernel_rfl) rfl ?_
        refine TS_go 9 ?_
        have ret := Option.some.inj h
        subst ret
        exact TS_ret (by kernel_rfl) (by kernel_rfl) (by kernel_rfl)
      · refine TS_know 19 (b := false) hb5 (by kernel_rfl) (by kernel_rfl) ?_
        refine TS_know 18 (b := false) hb5 (by kernel_rfl) (by kernel_rfl) ?_
        refine TS_F (by kernel_rfl) rfl ?_
        refine TS_go 5 ?_
        replace h := condO h
        rcases h with ⟨hb6, h⟩ | ⟨hb6, h⟩
        · refine TS_know 23 (b := true) hb6 (by kernel_rfl) (by kernel_rfl) ?_
          refine TS_know 22 (b := true) hb6 (by kernel_rfl) (by kernel_rfl) ?_
          refine TS_T (by kernel_rfl) rfl ?_
          refine TS_go 10 ?_
          have ret := Option.some.inj h
          subst ret
          exact TS_ret (by kernel_rfl) (by kernel_rfl) (by kernel_rfl)
        · refine TS_know 23 (b := false) hb6 (by kernel_rfl) (by kernel_rfl) ?_
          refine TS_know 22 (b := false) hb6 (by kernel_rfl) (by kernel_rfl) ?_
          refine TS_F (by kernel_rfl) rfl ?_
          refine TS_go 9 ?_
          have ret := Option.some.inj h
          subst ret
          exact TS_ret (by kernel_rfl) (by kernel_rfl) (by kernel_rfl)

/-- multihop/multihopworld.IP -/
noncomputable def F_world_IP_j1  (v4 : S_multihopmade_Tape × (List Int)) : Option ((List Int) × S_multihopmade_Tape) :=
  some ((v4.2, v4.1))
noncomputable def F_world_IP (a0 : S_multihopmade_Tape) : Option ((List Int) × S_multihopmade_Tape) :=
  (F_made_Tape_Next a0 2).bind fun v1 =>
  (F_made_Tape_Next v1.2 2).bind fun v2 =>
  (F_made_Tape_Next v2.2 6).bind fun v3 =>
  (F_made_Tape_Bool v3.2 9).bind fun v5 =>
  bif v5.1 then
    (F_made_Tape_Next v5.2 16).bind fun v7 =>
    bif decide ((0 : Int) ≤ v7.1 ∧ v7.1 < (16 : Int)) then
      (F_made_Tape_Next v7.2 8).bind fun v9 =>
      bif decide (0 ≤ (IntKind.wrap .u64 v9.1)) then
        bif decide ((0 : Int) ≤ v7.1 ∧ v7.1 < (16 : Int)) then
          (F_world_IP_j1) (v9.2, (setA 16 [32, 1, 13, 184, 0, IntKind.wrap .u8 v1.1, IntKind.wrap .u8 v2.1, 0, 0, 0, 0, 0, 0, 0, 0, IntKind.wrap .u8 v3.1] (Int.toNat v7.1) (ixor .u8 (List.getD [32, 1, 13, 184, 0, IntKind.wrap .u8 v1.1, IntKind.wrap .u8 v2.1, 0, 0, 0, 0, 0, 0, 0, 0, IntKind.wrap .u8 v3.1] (Int.toNat v7.1) 0) (ishl .u8 1 (IntKind.wrap .u64 v9.1)))))
        else none
      else none
    else none
  else
    (F_world_IP_j1) (v5.2, [32, 1, 13, 184, 0, IntKind.wrap .u8 v1.1, IntKind.wrap .u8 v2.1, 0, 0, 0, 0, 0, 0, 0, 0, IntKind.wrap .u8 v3.1])
set_option maxRecDepth 100000 in
set_option maxHeartbeats 40000000 in
theorem ok_world_IP (a0 : S_multihopmade_Tape) (r : (List Int) × S_multihopmade_Tape) (h : F_world_IP a0 = some r) : Con Try.prog 56 [.c (.box 1000000 0)] [(1000000, .box (S_multihopmade_Tape.cs a0))] (.agg (arrS .u8 16 r.1)) [(1000000, .box (S_multihopmade_Tape.cs r.2))] := by
  unfold F_world_IP at h
  refine con_of [] [(1000000, [2])] 28 Try.func56 rfl rfl (by kernel_rfl) (fun K => ?_)
  refine TS_go 7 ?_
  replace h := bindO h
  obtain ⟨v1, hv1, h⟩ := h
  refine TS_con [] [] (some (1000000, 0)) (ok_made_Tape_Next a0 2 v1 hv1) (by kernel_rfl) (by kernel_rfl) (by kernel_rfl) ?_
  refine TS_go 2 ?_
  replace h := bindO h
  obtain ⟨v2, hv2, h⟩ := h
  refine TS_con [] [] (some (1000000, 0)) (ok_made_Tape_Next v1.2 2 v2 hv2) (by kernel_rfl) (by kernel_rfl) (by kernel_rfl) ?_
  refine TS_go 8 ?_
  replace h := bindO h
  obtain ⟨v3, hv3, h⟩ := h
  refine TS_con [] [] (some (1000000, 0)) (ok_made_Tape_Next v2.2 6 v3 hv3) (by kernel_rfl) (by kernel_rfl) (by kernel_rfl) ?_
  refine TS_go 4 ?_
  refine TS_cut ⟨[(0, []), (2, []), (3, [])], [(1000000, (1000000, [])), (2, (2, [])), (3, (3, []))]⟩ (.mk [.code (codeAt [1, 1, 1] (bodyOf Try.f56))] .normal ⟨[(0, .c (.box 1000000 0)), (2, .c (.box 2 0)), (3, .c (.box 3 0))], [(1000000, .box [.slc 1 0 (List.length v3.2.l) (List.map (ecI .i64) v3.2.l), .lit (.int .i64 (v3.2.at_))]), (2, .box [.lit (.int .u8 (0)), .lit (.int .u8 (0)), .lit (.int .u8 (0)), .lit (.int .u8 (0)), .lit (.int .u8 (0)), .lit (.int .u8 (0)), .lit (.int .u8 (0)), .lit (.int .u8 (0)), .lit (.int .u8 (0)), .lit (.int .u8 (0)), .lit (.int .u8 (0)), .lit (.int .u8 (0)), .lit (.int .u8 (0)), .lit (.int .u8 (0)), .lit (.int .u8 (0)), .lit (.int .u8 (0))]), (3, .box [.lit (.int .u8 (32)), .lit (.int .u8 (1)), .lit (.int .u8 (13)), .lit (.int .u8 (184)), .lit (.int .u8 (0)), .lit (.int .u8 (IntKind.wrap .u8 v1.1)), .lit (.int .u8 (IntKind.wrap .u8 v2.1)), .lit (.int .u8 (0)), .lit (.int .u8 (0)), .lit (.int .u8 (0)), .lit (.int .u8 (0)), .lit (.int .u8 (0)), .lit (.int .u8 (0)), .lit (.int .u8 (0)), .lit (.int .u8 (0)), .lit (.int .u8 (IntKind.wrap .u8 v3.1))])]⟩) (by kernel_rfl) (by kernel_rfl) ?_
  refine TS_joinB ⟨[(2, []), (3, [])], [(1000000, (1000000, [])), (2, (2, [])), (3, (3, []))]⟩ (fun (v4 : S_multihopmade_Tape × (List Int)) => []) (fun (v4 : S_multihopmade_Tape × (List Int)) => [(1000000, .box (S_multihopmade_Tape.cs v4.1)), (3, .box (arrS .u8 16 v4.2))]) (F_world_IP_j1) r ?_ ?_
  · clear h
    intro v4 h
    unfold F_world_IP_j1 at h
    refine TS_go 6 ?_
    have ret := Option.some.inj h
    subst ret
    exact TS_ret (by kernel_rfl) (by kernel_rfl) (by kernel_rfl)
  · refine TS_go 3 ?_
    replace h := bindO h
    obtain ⟨v5, hv5, h⟩ := h
    refine TS_con [] [] (some (1000000, 0)) (ok_made_Tape_Bool v3.2 9 v5 hv5) (by kernel_rfl) (by kernel_rfl) (by kernel_rfl) ?_
    refine TS_go 1 ?_
    replace h := condO h
    rcases h with ⟨hb6, h⟩ | ⟨hb6, h⟩
    · refine TS_know 16 (b := true) hb6 (by kernel_rfl) (by kernel_rfl) ?_
      refine TS_T (by kernel_rfl) rfl ?_
      refine TS_draw (by kernel_rfl) ?_
      refine TD_go 1 ?_
      replace h := bindO h
      obtain ⟨v7, hv7, h⟩ := h
      refine TD_con (_h := []) (_h' := []) [] 1000000 0 [.slc 1 0 (List.length v5.2.l) (List.map (ecI .i64) v5.2.l), .lit (.int .i64 (v5.2.at_))] _ _ (ok_made_Tape_Next v5.2 16 v7 hv7) (by kernel_rfl) (by kernel_rfl) (by kernel_rfl) (by kernel_rfl) ?_
      replace h := chkO h
      obtain ⟨hc8, h⟩ := h
      refine TD_idxA 3 0 16 (i := v7.1) hc8 (by kernel_rfl) (by kernel_rfl) ?_
      refine TD_ldA .u8 0 16 (i := v7.1) [32, 1, 13, 184, 0, IntKind.wrap .u8 v1.1, IntKind.wrap .u8 v2.1, 0, 0, 0, 0, 0, 0, 0, 0, IntKind.wrap .u8 v3.1] hc8 (by kernel_rfl) (by kernel_rfl) ?_
      refine TD_go 1 ?_
      replace h := bindO h
      obtain ⟨v9, hv9, h⟩ := h
      refine TD_con (_h := []) (_h' := []) [] 1000000 0 [.slc 1 0 (List.length v7.2.l) (List.map (ecI .i64) v7.2.l), .lit (.int .i64 (v7.2.at_))] _ _ (ok_made_Tape_Next v7.2 8 v9 hv9) (by kernel_rfl) (by kernel_rfl) (by kernel_rfl) (by kernel_rfl) ?_
      refine TD_go 1 ?_
      replace h := chkO h
      obtain ⟨hc10, h⟩ := h
      refine TD_num (op := .shl) (k := .u8) (k' := .u64) (m := 1) (i := IntKind.wrap .u64 v9.1) (of_decide_eq_true hc10) rfl (by simp) (by kernel_rfl) (by kernel_rfl) ?_
      refine TD_go 1 ?_
      replace h := chkO h
      obtain ⟨hc11, h⟩ := h
      refine TD_idxA 3 0 16 (i := v7.1) hc11 (by kernel_rfl) (by kernel_rfl) ?_
      refine TD_stA (k := .u8) (d := 3) 0 16 (i := v7.1) (v := ixor .u8 (List.getD [32, 1, 13, 184, 0, IntKind.wrap .u8 v1.1, IntKind.wrap .u8 v2.1, 0, 0, 0, 0, 0, 0, 0, 0, IntKind.wrap .u8 v3.1] (Int.toNat v7.1) 0) (ishl .u8 1 (IntKind.wrap .u64 v9.1))) [32, 1, 13, 184, 0, IntKind.wrap .u8 v1.1, IntKind.wrap .u8 v2.1, 0, 0, 0, 0, 0, 0, 0, 0, IntKind.wrap .u8 v3.1] (pre := []) (post := []) hc11 (by kernel_rfl) (by kernel_rfl) (by kernel_rfl) ?_
      refine TD_end (by kernel_rfl) ?_
      exact TS_meet (v9.2, (setA 16 [32, 1, 13, 184, 0, IntKind.wrap .u8 v1.1, IntKind.wrap .u8 v2.1, 0, 0, 0, 0, 0, 0, 0, 0, IntKind.wrap .u8 v3.1] (Int.toNat v7.1) (ixor .u8 (List.getD [32, 1, 13, 184, 0, IntKind.wrap .u8 v1.1, IntKind.wrap .u8 v2.1, 0, 0, 0, 0, 0, 0, 0, 0, IntKind.wrap .u8 v3.1] (Int.toNat v7.1) 0) (ishl .u8 1 (IntKind.wrap .u64 v9.1))))) ⟨[(2, []), (3, [])], [(1000000, (1000000, [])), (2, (2, [])), (3, (3, []))]⟩ h (by kernel_rfl) (by kernel_rfl)
    · refine TS_know 16 (b := false) hb6 (by kernel_rfl) (by kernel_rfl) ?_
      refine TS_F (by kernel_rfl) rfl ?_
      refine TS_go 1 ?_
      exact TS_meet (v5.2, [32, 1, 13, 184, 0, IntKind.wrap .u8 v1.1, IntKind.wrap .u8 v2.1, 0, 0, 0, 0, 0, 0, 0, 0, IntKind.wrap .u8 v3.1]) ⟨[(2, []), (3, [])], [(1000000, (1000000, [])), (2, (2, [])), (3, (3, []))]⟩ h (by kernel_rfl) (by kernel_rfl)

/-- multihop/multihopref04.bit -/
noncomputable def F_ref04_bit (a0 : List Int) (a1 : Int) : Option (Int) :=
  bif decide ((0 : Int) ≤ (iquo .i64 a1 8) ∧ (iquo .i64 a1 8) < (16 : Int)) then
    bif decide (0 ≤ (IntKind.wrap .u64 (7 - (IntKind.wrap .u64 (Int.tmod a1 8))))) then
      some (iand .u8 (ishr .u8 (List.getD a0 (Int.toNat (iquo .i64 a1 8)) 0) (IntKind.wrap .u64 (7 - (IntKind.wrap .u64 (Int.tmod a1 8))))) 1)
    else none
  else none
set_option maxRecDepth 100000 in
set_option maxHeartbeats 40000000 in
theorem ok_ref04_bit (a0 : List Int) (a1 : Int) (r : Int) (h : F_ref04_bit a0 a1 = some r) : Con Try.prog 59 [.agg (arrS .u8 16 a0), .c (.lit (.int .i64 (a1)))] [] (.c (.lit (.int .u8 (r)))) [] := by
  unfold F_ref04_bit at h
  refine con_of [] [] 15 Try.func59 rfl rfl (by kernel_rfl) (fun K => ?_)
  refine TS_go 9 ?_
  replace h := chkO h
  obtain ⟨hc1, h⟩ := h
  refine TS_idxA 2 0 16 (i := iquo .i64 a1 8) hc1 (by kernel_rfl) (by kernel_rfl) ?_
  refine TS_ldA .u8 0 16 (i := iquo .i64 a1 8) a0 hc1 (by kernel_rfl) (by kernel_rfl) ?_
  refine TS_go 4 ?_
  replace h := chkO h
  obtain ⟨hc2, h⟩ := h
  refine TS_num (op := .shr) (k := .u8) (k' := .u64) (m := (List.getD a0 (Int.toNat (iquo .i64 a1 8)) 0)) (i := IntKind.wrap .u64 (7 - (IntKind.wrap .u64 (Int.tmod a1 8)))) (of_decide_eq_true hc2) rfl (by simp) (by kernel_rfl) (by kernel_rfl) ?_
  refine TS_go 4 ?_
  have ret := Option.some.inj h
  subst ret
  exact TS_ret (by kernel_rfl) (by kernel_rfl) (by kernel_rfl)

/-- multihop/multihopref04.Mask -/
noncomputable def F_ref04_Mask_l1 (a1 : Int) (a0 : List Int) (s1 : Int × S_Prefix) : Option ((Int × S_Prefix) ⊕ (S_Prefix)) :=
  bif (decide (s1.1 < (if 128 < if a1 < 0 then 0 else a1 then 128 else if a1 < 0 then 0 else a1))) then
    bif decide ((0 : Int) ≤ (iquo .i64 s1.1 8) ∧ (iquo .i64 s1.1 8) < (16 : Int)) then
      (F_ref04_bit a0 s1.1).bind fun v6 =>
      bif decide (0 ≤ (IntKind.wrap .u64 (7 - (IntKind.wrap .u64 (Int.tmod s1.1 8))))) then
        bif decide ((0 : Int) ≤ (iquo .i64 s1.1 8) ∧ (iquo .i64 s1.1 8) < (16 : Int)) then
          some (Sum.inl (IntKind.wrap .i64 (s1.1 + 1), (S_Prefix.mk (setA 16 s1.2.IP (Int.toNat (iquo .i64 s1.1 8)) (ior .u8 (List.getD s1.2.IP (Int.toNat (iquo .i64 s1.1 8)) 0) (ishl .u8 v6 (IntKind.wrap .u64 (7 - (IntKind.wrap .u64 (Int.tmod s1.1 8))))))) s1.2.Bits)))
        else none
      else none
    else none
  else
    some (Sum.inr s1.2)
noncomputable def F_ref04_Mask (a0 : List Int) (a1 : Int) : Option (S_Prefix) :=
  (loopO (F_ref04_Mask_l1 a1 a0) (0, (S_Prefix.mk [0, 0, 0, 0, 0, 0, 0, 0, 0, 0, 0, 0, 0, 0, 0, 0] (if 128 < if a1 < 0 then 0 else a1 then 128 else if a1 < 0 then 0 else a1)))).bind fun b2 =>
  some (b2)
set_option maxRecDepth 100000 in
set_option maxHeartbeats 40000000 in
theorem ok_ref04_Mask (a0 : List Int) (a1 : Int) (r : S_Prefix) (h : F_ref04_Mask a0 a1 = some r) : Con Try.prog 55 [.agg (arrS .u8 16 a0), .c (.lit (.int .i64 (a1)))] [] (.agg (S_Prefix.cs r)) [] := by
  unfold F_ref04_Mask at h
  refine con_of [] [] 34 Try.func55 rfl rfl (by kernel_rfl) (fun K => ?_)
  refine TS_go 25 ?_
  refine TS_cut ⟨[(1, []), (2, []), (4, []), (5, []), (6, [])], [(2, (2, [])), (4, (4, [])), (5, (5, []))]⟩ (.mk [.code (codeAt [1, 1, 1, 0, 1, 0] (bodyOf Try.f55)), .blk 0, .code (codeAt [1, 1, 1, 1] (bodyOf Try.f55))] .normal ⟨[(1, .c (.lit (.int .i64 (if 128 < if a1 < 0 then 0 else a1 then 128 else if a1 < 0 then 0 else a1)))), (2, .c (.box 2 0)), (4, .c (.box 4 0)), (5, .c (.box 5 0)), (6, .c (.lit (.int .i64 (0))))], [(2, .box [.lit (.int .u8 ((a0.getD 0 0))), .lit (.int .u8 ((a0.getD 1 0))), .lit (.int .u8 ((a0.getD 2 0))), .lit (.int .u8 ((a0.getD 3 0))), .lit (.int .u8 ((a0.getD 4 0))), .lit (.int .u8 ((a0.getD 5 0))), .lit (.int .u8 ((a0.getD 6 0))), .lit (.int .u8 ((a0.getD 7 0))), .lit (.int .u8 ((a0.getD 8 0))), .lit (.int .u8 ((a0.getD 9 0))), .lit (.int .u8 ((a0.getD 10 0))), .lit (.int .u8 ((a0.getD 11 0))), .lit (.int .u8 ((a0.getD 12 0))), .lit (.int .u8 ((a0.getD 13 0))), .lit (.int .u8 ((a0.getD 14 0))), .lit (.int .u8 ((a0.getD 15 0)))]), (4, .box [.lit (.int .u8 (0)), .lit (.int .u8 (0)), .lit (.int .u8 (0)), .lit (.int .u8 (0)), .lit (.int .u8 (0)), .lit (.int .u8 (0)), .lit (.int .u8 (0)), .lit (.int .u8 (0)), .lit (.int .u8 (0)), .lit (.int .u8 (0)), .lit (.int .u8 (0)), .lit (.int .u8 (0)), .lit (.int .u8 (0)), .lit (.int .u8 (0)), .lit (.int .u8 (0)), .lit (.int .u8 (0)), .lit (.int .i64 (0))]), (5, .box [.lit (.int .u8 (0)), .lit (.int .u8 (0)), .lit (.int .u8 (0)), .lit (.int .u8 (0)), .lit (.int .u8 (0)), .lit (.int .u8 (0)), .lit (.int .u8 (0)), .lit (.int .u8 (0)), .lit (.int .u8 (0)), .lit (.int .u8 (0)), .lit (.int .u8 (0)), .lit (.int .u8 (0)), .lit (.int .u8 (0)), .lit (.int .u8 (0)), .lit (.int .u8 (0)), .lit (.int .u8 (0)), .lit (.int .i64 (if 128 < if a1 < 0 then 0 else a1 then 128 else if a1 < 0 then 0 else a1))])]⟩) (by kernel_rfl) (by kernel_rfl) ?_
  replace h := bindO h
  obtain ⟨y3, hl1, hK1⟩ := h
  refine TS_loopB (F_ref04_Mask_l1 a1 a0) ⟨[(1, []), (2, []), (4, []), (5, []), (6, [])], [(2, (2, [])), (4, (4, [])), (5, (5, []))]⟩ (fun (s1 : Int × S_Prefix) => [(6, .c (.lit (.int .i64 (s1.1))))]) (fun (s1 : Int × S_Prefix) => [(5, .box (S_Prefix.cs s1.2))]) (0, (S_Prefix.mk [0, 0, 0, 0, 0, 0, 0, 0, 0, 0, 0, 0, 0, 0, 0, 0] (if 128 < if a1 < 0 then 0 else a1 then 128 else if a1 < 0 then 0 else a1))) y3 (.exit 0) (fun (b : S_Prefix) => b) ⟨[(4, []), (5, [])], [(4, (4, [])), (5, (5, []))]⟩ (fun (b2 : S_Prefix) => []) (fun (b2 : S_Prefix) => [(5, .box (S_Prefix.cs b2))]) hl1 (by kernel_rfl) (by kernel_rfl) ?_ ?_
  · intro s1 x h hy1
    unfold F_ref04_Mask_l1 at h
    refine TS_go 7 ?_
    replace h := condO h
    rcases h with ⟨hb4, h⟩ | ⟨hb4, h⟩
    · refine TS_know 14 (b := true) hb4 (by kernel_rfl) (by kernel_rfl) ?_
      refine TS_T (by kernel_rfl) rfl ?_
      refine TS_go 3 ?_
      refine TS_draw (by kernel_rfl) ?_
      refine TD_go 3 ?_
      replace h := chkO h
      obtain ⟨hc5, h⟩ := h
      refine TD_idxA 5 0 16 (i := iquo .i64 s1.1 8) hc5 (by kernel_rfl) (by kernel_rfl) ?_
      refine TD_ldA .u8 0 16 (i := iquo .i64 s1.1 8) s1.2.IP hc5 (by kernel_rfl) (by kernel_rfl) ?_
      refine TD_go 2 ?_
      replace h := bindO h
      obtain ⟨v6, hv6, h⟩ := h
      refine TD_call [] (ok_ref04_bit a0 s1.1 v6 hv6) (by kernel_rfl) (by kernel_rfl) ?_
      refine TD_go 4 ?_
      replace h := chkO h
      obtain ⟨hc7, h⟩ := h
      refine TD_num (op := .shl) (k := .u8) (k' := .u64) (m := v6) (i := IntKind.wrap .u64 (7 - (IntKind.wrap .u64 (Int.tmod s1.1 8)))) (of_decide_eq_true hc7) rfl (by simp) (by kernel_rfl) (by kernel_rfl) ?_
      refine TD_go 2 ?_
      replace h := chkO h
      obtain ⟨hc8, h⟩ := h
      refine TD_idxA 5 0 16 (i := iquo .i64 s1.1 8) hc8 (by kernel_rfl) (by kernel_rfl) ?_
      refine TD_stA (k := .u8) (d := 5) 0 16 (i := iquo .i64 s1.1 8) (v := ior .u8 (List.getD s1.2.IP (Int.toNat (iquo .i64 s1.1 8)) 0) (ishl .u8 v6 (IntKind.wrap .u64 (7 - (IntKind.wrap .u64 (Int.tmod s1.1 8)))))) s1.2.IP (pre := []) (post := [.lit (.int .i64 (s1.2.Bits))]) hc8 (by kernel_rfl) (by kernel_rfl) (by kernel_rfl) ?_
      refine TD_end (by kernel_rfl) ?_
      refine TS_go 6 ?_
      have ret := Option.some.inj h
      subst ret
      exact TS_againB _ ⟨[(1, []), (2, []), (4, []), (5, []), (6, [])], [(2, (2, [])), (4, (4, [])), (5, (5, []))]⟩ rfl (by kernel_rfl) (by kernel_rfl)
    · refine TS_know 14 (b := false) hb4 (by kernel_rfl) (by kernel_rfl) ?_
      refine TS_F (by kernel_rfl) rfl ?_
      refine TS_go 2 ?_
      have ret := Option.some.inj h
      subst ret
      exact TS_brkB s1.2 ⟨[(4, []), (5, [])], [(4, (4, [])), (5, (5, []))]⟩ rfl (by kernel_rfl) (by kernel_rfl) (by kernel_rfl)
  · intro b2 hb
    subst y3
    have h := hK1
    refine TS_go 7 ?_
    have ret := Option.some.inj h
    subst ret
    exact TS_ret (by kernel_rfl) (by kernel_rfl) (by kernel_rfl)

/-- multihop/multihopworld.Prefix -/
noncomputable def F_world_Prefix_j1  (v3 : Int × S_multihopmade_Tape) : Option (S_Prefix × S_multihopmade_Tape) :=
  (F_world_IP v3.2).bind fun v4 =>
  (F_ref04_Mask v4.1 v3.1).bind fun v5 =>
  some ((v5, v4.2))
noncomputable def F_world_Prefix (a0 : S_multihopmade_Tape) : Option (S_Prefix × S_multihopmade_Tape) :=
  (F_made_Tape_Next a0 10).bind fun v1 =>
  (idx ([128, 128, 64, 56, 48, 32, 0, 127, 3, 60] : List Int) v1.1).bind fun e2 =>
  (F_made_Tape_Bool v1.2 7).bind fun v6 =>
  bif v6.1 then
    (F_made_Tape_Next v6.2 129).bind fun v8 =>
    (F_world_Prefix_j1) (v8.1, v8.2)
  else
    (F_world_Prefix_j1) (e2, v6.2)
set_option maxRecDepth 100000 in
set_option maxHeartbeats 40000000 in
theorem ok_world_Prefix (a0 : S_multihopmade_Tape) (r : S_Prefix × S_multihopmade_Tape) (h : F_world_Prefix a0 = some r) : Con Try.prog 57 [.c (.box 1000000 0)] [(1000000, .box (S_multihopmade_Tape.cs a0))] (.agg (S_Prefix.cs r.1)) [(1000000, .box (S_multihopmade_Tape.cs r.2))] := by
  unfold F_world_Prefix at h
  refine con_of [] [(1000000, [2])] 17 Try.func57 rfl rfl (by kernel_rfl) (fun K => ?_)
  refine TS_go 6 ?_
  refine TS_litNT 4 3 1 (ecI .i64) [] ([128, 128, 64, 56, 48, 32, 0, 127, 3, 60] : List Int) (by kernel_rfl) (by kernel_rfl) ?_
  refine TS_go 1 ?_
  replace h := bindO h
  obtain ⟨v1, hv1, h⟩ := h
  refine TS_con [] [] (some (1000000, 0)) (ok_made_Tape_Next a0 10 v1 hv1) (by kernel_rfl) (by kernel_rfl) (by kernel_rfl) ?_
  replace h := bindO h
  obtain ⟨e2, he2, h⟩ := h
  refine TS_idx (ecI .i64) he2 (by kernel_rfl) (by kernel_rfl) ?_
  refine TS_go 3 ?_
  refine TS_cut ⟨[(0, []), (2, []), (3, [])], [(1000000, (1000000, [])), (2, (2, []))]⟩ (.mk [.code (codeAt [1, 1] (bodyOf Try.f57))] .normal ⟨[(0, .c (.box 1000000 0)), (2, .c (.box 2 0)), (3, .c (.lit (.int .i64 (e2))))], [(1000000, .box [.slc 1 0 (List.length v1.2.l) (List.map (ecI .i64) v1.2.l), .lit (.int .i64 (v1.2.at_))]), (2, .box [.lit (.int .u8 (0)), .lit (.int .u8 (0)), .lit (.int .u8 (0)), .lit (.int .u8 (0)), .lit (.int .u8 (0)), .lit (.int .u8 (0)), .lit (.int .u8 (0)), .lit (.int .u8 (0)), .lit (.int .u8 (0)), .lit (.int .u8 (0)), .lit (.int .u8 (0)), .lit (.int .u8 (0)), .lit (.int .u8 (0)), .lit (.int .u8 (0)), .lit (.int .u8 (0)), .lit (.int .u8 (0)), .lit (.int .i64 (0))])]⟩) (by kernel_rfl) (by kernel_rfl) ?_
  refine TS_joinB ⟨[(0, []), (2, []), (3, [])], [(1000000, (1000000, [])), (2, (2, []))]⟩ (fun (v3 : Int × S_multihopmade_Tape) => [(3, .c (.lit (.int .i64 (v3.1))))]) (fun (v3 : Int × S_multihopmade_Tape) => [(1000000, .box (S_multihopmade_Tape.cs v3.2))]) (F_world_Prefix_j1) r ?_ ?_
  · clear h
    intro v3 h
    unfold F_world_Prefix_j1 at h
    refine TS_go 3 ?_
    replace h := bindO h
    obtain ⟨v4, hv4, h⟩ := h
    refine TS_con [] [] (some (1000000, 0)) (ok_world_IP v3.2 v4 hv4) (by kernel_rfl) (by kernel_rfl) (by kernel_rfl) ?_
    refine TS_go 1 ?_
    replace h := bindO h
    obtain ⟨v5, hv5, h⟩ := h
    refine TS_call [] (ok_ref04_Mask v4.1 v3.1 v5 hv5) (by kernel_rfl) (by kernel_rfl) ?_
    refine TS_go 3 ?_
    have ret := Option.some.inj h
    subst ret
    exact TS_ret (by kernel_rfl) (by kernel_rfl) (by kernel_rfl)
  · refine TS_go 3 ?_
    replace h := bindO h
    obtain ⟨v6, hv6, h⟩ := h
    refine TS_con [] [] (some (1000000, 0)) (ok_made_Tape_Bool v1.2 7 v6 hv6) (by kernel_rfl) (by kernel_rfl) (by kernel_rfl) ?_
    refine TS_go 1 ?_
    replace h := condO h
    rcases h with ⟨hb7, h⟩ | ⟨hb7, h⟩
    · refine TS_know 10 (b := true) hb7 (by kernel_rfl) (by kernel_rfl) ?_
      refine TS_T (by kernel_rfl) rfl ?_
      refine TS_go 2 ?_
      replace h := bindO h
      obtain ⟨v8, hv8, h⟩ := h
      refine TS_con [] [] (some (1000000, 0)) (ok_made_Tape_Next v6.2 129 v8 hv8) (by kernel_rfl) (by kernel_rfl) (by kernel_rfl) ?_
      refine TS_go 2 ?_
      exact TS_meet (v8.1, v8.2) ⟨[(0, []), (2, []), (3, [])], [(1000000, (1000000, [])), (2, (2, []))]⟩ h (by kernel_rfl) (by kernel_rfl)
    · refine TS_know 10 (b := false) hb7 (by kernel_rfl) (by kernel_rfl) ?_
      refine TS_F (by kernel_rfl) rfl ?_
      refine TS_go 1 ?_
      exact TS_meet (e2, v6.2) ⟨[(0, []), (2, []), (3, [])], [(1000000, (1000000, [])), (2, (2, []))]⟩ h (by kernel_rfl) (by kernel_rfl)

/-- multihop/multihopworld.To -/
noncomputable def F_world_To_j1  (v6 : S_multihopmade_Tape × S_Destination) : Option (S_Destination × S_multihopmade_Tape) :=
  some ((v6.2, v6.1))
noncomputable def F_world_To (a0 : S_multihopmade_Tape) : Option (S_Destination × S_multihopmade_Tape) :=
  (F_world_IP a0).bind fun v1 =>
  (F_made_Tape_Next v1.2 4).bind fun v2 =>
  (idx ([128, 128, 64, 0] : List Int) v2.1).bind fun e3 =>
  (F_ref04_Mask v1.1 e3).bind fun v4 =>
  (F_world_EUI v2.2).bind fun v5 =>
  (F_made_Tape_Bool v5.2 3).bind fun v7 =>
  bif v7.1 then
    (F_world_Prefix v7.2).bind fun v9 =>
    (F_world_To_j1) (v9.2, (S_Destination.mk v4 v9.1 v5.1))
  else
    (F_world_To_j1) (v7.2, (S_Destination.mk v4 (S_Prefix.mk [0, 0, 0, 0, 0, 0, 0, 0, 0, 0, 0, 0, 0, 0, 0, 0] 0) v5.1))
set_option maxRecDepth 100000 in
set_option maxHeartbeats 40000000 in
theorem ok_world_To (a0 : S_multihopmade_Tape) (r : S_Destination × S_multihopmade_Tape) (h : F_world_To a0 = some r) : Con Try.prog 37 [.c (.box 1000000 0)] [(1000000, .box (S_multihopmade_Tape.cs a0))] (.agg (S_Destination.cs r.1)) [(1000000, .box (S_multihopmade_Tape.cs r.2))] := by
  unfold F_world_To at h
  refine con_of [] [(1000000, [2])] 21 Try.func37 rfl rfl (by kernel_rfl) (fun K => ?_)
  refine TS_go 7 ?_
  replace h := bindO h
  obtain ⟨v1, hv1, h⟩ := h
  refine TS_con [] [] (some (1000000, 0)) (ok_world_IP a0 v1 hv1) (by kernel_rfl) (by kernel_rfl) (by kernel_rfl) ?_
  refine TS_litNT 6 3 1 (ecI .i64) [] ([128, 128, 64, 0] : List Int) (by kernel_rfl) (by kernel_rfl) ?_
  refine TS_go 1 ?_
  replace h := bindO h
  obtain ⟨v2, hv2, h⟩ := h
  refine TS_con [] [] (some (1000000, 0)) (ok_made_Tape_Next v1.2 4 v2 hv2) (by kernel_rfl) (by kernel_rfl) (by kernel_rfl) ?_
  replace h := bindO h
  obtain ⟨e3, he3, h⟩ := h
  refine TS_idx (ecI .i64) he3 (by kernel_rfl) (by kernel_rfl) ?_
  refine TS_go 1 ?_
  replace h := bindO h
  obtain ⟨v4, hv4, h⟩ := h
  refine TS_call [] (ok_ref04_Mask v1.1 e3 v4 hv4) (by kernel_rfl) (by kernel_rfl) ?_
  refine TS_go 1 ?_
  replace h := bindO h
  obtain ⟨v5, hv5, h⟩ := h
  refine TS_con [] [] (some (1000000, 0)) (ok_world_EUI v2.2 v5 hv5) (by kernel_rfl) (by kernel_rfl) (by kernel_rfl) ?_
  refine TS_go 4 ?_
  refine TS_cut ⟨[(0, []), (2, []), (3, [])], [(1000000, (1000000, [])), (2, (2, [])), (3, (3, []))]⟩ (.mk [.code (codeAt [1, 1] (bodyOf Try.f37))] .normal ⟨[(0, .c (.box 1000000 0)), (2, .c (.box 2 0)), (3, .c (.box 3 0))], [(1000000, .box [.slc 1 0 (List.length v5.2.l) (List.map (ecI .i64) v5.2.l), .lit (.int .i64 (v5.2.at_))]), (2, .box [.lit (.int .u8 (0)), .lit (.int .u8 (0)), .lit (.int .u8 (0)), .lit (.int .u8 (0)), .lit (.int .u8 (0)), .lit (.int .u8 (0)), .lit (.int .u8 (0)), .lit (.int .u8 (0)), .lit (.int .u8 (0)), .lit (.int .u8 (0)), .lit (.int .u8 (0)), .lit (.int .u8 (0)), .lit (.int .u8 (0)), .lit (.int .u8 (0)), .lit (.int .u8 (0)), .lit (.int .u8 (0)), .lit (.int .i64 (0)), .lit (.int .u8 (0)), .lit (.int .u8 (0)), .lit (.int .u8 (0)), .lit (.int .u8 (0)), .lit (.int .u8 (0)), .lit (.int .u8 (0)), .lit (.int .u8 (0)), .lit (.int .u8 (0)), .lit (.int .u8 (0)), .lit (.int .u8 (0)), .lit (.int .u8 (0)), .lit (.int .u8 (0)), .lit (.int .u8 (0)), .lit (.int .u8 (0)), .lit (.int .u8 (0)), .lit (.int .u8 (0)), .lit (.int .i64 (0)), .lit (.int .u64 (0))]), (3, .box [.lit (.int .u8 ((v4.IP.getD 0 0))), .lit (.int .u8 ((v4.IP.getD 1 0))), .lit (.int .u8 ((v4.IP.getD 2 0))), .lit (.int .u8 ((v4.IP.getD 3 0))), .lit (.int .u8 ((v4.IP.getD 4 0))), .lit (.int .u8 ((v4.IP.getD 5 0))), .lit (.int .u8 ((v4.IP.getD 6 0))), .lit (.int .u8 ((v4.IP.getD 7 0))), .lit (.int .u8 ((v4.IP.getD 8 0))), .lit (.int .u8 ((v4.IP.getD 9 0))), .lit (.int .u8 ((v4.IP.getD 10 0))), .lit (.int .u8 ((v4.IP.getD 11 0))), .lit (.int .u8 ((v4.IP.getD 12 0))), .lit (.int .u8 ((v4.IP.getD 13 0))), .lit (.int .u8 ((v4.IP.getD 14 0))), .lit (.int .u8 ((v4.IP.getD 15 0))), .lit (.int .i64 (v4.Bits)), .lit (.int .u8 (0)), .lit (.int .u8 (0)), .lit (.int .u8 (0)), .lit (.int .u8 (0)), .lit (.int .u8 (0)), .lit (.int .u8 (0)), .lit (.int .u8 (0)), .lit (.int .u8 (0)), .lit (.int .u8 (0)), .lit (.int .u8 (0)), .lit (.int .u8 (0)), .lit (.int .u8 (0)), .lit (.int .u8 (0)), .lit (.int .u8 (0)), .lit (.int .u8 (0)), .lit (.int .u8 (0)), .lit (.int .i64 (0)), .lit (.int .u64 (v5.1))])]⟩) (by kernel_rfl) (by kernel_rfl) ?_
  refine TS_joinB ⟨[(2, []), (3, [])], [(1000000, (1000000, [])), (2, (2, [])), (3, (3, []))]⟩ (fun (v6 : S_multihopmade_Tape × S_Destination) => []) (fun (v6 : S_multihopmade_Tape × S_Destination) => [(1000000, .box (S_multihopmade_Tape.cs v6.1)), (3, .box (S_Destination.cs v6.2))]) (F_world_To_j1) r ?_ ?_
  · clear h
    intro v6 h
    unfold F_world_To_j1 at h
    refine TS_go 6 ?_
    have ret := Option.some.inj h
    subst ret
    exact TS_ret (by kernel_rfl) (by kernel_rfl) (by kernel_rfl)
  · refine TS_go 3 ?_
    replace h := bindO h
    obtain ⟨v7, hv7, h⟩ := h
    refine TS_con [] [] (some (1000000, 0)) (ok_made_Tape_Bool v5.2 3 v7 hv7) (by kernel_rfl) (by kernel_rfl) (by kernel_rfl) ?_
    refine TS_go 1 ?_
    replace h := condO h
    rcases h with ⟨hb8, h⟩ | ⟨hb8, h⟩
    · refine TS_know 16 (b := true) hb8 (by kernel_rfl) (by kernel_rfl) ?_
      refine TS_T (by kernel_rfl) rfl ?_
      refine TS_go 2 ?_
      replace h := bindO h
      obtain ⟨v9, hv9, h⟩ := h
      refine TS_con [] [] (some (1000000, 0)) (ok_world_Prefix v7.2 v9 hv9) (by kernel_rfl) (by kernel_rfl) (by kernel_rfl) ?_
      refine TS_go 3 ?_
      exact TS_meet (v9.2, (S_Destination.mk v4 v9.1 v5.1)) ⟨[(2, []), (3, [])], [(1000000, (1000000, [])), (2, (2, [])), (3, (3, []))]⟩ h (by kernel_rfl) (by kernel_rfl)
    · refine TS_know 16 (b := false) hb8 (by kernel_rfl) (by kernel_rfl) ?_
      refine TS_F (by kernel_rfl) rfl ?_
      refine TS_go 1 ?_
      exact TS_meet (v7.2, (S_Destination.mk v4 (S_Prefix.mk [0, 0, 0, 0, 0, 0, 0, 0, 0, 0, 0, 0, 0, 0, 0, 0] 0) v5.1)) ⟨[(2, []), (3, [])], [(1000000, (1000000, [])), (2, (2, [])), (3, (3, []))]⟩ h (by kernel_rfl) (by kernel_rfl)

/-- multihop/multihopworld.Notice -/
noncomputable def F_world_Notice_j1  (v2 : S_multihopmade_Tape × S_Notice) : Option (S_Notice × S_multihopmade_Tape) :=
  some ((v2.2, v2.1))
noncomputable def F_world_Notice (a0 : S_multihopmade_Tape) : Option (S_Notice × S_multihopmade_Tape) :=
  (F_made_Tape_Next a0 5).bind fun v1 =>
  bif ((IntKind.wrap .i64 (1 + v1.1)) == 1) then
    (F_world_Seq v1.2).bind fun v4 =>
    (F_world_Notice_j1) (v4.2, (S_Notice.mk (IntKind.wrap .i64 (1 + v1.1)) v4.1 0 0 (S_Destination.mk (S_Prefix.mk [0, 0, 0, 0, 0, 0, 0, 0, 0, 0, 0, 0, 0, 0, 0, 0] 0) (S_Prefix.mk [0, 0, 0, 0, 0, 0, 0, 0, 0, 0, 0, 0, 0, 0, 0, 0] 0) 0) 0))
  else
    bif ((IntKind.wrap .i64 (1 + v1.1)) == 2) then
      (F_world_EUI v1.2).bind fun v6 =>
      (F_world_Cost v6.2).bind fun v7 =>
      (F_made_Tape_Bool v7.2 5).bind fun v8 =>
      bif v8.1 then
        (F_made_Tape_Word v8.2).bind fun v10 =>
        (F_world_Notice_j1) (v10.2, (S_Notice.mk (IntKind.wrap .i64 (1 + v1.1)) 0 v7.1 (ior .u64 v10.1 1) (S_Destination.mk (S_Prefix.mk [0, 0, 0, 0, 0, 0, 0, 0, 0, 0, 0, 0, 0, 0, 0, 0] 0) (S_Prefix.mk [0, 0, 0, 0, 0, 0, 0, 0, 0, 0, 0, 0, 0, 0, 0, 0] 0) 0) 0))
      else
        (F_world_Notice_j1) (v8.2, (S_Notice.mk (IntKind.wrap .i64 (1 + v1.1)) 0 v7.1 v6.1 (S_Destination.mk (S_Prefix.mk [0, 0, 0, 0, 0, 0, 0, 0, 0, 0, 0, 0, 0, 0, 0, 0] 0) (S_Prefix.mk [0, 0, 0, 0, 0, 0, 0, 0, 0, 0, 0, 0, 0, 0, 0, 0] 0) 0) 0))
    else
      bif ((IntKind.wrap .i64 (1 + v1.1)) == 3) then
        (F_world_To v1.2).bind fun v12 =>
        (F_world_Seq v12.2).bind fun v13 =>
        (F_world_Cost v13.2).bind fun v14 =>
        (F_made_Tape_Bool v14.2 5).bind fun v15 =>
        bif v15.1 then
          (F_world_Notice_j1) (v15.2, (S_Notice.mk (IntKind.wrap .i64 (1 + v1.1)) v13.1 65535 0 v12.1 0))
        else
          (F_world_Notice_j1) (v15.2, (S_Notice.mk (IntKind.wrap .i64 (1 + v1.1)) v13.1 v14.1 0 v12.1 0))
      else
        bif ((IntKind.wrap .i64 (1 + v1.1)) == 4) then
          (F_world_To v1.2).bind fun v18 =>
          (F_made_Tape_Bool v18.2 3).bind fun v19 =>
          bif v19.1 then
            (F_world_Notice_j1) (v19.2, (S_Notice.mk (IntKind.wrap .i64 (1 + v1.1)) 0 0 0 (S_Destination.mk (S_Prefix.mk [0, 0, 0, 0, 0, 0, 0, 0, 0, 0, 0, 0, 0, 0, 0, 0] 0) (S_Prefix.mk [0, 0, 0, 0, 0, 0, 0, 0, 0, 0, 0, 0, 0, 0, 0, 0] 0) 0) 0))
          else
            (F_world_Notice_j1) (v19.2, (S_Notice.mk (IntKind.wrap .i64 (1 + v1.1)) 0 0 0 (S_Destination.mk v18.1.Dst v18.1.Src 0) 0))
        else
          bif ((IntKind.wrap .i64 (1 + v1.1)) == 5) then
            (F_world_To v1.2).bind fun v22 =>
            (F_world_Seq v22.2).bind fun v23 =>
            (F_made_Tape_Next v23.2 32).bind fun v24 =>
            (F_world_Notice_j1) (v24.2, (S_Notice.mk (IntKind.wrap .i64 (1 + v1.1)) v23.1 0 0 v22.1 (IntKind.wrap .i64 (1 + v24.1))))
          else
            (F_world_Notice_j1) (v1.2, (S_Notice.mk (IntKind.wrap .i64 (1 + v1.1)) 0 0 0 (S_Destination.mk (S_Prefix.mk [0, 0, 0, 0, 0, 0, 0, 0, 0, 0, 0, 0, 0, 0, 0, 0] 0) (S_Prefix.mk [0, 0, 0, 0, 0, 0, 0, 0, 0, 0, 0, 0, 0, 0, 0, 0] 0) 0) 0))
set_option maxRecDepth 100000 in
set_option maxHeartbeats 40000000 in
theorem ok_world_Notice (a0 : S_multihopmade_Tape) (r : S_Notice × S_multihopmade_Tape) (h : F_world_Notice a0 = some r) : Con Try.prog 15 [.c (.box 1000000 0)] [(1000000, .box (S_multihopmade_Tape.cs a0))] (.agg (S_Notice.cs r.1)) [(1000000, .box (S_multihopmade_Tape.cs r.2))] := by
  unfold F_world_Notice at h
  refine con_of [] [(1000000, [2])] 67 Try.func15 rfl rfl (by kernel_rfl) (fun K => ?_)
  refine TS_go 7 ?_
  replace h := bindO h
  obtain ⟨v1, hv1, h⟩ := h
  refine TS_con [] [] (some (1000000, 0)) (ok_made_Tape_Next a0 5 v1 hv1) (by kernel_rfl) (by kernel_rfl) (by kernel_rfl) ?_
  refine TS_go 5 ?_
  refine TS_cut ⟨[(0, []), (2, []), (3, [])], [(1000000, (1000000, [])), (2, (2, [])), (3, (3, []))]⟩ (.mk [.code (codeAt [1, 1] (bodyOf Try.f15))] .normal ⟨[(0, .c (.box 1000000 0)), (2, .c (.box 2 0)), (3, .c (.box 3 0))], [(1000000, .box [.slc 1 0 (List.length v1.2.l) (List.map (ecI .i64) v1.2.l), .lit (.int .i64 (v1.2.at_))]), (2, .box [.lit (.int .i64 (0)), .lit (.int .u16 (0)), .lit (.int .i64 (0)), .lit (.int .u64 (0)), .lit (.int .u8 (0)), .lit (.int .u8 (0)), .lit (.int .u8 (0)), .lit (.int .u8 (0)), .lit (.int .u8 (0)), .lit (.int .u8 (0)), .lit (.int .u8 (0)), .lit (.int .u8 (0)), .lit (.int .u8 (0)), .lit (.int .u8 (0)), .lit (.int .u8 (0)), .lit (.int .u8 (0)), .lit (.int .u8 (0)), .lit (.int .u8 (0)), .lit (.int .u8 (0)), .lit (.int .u8 (0)), .lit (.int .i64 (0)), .lit (.int .u8 (0)), .lit (.int .u8 (0)), .lit (.int .u8 (0)), .lit (.int .u8 (0)), .lit (.int .u8 (0)), .lit (.int .u8 (0)), .lit (.int .u8 (0)), .lit (.int .u8 (0)), .lit (.int .u8 (0)), .lit (.int .u8 (0)), .lit (.int .u8 (0)), .lit (.int .u8 (0)), .lit (.int .u8 (0)), .lit (.int .u8 (0)), .lit (.int .u8 (0)), .lit (.int .u8 (0)), .lit (.int .i64 (0)), .lit (.int .u64 (0)), .lit (.int .i64 (0))]), (3, .box [.lit (.int .i64 (IntKind.wrap .i64 (1 + v1.1))), .lit (.int .u16 (0)), .lit (.int .i64 (0)), .lit (.int .u64 (0)), .lit (.int .u8 (0)), .lit (.int .u8 (0)), .lit (.int .u8 (0)), .lit (.int .u8 (0)), .lit (.int .u8 (0)), .lit (.int .u8 (0)), .lit (.int .u8 (0)), .lit (.int .u8 (0)), .lit (.int .u8 (0)), .lit (.int .u8 (0)), .lit (.int .u8 (0)), .lit (.int .u8 (0)), .lit (.int .u8 (0)), .lit (.int .u8 (0)), .lit (.int .u8 (0)), .lit (.int .u8 (0)), .lit (.int .i64 (0)), .lit (.int .u8 (0)), .lit (.int .u8 (0)), .lit (.int .u8 (0)), .lit (.int .u8 (0)), .lit (.int .u8 (0)), .lit (.int .u8 (0)), .lit (.int .u8 (0)), .lit (.int .u8 (0)), .lit (.int .u8 (0)), .lit (.int .u8 (0)), .lit (.int .u8 (0)), .lit (.int .u8 (0)), .lit (.int .u8 (0)), .lit (.int .u8 (0)), .lit (.int .u8 (0)), .lit (.int .u8 (0)), .lit (.int .i64 (0)), .lit (.int .u64 (0)), .lit (.int .i64 (0))])]⟩) (by kernel_rfl) (by kernel_rfl) ?_
  refine TS_joinB ⟨[(2, []), (3, [])], [(1000000, (1000000, [])), (2, (2, [])), (3, (3, []))]⟩ (fun (v2 : S_multihopmade_Tape × S_Notice) => []) (fun (v2 : S_multihopmade_Tape × S_Notice) => [(1000000, .box (S_multihopmade_Tape.cs v2.1)), (3, .box (S_Notice.cs v2.2))]) (F_world_Notice_j1) r ?_ ?_
  · clear h
    intro v2 h
    unfold F_world_Notice_j1 at h
    refine TS_go 6 ?_
    have ret := Option.some.inj h
    subst ret
    exact TS_ret (by kernel_rfl) (by kernel_rfl) (by kernel_rfl)
  · refine TS_go 11 ?_
    replace h := condO h
    rcases h with ⟨hb3, h⟩ | ⟨hb3, h⟩
    · refine TS_know 11 (b := true) hb3 (by kernel_rfl) (by kernel_rfl) ?_
      refine TS_know 10 (b := true) hb3 (by kernel_rfl) (by kernel_rfl) ?_
      refine TS_T (by kernel_rfl) rfl ?_
      refine TS_go 2 ?_
      replace h := bindO h
      obtain ⟨v4, hv4, h⟩ := h
      refine TS_con [] [] (some (1000000, 0)) (ok_world_Seq v1.2 v4 hv4) (by kernel_rfl) (by kernel_rfl) (by kernel_rfl) ?_
      refine TS_go 4 ?_
      exact TS_meet (v4.2, (S_Notice.mk (IntKind.wrap .i64 (1 + v1.1)) v4.1 0 0 (S_Destination.mk (S_Prefix.mk [0, 0, 0, 0, 0, 0, 0, 0, 0, 0, 0, 0, 0, 0, 0, 0] 0) (S_Prefix.mk [0, 0, 0, 0, 0, 0, 0, 0, 0, 0, 0, 0, 0, 0, 0, 0] 0) 0) 0)) ⟨[(2, []), (3, [])], [(1000000, (1000000, [])), (2, (2, [])), (3, (3, []))]⟩ h (by kernel_rfl) (by kernel_rfl)
    · refine TS_know 11 (b := false) hb3 (by kernel_rfl) (by kernel_rfl) ?_
      refine TS_know 10 (b := false) hb3 (by kernel_rfl) (by kernel_rfl) ?_
      refine TS_F (by kernel_rfl) rfl ?_
      refine TS_go 5 ?_
      replace h := condO h
      rcases h with ⟨hb5, h⟩ | ⟨hb5, h⟩
      · refine TS_know 16 (b := true) hb5 (by kernel_rfl) (by kernel_rfl) ?_
        refine TS_know 15 (b := true) hb5 (by kernel_rfl) (by kernel_rfl) ?_
        refine TS_T (by kernel_rfl) rfl ?_
        refine TS_go 3 ?_
        replace h := bindO h
        obtain ⟨v6, hv6, h⟩ := h
        refine TS_con [] [] (some (1000000, 0)) (ok_world_EUI v1.2 v6 hv6) (by kernel_rfl) (by kernel_rfl) (by kernel_rfl) ?_
        refine TS_go 1 ?_
        replace h := bindO h
        obtain ⟨v7, hv7, h⟩ := h
        refine TS_con [] [] (some (1000000, 0)) (ok_world_Cost v6.2 v7 hv7) (by kernel_rfl) (by kernel_rfl) (by kernel_rfl) ?_
        refine TS_go 8 ?_
        replace h := bindO h
        obtain ⟨v8, hv8, h⟩ := h
        refine TS_con [] [] (some (1000000, 0)) (ok_made_Tape_Bool v7.2 5 v8 hv8) (by kernel_rfl) (by kernel_rfl) (by kernel_rfl) ?_
        refine TS_go 1 ?_
        replace h := condO h
        rcases h with ⟨hb9, h⟩ | ⟨hb9, h⟩
        · refine TS_know 24 (b := true) hb9 (by kernel_rfl) (by kernel_rfl) ?_
          refine TS_T (by kernel_rfl) rfl ?_
          refine TS_go 2 ?_
          replace h := bindO h
          obtain ⟨v10, hv10, h⟩ := h
          refine TS_con [] [] (some (1000000, 0)) (ok_made_Tape_Word v8.2 v10 hv10) (by kernel_rfl) (by kernel_rfl) (by kernel_rfl) ?_
          refine TS_go 5 ?_
          exact TS_meet (v10.2, (S_Notice.mk (IntKind.wrap .i64 (1 + v1.1)) 0 v7.1 (ior .u64 v10.1 1) (S_Destination.mk (S_Prefix.mk [0, 0, 0, 0, 0, 0, 0, 0, 0, 0, 0, 0, 0, 0, 0, 0] 0) (S_Prefix.mk [0, 0, 0, 0, 0, 0, 0, 0, 0, 0, 0, 0, 0, 0, 0, 0] 0) 0) 0)) ⟨[(2, []), (3, [])], [(1000000, (1000000, [])), (2, (2, [])), (3, (3, []))]⟩ h (by kernel_rfl) (by kernel_rfl)
        · refine TS_know 24 (b := false) hb9 (by kernel_rfl) (by kernel_rfl) ?_
          refine TS_F (by kernel_rfl) rfl ?_
          refine TS_go 2 ?_
          exact TS_meet (v8.2, (S_Notice.mk (IntKind.wrap .i64 (1 + v1.1)) 0 v7.1 v6.1 (S_Destination.mk (S_Prefix.mk [0, 0, 0, 0, 0, 0, 0, 0, 0, 0, 0, 0, 0, 0, 0, 0] 0) (S_Prefix.mk [0, 0, 0, 0, 0, 0, 0, 0, 0, 0, 0, 0, 0, 0, 0, 0] 0) 0) 0)) ⟨[(2, []), (3, [])], [(1000000, (1000000, [])), (2, (2, [])), (3, (3, []))]⟩ h (by kernel_rfl) (by kernel_rfl)
      · refine TS_know 16 (b := false) hb5 (by kernel_rfl) (by kernel_rfl) ?_
        refine TS_know 15 (b := false) hb5 (by kernel_rfl) (by kernel_rfl) ?_
        refine TS_F (by kernel_rfl) rfl ?_
        refine TS_go 5 ?_
        replace h := condO h
        rcases h with ⟨hb11, h⟩ | ⟨hb11, h⟩
        · refine TS_know 30 (b := true) hb11 (by kernel_rfl) (by kernel_rfl) ?_
          refine TS_know 29 (b := true) hb11 (by kernel_rfl) (by kernel_rfl) ?_
          refine TS_T (by kernel_rfl) rfl ?_
          refine TS_go 3 ?_
          replace h := bindO h
          obtain ⟨v12, hv12, h⟩ := h
          refine TS_con [] [] (some (1000000, 0)) (ok_world_To v1.2 v12 hv12) (by kernel_rfl) (by kernel_rfl) (by kernel_rfl) ?_
          refine TS_go 1 ?_
          replace h := bindO h
          obtain ⟨v13, hv13, h⟩ := h
          refine TS_con [] [] (some (1000000, 0)) (ok_world_Seq v12.2 v13 hv13) (by kernel_rfl) (by kernel_rfl) (by kernel_rfl) ?_
          refine TS_go 1 ?_
          replace h := bindO h
          obtain ⟨v14, hv14, h⟩ := h
          refine TS_con [] [] (some (1000000, 0)) (ok_world_Cost v13.2 v14 hv14) (by kernel_rfl) (by kernel_rfl) (by kernel_rfl) ?_
          refine TS_go 10 ?_
          replace h := bindO h
          obtain ⟨v15, hv15, h⟩ := h
          refine TS_con [] [] (some (1000000, 0)) (ok_made_Tape_Bool v14.2 5 v15 hv15) (by kernel_rfl) (by kernel_rfl) (by kernel_rfl) ?_
          refine TS_go 1 ?_
          replace h := condO h
          rcases h with ⟨hb16, h⟩ | ⟨hb16, h⟩
          · refine TS_know 41 (b := true) hb16 (by kernel_rfl) (by kernel_rfl) ?_
            refine TS_T (by kernel_rfl) rfl ?_
            refine TS_go 5 ?_
            exact TS_meet (v15.2, (S_Notice.mk (IntKind.wrap .i64 (1 + v1.1)) v13.1 65535 0 v12.1 0)) ⟨[(2, []), (3, [])], [(1000000, (1000000, [])), (2, (2, [])), (3, (3, []))]⟩ h (by kernel_rfl) (by kernel_rfl)
          · refine TS_know 41 (b := false) hb16 (by kernel_rfl) (by kernel_rfl) ?_
            refine TS_F (by kernel_rfl) rfl ?_
            refine TS_go 2 ?_
            exact TS_meet (v15.2, (S_Notice.mk (IntKind.wrap .i64 (1 + v1.1)) v13.1 v14.1 0 v12.1 0)) ⟨[(2, []), (3, [])], [(1000000, (1000000, [])), (2, (2, [])), (3, (3, []))]⟩ h (by kernel_rfl) (by kernel_rfl)
        · refine TS_know 30 (b := false) hb11 (by kernel_rfl) (by kernel_rfl) ?_
          refine TS_know 29 (b := false) hb11 (by kernel_rfl) (by kernel_rfl) ?_
          refine TS_F (by kernel_rfl) rfl ?_
          refine TS_go 5 ?_
          replace h := condO h
          rcases h with ⟨hb17, h⟩ | ⟨hb17, h⟩
          · refine TS_know 44 (b := true) hb17 (by kernel_rfl) (by kernel_rfl) ?_
            refine TS_know 43 (b := true) hb17 (by kernel_rfl) (by kernel_rfl) ?_
            refine TS_T (by kernel_rfl) rfl ?_
            refine TS_go 3 ?_
            replace h := bindO h
            obtain ⟨v18, hv18, h⟩ := h
            refine TS_con [] [] (some (1000000, 0)) (ok_world_To v1.2 v18 hv18) (by kernel_rfl) (by kernel_rfl) (by kernel_rfl) ?_
            refine TS_go 12 ?_
            replace h := bindO h
            obtain ⟨v19, hv19, h⟩ := h
            refine TS_con [] [] (some (1000000, 0)) (ok_made_Tape_Bool v18.2 3 v19 hv19) (by kernel_rfl) (by kernel_rfl) (by kernel_rfl) ?_
            refine TS_go 1 ?_
            replace h := condO h
            rcases h with ⟨hb20, h⟩ | ⟨hb20, h⟩
            · refine TS_know 51 (b := true) hb20 (by kernel_rfl) (by kernel_rfl) ?_
              refine TS_T (by kernel_rfl) rfl ?_
              refine TS_go 6 ?_
              exact TS_meet (v19.2, (S_Notice.mk (IntKind.wrap .i64 (1 + v1.1)) 0 0 0 (S_Destination.mk (S_Prefix.mk [0, 0, 0, 0, 0, 0, 0, 0, 0, 0, 0, 0, 0, 0, 0, 0] 0) (S_Prefix.mk [0, 0, 0, 0, 0, 0, 0, 0, 0, 0, 0, 0, 0, 0, 0, 0] 0) 0) 0)) ⟨[(2, []), (3, [])], [(1000000, (1000000, [])), (2, (2, [])), (3, (3, []))]⟩ h (by kernel_rfl) (by kernel_rfl)
            · refine TS_know 51 (b := false) hb20 (by kernel_rfl) (by kernel_rfl) ?_
              refine TS_F (by kernel_rfl) rfl ?_
              refine TS_go 2 ?_
              exact TS_meet (v19.2, (S_Notice.mk (IntKind.wrap .i64 (1 + v1.1)) 0 0 0 (S_Destination.mk v18.1.Dst v18.1.Src 0) 0)) ⟨[(2, []), (3, [])], [(1000000, (1000000, [])), (2, (2, [])), (3, (3, []))]⟩ h (by kernel_rfl) (by kernel_rfl)
          · refine TS_know 44 (b := false) hb17 (by kernel_rfl) (by kernel_rfl) ?_
            refine TS_know 43 (b := false) hb17 (by kernel_rfl) (by kernel_rfl) ?_
            refine TS_F (by kernel_rfl) rfl ?_
            refine TS_go 5 ?_
            replace h := condO h
            rcases h with ⟨hb21, h⟩ | ⟨hb21, h⟩
            · refine TS_know 55 (b := true) hb21 (by kernel_rfl) (by kernel_rfl) ?_
              refine TS_know 54 (b := true) hb21 (by kernel_rfl) (by kernel_rfl) ?_
              refine TS_T (by kernel_rfl) rfl ?_
              refine TS_go 2 ?_
              replace h := bindO h
              obtain ⟨v22, hv22, h⟩ := h
              refine TS_con [] [] (some (1000000, 0)) (ok_world_To v1.2 v22 hv22) (by kernel_rfl) (by kernel_rfl) (by kernel_rfl) ?_
              refine TS_go 1 ?_
              replace h := bindO h
              obtain ⟨v23, hv23, h⟩ := h
              refine TS_con [] [] (some (1000000, 0)) (ok_world_Seq v22.2 v23 hv23) (by kernel_rfl) (by kernel_rfl) (by kernel_rfl) ?_
              refine TS_go 1 ?_
              replace h := bindO h
              obtain ⟨v24, hv24, h⟩ := h
              refine TS_con [] [] (some (1000000, 0)) (ok_made_Tape_Next v23.2 32 v24 hv24) (by kernel_rfl) (by kernel_rfl) (by kernel_rfl) ?_
              refine TS_go 9 ?_
              exact TS_meet (v24.2, (S_Notice.mk (IntKind.wrap .i64 (1 + v1.1)) v23.1 0 0 v22.1 (IntKind.wrap .i64 (1 + v24.1)))) ⟨[(2, []), (3, [])], [(1000000, (1000000, [])), (2, (2, [])), (3, (3, []))]⟩ h (by kernel_rfl) (by kernel_rfl)
            · refine TS_know 55 (b := false) hb21 (by kernel_rfl) (by kernel_rfl) ?_
              refine TS_know 54 (b := false) hb21 (by kernel_rfl) (by kernel_rfl) ?_
              refine TS_F (by kernel_rfl) rfl ?_
              refine TS_go 2 ?_
              exact TS_meet (v1.2, (S_Notice.mk (IntKind.wrap .i64 (1 + v1.1)) 0 0 0 (S_Destination.mk (S_Prefix.mk [0, 0, 0, 0, 0, 0, 0, 0, 0, 0, 0, 0, 0, 0, 0, 0] 0) (S_Prefix.mk [0, 0, 0, 0, 0, 0, 0, 0, 0, 0, 0, 0, 0, 0, 0, 0] 0) 0) 0)) ⟨[(2, []), (3, [])], [(1000000, (1000000, [])), (2, (2, [])), (3, (3, []))]⟩ h (by kernel_rfl) (by kernel_rfl)

/-- multihop/multihopworld.Notices -/
noncomputable def F_world_Notices_l1  (s2 : (List S_Notice) × Int × S_multihopmade_Tape) : Option (((List S_Notice) × Int × S_multihopmade_Tape) ⊕ ((List S_Notice) × S_multihopmade_Tape)) :=
  bif (decide (s2.2.1 > 0)) then
    (F_world_Notice s2.2.2).bind fun v6 =>
    (appO 96 s2.1 (Cut.app .whole ([v6.1] : List S_Notice))).bind fun l7 =>
    some (Sum.inl (l7, IntKind.wrap .i64 (s2.2.1 - 1), v6.2))
  else
    some (Sum.inr (s2.1, s2.2.2))
noncomputable def F_world_Notices (a0 : S_multihopmade_Tape) (a1 : Int) : Option ((List S_Notice) × S_multihopmade_Tape) :=
  (F_made_Tape_Next a0 (IntKind.wrap .i64 (a1 + 1))).bind fun v1 =>
  (loopO (F_world_Notices_l1) (([] : List S_Notice), v1.1, v1.2)).bind fun b3 =>
  some ((b3.1, b3.2))
set_option maxRecDepth 100000 in
set_option maxHeartbeats 40000000 in
theorem okT_world_Notices (a0 : S_multihopmade_Tape) (a1 : Int) (r : (List S_Notice) × S_multihopmade_Tape) (h : F_world_Notices a0 a1 = some r) : Con Try.prog 12 [.c (.box 1000000 0), .c (.lit (.int .i64 (a1)))] [(1000000, .box (S_multihopmade_Tape.cs a0))] (.c (.slc 40 900002 (List.length r.1) (List.map S_Notice.cs r.1))) [(1000000, .box (S_multihopmade_Tape.cs r.2)), (900000, .spare 39 40 (List.length r.1))] := by
  unfold F_world_Notices at h
  refine con_of [] [(1000000, [2]), (900000, [])] 21 Try.func12 rfl rfl (by kernel_rfl) (fun K => ?_)
  refine TS_go 14 ?_
  replace h := bindO h
  obtain ⟨v1, hv1, h⟩ := h
  refine TS_con [] [] (some (1000000, 0)) (ok_made_Tape_Next a0 (IntKind.wrap .i64 (a1 + 1)) v1 hv1) (by kernel_rfl) (by kernel_rfl) (by kernel_rfl) ?_
  refine TS_go 3 ?_
  refine TS_nilT 5 600000 39 40 (by kernel_rfl) ?_
  refine TS_cut ⟨[(0, []), (5, []), (6, [])], [(1000000, (1000000, [])), (600000, (600000, []))]⟩ (.mk [.code (codeAt [1, 1, 0, 1, 0] (bodyOf Try.f12)), .blk 0, .code (codeAt [1, 1, 1] (bodyOf Try.f12))] .normal ⟨[(0, .c (.box 1000000 0)), (5, .c (.slc 40 600002 (List.length ([] : List S_Notice)) (List.map S_Notice.cs ([] : List S_Notice)))), (6, .c (.lit (.int .i64 (v1.1))))], [(1000000, .box [.slc 1 0 (List.length v1.2.l) (List.map (ecI .i64) v1.2.l), .lit (.int .i64 (v1.2.at_))]), (600000, .spare 39 40 (List.length ([] : List S_Notice)))]⟩) (by kernel_rfl) (by kernel_rfl) ?_
  replace h := bindO h
  obtain ⟨y4, hl1, hK1⟩ := h
  refine TS_loopB (F_world_Notices_l1) ⟨[(0, []), (5, []), (6, [])], [(1000000, (1000000, [])), (600000, (600000, []))]⟩ (fun (s2 : (List S_Notice) × Int × S_multihopmade_Tape) => [(5, .c (.slc 40 600002 (List.length s2.1) (List.map S_Notice.cs s2.1))), (6, .c (.lit (.int .i64 (s2.2.1))))]) (fun (s2 : (List S_Notice) × Int × S_multihopmade_Tape) => [(1000000, .box (S_multihopmade_Tape.cs s2.2.2)), (600000, .spare 39 40 (List.length s2.1))]) (([] : List S_Notice), v1.1, v1.2) y4 (.exit 0) (fun (b : (List S_Notice) × S_multihopmade_Tape) => b) ⟨[(5, [])], [(1000000, (1000000, [])), (600000, (600000, []))]⟩ (fun (b3 : (List S_Notice) × S_multihopmade_Tape) => [(5, .c (.slc 40 600002 (List.length b3.1) (List.map S_Notice.cs b3.1)))]) (fun (b3 : (List S_Notice) × S_multihopmade_Tape) => [(1000000, .box (S_multihopmade_Tape.cs b3.2)), (600000, .spare 39 40 (List.length b3.1))]) hl1 (by kernel_rfl) (by kernel_rfl) ?_ ?_
  · intro s2 x h hy1
    unfold F_world_Notices_l1 at h
    refine TS_go 6 ?_
    replace h := condO h
    rcases h with ⟨hb5, h⟩ | ⟨hb5, h⟩
    · refine TS_know 12 (b := true) hb5 (by kernel_rfl) (by kernel_rfl) ?_
      refine TS_T (by kernel_rfl) rfl ?_
      refine TS_go 6 ?_
      replace h := bindO h
      obtain ⟨v6, hv6, h⟩ := h
      refine TS_con [] [] (some (1000000, 0)) (ok_world_Notice s2.2.2 v6 hv6) (by kernel_rfl) (by kernel_rfl) (by kernel_rfl) ?_
      refine TS_litNT 18 39 40 S_Notice.cs [] ([v6.1] : List S_Notice) (by kernel_rfl) (by kernel_rfl) ?_
      replace h := bindO h
      obtain ⟨_l7, hl7, h⟩ := h
      refine TS_appT (d := 600000) (e := 39) (sz := 40) (N := List.length s2.1) S_Notice.cs (fun _ => by kernel_rfl) (l1 := s2.1) (l2 := ([v6.1] : List S_Notice)) (c := .whole) hl7 (by kernel_rfl) (by kernel_rfl) ?_
      refine TS_go 8 ?_
      have ret := Option.some.inj h
      subst ret
      exact TS_againB _ ⟨[(0, []), (5, []), (6, [])], [(1000000, (1000000, [])), (600000, (600000, []))]⟩ rfl (by kernel_rfl) (by kernel_rfl)
    · refine TS_know 12 (b := false) hb5 (by kernel_rfl) (by kernel_rfl) ?_
      refine TS_F (by kernel_rfl) rfl ?_
      refine TS_go 2 ?_
      have ret := Option.some.inj h
      subst ret
      exact TS_brkB (s2.1, s2.2.2) ⟨[(5, [])], [(1000000, (1000000, [])), (600000, (600000, []))]⟩ rfl (by kernel_rfl) (by kernel_rfl) (by kernel_rfl)
  · intro b3 hb
    subst y4
    have h := hK1
    refine TS_go 6 ?_
    refine TS_fitU ⟨[(4, [])], [(600000, (900000, [])), (1000000, (1000000, []))]⟩ (by kernel_rfl) ?_
    refine TS_go 1 ?_
    have ret := Option.some.inj h
    subst ret
    exact TS_ret (by kernel_rfl) (by kernel_rfl) (by kernel_rfl)
/-- multihop/multihopref24.Valid -/
noncomputable def F_ref24_Valid (a0 : Int) : Option (Bool) :=
  bif (decide (a0 ≥ 0)) then
    some ((decide (a0 ≤ 65535)))
  else
    some (false)
set_option maxRecDepth 100000 in
set_option maxHeartbeats 40000000 in
theorem ok_ref24_Valid (a0 : Int) (r : Bool) (h : F_ref24_Valid a0 = some r) : Con Try.prog 41 [.c (.lit (.int .i64 (a0)))] [] (.c (.lit (.bool (r)))) [] := by
  unfold F_ref24_Valid at h
  refine con_of [] [] 9 Try.func41 rfl rfl (by kernel_rfl) (fun K => ?_)
  refine TS_go 9 ?_
  replace h := condO h
  rcases h with ⟨hb1, h⟩ | ⟨hb1, h⟩
  · refine TS_know 4 (b := true) hb1 (by kernel_rfl) (by kernel_rfl) ?_
    refine TS_know 5 (b := true) hb1 (by kernel_rfl) (by kernel_rfl) ?_
    refine TS_go 6 ?_
    have ret := Option.some.inj h
    subst ret
    exact TS_ret (by kernel_rfl) (by kernel_rfl) (by kernel_rfl)
  · refine TS_know 4 (b := false) hb1 (by kernel_rfl) (by kernel_rfl) ?_
    refine TS_know 5 (b := false) hb1 (by kernel_rfl) (by kernel_rfl) ?_
    refine TS_go 6 ?_
    have ret := Option.some.inj h
    subst ret
    exact TS_ret (by kernel_rfl) (by kernel_rfl) (by kernel_rfl)

/-- multihop/multihopref04.ValidPrefix -/
noncomputable def F_ref04_ValidPrefix_l1 (a0 : S_Prefix) (s3 : Int) : Option ((Int) ⊕ ((Unit) ⊕ (Bool))) :=
  bif (decide (s3 < 128)) then
    (F_ref04_bit a0.IP s3).bind fun v7 =>
    bif (v7 != 0) then
      some (Sum.inr (Sum.inr false))
    else
      some (Sum.inl (IntKind.wrap .i64 (s3 + 1)))
  else
    some (Sum.inr (Sum.inl ()))
noncomputable def F_ref04_ValidPrefix (a0 : S_Prefix) : Option (Bool) :=
  bif (decide (a0.Bits < 0)) then
    some (false)
  else
    bif (decide (a0.Bits > 128)) then
      some (false)
    else
      (loopO (F_ref04_ValidPrefix_l1 a0) a0.Bits).bind (Sum.elim (fun b4 =>
        some (true)
      ) (fun w9 => some w9))
set_option maxRecDepth 100000 in
set_option maxHeartbeats 40000000 in
theorem ok_ref04_ValidPrefix (a0 : S_Prefix) (r : Bool) (h : F_ref04_ValidPrefix a0 = some r) : Con Try.prog 43 [.agg (S_Prefix.cs a0)] [] (.c (.lit (.bool (r)))) [] := by
  unfold F_ref04_ValidPrefix at h
  refine con_of [] [] 23 Try.func43 rfl rfl (by kernel_rfl) (fun K => ?_)
  refine TS_go 12 ?_
  replace h := condO h
  rcases h with ⟨hb1, h⟩ | ⟨hb1, h⟩
  · refine TS_know 6 (b := true) hb1 (by kernel_rfl) (by kernel_rfl) ?_
    refine TS_know 7 (b := true) hb1 (by kernel_rfl) (by kernel_rfl) ?_
    refine TS_go 5 ?_
    refine TS_T (by kernel_rfl) rfl ?_
    refine TS_go 6 ?_
    have ret := Option.some.inj h
    subst ret
    exact TS_ret (by kernel_rfl) (by kernel_rfl) (by kernel_rfl)
  · refine TS_know 6 (b := false) hb1 (by kernel_rfl) (by kernel_rfl) ?_
    refine TS_know 7 (b := false) hb1 (by kernel_rfl) (by kernel_rfl) ?_
    refine TS_go 5 ?_
    replace h := condO h
    rcases h with ⟨hb2, h⟩ | ⟨hb2, h⟩
    · refine TS_know 10 (b := true) hb2 (by kernel_rfl) (by kernel_rfl) ?_
      refine TS_know 11 (b := true) hb2 (by kernel_rfl) (by kernel_rfl) ?_
      refine TS_T (by kernel_rfl) rfl ?_
      refine TS_go 6 ?_
      have ret := Option.some.inj h
      subst ret
      exact TS_ret (by kernel_rfl) (by kernel_rfl) (by kernel_rfl)
    · refine TS_know 10 (b := false) hb2 (by kernel_rfl) (by kernel_rfl) ?_
      refine TS_know 11 (b := false) hb2 (by kernel_rfl) (by kernel_rfl) ?_
      refine TS_F (by kernel_rfl) rfl ?_
      refine TS_go 9 ?_
      refine TS_cut ⟨[(1, []), (3, [])], [(1, (1, []))]⟩ (.mk [.code (codeAt [1, 1, 0, 1, 0] (bodyOf Try.f43)), .blk 0, .code (codeAt [1, 1, 1] (bodyOf Try.f43))] .normal ⟨[(1, .c (.box 1 0)), (3, .c (.lit (.int .i64 (a0.Bits))))], [(1, .box [.lit (.int .u8 ((a0.IP.getD 0 0))), .lit (.int .u8 ((a0.IP.getD 1 0))), .lit (.int .u8 ((a0.IP.getD 2 0))), .lit (.int .u8 ((a0.IP.getD 3 0))), .lit (.int .u8 ((a0.IP.getD 4 0))), .lit (.int .u8 ((a0.IP.getD 5 0))), .lit (.int .u8 ((a0.IP.getD 6 0))), .lit (.int .u8 ((a0.IP.getD 7 0))), .lit (.int .u8 ((a0.IP.getD 8 0))), .lit (.int .u8 ((a0.IP.getD 9 0))), .lit (.int .u8 ((a0.IP.getD 10 0))), .lit (.int .u8 ((a0.IP.getD 11 0))), .lit (.int .u8 ((a0.IP.getD 12 0))), .lit (.int .u8 ((a0.IP.getD 13 0))), .lit (.int .u8 ((a0.IP.getD 14 0))), .lit (.int .u8 ((a0.IP.getD 15 0))), .lit (.int .i64 (a0.Bits))])]⟩) (by kernel_rfl) (by kernel_rfl) ?_
      replace h := bindO h
      obtain ⟨y5, hl1, hK1⟩ := h
      refine TS_loopB (F_ref04_ValidPrefix_l1 a0) ⟨[(1, []), (3, [])], [(1, (1, []))]⟩ (fun (s3 : Int) => [(3, .c (.lit (.int .i64 (s3))))]) (fun (s3 : Int) => []) a0.Bits y5 (.exit 0) (fun (b : Unit) => (Sum.inl b : (Unit) ⊕ (Bool))) ⟨[], []⟩ (fun (b4 : Unit) => []) (fun (b4 : Unit) => []) hl1 (by kernel_rfl) (by kernel_rfl) ?_ ?_
      · intro s3 x h hy1
        unfold F_ref04_ValidPrefix_l1 at h
        refine TS_go 6 ?_
        replace h := condO h
        rcases h with ⟨hb6, h⟩ | ⟨hb6, h⟩
        · refine TS_know 15 (b := true) hb6 (by kernel_rfl) (by kernel_rfl) ?_
          refine TS_T (by kernel_rfl) rfl ?_
          refine TS_go 8 ?_
          replace h := bindO h
          obtain ⟨v7, hv7, h⟩ := h
          refine TS_call [] (ok_ref04_bit a0.IP s3 v7 hv7) (by kernel_rfl) (by kernel_rfl) ?_
          refine TS_go 2 ?_
          replace h := condO h
          rcases h with ⟨hb8, h⟩ | ⟨hb8, h⟩
          · refine TS_know 22 (b := true) hb8 (by kernel_rfl) (by kernel_rfl) ?_
            refine TS_T (by kernel_rfl) rfl ?_
            refine TS_go 7 ?_
            have ret := Option.some.inj h
            subst ret
            have hy1q := hy1 _ rfl
            subst hy1q
            replace h := (elimR hK1)
            refine TS_retB rfl (by kernel_rfl) ?_
            refine TS_go 2 ?_
            have ret := Option.some.inj h
            subst ret
            exact TS_ret (by kernel_rfl) (by kernel_rfl) (by kernel_rfl)
          · refine TS_know 22 (b := false) hb8 (by kernel_rfl) (by kernel_rfl) ?_
            refine TS_F (by kernel_rfl) rfl ?_
            refine TS_go 7 ?_
            have ret := Option.some.inj h
            subst ret
            exact TS_againB _ ⟨[(1, []), (3, [])], [(1, (1, []))]⟩ rfl (by kernel_rfl) (by kernel_rfl)
        · refine TS_know 15 (b := false) hb6 (by kernel_rfl) (by kernel_rfl) ?_
          refine TS_F (by kernel_rfl) rfl ?_
          refine TS_go 2 ?_
          have ret := Option.some.inj h
          subst ret
          exact TS_brkB () ⟨[], []⟩ rfl (by kernel_rfl) (by kernel_rfl) (by kernel_rfl)
      · intro b4 hb
        subst y5
        have h := elimL hK1
        refine TS_go 6 ?_
        have ret := Option.some.inj h
        subst ret
        exact TS_ret (by kernel_rfl) (by kernel_rfl) (by kernel_rfl)

/-- multihop/multihopref26.ValidTo -/
noncomputable def F_ref26_ValidTo (a0 : S_Destination) : Option (Bool) :=
  (F_ref04_ValidPrefix a0.Dst).bind fun v1 =>
  bif v1 then
    (F_ref04_ValidPrefix a0.Src).bind fun v3 =>
    bif v3 then
      some ((a0.Router != 0))
    else
      some (false)
  else
    some (false)
set_option maxRecDepth 100000 in
set_option maxHeartbeats 40000000 in
theorem ok_ref26_ValidTo (a0 : S_Destination) (r : Bool) (h : F_ref26_ValidTo a0 = some r) : Con Try.prog 42 [.agg (S_Destination.cs a0)] [] (.c (.lit (.bool (r)))) [] := by
  unfold F_ref26_ValidTo at h
  refine con_of [] [] 16 Try.func42 rfl rfl (by kernel_rfl) (fun K => ?_)
  refine TS_go 9 ?_
  replace h := bindO h
  obtain ⟨v1, hv1, h⟩ := h
  refine TS_call [] (ok_ref04_ValidPrefix a0.Dst v1 hv1) (by kernel_rfl) (by kernel_rfl) ?_
  refine TS_go 1 ?_
  replace h := condO h
  rcases h with ⟨hb2, h⟩ | ⟨hb2, h⟩
  · subst hb2
    refine TS_go 2 ?_
    replace h := bindO h
    obtain ⟨v3, hv3, h⟩ := h
    refine TS_call [] (ok_ref04_ValidPrefix a0.Src v3 hv3) (by kernel_rfl) (by kernel_rfl) ?_
    refine TS_go 2 ?_
    replace h := condO h
    rcases h with ⟨hb4, h⟩ | ⟨hb4, h⟩
    · subst hb4
      refine TS_go 7 ?_
      have ret := Option.some.inj h
      subst ret
      exact TS_ret (by kernel_rfl) (by kernel_rfl) (by kernel_rfl)
    · subst hb4
      refine TS_go 7 ?_
      have ret := Option.some.inj h
      subst ret
      exact TS_ret (by kernel_rfl) (by kernel_rfl) (by kernel_rfl)
  · subst hb2
    refine TS_go 12 ?_
    have ret := Option.some.inj h
    subst ret
    exact TS_ret (by kernel_rfl) (by kernel_rfl) (by kernel_rfl)

/-- multihop/multihopref29.Valid -/
noncomputable def F_ref29_Valid (a0 : S_Notice) : Option (Bool) :=
  bif (a0.Kind == 1) then
    some ((S_Notice.eqb a0 (S_Notice.mk a0.Kind a0.Seq 0 0 (S_Destination.mk (S_Prefix.mk [0, 0, 0, 0, 0, 0, 0, 0, 0, 0, 0, 0, 0, 0, 0, 0] 0) (S_Prefix.mk [0, 0, 0, 0, 0, 0, 0, 0, 0, 0, 0, 0, 0, 0, 0, 0] 0) 0) 0)))
  else
    bif (a0.Kind == 2) then
      bif (S_Notice.eqb a0 (S_Notice.mk a0.Kind 0 a0.Metric a0.Neighbour (S_Destination.mk (S_Prefix.mk [0, 0, 0, 0, 0, 0, 0, 0, 0, 0, 0, 0, 0, 0, 0, 0] 0) (S_Prefix.mk [0, 0, 0, 0, 0, 0, 0, 0, 0, 0, 0, 0, 0, 0, 0, 0] 0) 0) 0)) then
        bif (a0.Neighbour != 0) then
          (F_ref24_Valid a0.Metric).bind fun v5 =>
          some (v5)
        else
          some (false)
      else
        some (false)
    else
      bif (a0.Kind == 3) then
        bif (S_Notice.eqb a0 (S_Notice.mk a0.Kind a0.Seq a0.Metric 0 a0.To 0)) then
          (F_ref26_ValidTo a0.To).bind fun v8 =>
          bif v8 then
            (F_ref24_Valid a0.Metric).bind fun v10 =>
            some (v10)
          else
            some (false)
        else
          some (false)
      else
        bif (a0.Kind == 4) then
          bif (S_Notice.eqb a0 (S_Notice.mk a0.Kind 0 0 0 a0.To 0)) then
            bif (a0.To.Router == 0) then
              (F_ref04_ValidPrefix a0.To.Dst).bind fun v14 =>
              bif v14 then
                (F_ref04_ValidPrefix a0.To.Src).bind fun v16 =>
                some (v16)
              else
                some (false)
            else
              some (false)
          else
            some (false)
        else
          bif (a0.Kind == 5) then
            bif (S_Notice.eqb a0 (S_Notice.mk a0.Kind a0.Seq 0 0 a0.To a0.Hops)) then
              (F_ref26_ValidTo a0.To).bind fun v19 =>
              bif v19 then
                bif (decide (a0.Hops ≥ 1)) then
                  some ((decide (a0.Hops ≤ 32)))
                else
                  some (false)
              else
                some (false)
            else
              some (false)
          else
            some (false)
set_option maxRecDepth 100000 in
set_option maxHeartbeats 40000000 in
theorem ok_ref29_Valid (a0 : S_Notice) (r : Bool) (h : F_ref29_Valid a0 = some r) : Con Try.prog 17 [.agg (S_Notice.cs a0)] [] (.c (.lit (.bool (r)))) [] := by
  unfold F_ref29_Valid at h
  refine con_of [] [] 117 Try.func17 rfl rfl (by kernel_rfl) (fun K => ?_)
  refine TS_go 23 ?_
  replace h := condO h
  rcases h with ⟨hb1, h⟩ | ⟨hb1, h⟩
  · refine TS_know 8 (b := true) hb1 (by kernel_rfl) (by kernel_rfl) ?_
    refine TS_know 7 (b := true) hb1 (by kernel_rfl) (by kernel_rfl) ?_
    refine TS_T (by kernel_rfl) rfl ?_
    refine TS_go 14 ?_
    have ret := Option.some.inj h
    subst ret
    exact TS_ret (by kernel_rfl) (by kernel_rfl) (by kernel_rfl)
  · refine TS_know 8 (b := false) hb1 (by kernel_rfl) (by kernel_rfl) ?_
    refine TS_know 7 (b := false) hb1 (by kernel_rfl) (by kernel_rfl) ?_
    refine TS_F (by kernel_rfl) rfl ?_
    refine TS_go 5 ?_
    replace h := condO h
    rcases h with ⟨hb2, h⟩ | ⟨hb2, h⟩
    · refine TS_know 17 (b := true) hb2 (by kernel_rfl) (by kernel_rfl) ?_
      refine TS_know 16 (b := true) hb2 (by kernel_rfl) (by kernel_rfl) ?_
      refine TS_T (by kernel_rfl) rfl ?_
      refine TS_go 12 ?_
      replace h := condO h
      rcases h with ⟨hb3, h⟩ | ⟨hb3, h⟩
      · refine TS_know 26 (b := true) hb3 (by kernel_rfl) (by kernel_rfl) ?_
        refine TS_know 27 (b := true) hb3 (by kernel_rfl) (by kernel_rfl) ?_
        refine TS_go 5 ?_
        replace h := condO h
        rcases h with ⟨hb4, h⟩ | ⟨hb4, h⟩
        · refine TS_know 30 (b := true) hb4 (by kernel_rfl) (by kernel_rfl) ?_
          refine TS_know 31 (b := true) hb4 (by kernel_rfl) (by kernel_rfl) ?_
          refine TS_know 32 (b := true) hb4 (by kernel_rfl) (by kernel_rfl) ?_
          refine TS_go 2 ?_
          replace h := bindO h
          obtain ⟨v5, hv5, h⟩ := h
          refine TS_call [] (ok_ref24_Valid a0.Metric v5 hv5) (by kernel_rfl) (by kernel_rfl) ?_
          refine TS_go 6 ?_
          have ret := Option.some.inj h
          subst ret
          exact TS_ret (by kernel_rfl) (by kernel_rfl) (by kernel_rfl)
        · refine TS_know 30 (b := false) hb4 (by kernel_rfl) (by kernel_rfl) ?_
          refine TS_know 31 (b := false) hb4 (by kernel_rfl) (by kernel_rfl) ?_
          refine TS_know 32 (b := false) hb4 (by kernel_rfl) (by kernel_rfl) ?_
          refine TS_go 9 ?_
          have ret := Option.some.inj h
          subst ret
          exact TS_ret (by kernel_rfl) (by kernel_rfl) (by kernel_rfl)
      · refine TS_know 26 (b := false) hb3 (by kernel_rfl) (by kernel_rfl) ?_
        refine TS_know 27 (b := false) hb3 (by kernel_rfl) (by kernel_rfl) ?_
        refine TS_go 14 ?_
        have ret := Option.some.inj h
        subst ret
        exact TS_ret (by kernel_rfl) (by kernel_rfl) (by kernel_rfl)
    · refine TS_know 17 (b := false) hb2 (by kernel_rfl) (by kernel_rfl) ?_
      refine TS_know 16 (b := false) hb2 (by kernel_rfl) (by kernel_rfl) ?_
      refine TS_F (by kernel_rfl) rfl ?_
      refine TS_go 5 ?_
      replace h := condO h
      rcases h with ⟨hb6, h⟩ | ⟨hb6, h⟩
      · refine TS_know 38 (b := true) hb6 (by kernel_rfl) (by kernel_rfl) ?_
        refine TS_know 37 (b := true) hb6 (by kernel_rfl) (by kernel_rfl) ?_
        refine TS_T (by kernel_rfl) rfl ?_
        refine TS_go 14 ?_
        replace h := condO h
        rcases h with ⟨hb7, h⟩ | ⟨hb7, h⟩
        · refine TS_know 49 (b := true) hb7 (by kernel_rfl) (by kernel_rfl) ?_
          refine TS_know 50 (b := true) hb7 (by kernel_rfl) (by kernel_rfl) ?_
          refine TS_go 2 ?_
          replace h := bindO h
          obtain ⟨v8, hv8, h⟩ := h
          refine TS_call [] (ok_ref26_ValidTo a0.To v8 hv8) (by kernel_rfl) (by kernel_rfl) ?_
          refine TS_go 2 ?_
          replace h := condO h
          rcases h with ⟨hb9, h⟩ | ⟨hb9, h⟩
          · subst hb9
            refine TS_go 2 ?_
            replace h := bindO h
            obtain ⟨v10, hv10, h⟩ := h
            refine TS_call [] (ok_ref24_Valid a0.Metric v10 hv10) (by kernel_rfl) (by kernel_rfl) ?_
            refine TS_go 6 ?_
            have ret := Option.some.inj h
            subst ret
            exact TS_ret (by kernel_rfl) (by kernel_rfl) (by kernel_rfl)
          · subst hb9
            refine TS_go 9 ?_
            have ret := Option.some.inj h
            subst ret
            exact TS_ret (by kernel_rfl) (by kernel_rfl) (by kernel_rfl)
        · refine TS_know 49 (b := false) hb7 (by kernel_rfl) (by kernel_rfl) ?_
          refine TS_know 50 (b := false) hb7 (by kernel_rfl) (by kernel_rfl) ?_
          refine TS_go 14 ?_
          have ret := Option.some.inj h
          subst ret
          exact TS_ret (by kernel_rfl) (by kernel_rfl) (by kernel_rfl)
      · refine TS_know 38 (b := false) hb6 (by kernel_rfl) (by kernel_rfl) ?_
        refine TS_know 37 (b := false) hb6 (by kernel_rfl) (by kernel_rfl) ?_
        refine TS_F (by kernel_rfl) rfl ?_
        refine TS_go 5 ?_
        replace h := condO h
        rcases h with ⟨hb11, h⟩ | ⟨hb11, h⟩
        · refine TS_know 61 (b := true) hb11 (by kernel_rfl) (by kernel_rfl) ?_
          refine TS_know 60 (b := true) hb11 (by kernel_rfl) (by kernel_rfl) ?_
          refine TS_T (by kernel_rfl) rfl ?_
          refine TS_go 10 ?_
          replace h := condO h
          rcases h with ⟨hb12, h⟩ | ⟨hb12, h⟩
          · refine TS_know 68 (b := true) hb12 (by kernel_rfl) (by kernel_rfl) ?_
            refine TS_know 69 (b := true) hb12 (by kernel_rfl) (by kernel_rfl) ?_
            refine TS_go 8 ?_
            replace h := condO h
            rcases h with ⟨hb13, h⟩ | ⟨hb13, h⟩
            · refine TS_know 75 (b := true) hb13 (by kernel_rfl) (by kernel_rfl) ?_
              refine TS_know 76 (b := true) hb13 (by kernel_rfl) (by kernel_rfl) ?_
              refine TS_know 77 (b := true) hb13 (by kernel_rfl) (by kernel_rfl) ?_
              refine TS_go 3 ?_
              replace h := bindO h
              obtain ⟨v14, hv14, h⟩ := h
              refine TS_call [] (ok_ref04_ValidPrefix a0.To.Dst v14 hv14) (by kernel_rfl) (by kernel_rfl) ?_
              refine TS_go 2 ?_
              replace h := condO h
              rcases h with ⟨hb15, h⟩ | ⟨hb15, h⟩
              · subst hb15
                refine TS_go 3 ?_
                replace h := bindO h
                obtain ⟨v16, hv16, h⟩ := h
                refine TS_call [] (ok_ref04_ValidPrefix a0.To.Src v16 hv16) (by kernel_rfl) (by kernel_rfl) ?_
                refine TS_go 6 ?_
                have ret := Option.some.inj h
                subst ret
                exact TS_ret (by kernel_rfl) (by kernel_rfl) (by kernel_rfl)
              · subst hb15
                refine TS_go 10 ?_
                have ret := Option.some.inj h
                subst ret
                exact TS_ret (by kernel_rfl) (by kernel_rfl) (by kernel_rfl)
            · refine TS_know 75 (b := false) hb13 (by kernel_rfl) (by kernel_rfl) ?_
              refine TS_know 76 (b := false) hb13 (by kernel_rfl) (by kernel_rfl) ?_
              refine TS_know 77 (b := false) hb13 (by kernel_rfl) (by kernel_rfl) ?_
              refine TS_go 16 ?_
              have ret := Option.some.inj h
              subst ret
              exact TS_ret (by kernel_rfl) (by kernel_rfl) (by kernel_rfl)
          · refine TS_know 68 (b := false) hb12 (by kernel_rfl) (by kernel_rfl) ?_
            refine TS_know 69 (b := false) hb12 (by kernel_rfl) (by kernel_rfl) ?_
            refine TS_go 24 ?_
            have ret := Option.some.inj h
            subst ret
            exact TS_ret (by kernel_rfl) (by kernel_rfl) (by kernel_rfl)
        · refine TS_know 61 (b := false) hb11 (by kernel_rfl) (by kernel_rfl) ?_
          refine TS_know 60 (b := false) hb11 (by kernel_rfl) (by kernel_rfl) ?_
          refine TS_F (by kernel_rfl) rfl ?_
          refine TS_go 5 ?_
          replace h := condO h
          rcases h with ⟨hb17, h⟩ | ⟨hb17, h⟩
          · refine TS_know 90 (b := true) hb17 (by kernel_rfl) (by kernel_rfl) ?_
            refine TS_know 89 (b := true) hb17 (by kernel_rfl) (by kernel_rfl) ?_
            refine TS_T (by kernel_rfl) rfl ?_
            refine TS_go 14 ?_
            replace h := condO h
            rcases h with ⟨hb18, h⟩ | ⟨hb18, h⟩
            · refine TS_know 101 (b := true) hb18 (by kernel_rfl) (by kernel_rfl) ?_
              refine TS_know 102 (b := true) hb18 (by kernel_rfl) (by kernel_rfl) ?_
              refine TS_go 2 ?_
              replace h := bindO h
              obtain ⟨v19, hv19, h⟩ := h
              refine TS_call [] (ok_ref26_ValidTo a0.To v19 hv19) (by kernel_rfl) (by kernel_rfl) ?_
              refine TS_go 2 ?_
              replace h := condO h
              rcases h with ⟨hb20, h⟩ | ⟨hb20, h⟩
              · subst hb20
                refine TS_go 5 ?_
                replace h := condO h
                rcases h with ⟨hb21, h⟩ | ⟨hb21, h⟩
                · refine TS_know 110 (b := true) hb21 (by kernel_rfl) (by kernel_rfl) ?_
                  refine TS_know 111 (b := true) hb21 (by kernel_rfl) (by kernel_rfl) ?_
                  refine TS_know 112 (b := true) hb21 (by kernel_rfl) (by kernel_rfl) ?_
                  refine TS_go 9 ?_
                  have ret := Option.some.inj h
                  subst ret
                  exact TS_ret (by kernel_rfl) (by kernel_rfl) (by kernel_rfl)
                · refine TS_know 110 (b := false) hb21 (by kernel_rfl) (by kernel_rfl) ?_
                  refine TS_know 111 (b := false) hb21 (by kernel_rfl) (by kernel_rfl) ?_
                  refine TS_know 112 (b := false) hb21 (by kernel_rfl) (by kernel_rfl) ?_
                  refine TS_go 9 ?_
                  have ret := Option.some.inj h
                  subst ret
                  exact TS_ret (by kernel_rfl) (by kernel_rfl) (by kernel_rfl)
              · subst hb20
                refine TS_go 14 ?_
                have ret := Option.some.inj h
                subst ret
                exact TS_ret (by kernel_rfl) (by kernel_rfl) (by kernel_rfl)
            · refine TS_know 101 (b := false) hb18 (by kernel_rfl) (by kernel_rfl) ?_
              refine TS_know 102 (b := false) hb18 (by kernel_rfl) (by kernel_rfl) ?_
              refine TS_go 19 ?_
              have ret := Option.some.inj h
              subst ret
              exact TS_ret (by kernel_rfl) (by kernel_rfl) (by kernel_rfl)
          · refine TS_know 90 (b := false) hb17 (by kernel_rfl) (by kernel_rfl) ?_
            refine TS_know 89 (b := false) hb17 (by kernel_rfl) (by kernel_rfl) ?_
            refine TS_F (by kernel_rfl) rfl ?_
            refine TS_go 7 ?_
            have ret := Option.some.inj h
            subst ret
            exact TS_ret (by kernel_rfl) (by kernel_rfl) (by kernel_rfl)

/-- multihop/multihopref29.Put -/
noncomputable def F_ref29_Put_N0_l1 (a1 : Int) (s1 : (List Int) × Int) : Option (((List Int) × Int) ⊕ ((List Int))) :=
  bif (decide (s1.2 ≥ 0)) then
    bif decide (0 ≤ (IntKind.wrap .u64 (IntKind.wrap .i64 (8 * s1.2)))) then
      (appO 1 s1.1 (Cut.app .whole ([IntKind.wrap .u8 (ishr .u64 a1 (IntKind.wrap .u64 (IntKind.wrap .i64 (8 * s1.2))))] : List Int))).bind fun l6 =>
      some (Sum.inl (l6, IntKind.wrap .i64 (s1.2 - 1)))
    else none
  else
    some (Sum.inr s1.1)
noncomputable def F_ref29_Put_N0 (a1 : Int) (a2 : Int) : Option ((List Int)) :=
  (loopO (F_ref29_Put_N0_l1 a1) (([] : List Int), IntKind.wrap .i64 (a2 - 1))).bind fun b2 =>
  some (b2)
set_option maxRecDepth 100000 in
set_option maxHeartbeats 40000000 in
theorem okT_ref29_Put_N0 (a1 : Int) (a2 : Int) (r : (List Int)) (h : F_ref29_Put_N0 a1 a2 = some r) : Con Try.prog 51 [.c (.lit (.slice none 0 0)), .c (.lit (.int .u64 (a1))), .c (.lit (.int .i64 (a2)))] [] (.c (.slc 1 900002 (List.length r) (List.map (ecI .u8) r))) [(900000, .spare 5 1 (List.length r))] := by
  unfold F_ref29_Put_N0 at h
  refine con_of [] [(900000, [])] 24 Try.func51 rfl rfl (by kernel_rfl) (fun K => ?_)
  refine TS_go 12 ?_
  refine TS_nilT 0 600000 5 1 (by kernel_rfl) ?_
  refine TS_cut ⟨[(0, []), (1, []), (7, [])], [(600000, (600000, []))]⟩ (.mk [.code (codeAt [1, 0, 1, 0] (bodyOf Try.f51)), .blk 0, .code (codeAt [1, 1] (bodyOf Try.f51))] .normal ⟨[(0, .c (.slc 1 600002 (List.length ([] : List Int)) (List.map (ecI .u8) ([] : List Int)))), (1, .c (.lit (.int .u64 (a1)))), (7, .c (.lit (.int .i64 (IntKind.wrap .i64 (a2 - 1)))))], [(600000, .spare 5 1 (List.length ([] : List Int)))]⟩) (by kernel_rfl) (by kernel_rfl) ?_
  replace h := bindO h
  obtain ⟨y3, hl1, hK1⟩ := h
  refine TS_loopB (F_ref29_Put_N0_l1 a1) ⟨[(0, []), (1, []), (7, [])], [(600000, (600000, []))]⟩ (fun (s1 : (List Int) × Int) => [(0, .c (.slc 1 600002 (List.length s1.1) (List.map (ecI .u8) s1.1))), (7, .c (.lit (.int .i64 (s1.2))))]) (fun (s1 : (List Int) × Int) => [(600000, .spare 5 1 (List.length s1.1))]) (([] : List Int), IntKind.wrap .i64 (a2 - 1)) y3 (.exit 0) (fun (b : (List Int)) => b) ⟨[(0, [])], [(600000, (600000, []))]⟩ (fun (b2 : (List Int)) => [(0, .c (.slc 1 600002 (List.length b2) (List.map (ecI .u8) b2)))]) (fun (b2 : (List Int)) => [(600000, .spare 5 1 (List.length b2))]) hl1 (by kernel_rfl) (by kernel_rfl) ?_ ?_
  · intro s1 x h hy1
    unfold F_ref29_Put_N0_l1 at h
    refine TS_go 6 ?_
    replace h := condO h
    rcases h with ⟨hb4, h⟩ | ⟨hb4, h⟩
    · refine TS_know 11 (b := true) hb4 (by kernel_rfl) (by kernel_rfl) ?_
      refine TS_T (by kernel_rfl) rfl ?_
      refine TS_go 9 ?_
      replace h := chkO h
      obtain ⟨hc5, h⟩ := h
      refine TS_num (op := .shr) (k := .u64) (k' := .u64) (m := a1) (i := IntKind.wrap .u64 (IntKind.wrap .i64 (8 * s1.2))) (of_decide_eq_true hc5) rfl (by simp) (by kernel_rfl) (by kernel_rfl) ?_
      refine TS_go 1 ?_
      refine TS_litNT 21 5 1 (ecI .u8) [] ([IntKind.wrap .u8 (ishr .u64 a1 (IntKind.wrap .u64 (IntKind.wrap .i64 (8 * s1.2))))] : List Int) (by kernel_rfl) (by kernel_rfl) ?_
      replace h := bindO h
      obtain ⟨_l6, hl6, h⟩ := h
      refine TS_appT (d := 600000) (e := 5) (sz := 1) (N := List.length s1.1) (ecI .u8) (fun _ => by kernel_rfl) (l1 := s1.1) (l2 := ([IntKind.wrap .u8 (ishr .u64 a1 (IntKind.wrap .u64 (IntKind.wrap .i64 (8 * s1.2))))] : List Int)) (c := .whole) hl6 (by kernel_rfl) (by kernel_rfl) ?_
      refine TS_go 8 ?_
      have ret := Option.some.inj h
      subst ret
      exact TS_againB _ ⟨[(0, []), (1, []), (7, [])], [(600000, (600000, []))]⟩ rfl (by kernel_rfl) (by kernel_rfl)
    · refine TS_know 11 (b := false) hb4 (by kernel_rfl) (by kernel_rfl) ?_
      refine TS_F (by kernel_rfl) rfl ?_
      refine TS_go 2 ?_
      have ret := Option.some.inj h
      subst ret
      exact TS_brkB s1.1 ⟨[(0, [])], [(600000, (600000, []))]⟩ rfl (by kernel_rfl) (by kernel_rfl) (by kernel_rfl)
  · intro b2 hb
    subst y3
    have h := hK1
    refine TS_go 6 ?_
    refine TS_fitU ⟨[(6, [])], [(600000, (900000, []))]⟩ (by kernel_rfl) ?_
    refine TS_go 1 ?_
    have ret := Option.some.inj h
    subst ret
    exact TS_ret (by kernel_rfl) (by kernel_rfl) (by kernel_rfl)
/-- multihop/multihopref29.Put -/
noncomputable def F_ref29_Put_G0_l1 (a1 : Int) (s1 : (List Int) × Int) : Option (((List Int) × Int) ⊕ ((List Int))) :=
  bif (decide (s1.2 ≥ 0)) then
    bif decide (0 ≤ (IntKind.wrap .u64 (IntKind.wrap .i64 (8 * s1.2)))) then
      (appO 1 s1.1 (Cut.app .whole ([IntKind.wrap .u8 (ishr .u64 a1 (IntKind.wrap .u64 (IntKind.wrap .i64 (8 * s1.2))))] : List Int))).bind fun l6 =>
      some (Sum.inl (l6, IntKind.wrap .i64 (s1.2 - 1)))
    else none
  else
    some (Sum.inr s1.1)
noncomputable def F_ref29_Put_G0 (a0 : List Int) (a1 : Int) (a2 : Int) : Option ((List Int)) :=
  (loopO (F_ref29_Put_G0_l1 a1) (a0, IntKind.wrap .i64 (a2 - 1))).bind fun b2 =>
  some (b2)
set_option maxRecDepth 100000 in
set_option maxHeartbeats 40000000 in
theorem ok_ref29_Put_G0 (a0 : List Int) (a1 : Int) (a2 : Int) (r : (List Int)) (h : F_ref29_Put_G0 a0 a1 a2 = some r) : ConG Try.prog 51 [.c (.slc 1 1000003 (List.length a0) (List.map (ecI .u8) a0)), .c (.lit (.int .u64 (a1))), .c (.lit (.int .i64 (a2)))] 5 1 (List.length a0) (.c (.slc 1 1000003 (List.length r) (List.map (ecI .u8) r))) (List.length r) := by
  unfold F_ref29_Put_G0 at h
  refine con_ofG [] 24 0 Try.func51 rfl rfl (by kernel_rfl) rfl (fun K => ?_)
  refine TS_go 12 ?_
  refine TS_cut ⟨[(0, []), (2000000, []), (1, []), (7, [])], [(1000001, (1000001, []))]⟩ (.mk [.code (codeAt [1, 0, 1, 0] (bodyOf Try.f51)), .blk 0, .code (codeAt [1, 1] (bodyOf Try.f51))] .normal ⟨[(0, .c (.slc 1 1000003 (List.length a0) (List.map (ecI .u8) a0))), (2000000, .c (.slc 1 1000003 (List.length a0) (List.map (ecI .u8) a0))), (1, .c (.lit (.int .u64 (a1)))), (7, .c (.lit (.int .i64 (IntKind.wrap .i64 (a2 - 1)))))], [(1000001, .spare 5 1 (List.length a0))]⟩) (by kernel_rfl) (by kernel_rfl) ?_
  replace h := bindO h
  obtain ⟨y3, hl1, hK1⟩ := h
  refine TS_loopB (F_ref29_Put_G0_l1 a1) ⟨[(0, []), (1, []), (7, []), (2000000, [])], [(1000001, (1000001, []))]⟩ (fun (s1 : (List Int) × Int) => [(0, .c (.slc 1 1000003 (List.length s1.1) (List.map (ecI .u8) s1.1))), (7, .c (.lit (.int .i64 (s1.2))))]) (fun (s1 : (List Int) × Int) => [(1000001, .spare 5 1 (List.length s1.1))]) (a0, IntKind.wrap .i64 (a2 - 1)) y3 (.exit 0) (fun (b : (List Int)) => b) ⟨[(0, []), (2000000, [])], [(1000001, (1000001, []))]⟩ (fun (b2 : (List Int)) => [(0, .c (.slc 1 1000003 (List.length b2) (List.map (ecI .u8) b2)))]) (fun (b2 : (List Int)) => [(1000001, .spare 5 1 (List.length b2))]) hl1 (by kernel_rfl) (by kernel_rfl) ?_ ?_
  · intro s1 x h hy1
    unfold F_ref29_Put_G0_l1 at h
    refine TS_go 6 ?_
    replace h := condO h
    rcases h with ⟨hb4, h⟩ | ⟨hb4, h⟩
    · refine TS_know 11 (b := true) hb4 (by kernel_rfl) (by kernel_rfl) ?_
      refine TS_T (by kernel_rfl) rfl ?_
      refine TS_go 9 ?_
      replace h := chkO h
      obtain ⟨hc5, h⟩ := h
      refine TS_num (op := .shr) (k := .u64) (k' := .u64) (m := a1) (i := IntKind.wrap .u64 (IntKind.wrap .i64 (8 * s1.2))) (of_decide_eq_true hc5) rfl (by simp) (by kernel_rfl) (by kernel_rfl) ?_
      refine TS_go 1 ?_
      refine TS_litNT 21 5 1 (ecI .u8) [] ([IntKind.wrap .u8 (ishr .u64 a1 (IntKind.wrap .u64 (IntKind.wrap .i64 (8 * s1.2))))] : List Int) (by kernel_rfl) (by kernel_rfl) ?_
      replace h := bindO h
      obtain ⟨_l6, hl6, h⟩ := h
      refine TS_appT (d := 1000001) (e := 5) (sz := 1) (N := List.length s1.1) (ecI .u8) (fun _ => by kernel_rfl) (l1 := s1.1) (l2 := ([IntKind.wrap .u8 (ishr .u64 a1 (IntKind.wrap .u64 (IntKind.wrap .i64 (8 * s1.2))))] : List Int)) (c := .whole) hl6 (by kernel_rfl) (by kernel_rfl) ?_
      refine TS_go 8 ?_
      have ret := Option.some.inj h
      subst ret
      exact TS_againB _ ⟨[(0, []), (1, []), (7, []), (2000000, [])], [(1000001, (1000001, []))]⟩ rfl (by kernel_rfl) (by kernel_rfl)
    · refine TS_know 11 (b := false) hb4 (by kernel_rfl) (by kernel_rfl) ?_
      refine TS_F (by kernel_rfl) rfl ?_
      refine TS_go 2 ?_
      have ret := Option.some.inj h
      subst ret
      exact TS_brkB s1.1 ⟨[(0, []), (2000000, [])], [(1000001, (1000001, []))]⟩ rfl (by kernel_rfl) (by kernel_rfl) (by kernel_rfl)
  · intro b2 hb
    subst y3
    have h := hK1
    refine TS_go 7 ?_
    have ret := Option.some.inj h
    subst ret
    exact TS_retG (sz1 := 1) (xs1 := List.map (ecI .u8) a0) (by kernel_rfl) (by kernel_rfl) (by kernel_rfl) (by kernel_rfl)

/-- multihop/multihopref29.element -/
noncomputable def F_ref29_element_G0 (a0 : List Int) (a1 : Int) (a2 : List Int) : Option ((List Int)) :=
  (appO 1 a0 (Cut.app .whole ([a1, IntKind.wrap .u8 (List.length a2 : Int)] : List Int))).bind fun l1 =>
  (appO 1 l1 (Cut.app .whole a2)).bind fun l2 =>
  some (l2)
set_option maxRecDepth 100000 in
set_option maxHeartbeats 40000000 in
theorem ok_ref29_element_G0 (a0 : List Int) (a1 : Int) (a2 : List Int) (r : (List Int)) (h : F_ref29_element_G0 a0 a1 a2 = some r) : ConG Try.prog 65 [.c (.slc 1 1000003 (List.length a0) (List.map (ecI .u8) a0)), .c (.lit (.int .u8 (a1))), .c (eS 1 (ecI .u8) (a2))] 5 1 (List.length a0) (.c (.slc 1 1000003 (List.length r) (List.map (ecI .u8) r))) (List.length r) := by
  unfold F_ref29_element_G0 at h
  refine con_ofG [] 17 0 Try.func65 rfl rfl (by kernel_rfl) rfl (fun K => ?_)
  refine TS_go 11 ?_
  refine TS_litNT 12 5 1 (ecI .u8) [] ([a1, IntKind.wrap .u8 (List.length a2 : Int)] : List Int) (by kernel_rfl) (by kernel_rfl) ?_
  replace h := bindO h
  obtain ⟨l1, hl1, h⟩ := h
  refine TS_appT (d := 1000001) (e := 5) (sz := 1) (N := List.length a0) (ecI .u8) (fun _ => by kernel_rfl) (l1 := a0) (l2 := ([a1, IntKind.wrap .u8 (List.length a2 : Int)] : List Int)) (c := .whole) hl1 (by kernel_rfl) (by kernel_rfl) ?_
  refine TS_go 6 ?_
  replace h := bindO h
  obtain ⟨l2, hl2, h⟩ := h
  refine TS_appT (d := 1000001) (e := 5) (sz := 1) (N := List.length l1) (ecI .u8) (fun _ => by kernel_rfl) (l1 := l1) (l2 := a2) (c := .whole) hl2 (by kernel_rfl) (by kernel_rfl) ?_
  refine TS_go 3 ?_
  have ret := Option.some.inj h
  subst ret
  exact TS_retG (sz1 := 1) (xs1 := List.map (ecI .u8) a0) (by kernel_rfl) (by kernel_rfl) (by kernel_rfl) (by kernel_rfl)

/-- multihop/multihopref29.size -/
noncomputable def F_ref29_size (a0 : Int) : Option (Int) :=
  some (iquo .i64 (IntKind.wrap .i64 (a0 + 7)) 8)
set_option maxRecDepth 100000 in
set_option maxHeartbeats 40000000 in
theorem ok_ref29_size (a0 : Int) (r : Int) (h : F_ref29_size a0 = some r) : Con Try.prog 66 [.c (.lit (.int .i64 (a0)))] [] (.c (.lit (.int .i64 (r)))) [] := by
  unfold F_ref29_size at h
  refine con_of [] [] 6 Try.func66 rfl rfl (by kernel_rfl) (fun K => ?_)
  refine TS_go 12 ?_
  have ret := Option.some.inj h
  subst ret
  exact TS_ret (by kernel_rfl) (by kernel_rfl) (by kernel_rfl)

/-- multihop/multihopref29.part -/
noncomputable def F_ref29_part_l1 (a0 : S_Prefix) (s1 : (List Int) × Int) : Option (((List Int) × Int) ⊕ ((List Int))) :=
  (F_ref29_size a0.Bits).bind fun v4 =>
  bif (decide (s1.2 < v4)) then
    bif decide ((0 : Int) ≤ s1.2 ∧ s1.2 < (16 : Int)) then
      (appO 1 s1.1 (Cut.app .whole ([(List.getD a0.IP (Int.toNat s1.2) 0)] : List Int))).bind fun l7 =>
      some (Sum.inl (l7, IntKind.wrap .i64 (s1.2 + 1)))
    else none
  else
    some (Sum.inr s1.1)
noncomputable def F_ref29_part (a0 : S_Prefix) (a1 : Int) : Option ((List Int)) :=
  (loopO (F_ref29_part_l1 a0) (([] : List Int), a1)).bind fun b2 =>
  some (b2)
set_option maxRecDepth 100000 in
set_option maxHeartbeats 40000000 in
theorem okT_ref29_part (a0 : S_Prefix) (a1 : Int) (r : (List Int)) (h : F_ref29_part a0 a1 = some r) : Con Try.prog 67 [.agg (S_Prefix.cs a0), .c (.lit (.int .i64 (a1)))] [] (.c (.slc 1 900002 (List.length r) (List.map (ecI .u8) r))) [(900000, .spare 5 1 (List.length r))] := by
  unfold F_ref29_part at h
  refine con_of [] [(900000, [])] 23 Try.func67 rfl rfl (by kernel_rfl) (fun K => ?_)
  refine TS_go 16 ?_
  refine TS_nilT 5 600000 5 1 (by kernel_rfl) ?_
  refine TS_cut ⟨[(2, []), (5, []), (6, [])], [(2, (2, [])), (600000, (600000, []))]⟩ (.mk [.code (codeAt [1, 1, 0, 1, 0] (bodyOf Try.f67)), .blk 0, .code (codeAt [1, 1, 1] (bodyOf Try.f67))] .normal ⟨[(2, .c (.box 2 0)), (5, .c (.slc 1 600002 (List.length ([] : List Int)) (List.map (ecI .u8) ([] : List Int)))), (6, .c (.lit (.int .i64 (a1))))], [(2, .box [.lit (.int .u8 ((a0.IP.getD 0 0))), .lit (.int .u8 ((a0.IP.getD 1 0))), .lit (.int .u8 ((a0.IP.getD 2 0))), .lit (.int .u8 ((a0.IP.getD 3 0))), .lit (.int .u8 ((a0.IP.getD 4 0))), .lit (.int .u8 ((a0.IP.getD 5 0))), .lit (.int .u8 ((a0.IP.getD 6 0))), .lit (.int .u8 ((a0.IP.getD 7 0))), .lit (.int .u8 ((a0.IP.getD 8 0))), .lit (.int .u8 ((a0.IP.getD 9 0))), .lit (.int .u8 ((a0.IP.getD 10 0))), .lit (.int .u8 ((a0.IP.getD 11 0))), .lit (.int .u8 ((a0.IP.getD 12 0))), .lit (.int .u8 ((a0.IP.getD 13 0))), .lit (.int .u8 ((a0.IP.getD 14 0))), .lit (.int .u8 ((a0.IP.getD 15 0))), .lit (.int .i64 (a0.Bits))]), (600000, .spare 5 1 (List.length ([] : List Int)))]⟩) (by kernel_rfl) (by kernel_rfl) ?_
  replace h := bindO h
  obtain ⟨y3, hl1, hK1⟩ := h
  refine TS_loopB (F_ref29_part_l1 a0) ⟨[(2, []), (5, []), (6, [])], [(2, (2, [])), (600000, (600000, []))]⟩ (fun (s1 : (List Int) × Int) => [(5, .c (.slc 1 600002 (List.length s1.1) (List.map (ecI .u8) s1.1))), (6, .c (.lit (.int .i64 (s1.2))))]) (fun (s1 : (List Int) × Int) => [(600000, .spare 5 1 (List.length s1.1))]) (([] : List Int), a1) y3 (.exit 0) (fun (b : (List Int)) => b) ⟨[(5, [])], [(600000, (600000, []))]⟩ (fun (b2 : (List Int)) => [(5, .c (.slc 1 600002 (List.length b2) (List.map (ecI .u8) b2)))]) (fun (b2 : (List Int)) => [(600000, .spare 5 1 (List.length b2))]) hl1 (by kernel_rfl) (by kernel_rfl) ?_ ?_
  · intro s1 x h hy1
    unfold F_ref29_part_l1 at h
    refine TS_go 6 ?_
    replace h := bindO h
    obtain ⟨v4, hv4, h⟩ := h
    refine TS_call [] (ok_ref29_size a0.Bits v4 hv4) (by kernel_rfl) (by kernel_rfl) ?_
    refine TS_go 2 ?_
    replace h := condO h
    rcases h with ⟨hb5, h⟩ | ⟨hb5, h⟩
    · refine TS_know 12 (b := true) hb5 (by kernel_rfl) (by kernel_rfl) ?_
      refine TS_T (by kernel_rfl) rfl ?_
      refine TS_go 7 ?_
      replace h := chkO h
      obtain ⟨hc6, h⟩ := h
      refine TS_idxA 2 0 16 (i := s1.2) hc6 (by kernel_rfl) (by kernel_rfl) ?_
      refine TS_ldA .u8 0 16 (i := s1.2) a0.IP hc6 (by kernel_rfl) (by kernel_rfl) ?_
      refine TS_litNT 20 5 1 (ecI .u8) [] ([(List.getD a0.IP (Int.toNat s1.2) 0)] : List Int) (by kernel_rfl) (by kernel_rfl) ?_
      replace h := bindO h
      obtain ⟨_l7, hl7, h⟩ := h
      refine TS_appT (d := 600000) (e := 5) (sz := 1) (N := List.length s1.1) (ecI .u8) (fun _ => by kernel_rfl) (l1 := s1.1) (l2 := ([(List.getD a0.IP (Int.toNat s1.2) 0)] : List Int)) (c := .whole) hl7 (by kernel_rfl) (by kernel_rfl) ?_
      refine TS_go 8 ?_
      have ret := Option.some.inj h
      subst ret
      exact TS_againB _ ⟨[(2, []), (5, []), (6, [])], [(2, (2, [])), (600000, (600000, []))]⟩ rfl (by kernel_rfl) (by kernel_rfl)
    · refine TS_know 12 (b := false) hb5 (by kernel_rfl) (by kernel_rfl) ?_
      refine TS_F (by kernel_rfl) rfl ?_
      refine TS_go 2 ?_
      have ret := Option.some.inj h
      subst ret
      exact TS_brkB s1.1 ⟨[(5, [])], [(600000, (600000, []))]⟩ rfl (by kernel_rfl) (by kernel_rfl) (by kernel_rfl)
  · intro b2 hb
    subst y3
    have h := hK1
    refine TS_go 6 ?_
    refine TS_fitU ⟨[(4, [])], [(600000, (900000, []))]⟩ (by kernel_rfl) ?_
    refine TS_go 1 ?_
    have ret := Option.some.inj h
    subst ret
    exact TS_ret (by kernel_rfl) (by kernel_rfl) (by kernel_rfl)
end
section
open Go.RowKit
attribute [local irreducible] TS go TD goD

/-- multihop/multihopref29.Body -/
noncomputable def F_ref29_Body_j2 (s1 : (List Int) × Int × Int × (List Int)) (v5 : (List Int) × Int × (List Int)) : Option (((List Int) × Int × Int × (List Int)) ⊕ ((List Int))) :=
  some (Sum.inl (v5.1, v5.2.1, IntKind.wrap .i64 (s1.2.2.1 + 1), v5.2.2))
noncomputable def F_ref29_Body_l4 (e6 : S_Notice) (s1 : (List Int) × Int × Int × (List Int)) (s16 : Int) : Option ((Int) ⊕ (Int)) :=
  (F_ref29_size e6.To.Dst.Bits).bind fun v19 =>
  bif (decide (s16 < v19)) then
    bif decide ((0 : Int) ≤ s16 ∧ s16 < (16 : Int)) then
      bif decide ((0 : Int) ≤ s16 ∧ s16 < (16 : Int)) then
        bif ((List.getD e6.To.Dst.IP (Int.toNat s16) 0) == (List.getD s1.2.2.2 (Int.toNat s16) 0)) then
          some (Sum.inl (IntKind.wrap .i64 (s16 + 1)))
        else
          some (Sum.inr s16)
      else none
    else none
  else
    some (Sum.inr s16)
noncomputable def F_ref29_Body_j3 (e6 : S_Notice) (s1 : (List Int) × Int × Int × (List Int)) (v15 : (List Int) × Int) : Option (((List Int) × Int × Int × (List Int)) ⊕ ((List Int))) :=
  (loopO (F_ref29_Body_l4 e6 s1) 0).bind fun b17 =>
  (appO 1 ([] : List Int) (Cut.app .whole ([IntKind.wrap .u8 b17, IntKind.wrap .u8 e6.To.Dst.Bits, IntKind.wrap .u8 e6.To.Src.Bits] : List Int))).bind fun l25 =>
  (F_ref29_Put_G0 l25 (IntKind.wrap .u64 e6.Seq) 2).bind fun v26 =>
  (F_ref29_Put_G0 v26 (IntKind.wrap .u64 e6.Metric) 2).bind fun v27 =>
  (F_ref29_part e6.To.Dst b17).bind fun v28 =>
  (appO 1 v27 (Cut.app .whole v28)).bind fun l29 =>
  (F_ref29_part e6.To.Src 0).bind fun v30 =>
  (appO 1 l29 (Cut.app .whole v30)).bind fun l31 =>
  (F_ref29_element_G0 v15.1 3 l31).bind fun v32 =>
  (F_ref29_Body_j2 s1) (v32, v15.2, e6.To.Dst.IP)
noncomputable def F_ref29_Body_l1 (a0 : List S_Notice) (s1 : (List Int) × Int × Int × (List Int)) : Option (((List Int) × Int × Int × (List Int)) ⊕ ((List Int))) :=
  bif (decide (s1.2.2.1 < (List.length a0 : Int))) then
    (idx a0 s1.2.2.1).bind fun e6 =>
    bif (e6.Kind == 1) then
      (F_ref29_Put_N0 (IntKind.wrap .u64 e6.Seq) 2).bind fun v8 =>
      (F_ref29_element_G0 s1.1 1 v8).bind fun v9 =>
      (F_ref29_Body_j2 s1) (v9, s1.2.1, s1.2.2.2)
    else
      bif (e6.Kind == 2) then
        (F_ref29_Put_N0 e6.Neighbour 8).bind fun v11 =>
        (F_ref29_Put_G0 v11 (IntKind.wrap .u64 e6.Metric) 2).bind fun v12 =>
        (F_ref29_element_G0 s1.1 2 v12).bind fun v13 =>
        (F_ref29_Body_j2 s1) (v13, s1.2.1, s1.2.2.2)
      else
        bif (e6.Kind == 3) then
          bif (e6.To.Router != s1.2.1) then
            (F_ref29_Put_N0 e6.To.Router 8).bind fun v34 =>
            (F_ref29_element_G0 s1.1 6 v34).bind fun v35 =>
            (F_ref29_Body_j3 e6 s1) (v35, e6.To.Router)
          else
            (F_ref29_Body_j3 e6 s1) (s1.1, s1.2.1)
        else
          bif (e6.Kind == 4) then
            (appO 1 ([] : List Int) (Cut.app .whole ([IntKind.wrap .u8 e6.To.Dst.Bits, IntKind.wrap .u8 e6.To.Src.Bits] : List Int))).bind fun l37 =>
            (F_ref29_part e6.To.Dst 0).bind fun v38 =>
            (appO 1 l37 (Cut.app .whole v38)).bind fun l39 =>
            (F_ref29_part e6.To.Src 0).bind fun v40 =>
            (appO 1 l39 (Cut.app .whole v40)).bind fun l41 =>
            (F_ref29_element_G0 s1.1 4 l41).bind fun v42 =>
            (F_ref29_Body_j2 s1) (v42, s1.2.1, s1.2.2.2)
          else
            bif (e6.Kind == 5) then
              (appO 1 ([] : List Int) (Cut.app .whole ([IntKind.wrap .u8 e6.To.Dst.Bits, IntKind.wrap .u8 e6.To.Src.Bits] : List Int))).bind fun l44 =>
              (F_ref29_Put_G0 l44 (IntKind.wrap .u64 e6.Seq) 2).bind fun v45 =>
              (appO 1 v45 (Cut.app .whole ([IntKind.wrap .u8 e6.Hops] : List Int))).bind fun l46 =>
              (F_ref29_Put_G0 l46 e6.To.Router 8).bind fun v47 =>
              (F_ref29_part e6.To.Dst 0).bind fun v48 =>
              (appO 1 v47 (Cut.app .whole v48)).bind fun l49 =>
              (F_ref29_part e6.To.Src 0).bind fun v50 =>
              (appO 1 l49 (Cut.app .whole v50)).bind fun l51 =>
              (F_ref29_element_G0 s1.1 5 l51).bind fun v52 =>
              (F_ref29_Body_j2 s1) (v52, s1.2.1, s1.2.2.2)
            else
              (F_ref29_Body_j2 s1) (s1.1, s1.2.1, s1.2.2.2)
  else
    some (Sum.inr s1.1)
noncomputable def F_ref29_Body (a0 : List S_Notice) : Option ((List Int)) :=
  (loopO (F_ref29_Body_l1 a0) (([] : List Int), 0, 0, [0, 0, 0, 0, 0, 0, 0, 0, 0, 0, 0, 0, 0, 0, 0, 0])).bind fun b2 =>
  some (b2)
set_option maxRecDepth 100000 in
set_option maxHeartbeats 40000000 in
theorem okT_ref29_Body (a0 : List S_Notice) (r : (List Int)) (h : F_ref29_Body a0 = some r) : Con Try.prog 50 [.c (eS 40 S_Notice.cs (a0))] [] (.c (.slc 1 900002 (List.length r) (List.map (ecI .u8) r))) [(900000, .spare 5 1 (List.length r))] := by
  unfold F_ref29_Body at h
  refine con_of [] [(900000, [])] 191 Try.func50 rfl rfl (by kernel_rfl) (fun K => ?_)
  refine TS_go 24 ?_
  refine TS_nilT 3 600000 5 1 (by kernel_rfl) ?_
  refine TS_cut ⟨[(3, []), (4, []), (5, []), (10, []), (11, []), (12, [])], [(5, (5, [])), (600000, (600000, []))]⟩ (.mk [.code (codeAt [1, 1, 1, 1, 0, 1, 0] (bodyOf Try.f50)), .blk 0, .code (codeAt [1, 1, 1, 1, 1] (bodyOf Try.f50))] .normal ⟨[(3, .c (.slc 1 600002 (List.length ([] : List Int)) (List.map (ecI .u8) ([] : List Int)))), (4, .c (.lit (.int .u64 (0)))), (5, .c (.box 5 0)), (10, .c (.slc 40 0 (List.length a0) (List.map S_Notice.cs a0))), (11, .c (.lit (.int .i64 ((List.length a0 : Int))))), (12, .c (.lit (.int .i64 (0))))], [(5, .box [.lit (.int .u8 (0)), .lit (.int .u8 (0)), .lit (.int .u8 (0)), .lit (.int .u8 (0)), .lit (.int .u8 (0)), .lit (.int .u8 (0)), .lit (.int .u8 (0)), .lit (.int .u8 (0)), .lit (.int .u8 (0)), .lit (.int .u8 (0)), .lit (.int .u8 (0)), .lit (.int .u8 (0)), .lit (.int .u8 (0)), .lit (.int .u8 (0)), .lit (.int .u8 (0)), .lit (.int .u8 (0))]), (600000, .spare 5 1 (List.length ([] : List Int)))]⟩) (by kernel_rfl) (by kernel_rfl) ?_
  replace h := bindO h
  obtain ⟨y3, hl1, hK1⟩ := h
  refine TS_loopB (F_ref29_Body_l1 a0) ⟨[(3, []), (4, []), (5, []), (10, []), (11, []), (12, [])], [(600000, (600000, [])), (5, (5, []))]⟩ (fun (s1 : (List Int) × Int × Int × (List Int)) => [(3, .c (.slc 1 600002 (List.length s1.1) (List.map (ecI .u8) s1.1))), (4, .c (.lit (.int .u64 (s1.2.1)))), (12, .c (.lit (.int .i64 (s1.2.2.1))))]) (fun (s1 : (List Int) × Int × Int × (List Int)) => [(5, .box (arrS .u8 16 s1.2.2.2)), (600000, .spare 5 1 (List.length s1.1))]) (([] : List Int), 0, 0, [0, 0, 0, 0, 0, 0, 0, 0, 0, 0, 0, 0, 0, 0, 0, 0]) y3 (.exit 0) (fun (b : (List Int)) => b) ⟨[(3, [])], [(600000, (600000, []))]⟩ (fun (b2 : (List Int)) => [(3, .c (.slc 1 600002 (List.length b2) (List.map (ecI .u8) b2)))]) (fun (b2 : (List Int)) => [(600000, .spare 5 1 (List.length b2))]) hl1 (by kernel_rfl) (by kernel_rfl) ?_ ?_
  · intro s1 x h hy1
    unfold F_ref29_Body_l1 at h
    refine TS_go 5 ?_
    replace h := condO h
    rcases h with ⟨hb4, h⟩ | ⟨hb4, h⟩
    · refine TS_know 13 (b := true) hb4 (by kernel_rfl) (by kernel_rfl) ?_
      refine TS_T (by kernel_rfl) rfl ?_
      refine TS_go 1 ?_
      refine TS_cut ⟨[(3, []), (4, []), (5, []), (10, []), (11, []), (12, [])], [(600000, (600000, [])), (5, (5, []))]⟩ (.mk [.code (codeAt [1, 1, 1, 1, 0, 1, 0, 0, 1, 1] (bodyOf Try.f50))] .normal ⟨[(3, .c (.slc 1 600002 (List.length s1.1) (List.map (ecI .u8) s1.1))), (4, .c (.lit (.int .u64 (s1.2.1)))), (5, .c (.box 5 0)), (10, .c (.slc 40 0 (List.length a0) (List.map S_Notice.cs a0))), (11, .c (.lit (.int .i64 ((List.length a0 : Int))))), (12, .c (.lit (.int .i64 (s1.2.2.1))))], [(600000, .spare 5 1 (List.length s1.1)), (5, .box [.lit (.int .u8 ((s1.2.2.2.getD 0 0))), .lit (.int .u8 ((s1.2.2.2.getD 1 0))), .lit (.int .u8 ((s1.2.2.2.getD 2 0))), .lit (.int .u8 ((s1.2.2.2.getD 3 0))), .lit (.int .u8 ((s1.2.2.2.getD 4 0))), .lit (.int .u8 ((s1.2.2.2.getD 5 0))), .lit (.int .u8 ((s1.2.2.2.getD 6 0))), .lit (.int .u8 ((s1.2.2.2.getD 7 0))), .lit (.int .u8 ((s1.2.2.2.getD 8 0))), .lit (.int .u8 ((s1.2.2.2.getD 9 0))), .lit (.int .u8 ((s1.2.2.2.getD 10 0))), .lit (.int .u8 ((s1.2.2.2.getD 11 0))), .lit (.int .u8 ((s1.2.2.2.getD 12 0))), .lit (.int .u8 ((s1.2.2.2.getD 13 0))), .lit (.int .u8 ((s1.2.2.2.getD 14 0))), .lit (.int .u8 ((s1.2.2.2.getD 15 0)))])]⟩) (by kernel_rfl) (by kernel_rfl) ?_
      refine TS_joinB ⟨[(3, []), (4, []), (5, []), (10, []), (11, []), (12, [])], [(600000, (600000, [])), (5, (5, []))]⟩ (fun (v5 : (List Int) × Int × (List Int)) => [(3, .c (.slc 1 600002 (List.length v5.1) (List.map (ecI .u8) v5.1))), (4, .c (.lit (.int .u64 (v5.2.1))))]) (fun (v5 : (List Int) × Int × (List Int)) => [(5, .box (arrS .u8 16 v5.2.2)), (600000, .spare 5 1 (List.length v5.1))]) (F_ref29_Body_j2 s1) x ?_ ?_
      · clear h
        intro v5 h
        unfold F_ref29_Body_j2 at h
        refine TS_go 4 ?_
        have ret := Option.some.inj h
        subst ret
        exact TS_againB _ ⟨[(3, []), (4, []), (5, []), (10, []), (11, []), (12, [])], [(600000, (600000, [])), (5, (5, []))]⟩ rfl (by kernel_rfl) (by kernel_rfl)
      · refine TS_go 3 ?_
        replace h := bindO h
        obtain ⟨e6, he6, h⟩ := h
        refine TS_idx S_Notice.cs he6 (by kernel_rfl) (by kernel_rfl) ?_
        refine TS_go 19 ?_
        replace h := condO h
        rcases h with ⟨hb7, h⟩ | ⟨hb7, h⟩
        · refine TS_know 19 (b := true) hb7 (by kernel_rfl) (by kernel_rfl) ?_
          refine TS_know 18 (b := true) hb7 (by kernel_rfl) (by kernel_rfl) ?_
          refine TS_T (by kernel_rfl) rfl ?_
          refine TS_go 5 ?_
          replace h := bindO h
          obtain ⟨v8, hv8, h⟩ := h
          refine TS_con [] [(24, 900000)] none (okT_ref29_Put_N0 (IntKind.wrap .u64 e6.Seq) 2 v8 hv8) (by kernel_rfl) (by kernel_rfl) (by kernel_rfl) ?_
          replace h := bindO h
          obtain ⟨v9, hv9, h⟩ := h
          refine TS_conG 600000 [[], [], [2]] (ok_ref29_element_G0 s1.1 1 v8 v9 hv9) (by kernel_rfl) (by kernel_rfl) (by kernel_rfl) ?_
          refine TS_go 4 ?_
          exact TS_meet (v9, s1.2.1, s1.2.2.2) ⟨[(3, []), (4, []), (5, []), (10, []), (11, []), (12, [])], [(600000, (600000, [])), (5, (5, []))]⟩ h (by kernel_rfl) (by kernel_rfl)
        · refine TS_know 19 (b := false) hb7 (by kernel_rfl) (by kernel_rfl) ?_
          refine TS_know 18 (b := false) hb7 (by kernel_rfl) (by kernel_rfl) ?_
          refine TS_F (by kernel_rfl) rfl ?_
          refine TS_go 5 ?_
          replace h := condO h
          rcases h with ⟨hb10, h⟩ | ⟨hb10, h⟩
          · refine TS_know 27 (b := true) hb10 (by kernel_rfl) (by kernel_rfl) ?_
            refine TS_know 26 (b := true) hb10 (by kernel_rfl) (by kernel_rfl) ?_
            refine TS_T (by kernel_rfl) rfl ?_
            refine TS_draw (by kernel_rfl) ?_
            refine TD_go 3 ?_
            replace h := bindO h
            obtain ⟨v11, hv11, h⟩ := h
            refine TD_conX (d := 31) (e := 900000) [] (okT_ref29_Put_N0 e6.Neighbour 8 v11 hv11) (by kernel_rfl) (by kernel_rfl) ?_
            refine TD_go 3 ?_
            replace h := bindO h
            obtain ⟨v12, hv12, h⟩ := h
            refine TD_conG 31 [] (ok_ref29_Put_G0 v11 (IntKind.wrap .u64 e6.Metric) 2 v12 hv12) (by kernel_rfl) (by kernel_rfl) (by kernel_rfl) ?_
            replace h := bindO h
            obtain ⟨v13, hv13, h⟩ := h
            refine TD_conG 600000 [[], [], [2]] (ok_ref29_element_G0 s1.1 2 v12 v13 hv13) (by kernel_rfl) (by kernel_rfl) (by kernel_rfl) ?_
            refine TD_go 1 ?_
            refine TD_end (by kernel_rfl) ?_
            refine TS_go 2 ?_
            exact TS_meet (v13, s1.2.1, s1.2.2.2) ⟨[(3, []), (4, []), (5, []), (10, []), (11, []), (12, [])], [(600000, (600000, [])), (5, (5, []))]⟩ h (by kernel_rfl) (by kernel_rfl)
          · refine TS_know 27 (b := false) hb10 (by kernel_rfl) (by kernel_rfl) ?_
            refine TS_know 26 (b := false) hb10 (by kernel_rfl) (by kernel_rfl) ?_
            refine TS_F (by kernel_rfl) rfl ?_
            refine TS_go 5 ?_
            replace h := condO h
            rcases h with ⟨hb14, h⟩ | ⟨hb14, h⟩
            · refine TS_know 38 (b := true) hb14 (by kernel_rfl) (by kernel_rfl) ?_
              refine TS_know 37 (b := true) hb14 (by kernel_rfl) (by kernel_rfl) ?_
              refine TS_T (by kernel_rfl) rfl ?_
              refine TS_cut ⟨[(3, []), (4, []), (5, []), (10, []), (11, []), (12, []), (7, []), (8, [])], [(600000, (600000, [])), (5, (5, [])), (7, (7, []))]⟩ (.mk [.code (codeAt [1, 1, 1, 1, 0, 1, 0, 0, 1, 1, 0, 0, 1, 1, 1, 0, 1, 1, 1, 1, 1, 0] (bodyOf Try.f50)), .blk 2, .blk 1] .normal ⟨[(3, .c (.slc 1 600002 (List.length s1.1) (List.map (ecI .u8) s1.1))), (4, .c (.lit (.int .u64 (s1.2.1)))), (5, .c (.box 5 0)), (10, .c (.slc 40 0 (List.length a0) (List.map S_Notice.cs a0))), (11, .c (.lit (.int .i64 ((List.length a0 : Int))))), (12, .c (.lit (.int .i64 (s1.2.2.1)))), (7, .c (.box 7 0)), (8, .c (.lit (.slice none 0 0)))], [(600000, .spare 5 1 (List.length s1.1)), (5, .box [.lit (.int .u8 ((s1.2.2.2.getD 0 0))), .lit (.int .u8 ((s1.2.2.2.getD 1 0))), .lit (.int .u8 ((s1.2.2.2.getD 2 0))), .lit (.int .u8 ((s1.2.2.2.getD 3 0))), .lit (.int .u8 ((s1.2.2.2.getD 4 0))), .lit (.int .u8 ((s1.2.2.2.getD 5 0))), .lit (.int .u8 ((s1.2.2.2.getD 6 0))), .lit (.int .u8 ((s1.2.2.2.getD 7 0))), .lit (.int .u8 ((s1.2.2.2.getD 8 0))), .lit (.int .u8 ((s1.2.2.2.getD 9 0))), .lit (.int .u8 ((s1.2.2.2.getD 10 0))), .lit (.int .u8 ((s1.2.2.2.getD 11 0))), .lit (.int .u8 ((s1.2.2.2.getD 12 0))), .lit (.int .u8 ((s1.2.2.2.getD 13 0))), .lit (.int .u8 ((s1.2.2.2.getD 14 0))), .lit (.int .u8 ((s1.2.2.2.getD 15 0)))]), (7, .box [.lit (.int .i64 (e6.Kind)), .lit (.int .u16 (e6.Seq)), .lit (.int .i64 (e6.Metric)), .lit (.int .u64 (e6.Neighbour)), .lit (.int .u8 ((e6.To.Dst.IP.getD 0 0))), .lit (.int .u8 ((e6.To.Dst.IP.getD 1 0))), .lit (.int .u8 ((e6.To.Dst.IP.getD 2 0))), .lit (.int .u8 ((e6.To.Dst.IP.getD 3 0))), .lit (.int .u8 ((e6.To.Dst.IP.getD 4 0))), .lit (.int .u8 ((e6.To.Dst.IP.getD 5 0))), .lit (.int .u8 ((e6.To.Dst.IP.getD 6 0))), .lit (.int .u8 ((e6.To.Dst.IP.getD 7 0))), .lit (.int .u8 ((e6.To.Dst.IP.getD 8 0))), .lit (.int .u8 ((e6.To.Dst.IP.getD 9 0))), .lit (.int .u8 ((e6.To.Dst.IP.getD 10 0))), .lit (.int .u8 ((e6.To.Dst.IP.getD 11 0))), .lit (.int .u8 ((e6.To.Dst.IP.getD 12 0))), .lit (.int .u8 ((e6.To.Dst.IP.getD 13 0))), .lit (.int .u8 ((e6.To.Dst.IP.getD 14 0))), .lit (.int .u8 ((e6.To.Dst.IP.getD 15 0))), .lit (.int .i64 (e6.To.Dst.Bits)), .lit (.int .u8 ((e6.To.Src.IP.getD 0 0))), .lit (.int .u8 ((e6.To.Src.IP.getD 1 0))), .lit (.int .u8 ((e6.To.Src.IP.getD 2 0))), .lit (.int .u8 ((e6.To.Src.IP.getD 3 0))), .lit (.int .u8 ((e6.To.Src.IP.getD 4 0))), .lit (.int .u8 ((e6.To.Src.IP.getD 5 0))), .lit (.int .u8 ((e6.To.Src.IP.getD 6 0))), .lit (.int .u8 ((e6.To.Src.IP.getD 7 0))), .lit (.int .u8 ((e6.To.Src.IP.getD 8 0))), .lit (.int .u8 ((e6.To.Src.IP.getD 9 0))), .lit (.int .u8 ((e6.To.Src.IP.getD 10 0))), .lit (.int .u8 ((e6.To.Src.IP.getD 11 0))), .lit (.int .u8 ((e6.To.Src.IP.getD 12 0))), .lit (.int .u8 ((e6.To.Src.IP.getD 13 0))), .lit (.int .u8 ((e6.To.Src.IP.getD 14 0))), .lit (.int .u8 ((e6.To.Src.IP.getD 15 0))), .lit (.int .i64 (e6.To.Src.Bits)), .lit (.int .u64 (e6.To.Router)), .lit (.int .i64 (e6.Hops))])]⟩) (by kernel_rfl) (by kernel_rfl) ?_
              refine TS_joinB ⟨[(3, []), (4, []), (5, []), (7, []), (8, []), (10, []), (11, []), (12, [])], [(600000, (600000, [])), (5, (5, [])), (7, (7, []))]⟩ (fun (v15 : (List Int) × Int) => [(3, .c (.slc 1 600002 (List.length v15.1) (List.map (ecI .u8) v15.1))), (4, .c (.lit (.int .u64 (v15.2))))]) (fun (v15 : (List Int) × Int) => [(600000, .spare 5 1 (List.length v15.1))]) (F_ref29_Body_j3 e6 s1) x ?_ ?_
              · clear h
                intro v15 h
                unfold F_ref29_Body_j3 at h
                refine TS_go 6 ?_
                refine TS_cut ⟨[(3, []), (4, []), (5, []), (7, []), (8, []), (10, []), (11, []), (12, []), (9, [])], [(600000, (600000, [])), (5, (5, [])), (7, (7, []))]⟩ (.mk [.code (codeAt [1, 1, 1, 1, 0, 1, 0, 0, 1, 1, 0, 0, 1, 1, 1, 0, 1, 1, 1, 1, 1, 0, 1, 1, 0, 0] (bodyOf Try.f50)), .blk 3, .code (codeAt [1, 1, 1, 1, 0, 1, 0, 0, 1, 1, 0, 0, 1, 1, 1, 0, 1, 1, 1, 1, 1, 0, 1, 1, 1] (bodyOf Try.f50)), .blk 2, .blk 1] .normal ⟨[(3, .c (.slc 1 600002 (List.length v15.1) (List.map (ecI .u8) v15.1))), (4, .c (.lit (.int .u64 (v15.2)))), (5, .c (.box 5 0)), (7, .c (.box 7 0)), (8, .c (.lit (.slice none 0 0))), (10, .c (.slc 40 0 (List.length a0) (List.map S_Notice.cs a0))), (11, .c (.lit (.int .i64 ((List.length a0 : Int))))), (12, .c (.lit (.int .i64 (s1.2.2.1)))), (9, .c (.lit (.int .i64 (0))))], [(600000, .spare 5 1 (List.length v15.1)), (5, .box [.lit (.int .u8 ((s1.2.2.2.getD 0 0))), .lit (.int .u8 ((s1.2.2.2.getD 1 0))), .lit (.int .u8 ((s1.2.2.2.getD 2 0))), .lit (.int .u8 ((s1.2.2.2.getD 3 0))), .lit (.int .u8 ((s1.2.2.2.getD 4 0))), .lit (.int .u8 ((s1.2.2.2.getD 5 0))), .lit (.int .u8 ((s1.2.2.2.getD 6 0))), .lit (.int .u8 ((s1.2.2.2.getD 7 0))), .lit (.int .u8 ((s1.2.2.2.getD 8 0))), .lit (.int .u8 ((s1.2.2.2.getD 9 0))), .lit (.int .u8 ((s1.2.2.2.getD 10 0))), .lit (.int .u8 ((s1.2.2.2.getD 11 0))), .lit (.int .u8 ((s1.2.2.2.getD 12 0))), .lit (.int .u8 ((s1.2.2.2.getD 13 0))), .lit (.int .u8 ((s1.2.2.2.getD 14 0))), .lit (.int .u8 ((s1.2.2.2.getD 15 0)))]), (7, .box [.lit (.int .i64 (e6.Kind)), .lit (.int .u16 (e6.Seq)), .lit (.int .i64 (e6.Metric)), .lit (.int .u64 (e6.Neighbour)), .lit (.int .u8 ((e6.To.Dst.IP.getD 0 0))), .lit (.int .u8 ((e6.To.Dst.IP.getD 1 0))), .lit (.int .u8 ((e6.To.Dst.IP.getD 2 0))), .lit (.int .u8 ((e6.To.Dst.IP.getD 3 0))), .lit (.int .u8 ((e6.To.Dst.IP.getD 4 0))), .lit (.int .u8 ((e6.To.Dst.IP.getD 5 0))), .lit (.int .u8 ((e6.To.Dst.IP.getD 6 0))), .lit (.int .u8 ((e6.To.Dst.IP.getD 7 0))), .lit (.int .u8 ((e6.To.Dst.IP.getD 8 0))), .lit (.int .u8 ((e6.To.Dst.IP.getD 9 0))), .lit (.int .u8 ((e6.To.Dst.IP.getD 10 0))), .lit (.int .u8 ((e6.To.Dst.IP.getD 11 0))), .lit (.int .u8 ((e6.To.Dst.IP.getD 12 0))), .lit (.int .u8 ((e6.To.Dst.IP.getD 13 0))), .lit (.int .u8 ((e6.To.Dst.IP.getD 14 0))), .lit (.int .u8 ((e6.To.Dst.IP.getD 15 0))), .lit (.int .i64 (e6.To.Dst.Bits)), .lit (.int .u8 ((e6.To.Src.IP.getD 0 0))), .lit (.int .u8 ((e6.To.Src.IP.getD 1 0))), .lit (.int .u8 ((e6.To.Src.IP.getD 2 0))), .lit (.int .u8 ((e6.To.Src.IP.getD 3 0))), .lit (.int .u8 ((e6.To.Src.IP.getD 4 0))), .lit (.int .u8 ((e6.To.Src.IP.getD 5 0))), .lit (.int .u8 ((e6.To.Src.IP.getD 6 0))), .lit (.int .u8 ((e6.To.Src.IP.getD 7 0))), .lit (.int .u8 ((e6.To.Src.IP.getD 8 0))), .lit (.int .u8 ((e6.To.Src.IP.getD 9 0))), .lit (.int .u8 ((e6.To.Src.IP.getD 10 0))), .lit (.int .u8 ((e6.To.Src.IP.getD 11 0))), .lit (.int .u8 ((e6.To.Src.IP.getD 12 0))), .lit (.int .u8 ((e6.To.Src.IP.getD 13 0))), .lit (.int .u8 ((e6.To.Src.IP.getD 14 0))), .lit (.int .u8 ((e6.To.Src.IP.getD 15 0))), .lit (.int .i64 (e6.To.Src.Bits)), .lit (.int .u64 (e6.To.Router)), .lit (.int .i64 (e6.Hops))])]⟩) (by kernel_rfl) (by kernel_rfl) ?_
                replace h := bindO h
                obtain ⟨y18, hl4, hK4⟩ := h
                refine TS_loopB (F_ref29_Body_l4 e6 s1) ⟨[(3, []), (4, []), (5, []), (7, []), (8, []), (9, []), (10, []), (11, []), (12, [])], [(600000, (600000, [])), (5, (5, [])), (7, (7, []))]⟩ (fun (s16 : Int) => [(9, .c (.lit (.int .i64 (s16))))]) (fun (s16 : Int) => []) 0 y18 (.exit 3) (fun (b : Int) => b) ⟨[(3, []), (4, []), (5, []), (7, []), (8, []), (9, []), (10, []), (11, []), (12, [])], [(600000, (600000, [])), (5, (5, [])), (7, (7, []))]⟩ (fun (b17 : Int) => [(9, .c (.lit (.int .i64 (b17))))]) (fun (b17 : Int) => []) hl4 (by kernel_rfl) (by kernel_rfl) ?_ ?_
                · intro s16 x h hy4
                  unfold F_ref29_Body_l4 at h
                  refine TS_go 2 ?_
                  refine TS_draw (by kernel_rfl) ?_
                  refine TD_go 5 ?_
                  replace h := bindO h
                  obtain ⟨v19, hv19, h⟩ := h
                  refine TD_call [] (ok_ref29_size e6.To.Dst.Bits v19 hv19) (by kernel_rfl) (by kernel_rfl) ?_
                  refine TD_go 1 ?_
                  replace h := condO h
                  rcases h with ⟨hb20, h⟩ | ⟨hb20, h⟩
                  · refine TD_know 58 (b := true) hb20 trivial (by kernel_rfl) (by kernel_rfl) ?_
                    refine TD_go 4 ?_
                    replace h := chkO h
                    obtain ⟨hc21, h⟩ := h
                    refine TD_idxA 7 4 16 (i := s16) hc21 (by kernel_rfl) (by kernel_rfl) ?_
                    refine TD_ldA .u8 4 16 (i := s16) e6.To.Dst.IP hc21 (by kernel_rfl) (by kernel_rfl) ?_
                    refine TD_go 1 ?_
                    replace h := chkO h
                    obtain ⟨hc22, h⟩ := h
                    refine TD_idxA 5 0 16 (i := s16) hc22 (by kernel_rfl) (by kernel_rfl) ?_
                    refine TD_ldA .u8 0 16 (i := s16) s1.2.2.2 hc22 (by kernel_rfl) (by kernel_rfl) ?_
                    refine TD_go 2 ?_
                    refine TD_end (by kernel_rfl) ?_
                    replace h := condO h
                    rcases h with ⟨hb23, h⟩ | ⟨hb23, h⟩
                    · refine TS_know 57 (b := true) hb20 (by kernel_rfl) (by kernel_rfl) ?_
                      refine TS_know 68 (b := true) hb23 (by kernel_rfl) (by kernel_rfl) ?_
                      refine TS_know 69 (b := true) hb23 (by kernel_rfl) (by kernel_rfl) ?_
                      refine TS_T (by kernel_rfl) rfl ?_
                      refine TS_go 8 ?_
                      have ret := Option.some.inj h
                      subst ret
                      exact TS_againB _ ⟨[(3, []), (4, []), (5, []), (7, []), (8, []), (9, []), (10, []), (11, []), (12, [])], [(600000, (600000, [])), (5, (5, [])), (7, (7, []))]⟩ rfl (by kernel_rfl) (by kernel_rfl)
                    · refine TS_know 57 (b := true) hb20 (by kernel_rfl) (by kernel_rfl) ?_
                      refine TS_know 68 (b := false) hb23 (by kernel_rfl) (by kernel_rfl) ?_
                      refine TS_know 69 (b := false) hb23 (by kernel_rfl) (by kernel_rfl) ?_
                      refine TS_F (by kernel_rfl) rfl ?_
                      refine TS_go 2 ?_
                      have ret := Option.some.inj h
                      subst ret
                      exact TS_brkB s16 ⟨[(3, []), (4, []), (5, []), (7, []), (8, []), (9, []), (10, []), (11, []), (12, [])], [(600000, (600000, [])), (5, (5, [])), (7, (7, []))]⟩ rfl (by kernel_rfl) (by kernel_rfl) (by kernel_rfl)
                  · refine TD_know 58 (b := false) hb20 trivial (by kernel_rfl) (by kernel_rfl) ?_
                    refine TD_go 11 ?_
                    refine TD_end (by kernel_rfl) ?_
                    refine TS_F (by kernel_rfl) rfl ?_
                    refine TS_go 2 ?_
                    have ret := Option.some.inj h
                    subst ret
                    exact TS_brkB s16 ⟨[(3, []), (4, []), (5, []), (7, []), (8, []), (9, []), (10, []), (11, []), (12, [])], [(600000, (600000, [])), (5, (5, [])), (7, (7, []))]⟩ rfl (by kernel_rfl) (by kernel_rfl) (by kernel_rfl)
                · intro b17 hb
                  subst y18
                  have h := hK4
                  refine TS_go 24 ?_
                  refine TS_litNT 89 5 1 (ecI .u8) [] ([IntKind.wrap .u8 b17, IntKind.wrap .u8 e6.To.Dst.Bits, IntKind.wrap .u8 e6.To.Src.Bits] : List Int) (by kernel_rfl) (by kernel_rfl) ?_
                  replace h := bindO h
                  obtain ⟨l25, hl25, h⟩ := h
                  refine TS_appNT 90 5 1 (ecI .u8) (fun _ => by kernel_rfl) (l2 := ([IntKind.wrap .u8 b17, IntKind.wrap .u8 e6.To.Dst.Bits, IntKind.wrap .u8 e6.To.Src.Bits] : List Int)) .whole hl25 (by kernel_rfl) (by kernel_rfl) ?_
                  refine TS_go 3 ?_
                  refine TS_draw (by kernel_rfl) ?_
                  refine TD_go 4 ?_
                  replace h := bindO h
                  obtain ⟨v26, hv26, h⟩ := h
                  refine TD_conG 90 [] (ok_ref29_Put_G0 l25 (IntKind.wrap .u64 e6.Seq) 2 v26 hv26) (by kernel_rfl) (by kernel_rfl) (by kernel_rfl) ?_
                  refine TD_go 3 ?_
                  replace h := bindO h
                  obtain ⟨v27, hv27, h⟩ := h
                  refine TD_conG 90 [] (ok_ref29_Put_G0 v26 (IntKind.wrap .u64 e6.Metric) 2 v27 hv27) (by kernel_rfl) (by kernel_rfl) (by kernel_rfl) ?_
                  refine TD_go 1 ?_
                  refine TD_end (by kernel_rfl) ?_
                  refine TS_go 7 ?_
                  replace h := bindO h
                  obtain ⟨v28, hv28, h⟩ := h
                  refine TS_con [] [(105, 900000)] none (okT_ref29_part e6.To.Dst b17 v28 hv28) (by kernel_rfl) (by kernel_rfl) (by kernel_rfl) ?_
                  replace h := bindO h
                  obtain ⟨l29, hl29, h⟩ := h
                  refine TS_appT (d := 90) (e := 5) (sz := 1) (N := List.length v27) (ecI .u8) (fun _ => by kernel_rfl) (l1 := v27) (l2 := v28) (c := .whole) hl29 (by kernel_rfl) (by kernel_rfl) ?_
                  refine TS_go 8 ?_
                  replace h := bindO h
                  obtain ⟨v30, hv30, h⟩ := h
                  refine TS_con [] [(112, 900000)] none (okT_ref29_part e6.To.Src 0 v30 hv30) (by kernel_rfl) (by kernel_rfl) (by kernel_rfl) ?_
                  replace h := bindO h
                  obtain ⟨l31, hl31, h⟩ := h
                  refine TS_appT (d := 90) (e := 5) (sz := 1) (N := List.length l29) (ecI .u8) (fun _ => by kernel_rfl) (l1 := l29) (l2 := v30) (c := .whole) hl31 (by kernel_rfl) (by kernel_rfl) ?_
                  replace h := bindO h
                  obtain ⟨v32, hv32, h⟩ := h
                  refine TS_conG 600000 [[], [], [2]] (ok_ref29_element_G0 v15.1 3 l31 v32 hv32) (by kernel_rfl) (by kernel_rfl) (by kernel_rfl) ?_
                  refine TS_go 4 ?_
                  exact TS_meet (v32, v15.2, e6.To.Dst.IP) ⟨[(3, []), (4, []), (5, []), (10, []), (11, []), (12, [])], [(600000, (600000, [])), (5, (5, []))]⟩ h (by kernel_rfl) (by kernel_rfl)
              · refine TS_go 8 ?_
                replace h := condO h
                rcases h with ⟨hb33, h⟩ | ⟨hb33, h⟩
                · refine TS_know 43 (b := true) hb33 (by kernel_rfl) (by kernel_rfl) ?_
                  refine TS_T (by kernel_rfl) rfl ?_
                  refine TS_go 10 ?_
                  replace h := bindO h
                  obtain ⟨v34, hv34, h⟩ := h
                  refine TS_con [] [(49, 900000)] none (okT_ref29_Put_N0 e6.To.Router 8 v34 hv34) (by kernel_rfl) (by kernel_rfl) (by kernel_rfl) ?_
                  replace h := bindO h
                  obtain ⟨v35, hv35, h⟩ := h
                  refine TS_conG 600000 [[], [], [2]] (ok_ref29_element_G0 s1.1 6 v34 v35 hv35) (by kernel_rfl) (by kernel_rfl) (by kernel_rfl) ?_
                  refine TS_go 2 ?_
                  exact TS_meet (v35, e6.To.Router) ⟨[(3, []), (4, []), (5, []), (7, []), (8, []), (10, []), (11, []), (12, [])], [(600000, (600000, [])), (5, (5, [])), (7, (7, []))]⟩ h (by kernel_rfl) (by kernel_rfl)
                · refine TS_know 43 (b := false) hb33 (by kernel_rfl) (by kernel_rfl) ?_
                  refine TS_F (by kernel_rfl) rfl ?_
                  refine TS_go 1 ?_
                  exact TS_meet (s1.1, s1.2.1) ⟨[(3, []), (4, []), (5, []), (7, []), (8, []), (10, []), (11, []), (12, [])], [(600000, (600000, [])), (5, (5, [])), (7, (7, []))]⟩ h (by kernel_rfl) (by kernel_rfl)
            · refine TS_know 38 (b := false) hb14 (by kernel_rfl) (by kernel_rfl) ?_
              refine TS_know 37 (b := false) hb14 (by kernel_rfl) (by kernel_rfl) ?_
              refine TS_F (by kernel_rfl) rfl ?_
              refine TS_go 5 ?_
              replace h := condO h
              rcases h with ⟨hb36, h⟩ | ⟨hb36, h⟩
              · refine TS_know 116 (b := true) hb36 (by kernel_rfl) (by kernel_rfl) ?_
                refine TS_know 115 (b := true) hb36 (by kernel_rfl) (by kernel_rfl) ?_
                refine TS_T (by kernel_rfl) rfl ?_
                refine TS_go 13 ?_
                refine TS_litNT 128 5 1 (ecI .u8) [] ([IntKind.wrap .u8 e6.To.Dst.Bits, IntKind.wrap .u8 e6.To.Src.Bits] : List Int) (by kernel_rfl) (by kernel_rfl) ?_
                replace h := bindO h
                obtain ⟨l37, hl37, h⟩ := h
                refine TS_appNT 129 5 1 (ecI .u8) (fun _ => by kernel_rfl) (l2 := ([IntKind.wrap .u8 e6.To.Dst.Bits, IntKind.wrap .u8 e6.To.Src.Bits] : List Int)) .whole hl37 (by kernel_rfl) (by kernel_rfl) ?_
                refine TS_go 8 ?_
                replace h := bindO h
                obtain ⟨v38, hv38, h⟩ := h
                refine TS_con [] [(134, 900000)] none (okT_ref29_part e6.To.Dst 0 v38 hv38) (by kernel_rfl) (by kernel_rfl) (by kernel_rfl) ?_
                replace h := bindO h
                obtain ⟨l39, hl39, h⟩ := h
                refine TS_appT (d := 129) (e := 5) (sz := 1) (N := List.length l37) (ecI .u8) (fun _ => by kernel_rfl) (l1 := l37) (l2 := v38) (c := .whole) hl39 (by kernel_rfl) (by kernel_rfl) ?_
                refine TS_go 8 ?_
                replace h := bindO h
                obtain ⟨v40, hv40, h⟩ := h
                refine TS_con [] [(141, 900000)] none (okT_ref29_part e6.To.Src 0 v40 hv40) (by kernel_rfl) (by kernel_rfl) (by kernel_rfl) ?_
                replace h := bindO h
                obtain ⟨l41, hl41, h⟩ := h
                refine TS_appT (d := 129) (e := 5) (sz := 1) (N := List.length l39) (ecI .u8) (fun _ => by kernel_rfl) (l1 := l39) (l2 := v40) (c := .whole) hl41 (by kernel_rfl) (by kernel_rfl) ?_
                replace h := bindO h
                obtain ⟨v42, hv42, h⟩ := h
                refine TS_conG 600000 [[], [], [2]] (ok_ref29_element_G0 s1.1 4 l41 v42 hv42) (by kernel_rfl) (by kernel_rfl) (by kernel_rfl) ?_
                refine TS_go 4 ?_
                exact TS_meet (v42, s1.2.1, s1.2.2.2) ⟨[(3, []), (4, []), (5, []), (10, []), (11, []), (12, [])], [(600000, (600000, [])), (5, (5, []))]⟩ h (by kernel_rfl) (by kernel_rfl)
              · refine TS_know 116 (b := false) hb36 (by kernel_rfl) (by kernel_rfl) ?_
                refine TS_know 115 (b := false) hb36 (by kernel_rfl) (by kernel_rfl) ?_
                refine TS_F (by kernel_rfl) rfl ?_
                refine TS_go 5 ?_
                replace h := condO h
                rcases h with ⟨hb43, h⟩ | ⟨hb43, h⟩
                · refine TS_know 145 (b := true) hb43 (by kernel_rfl) (by kernel_rfl) ?_
                  refine TS_know 144 (b := true) hb43 (by kernel_rfl) (by kernel_rfl) ?_
                  refine TS_T (by kernel_rfl) rfl ?_
                  refine TS_go 13 ?_
                  refine TS_litNT 157 5 1 (ecI .u8) [] ([IntKind.wrap .u8 e6.To.Dst.Bits, IntKind.wrap .u8 e6.To.Src.Bits] : List Int) (by kernel_rfl) (by kernel_rfl) ?_
                  replace h := bindO h
                  obtain ⟨l44, hl44, h⟩ := h
                  refine TS_appNT 158 5 1 (ecI .u8) (fun _ => by kernel_rfl) (l2 := ([IntKind.wrap .u8 e6.To.Dst.Bits, IntKind.wrap .u8 e6.To.Src.Bits] : List Int)) .whole hl44 (by kernel_rfl) (by kernel_rfl) ?_
                  refine TS_go 8 ?_
                  replace h := bindO h
                  obtain ⟨v45, hv45, h⟩ := h
                  refine TS_conG 158 [] (ok_ref29_Put_G0 l44 (IntKind.wrap .u64 e6.Seq) 2 v45 hv45) (by kernel_rfl) (by kernel_rfl) (by kernel_rfl) ?_
                  refine TS_go 8 ?_
                  refine TS_litNT 168 5 1 (ecI .u8) [] ([IntKind.wrap .u8 e6.Hops] : List Int) (by kernel_rfl) (by kernel_rfl) ?_
                  replace h := bindO h
                  obtain ⟨l46, hl46, h⟩ := h
                  refine TS_appT (d := 158) (e := 5) (sz := 1) (N := List.length v45) (ecI .u8) (fun _ => by kernel_rfl) (l1 := v45) (l2 := ([IntKind.wrap .u8 e6.Hops] : List Int)) (c := .whole) hl46 (by kernel_rfl) (by kernel_rfl) ?_
                  refine TS_go 8 ?_
                  replace h := bindO h
                  obtain ⟨v47, hv47, h⟩ := h
                  refine TS_conG 158 [] (ok_ref29_Put_G0 l46 e6.To.Router 8 v47 hv47) (by kernel_rfl) (by kernel_rfl) (by kernel_rfl) ?_
                  refine TS_go 8 ?_
                  replace h := bindO h
                  obtain ⟨v48, hv48, h⟩ := h
                  refine TS_con [] [(179, 900000)] none (okT_ref29_part e6.To.Dst 0 v48 hv48) (by kernel_rfl) (by kernel_rfl) (by kernel_rfl) ?_
                  replace h := bindO h
                  obtain ⟨l49, hl49, h⟩ := h
                  refine TS_appT (d := 158) (e := 5) (sz := 1) (N := List.length v47) (ecI .u8) (fun _ => by kernel_rfl) (l1 := v47) (l2 := v48) (c := .whole) hl49 (by kernel_rfl) (by kernel_rfl) ?_
                  refine TS_go 8 ?_
                  replace h := bindO h
                  obtain ⟨v50, hv50, h⟩ := h
                  refine TS_con [] [(186, 900000)] none (okT_ref29_part e6.To.Src 0 v50 hv50) (by kernel_rfl) (by kernel_rfl) (by kernel_rfl) ?_
                  replace h := bindO h
                  obtain ⟨l51, hl51, h⟩ := h
                  refine TS_appT (d := 158) (e := 5) (sz := 1) (N := List.length l49) (ecI .u8) (fun _ => by kernel_rfl) (l1 := l49) (l2 := v50) (c := .whole) hl51 (by kernel_rfl) (by kernel_rfl) ?_
                  replace h := bindO h
                  obtain ⟨v52, hv52, h⟩ := h
                  refine TS_conG 600000 [[], [], [2]] (ok_ref29_element_G0 s1.1 5 l51 v52 hv52) (by kernel_rfl) (by kernel_rfl) (by kernel_rfl) ?_
                  refine TS_go 4 ?_
                  exact TS_meet (v52, s1.2.1, s1.2.2.2) ⟨[(3, []), (4, []), (5, []), (10, []), (11, []), (12, [])], [(600000, (600000, [])), (5, (5, []))]⟩ h (by kernel_rfl) (by kernel_rfl)
                · refine TS_know 145 (b := false) hb43 (by kernel_rfl) (by kernel_rfl) ?_
                  refine TS_know 144 (b := false) hb43 (by kernel_rfl) (by kernel_rfl) ?_
                  refine TS_F (by kernel_rfl) rfl ?_
                  refine TS_go 3 ?_
                  exact TS_meet (s1.1, s1.2.1, s1.2.2.2) ⟨[(3, []), (4, []), (5, []), (10, []), (11, []), (12, [])], [(600000, (600000, [])), (5, (5, []))]⟩ h (by kernel_rfl) (by kernel_rfl)
    · refine TS_know 13 (b := false) hb4 (by kernel_rfl) (by kernel_rfl) ?_
      refine TS_F (by kernel_rfl) rfl ?_
      refine TS_go 2 ?_
      have ret := Option.some.inj h
      subst ret
      exact TS_brkB s1.1 ⟨[(3, [])], [(600000, (600000, []))]⟩ rfl (by kernel_rfl) (by kernel_rfl) (by kernel_rfl)
  · intro b2 hb
    subst y3
    have h := hK1
    refine TS_go 6 ?_
    refine TS_fitU ⟨[(2, [])], [(600000, (900000, []))]⟩ (by kernel_rfl) ?_
    refine TS_go 1 ?_
    have ret := Option.some.inj h
    subst ret
    exact TS_ret (by kernel_rfl) (by kernel_rfl) (by kernel_rfl)
/-- multihop/multihopref29.Encode -/
noncomputable def F_ref29_Encode_l1 (a1 : List S_Notice) (s2 : Int) : Option ((Int) ⊕ ((Unit) ⊕ ((List Int) × Int))) :=
  bif (decide (s2 < (List.length a1 : Int))) then
    (idx a1 s2).bind fun e6 =>
    (F_ref29_Valid e6).bind fun v7 =>
    bif v7 then
      some (Sum.inl (IntKind.wrap .i64 (s2 + 1)))
    else
      some (Sum.inr (Sum.inr (([] : List Int), 1)))
  else
    some (Sum.inr (Sum.inl ()))
/-- multihop/multihopmade.Mod -/
noncomputable def F_made_Mod_j1  (v2 : Int) : Option (Int) :=
  some (v2)
noncomputable def F_made_Mod (a0 : Int) (a1 : Int) : Option (Int) :=
  bif decide (a1 ≠ 0) then
    bif (decide ((Int.tmod a0 a1) < 0)) then
      (F_made_Mod_j1) (IntKind.wrap .i64 ((Int.tmod a0 a1) + a1))
    else
      (F_made_Mod_j1) (Int.tmod a0 a1)
  else none
set_option maxRecDepth 100000 in
set_option maxHeartbeats 40000000 in
theorem ok_made_Mod (a0 : Int) (a1 : Int) (r : Int) (h : F_made_Mod a0 a1 = some r) : Con Try.prog 19 [.c (.lit (.int .i64 (a0))), .c (.lit (.int .i64 (a1)))] [] (.c (.lit (.int .i64 (r)))) [] := by
  unfold F_made_Mod at h
  refine con_of [] [] 14 Try.func19 rfl rfl (by kernel_rfl) (fun K => ?_)
  refine TS_go 8 ?_
  replace h := chkO h
  obtain ⟨hc1, h⟩ := h
  refine TS_num (op := .rem) (k := .i64) (k' := .i64) (m := a0) (i := a1) (of_decide_eq_true hc1) rfl (by simp) (by kernel_rfl) (by kernel_rfl) ?_
  refine TS_go 2 ?_
  refine TS_cut ⟨[(0, []), (1, [])], []⟩ (.mk [.code (codeAt [1, 1] (bodyOf Try.f19))] .normal ⟨[(0, .c (.lit (.int .i64 (Int.tmod a0 a1)))), (1, .c (.lit (.int .i64 (a1))))], []⟩) (by kernel_rfl) (by kernel_rfl) ?_
  refine TS_joinB ⟨[(0, [])], []⟩ (fun (v2 : Int) => [(0, .c (.lit (.int .i64 (v2))))]) (fun (v2 : Int) => []) (F_made_Mod_j1) r ?_ ?_
  · clear h
    intro v2 h
    unfold F_made_Mod_j1 at h
    refine TS_go 6 ?_
    have ret := Option.some.inj h
    subst ret
    exact TS_ret (by kernel_rfl) (by kernel_rfl) (by kernel_rfl)
  · refine TS_go 5 ?_
    replace h := condO h
    rcases h with ⟨hb3, h⟩ | ⟨hb3, h⟩
    · refine TS_know 9 (b := true) hb3 (by kernel_rfl) (by kernel_rfl) ?_
      refine TS_T (by kernel_rfl) rfl ?_
      refine TS_go 6 ?_
      exact TS_meet (IntKind.wrap .i64 ((Int.tmod a0 a1) + a1)) ⟨[(0, [])], []⟩ h (by kernel_rfl) (by kernel_rfl)
    · refine TS_know 9 (b := false) hb3 (by kernel_rfl) (by kernel_rfl) ?_
      refine TS_F (by kernel_rfl) rfl ?_
      refine TS_go 1 ?_
      exact TS_meet (Int.tmod a0 a1) ⟨[(0, [])], []⟩ h (by kernel_rfl) (by kernel_rfl)

/-- multihop/multihopref29.Encode -/
noncomputable def F_ref29_Encode_R_l1 (a1 : List S_Notice) (s2 : Int) : Option ((Int) ⊕ ((Unit) ⊕ ((List Int) × Int))) :=
  bif (decide (s2 < (List.length a1 : Int))) then
    (idx a1 s2).bind fun e6 =>
    (F_ref29_Valid e6).bind fun v7 =>
    bif v7 then
      some (Sum.inl (IntKind.wrap .i64 (s2 + 1)))
    else
      some (Sum.inr (Sum.inr (([] : List Int), 1)))
  else
    some (Sum.inr (Sum.inl ()))
noncomputable def F_ref29_Encode_R_l2 (a0 : Int) (s13 : Int × (List Int)) : Option ((Int × (List Int)) ⊕ ((List Int))) :=
  bif (decide (s13.1 ≥ 0)) then
    bif decide (0 ≤ (IntKind.wrap .u64 (IntKind.wrap .i64 (8 * s13.1)))) then
      (appO 1 (List.take (List.length s13.2) s13.2) (Cut.app .whole ([IntKind.wrap .u8 (ishr .u64 (IntKind.wrap .u64 a0) (IntKind.wrap .u64 (IntKind.wrap .i64 (8 * s13.1))))] : List Int))).bind fun l18 =>
      some (Sum.inl (IntKind.wrap .i64 (s13.1 - 1), l18))
    else none
  else
    some (Sum.inr s13.2)
noncomputable def F_ref29_Encode_R_l3 (v12 : (List Int)) (s20 : Int × (List Int)) : Option ((Int × (List Int)) ⊕ ((List Int))) :=
  bif (decide (s20.1 ≥ 0)) then
    bif decide (0 ≤ (IntKind.wrap .u64 (IntKind.wrap .i64 (8 * s20.1)))) then
      (appO 1 (List.take (List.length s20.2) s20.2) (Cut.app .whole ([IntKind.wrap .u8 (ishr .u64 (IntKind.wrap .u64 (List.length v12 : Int)) (IntKind.wrap .u64 (IntKind.wrap .i64 (8 * s20.1))))] : List Int))).bind fun l25 =>
      some (Sum.inl (IntKind.wrap .i64 (s20.1 - 1), l25))
    else none
  else
    some (Sum.inr s20.2)
noncomputable def F_ref29_Encode_R (a0 : Int) (a1 : List S_Notice) : Option ((List Int) × Int) :=
  bif (decide ((List.length a1 : Int) > 64)) then
    some ((([] : List Int), 3))
  else
    (loopO (F_ref29_Encode_R_l1 a1) 0).bind (Sum.elim (fun b3 =>
      bif (decide (a0 < 0)) then
        some ((([] : List Int), 2))
      else
        bif (decide (a0 ≥ 1099511627776)) then
          some ((([] : List Int), 2))
        else
          (F_ref29_Body a1).bind fun v12 =>
          (loopO (F_ref29_Encode_R_l2 a0) (IntKind.wrap .i64 (5 - 1), ([42, 1] : List Int))).bind fun b14 =>
          (loopO (F_ref29_Encode_R_l3 v12) (IntKind.wrap .i64 (2 - 1), b14)).bind fun b21 =>
          (appO 1 (List.take (List.length b21) b21) (Cut.app .whole v12)).bind fun l27 =>
          some ((l27, 0))
    ) (fun w9 => some w9))
set_option maxRecDepth 100000 in
set_option maxHeartbeats 40000000 in
theorem okT_ref29_Encode_R (a0 : Int) (a1 : List S_Notice) (r : (List Int) × Int) (h : F_ref29_Encode_R a0 a1 = some r) : Con Try.prog 26 [.c (.lit (.int .i64 (a0))), .c (eS 40 S_Notice.cs (a1))] [] (.tup [(false, [.own 900000]), (false, [.lit (.int .i64 (r.2))])]) [(900000, .row 5 1 (List.length r.1) (List.map (ecI .u8) r.1))] := by
  unfold F_ref29_Encode_R at h
  refine con_of [] [(900000, [])] 43 Try.func26 rfl rfl (by kernel_rfl) (fun K => ?_)
  refine TS_go 12 ?_
  replace h := condO h
  rcases h with ⟨hb1, h⟩ | ⟨hb1, h⟩
  · refine TS_know 12 (b := true) hb1 (by kernel_rfl) (by kernel_rfl) ?_
    refine TS_T (by kernel_rfl) rfl ?_
    refine TS_go 5 ?_
    refine TS_nilR 4 600000 5 1 (by kernel_rfl) ?_
    refine TS_fitU ⟨[(4, []), (5, [])], [(600000, (900000, []))]⟩ (by kernel_rfl) ?_
    refine TS_go 2 ?_
    have ret := Option.some.inj h
    subst ret
    exact TS_ret (by kernel_rfl) (by kernel_rfl) (by kernel_rfl)
  · refine TS_know 12 (b := false) hb1 (by kernel_rfl) (by kernel_rfl) ?_
    refine TS_F (by kernel_rfl) rfl ?_
    refine TS_go 9 ?_
    refine TS_cut ⟨[(0, []), (1, []), (13, []), (14, []), (15, [])], []⟩ (.mk [.code (codeAt [1, 1, 0, 1, 0] (bodyOf Try.f26)), .blk 0, .code (codeAt [1, 1, 1] (bodyOf Try.f26))] .normal ⟨[(0, .c (.lit (.int .i64 (a0)))), (1, .c (.slc 40 0 (List.length a1) (List.map S_Notice.cs a1))), (13, .c (.slc 40 0 (List.length a1) (List.map S_Notice.cs a1))), (14, .c (.lit (.int .i64 ((List.length a1 : Int))))), (15, .c (.lit (.int .i64 (0))))], []⟩) (by kernel_rfl) (by kernel_rfl) ?_
    replace h := bindO h
    obtain ⟨y4, hl1, hK1⟩ := h
    refine TS_loopB (F_ref29_Encode_R_l1 a1) ⟨[(0, []), (1, []), (13, []), (14, []), (15, [])], []⟩ (fun (s2 : Int) => [(15, .c (.lit (.int .i64 (s2))))]) (fun (s2 : Int) => []) 0 y4 (.exit 0) (fun (b : Unit) => (Sum.inl b : (Unit) ⊕ ((List Int) × Int))) ⟨[(0, []), (1, [])], []⟩ (fun (b3 : Unit) => []) (fun (b3 : Unit) => []) hl1 (by kernel_rfl) (by kernel_rfl) ?_ ?_
    · intro s2 x h hy1
      unfold F_ref29_Encode_R_l1 at h
      refine TS_go 5 ?_
      replace h := condO h
      rcases h with ⟨hb5, h⟩ | ⟨hb5, h⟩
      · refine TS_know 16 (b := true) hb5 (by kernel_rfl) (by kernel_rfl) ?_
        refine TS_T (by kernel_rfl) rfl ?_
        refine TS_go 5 ?_
        replace h := bindO h
        obtain ⟨e6, he6, h⟩ := h
        refine TS_idx S_Notice.cs he6 (by kernel_rfl) (by kernel_rfl) ?_
        refine TS_go 7 ?_
        replace h := bindO h
        obtain ⟨v7, hv7, h⟩ := h
        refine TS_call [] (ok_ref29_Valid e6 v7 hv7) (by kernel_rfl) (by kernel_rfl) ?_
        refine TS_go 2 ?_
        replace h := condO h
        rcases h with ⟨hb8, h⟩ | ⟨hb8, h⟩
        · subst hb8
          refine TS_F (by kernel_rfl) rfl ?_
          refine TS_go 6 ?_
          have ret := Option.some.inj h
          subst ret
          exact TS_againB _ ⟨[(0, []), (1, []), (13, []), (14, []), (15, [])], []⟩ rfl (by kernel_rfl) (by kernel_rfl)
        · subst hb8
          refine TS_T (by kernel_rfl) rfl ?_
          refine TS_go 5 ?_
          refine TS_nilR 4 600000 5 1 (by kernel_rfl) ?_
          refine TS_fitU ⟨[(4, []), (5, [])], [(600000, (900000, []))]⟩ (by kernel_rfl) ?_
          refine TS_go 3 ?_
          have ret := Option.some.inj h
          subst ret
          have hy1q := hy1 _ rfl
          subst hy1q
          replace h := (elimR hK1)
          refine TS_retB rfl (by kernel_rfl) ?_
          refine TS_go 2 ?_
          have ret := Option.some.inj h
          subst ret
          exact TS_ret (by kernel_rfl) (by kernel_rfl) (by kernel_rfl)
      · refine TS_know 16 (b := false) hb5 (by kernel_rfl) (by kernel_rfl) ?_
        refine TS_F (by kernel_rfl) rfl ?_
        refine TS_go 2 ?_
        have ret := Option.some.inj h
        subst ret
        exact TS_brkB () ⟨[(0, []), (1, [])], []⟩ rfl (by kernel_rfl) (by kernel_rfl) (by kernel_rfl)
    · intro b3 hb
      subst y4
      have h := elimL hK1
      refine TS_go 7 ?_
      replace h := condO h
      rcases h with ⟨hb10, h⟩ | ⟨hb10, h⟩
      · refine TS_know 24 (b := true) hb10 (by kernel_rfl) (by kernel_rfl) ?_
        refine TS_know 25 (b := true) hb10 (by kernel_rfl) (by kernel_rfl) ?_
        refine TS_go 4 ?_
        refine TS_T (by kernel_rfl) rfl ?_
        refine TS_go 5 ?_
        refine TS_nilR 4 600000 5 1 (by kernel_rfl) ?_
        refine TS_fitU ⟨[(4, []), (5, [])], [(600000, (900000, []))]⟩ (by kernel_rfl) ?_
        refine TS_go 2 ?_
        have ret := Option.some.inj h
        subst ret
        exact TS_ret (by kernel_rfl) (by kernel_rfl) (by kernel_rfl)
      · refine TS_know 24 (b := false) hb10 (by kernel_rfl) (by kernel_rfl) ?_
        refine TS_know 25 (b := false) hb10 (by kernel_rfl) (by kernel_rfl) ?_
        refine TS_go 4 ?_
        replace h := condO h
        rcases h with ⟨hb11, h⟩ | ⟨hb11, h⟩
        · refine TS_know 27 (b := true) hb11 (by kernel_rfl) (by kernel_rfl) ?_
          refine TS_know 28 (b := true) hb11 (by kernel_rfl) (by kernel_rfl) ?_
          refine TS_T (by kernel_rfl) rfl ?_
          refine TS_go 5 ?_
          refine TS_nilR 4 600000 5 1 (by kernel_rfl) ?_
          refine TS_fitU ⟨[(4, []), (5, [])], [(600000, (900000, []))]⟩ (by kernel_rfl) ?_
          refine TS_go 2 ?_
          have ret := Option.some.inj h
          subst ret
          exact TS_ret (by kernel_rfl) (by kernel_rfl) (by kernel_rfl)
        · refine TS_know 27 (b := false) hb11 (by kernel_rfl) (by kernel_rfl) ?_
          refine TS_know 28 (b := false) hb11 (by kernel_rfl) (by kernel_rfl) ?_
          refine TS_F (by kernel_rfl) rfl ?_
          refine TS_go 4 ?_
          replace h := bindO h
          obtain ⟨v12, hv12, h⟩ := h
          refine TS_con [] [(30, 900000)] none (okT_ref29_Body a1 v12 hv12) (by kernel_rfl) (by kernel_rfl) (by kernel_rfl) ?_
          refine TS_go 4 ?_
          refine TS_litNR 31 5 1 (ecI .u8) [] ([42, 1] : List Int) (by kernel_rfl) (by kernel_rfl) ?_
          refine TS_go 2 ?_
          refine TS_cut ⟨[(8, []), (31, []), (33, [])], [(30, (30, [])), (31, (31, []))]⟩ (.mk [opsFr (codeAt [1, 1, 1, 1, 1, 0] (bodyOf Try.f26)) 3, .code (codeAt [1, 1, 1, 1, 1, 1] (bodyOf Try.f26))] .normal ⟨[(8, .c (.slc 1 32 (List.length v12) (List.map (ecI .u8) v12))), (31, .c (.own 31)), (33, .c (.lit (.int .u64 (IntKind.wrap .u64 a0))))], [(30, .spare 5 1 (List.length v12)), (31, .row 5 1 (List.length ([42, 1] : List Int)) (List.map (ecI .u8) ([42, 1] : List Int)))]⟩) (by kernel_rfl) (by kernel_rfl) ?_
          refine TS_bump 2000 (by kernel_rfl) ?_
          refine TS_inl 24 Try.func51 rfl rfl (by kernel_rfl) (fun K29 => ?_)
          refine TS_go 12 ?_
          refine TS_cut ⟨[(0, []), (1, []), (2000008, []), (7, [])], [(2030, (2030, [])), (2031, (2031, []))]⟩ (.mk [.code (codeAt [1, 0, 1, 0] (bodyOf Try.f51)), .blk 0, .code (codeAt [1, 1] (bodyOf Try.f51))] .normal ⟨[(0, .c (.own 2031)), (1, .c (.lit (.int .u64 (IntKind.wrap .u64 a0)))), (2000008, .c (.slc 1 2032 (List.length v12) (List.map (ecI .u8) v12))), (7, .c (.lit (.int .i64 (IntKind.wrap .i64 (5 - 1)))))], [(2030, .spare 5 1 (List.length v12)), (2031, .row 5 1 (List.length ([42, 1] : List Int)) (List.map (ecI .u8) ([42, 1] : List Int)))]⟩) (by kernel_rfl) (by kernel_rfl) ?_
          replace h := bindO h
          obtain ⟨y15, hl2, hK2⟩ := h
          refine TS_loopB (F_ref29_Encode_R_l2 a0) ⟨[(0, []), (1, []), (7, []), (2000008, [])], [(2031, (2031, [])), (2030, (2030, []))]⟩ (fun (s13 : Int × (List Int)) => [(7, .c (.lit (.int .i64 (s13.1))))]) (fun (s13 : Int × (List Int)) => [(2031, .row 5 1 (List.length s13.2) (List.map (ecI .u8) s13.2))]) (IntKind.wrap .i64 (5 - 1), ([42, 1] : List Int)) y15 (.exit 0) (fun (b : (List Int)) => b) ⟨[(0, []), (2000008, [])], [(2031, (2031, [])), (2030, (2030, []))]⟩ (fun (b14 : (List Int)) => []) (fun (b14 : (List Int)) => [(2031, .row 5 1 (List.length b14) (List.map (ecI .u8) b14))]) hl2 (by kernel_rfl) (by kernel_rfl) ?_ ?_
          · intro s13 x h hy2
            unfold F_ref29_Encode_R_l2 at h
            refine TS_go 6 ?_
            replace h := condO h
            rcases h with ⟨hb16, h⟩ | ⟨hb16, h⟩
            · refine TS_know 11 (b := true) hb16 (by kernel_rfl) (by kernel_rfl) ?_
              refine TS_T (by kernel_rfl) rfl ?_
              refine TS_go 9 ?_
              replace h := chkO h
              obtain ⟨hc17, h⟩ := h
              refine TS_num (op := .shr) (k := .u64) (k' := .u64) (m := IntKind.wrap .u64 a0) (i := IntKind.wrap .u64 (IntKind.wrap .i64 (8 * s13.1))) (of_decide_eq_true hc17) rfl (by simp) (by kernel_rfl) (by kernel_rfl) ?_
              refine TS_go 1 ?_
              refine TS_litNT 21 5 1 (ecI .u8) [] ([IntKind.wrap .u8 (ishr .u64 (IntKind.wrap .u64 a0) (IntKind.wrap .u64 (IntKind.wrap .i64 (8 * s13.1))))] : List Int) (by kernel_rfl) (by kernel_rfl) ?_
              replace h := bindO h
              obtain ⟨_l18, hl18, h⟩ := h
              refine TS_appR (d := 2031) (e := 5) (sz := 1) (N := List.length s13.2) (m := (List.length s13.2)) (ecI .u8) (fun _ => by kernel_rfl) (l1 := s13.2) (l2 := ([IntKind.wrap .u8 (ishr .u64 (IntKind.wrap .u64 a0) (IntKind.wrap .u64 (IntKind.wrap .i64 (8 * s13.1))))] : List Int)) (c := .whole) hl18 (by kernel_rfl) (by kernel_rfl) ?_
              refine TS_go 8 ?_
              have ret := Option.some.inj h
              subst ret
              exact TS_againB _ ⟨[(0, []), (1, []), (7, []), (2000008, [])], [(2031, (2031, [])), (2030, (2030, []))]⟩ rfl (by kernel_rfl) (by kernel_rfl)
            · refine TS_know 11 (b := false) hb16 (by kernel_rfl) (by kernel_rfl) ?_
              refine TS_F (by kernel_rfl) rfl ?_
              refine TS_go 2 ?_
              have ret := Option.some.inj h
              subst ret
              exact TS_brkB s13.2 ⟨[(0, []), (2000008, [])], [(2031, (2031, [])), (2030, (2030, []))]⟩ rfl (by kernel_rfl) (by kernel_rfl) (by kernel_rfl)
          · intro b14 hb
            subst y15
            have h := hK2
            refine TS_go 7 ?_
            refine TS_inlR (by kernel_rfl) (by kernel_rfl) ?_
            refine TS_go 8 ?_
            refine TS_cut ⟨[(8, []), (35, []), (38, [])], [(2031, (2031, [])), (2030, (2030, []))]⟩ (.mk [opsFr (codeAt [1, 1, 1, 1, 1, 1, 0] (bodyOf Try.f26)) 4, .code (codeAt [1, 1, 1, 1, 1, 1, 1] (bodyOf Try.f26))] .normal ⟨[(8, .c (.slc 1 2032 (List.length v12) (List.map (ecI .u8) v12))), (35, .c (.own 2031)), (38, .c (.lit (.int .u64 (IntKind.wrap .u64 (List.length v12 : Int)))))], [(2031, .row 5 1 (List.length b14) (List.map (ecI .u8) b14)), (2030, .spare 5 1 (List.length v12))]⟩) (by kernel_rfl) (by kernel_rfl) ?_
            refine TS_bump 2000 (by kernel_rfl) ?_
            refine TS_inl 24 Try.func51 rfl rfl (by kernel_rfl) (fun K28 => ?_)
            refine TS_go 12 ?_
            refine TS_cut ⟨[(0, []), (1, []), (2000008, []), (7, [])], [(4031, (4031, [])), (4030, (4030, []))]⟩ (.mk [.code (codeAt [1, 0, 1, 0] (bodyOf Try.f51)), .blk 0, .code (codeAt [1, 1] (bodyOf Try.f51))] .normal ⟨[(0, .c (.own 4031)), (1, .c (.lit (.int .u64 (IntKind.wrap .u64 (List.length v12 : Int))))), (2000008, .c (.slc 1 4032 (List.length v12) (List.map (ecI .u8) v12))), (7, .c (.lit (.int .i64 (IntKind.wrap .i64 (2 - 1)))))], [(4031, .row 5 1 (List.length b14) (List.map (ecI .u8) b14)), (4030, .spare 5 1 (List.length v12))]⟩) (by kernel_rfl) (by kernel_rfl) ?_
            replace h := bindO h
            obtain ⟨y22, hl3, hK3⟩ := h
            refine TS_loopB (F_ref29_Encode_R_l3 v12) ⟨[(0, []), (1, []), (7, []), (2000008, [])], [(4031, (4031, [])), (4030, (4030, []))]⟩ (fun (s20 : Int × (List Int)) => [(7, .c (.lit (.int .i64 (s20.1))))]) (fun (s20 : Int × (List Int)) => [(4031, .row 5 1 (List.length s20.2) (List.map (ecI .u8) s20.2))]) (IntKind.wrap .i64 (2 - 1), b14) y22 (.exit 0) (fun (b : (List Int)) => b) ⟨[(0, []), (2000008, [])], [(4031, (4031, [])), (4030, (4030, []))]⟩ (fun (b21 : (List Int)) => []) (fun (b21 : (List Int)) => [(4031, .row 5 1 (List.length b21) (List.map (ecI .u8) b21))]) hl3 (by kernel_rfl) (by kernel_rfl) ?_ ?_
            · intro s20 x h hy3
              unfold F_ref29_Encode_R_l3 at h
              refine TS_go 6 ?_
              replace h := condO h
              rcases h with ⟨hb23, h⟩ | ⟨hb23, h⟩
              · refine TS_know 11 (b := true) hb23 (by kernel_rfl) (by kernel_rfl) ?_
                refine TS_T (by kernel_rfl) rfl ?_
                refine TS_go 9 ?_
                replace h := chkO h
                obtain ⟨hc24, h⟩ := h
                refine TS_num (op := .shr) (k := .u64) (k' := .u64) (m := IntKind.wrap .u64 (List.length v12 : Int)) (i := IntKind.wrap .u64 (IntKind.wrap .i64 (8 * s20.1))) (of_decide_eq_true hc24) rfl (by simp) (by kernel_rfl) (by kernel_rfl) ?_
                refine TS_go 1 ?_
                refine TS_litNT 21 5 1 (ecI .u8) [] ([IntKind.wrap .u8 (ishr .u64 (IntKind.wrap .u64 (List.length v12 : Int)) (IntKind.wrap .u64 (IntKind.wrap .i64 (8 * s20.1))))] : List Int) (by kernel_rfl) (by kernel_rfl) ?_
                replace h := bindO h
                obtain ⟨_l25, hl25, h⟩ := h
                refine TS_appR (d := 4031) (e := 5) (sz := 1) (N := List.length s20.2) (m := (List.length s20.2)) (ecI .u8) (fun _ => by kernel_rfl) (l1 := s20.2) (l2 := ([IntKind.wrap .u8 (ishr .u64 (IntKind.wrap .u64 (List.length v12 : Int)) (IntKind.wrap .u64 (IntKind.wrap .i64 (8 * s20.1))))] : List Int)) (c := .whole) hl25 (by kernel_rfl) (by kernel_rfl) ?_
                refine TS_go 8 ?_
                have ret := Option.some.inj h
                subst ret
                exact TS_againB _ ⟨[(0, []), (1, []), (7, []), (2000008, [])], [(4031, (4031, [])), (4030, (4030, []))]⟩ rfl (by kernel_rfl) (by kernel_rfl)
              · refine TS_know 11 (b := false) hb23 (by kernel_rfl) (by kernel_rfl) ?_
                refine TS_F (by kernel_rfl) rfl ?_
                refine TS_go 2 ?_
                have ret := Option.some.inj h
                subst ret
                exact TS_brkB s20.2 ⟨[(0, []), (2000008, [])], [(4031, (4031, [])), (4030, (4030, []))]⟩ rfl (by kernel_rfl) (by kernel_rfl) (by kernel_rfl)
            · intro b21 hb
              subst y22
              have h := hK3
              refine TS_go 7 ?_
              refine TS_inlR (by kernel_rfl) (by kernel_rfl) ?_
              refine TS_go 6 ?_
              replace h := bindO h
              obtain ⟨_l27, hl27, h⟩ := h
              refine TS_appR (d := 4031) (e := 5) (sz := 1) (N := List.length b21) (m := (List.length b21)) (ecI .u8) (fun _ => by kernel_rfl) (l1 := b21) (l2 := v12) (c := .whole) hl27 (by kernel_rfl) (by kernel_rfl) ?_
              refine TS_go 3 ?_
              refine TS_fitU ⟨[(4, []), (5, [])], [(4031, (900000, []))]⟩ (by kernel_rfl) ?_
              refine TS_go 1 ?_
              have ret := Option.some.inj h
              subst ret
              exact TS_ret (by kernel_rfl) (by kernel_rfl) (by kernel_rfl)

/-- slices.Concat[[]bytebyte] -/
noncomputable def F_slices_Concat_byte_byte_l1 (a0 : List (List Int)) (s1 : Int × Int) : Option ((Int × Int) ⊕ (Int)) :=
  bif (decide (s1.2 < (List.length a0 : Int))) then
    (idx a0 s1.2).bind fun e5 =>
    bif (decide ((IntKind.wrap .i64 (s1.1 + (List.length e5 : Int))) < 0)) then
      none
    else
      some (Sum.inl (IntKind.wrap .i64 (s1.1 + (List.length e5 : Int)), IntKind.wrap .i64 (s1.2 + 1)))
  else
    some (Sum.inr s1.1)
noncomputable def F_slices_Concat_byte_byte_l3 (a0 : List (List Int)) (s10 : Int × (List Int)) : Option ((Int × (List Int)) ⊕ ((List Int))) :=
  bif (decide (s10.1 < (List.length a0 : Int))) then
    (idx a0 s10.1).bind fun e14 =>
    (appO 1 (List.take (List.length s10.2) s10.2) (Cut.app .whole e14)).bind fun l15 =>
    some (Sum.inl (IntKind.wrap .i64 (s10.1 + 1), l15))
  else
    some (Sum.inr s10.2)
noncomputable def F_slices_Concat_byte_byte_j2 (a0 : List (List Int)) (v9 : (List Int)) : Option ((List Int)) :=
  (loopO (F_slices_Concat_byte_byte_l3 a0) (0, v9)).bind fun b11 =>
  some (b11)
noncomputable def F_slices_Concat_byte_byte (a0 : List (List Int)) : Option ((List Int)) :=
  (loopO (F_slices_Concat_byte_byte_l1 a0) (0, 0)).bind fun b2 =>
  bif (decide (b2 < 0)) then
    none
  else
    bif (decide ((IntKind.wrap .i64 (b2 - (IntKind.wrap .i64 (0 - 0)))) > 0)) then
      (appZO 1 ([] : List Int) (0 : Int) (IntKind.wrap .i64 (b2 - (IntKind.wrap .i64 (0 - 0))))).bind fun l18 =>
      bif decide ((0 : Int) ≤ 0 ∧ 0 ≤ 0 ∧ 0 ≤ (List.length l18 : Int)) then
        (F_slices_Concat_byte_byte_j2 a0) (List.take (Int.toNat 0) l18)
      else none
    else
      (F_slices_Concat_byte_byte_j2 a0) ([] : List Int)
set_option maxRecDepth 100000 in
set_option maxHeartbeats 40000000 in
theorem okT_slices_Concat_byte_byte (a0 : List (List Int)) (r : (List Int)) (h : F_slices_Concat_byte_byte a0 = some r) : Con Try.prog 27 [.c (eS 1 (ecS 1 (ecI .u8)) (a0))] [] (.c (.slc 1 900002 (List.length r) (List.map (ecI .u8) r))) [(900000, .spare 5 1 (List.length r))] := by
  unfold F_slices_Concat_byte_byte at h
  refine con_of [] [(900000, [])] 36 Try.func27 rfl rfl (by kernel_rfl) (fun K => ?_)
  refine TS_go 16 ?_
  refine TS_cut ⟨[(0, []), (3, []), (9, []), (10, []), (11, [])], []⟩ (.mk [.code (codeAt [1, 1, 0, 1, 0] (bodyOf Try.f27)), .blk 0, .code (codeAt [1, 1, 1] (bodyOf Try.f27))] .normal ⟨[(0, .c (.slc 1 0 (List.length a0) (List.map (ecS 1 (ecI .u8)) a0))), (3, .c (.lit (.int .i64 (0)))), (9, .c (.slc 1 0 (List.length a0) (List.map (ecS 1 (ecI .u8)) a0))), (10, .c (.lit (.int .i64 ((List.length a0 : Int))))), (11, .c (.lit (.int .i64 (0))))], []⟩) (by kernel_rfl) (by kernel_rfl) ?_
  replace h := bindO h
  obtain ⟨y3, hl1, hK1⟩ := h
  refine TS_loopB (F_slices_Concat_byte_byte_l1 a0) ⟨[(0, []), (3, []), (9, []), (10, []), (11, [])], []⟩ (fun (s1 : Int × Int) => [(0, .c (.slc 1 0 (List.length a0) (List.map (ecS 1 (ecI .u8)) a0))), (3, .c (.lit (.int .i64 (s1.1)))), (9, .c (.slc 1 0 (List.length a0) (List.map (ecS 1 (ecI .u8)) a0))), (10, .c (.lit (.int .i64 ((List.length a0 : Int))))), (11, .c (.lit (.int .i64 (s1.2))))]) (fun (s1 : Int × Int) => []) (0, 0) y3 (.exit 0) (fun (b : Int) => b) ⟨[(0, []), (3, [])], []⟩ (fun (b2 : Int) => [(0, .c (.slc 1 0 (List.length a0) (List.map (ecS 1 (ecI .u8)) a0))), (3, .c (.lit (.int .i64 (b2))))]) (fun (b2 : Int) => []) hl1 (by kernel_rfl) (by kernel_rfl) ?_ ?_
  · intro s1 x h hy1
    unfold F_slices_Concat_byte_byte_l1 at h
    refine TS_go 5 ?_
    replace h := condO h
    rcases h with ⟨hb4, h⟩ | ⟨hb4, h⟩
    · refine TS_know 12 (b := true) hb4 (by kernel_rfl) (by kernel_rfl) ?_
      refine TS_T (by kernel_rfl) rfl ?_
      refine TS_go 5 ?_
      replace h := bindO h
      obtain ⟨_e5, he5, h⟩ := h
      refine TS_idx (ecS 1 (ecI .u8)) he5 (by kernel_rfl) (by kernel_rfl) ?_
      refine TS_go 16 ?_
      replace h := condO h
      rcases h with ⟨hb6, h⟩ | ⟨hb6, h⟩
      · refine TS_know 20 (b := true) hb6 (by kernel_rfl) (by kernel_rfl) ?_
        refine TS_T (by kernel_rfl) rfl ?_
        refine TS_go 1 ?_
        cases h
      · refine TS_know 20 (b := false) hb6 (by kernel_rfl) (by kernel_rfl) ?_
        refine TS_F (by kernel_rfl) rfl ?_
        refine TS_go 6 ?_
        have ret := Option.some.inj h
        subst ret
        exact TS_againB _ ⟨[(0, []), (3, []), (9, []), (10, []), (11, [])], []⟩ rfl (by kernel_rfl) (by kernel_rfl)
    · refine TS_know 12 (b := false) hb4 (by kernel_rfl) (by kernel_rfl) ?_
      refine TS_F (by kernel_rfl) rfl ?_
      refine TS_go 2 ?_
      have ret := Option.some.inj h
      subst ret
      exact TS_brkB s1.1 ⟨[(0, []), (3, [])], []⟩ rfl (by kernel_rfl) (by kernel_rfl) (by kernel_rfl)
  · intro b2 hb
    subst y3
    have h := hK1
    refine TS_go 4 ?_
    refine TS_cut ⟨[(0, []), (23, [])], []⟩ (.mk [opsFr (codeAt [1, 1, 1, 0] (bodyOf Try.f27)) 1, .code (codeAt [1, 1, 1, 1] (bodyOf Try.f27))] .normal ⟨[(0, .c (.slc 1 0 (List.length a0) (List.map (ecS 1 (ecI .u8)) a0))), (23, .c (.lit (.int .i64 (b2))))], []⟩) (by kernel_rfl) (by kernel_rfl) ?_
    refine TS_inl 27 Try.func52 rfl rfl (by kernel_rfl) (fun K20 => ?_)
    refine TS_go 10 ?_
    replace h := condO h
    rcases h with ⟨hb8, h⟩ | ⟨hb8, h⟩
    · refine TS_know 6 (b := true) hb8 (by kernel_rfl) (by kernel_rfl) ?_
      refine TS_T (by kernel_rfl) rfl ?_
      refine TS_go 1 ?_
      cases h
    · refine TS_know 6 (b := false) hb8 (by kernel_rfl) (by kernel_rfl) ?_
      refine TS_F (by kernel_rfl) rfl ?_
      refine TS_go 1 ?_
      refine TS_cut ⟨[(0, []), (1, []), (2000000, [])], []⟩ (.mk [.code (codeAt [1, 1] (bodyOf Try.f52))] .normal ⟨[(0, .c (.lit (.slice none 0 0))), (1, .c (.lit (.int .i64 (b2)))), (2000000, .c (.slc 1 0 (List.length a0) (List.map (ecS 1 (ecI .u8)) a0)))], []⟩) (by kernel_rfl) (by kernel_rfl) ?_
      refine TS_joinB ⟨[(0, []), (2000000, [])], []⟩ (fun (v9 : (List Int)) => [(0, .c (.own 22)), (2000000, .c (.slc 1 0 (List.length a0) (List.map (ecS 1 (ecI .u8)) a0)))]) (fun (v9 : (List Int)) => [(22, .row 5 1 (List.length v9) (List.map (ecI .u8) v9))]) (F_slices_Concat_byte_byte_j2 a0) r ?_ ?_
      · clear h
        intro v9 h
        unfold F_slices_Concat_byte_byte_j2 at h
        refine TS_go 6 ?_
        refine TS_inlR (by kernel_rfl) (by kernel_rfl) ?_
        refine TS_go 10 ?_
        refine TS_cut ⟨[(6, []), (25, []), (26, []), (27, [])], [(22, (22, []))]⟩ (.mk [.code (codeAt [1, 1, 1, 1, 0, 1, 0] (bodyOf Try.f27)), .blk 2, .code (codeAt [1, 1, 1, 1, 1] (bodyOf Try.f27))] .normal ⟨[(6, .c (.own 22)), (25, .c (.slc 1 0 (List.length a0) (List.map (ecS 1 (ecI .u8)) a0))), (26, .c (.lit (.int .i64 ((List.length a0 : Int))))), (27, .c (.lit (.int .i64 (0))))], [(22, .row 5 1 (List.length v9) (List.map (ecI .u8) v9))]⟩) (by kernel_rfl) (by kernel_rfl) ?_
        replace h := bindO h
        obtain ⟨y12, hl3, hK3⟩ := h
        refine TS_loopB (F_slices_Concat_byte_byte_l3 a0) ⟨[(6, []), (25, []), (26, []), (27, [])], [(22, (22, []))]⟩ (fun (s10 : Int × (List Int)) => [(6, .c (.own 22)), (25, .c (.slc 1 0 (List.length a0) (List.map (ecS 1 (ecI .u8)) a0))), (26, .c (.lit (.int .i64 ((List.length a0 : Int))))), (27, .c (.lit (.int .i64 (s10.1))))]) (fun (s10 : Int × (List Int)) => [(22, .row 5 1 (List.length s10.2) (List.map (ecI .u8) s10.2))]) (0, v9) y12 (.exit 2) (fun (b : (List Int)) => b) ⟨[(6, [])], [(22, (22, []))]⟩ (fun (b11 : (List Int)) => [(6, .c (.own 22))]) (fun (b11 : (List Int)) => [(22, .row 5 1 (List.length b11) (List.map (ecI .u8) b11))]) hl3 (by kernel_rfl) (by kernel_rfl) ?_ ?_
        · intro s10 x h hy3
          unfold F_slices_Concat_byte_byte_l3 at h
          refine TS_go 5 ?_
          replace h := condO h
          rcases h with ⟨hb13, h⟩ | ⟨hb13, h⟩
          · refine TS_know 28 (b := true) hb13 (by kernel_rfl) (by kernel_rfl) ?_
            refine TS_T (by kernel_rfl) rfl ?_
            refine TS_go 5 ?_
            replace h := bindO h
            obtain ⟨e14, he14, h⟩ := h
            refine TS_idx (ecS 1 (ecI .u8)) he14 (by kernel_rfl) (by kernel_rfl) ?_
            refine TS_go 6 ?_
            replace h := bindO h
            obtain ⟨_l15, hl15, h⟩ := h
            refine TS_appR (d := 22) (e := 5) (sz := 1) (N := List.length s10.2) (m := (List.length s10.2)) (ecI .u8) (fun _ => by kernel_rfl) (l1 := s10.2) (l2 := e14) (c := .whole) hl15 (by kernel_rfl) (by kernel_rfl) ?_
            refine TS_go 7 ?_
            have ret := Option.some.inj h
            subst ret
            exact TS_againB _ ⟨[(6, []), (25, []), (26, []), (27, [])], [(22, (22, []))]⟩ rfl (by kernel_rfl) (by kernel_rfl)
          · refine TS_know 28 (b := false) hb13 (by kernel_rfl) (by kernel_rfl) ?_
            refine TS_F (by kernel_rfl) rfl ?_
            refine TS_go 2 ?_
            have ret := Option.some.inj h
            subst ret
            exact TS_brkB s10.2 ⟨[(6, [])], [(22, (22, []))]⟩ rfl (by kernel_rfl) (by kernel_rfl) (by kernel_rfl)
        · intro b11 hb
          subst y12
          have h := hK3
          refine TS_go 6 ?_
          refine TS_settle 22 (by kernel_rfl) ?_
          refine TS_fitU ⟨[(2, [])], [(22, (900000, []))]⟩ (by kernel_rfl) ?_
          refine TS_go 1 ?_
          have ret := Option.some.inj h
          subst ret
          exact TS_ret (by kernel_rfl) (by kernel_rfl) (by kernel_rfl)
      · refine TS_go 4 ?_
        refine TS_capN (by kernel_rfl) (by kernel_rfl) (by kernel_rfl) ?_
        refine TS_go 11 ?_
        replace h := condO h
        rcases h with ⟨hb17, h⟩ | ⟨hb17, h⟩
        · refine TS_know 16 (b := true) hb17 (by kernel_rfl) (by kernel_rfl) ?_
          refine TS_T (by kernel_rfl) rfl ?_
          refine TS_go 3 ?_
          refine TS_capN (by kernel_rfl) (by kernel_rfl) (by kernel_rfl) ?_
          refine TS_slN (by kernel_rfl) (by kernel_rfl) (by kernel_rfl) ?_
          refine TS_go 1 ?_
          replace h := bindO h
          obtain ⟨l18, hl18, h⟩ := h
          refine TS_appNZR 22 5 1 (ecI .u8) (0 : Int) [] (cs := [.lit (.int .u8 (0))]) (m := IntKind.wrap .i64 (b2 - (IntKind.wrap .i64 (0 - 0)))) hl18 (by kernel_rfl) (by kernel_rfl) (by kernel_rfl) ?_
          refine TS_go 2 ?_
          replace h := chkO h
          obtain ⟨hc19, h⟩ := h
          refine TS_slRow 22 1 (List.length l18) (a := 0) (b := 0) hc19 rfl (by kernel_rfl) (by kernel_rfl) ?_
          refine TS_go 1 ?_
          refine TS_trunc 0 (d := 22) (m := (Int.toNat 0)) (e := 5) (sz := 1) (N := List.length l18) (xs := List.map (ecI .u8) l18) (List.length (List.take (Int.toNat 0) l18)) (List.map (ecI .u8) (List.take (Int.toNat 0) l18)) List.map_take.symm (List.length_map _) (by kernel_rfl) (by kernel_rfl) ?_
          refine TS_go 1 ?_
          exact TS_meet (List.take (Int.toNat 0) l18) ⟨[(0, []), (2000000, [])], [(22, (22, []))]⟩ h (by kernel_rfl) (by kernel_rfl)
        · refine TS_know 16 (b := false) hb17 (by kernel_rfl) (by kernel_rfl) ?_
          refine TS_F (by kernel_rfl) rfl ?_
          refine TS_nilR 0 600000 5 1 (by kernel_rfl) ?_
          refine TS_go 1 ?_
          exact TS_meet ([] : List Int) ⟨[(0, []), (2000000, [])], [(600000, (22, []))]⟩ h (by kernel_rfl) (by kernel_rfl)
/-- multihop/multihoplaw29.MessagesUnique -/
noncomputable def F_law29_MessagesUnique_j2 (s11 : Int) (v15 : Unit) : Option ((Int) ⊕ ((Unit) ⊕ (Bool))) :=
  some (Sum.inl (IntKind.wrap .i64 (s11 + 1)))
noncomputable def F_law29_MessagesUnique_l1 (a0 : List Int) (v6 : (List Int) × Int) (v7 : Int) (a3 : Int) (v10 : (List Int)) (s11 : Int) : Option ((Int) ⊕ ((Unit) ⊕ (Bool))) :=
  bif (decide (s11 < (List.length ([a0, (List.set v6.1 (0 + Int.toNat v7) a3), v10] : List (List Int)) : Int))) then
    (idx ([a0, (List.set v6.1 (0 + Int.toNat v7) a3), v10] : List (List Int)) s11).bind fun e16 =>
    (F_messages_Decode e16).bind fun v17 =>
    bif (v17.2.2 != 0) then
      (F_law29_MessagesUnique_j2 s11) ()
    else
      (F_messages_Encode v17.1 v17.2.1).bind fun v19 =>
      bif (v19.2 != 0) then
        some (Sum.inr (Sum.inr false))
      else
        (F_bytes_Equal e16 v19.1).bind fun v21 =>
        bif v21 then
          (F_law29_MessagesUnique_j2 s11) ()
        else
          some (Sum.inr (Sum.inr false))
  else
    some (Sum.inr (Sum.inl ()))
noncomputable def F_law29_MessagesUnique (a0 : List Int) (a1 : List Int) (a2 : Int) (a3 : Int) : Option (Bool) :=
  bif (decide ((List.length a0 : Int) > 2000)) then
    (F_law29_known ).bind fun v2 =>
    some (v2)
  else
    (F_made_New a1).bind fun v3 =>
    (F_made_Tape_Next v3 1000).bind fun v4 =>
    (F_world_Notices v4.2 8).bind fun v5 =>
    (F_ref29_Encode_R v4.1 v5.1).bind fun v6 =>
    (F_made_Mod a2 (List.length v6.1 : Int)).bind fun v7 =>
    (idx (Cut.app .whole v6.1) v7).bind fun _e8 =>
    (v6.1[(0 + Int.toNat v7)]?).bind fun _e9 =>
    (F_slices_Concat_byte_byte ([([42, 1, 0, 0, 0, 0, 9, IntKind.wrap .u8 (ishr .i64 (List.length a0 : Int) 8), IntKind.wrap .u8 (List.length a0 : Int)] : List Int), a0] : List (List Int))).bind fun v10 =>
    (loopO (F_law29_MessagesUnique_l1 a0 v6 v7 a3 v10) 0).bind (Sum.elim (fun b12 =>
      (F_law29_known ).bind fun v24 =>
      some (v24)
    ) (fun w23 => some w23))
set_option maxRecDepth 100000 in
set_option maxHeartbeats 40000000 in
theorem ok_law29_MessagesUnique (a0 : List Int) (a1 : List Int) (a2 : Int) (a3 : Int) (r : Bool) (h : F_law29_MessagesUnique a0 a1 a2 a3 = some r) : Con Try.prog 6 [.c (eS 1 (ecI .u8) (a0)), .c (eS 1 (ecI .i64) (a1)), .c (.lit (.int .i64 (a2))), .c (.lit (.int .u8 (a3)))] [] (.c (.lit (.bool (r)))) [] := by
  unfold F_law29_MessagesUnique at h
  refine con_of [] [] 83 Try.func6 rfl rfl (by kernel_rfl) (fun K => ?_)
  refine TS_go 11 ?_
  replace h := condO h
  rcases h with ⟨hb1, h⟩ | ⟨hb1, h⟩
  · refine TS_know 21 (b := true) hb1 (by kernel_rfl) (by kernel_rfl) ?_
    refine TS_T (by kernel_rfl) rfl ?_
    refine TS_go 2 ?_
    replace h := bindO h
    obtain ⟨v2, hv2, h⟩ := h
    refine TS_call [] (ok_law29_known  v2 hv2) (by kernel_rfl) (by kernel_rfl) ?_
    refine TS_go 4 ?_
    have ret := Option.some.inj h
    subst ret
    exact TS_ret (by kernel_rfl) (by kernel_rfl) (by kernel_rfl)
  · refine TS_know 21 (b := false) hb1 (by kernel_rfl) (by kernel_rfl) ?_
    refine TS_F (by kernel_rfl) rfl ?_
    refine TS_go 4 ?_
    replace h := bindO h
    obtain ⟨v3, hv3, h⟩ := h
    refine TS_con [] [(24, 10)] none (ok_made_New a1 v3 hv3) (by kernel_rfl) (by kernel_rfl) (by kernel_rfl) ?_
    refine TS_go 5 ?_
    replace h := bindO h
    obtain ⟨v4, hv4, h⟩ := h
    refine TS_con [] [] (some (24, 0)) (ok_made_Tape_Next v3 1000 v4 hv4) (by kernel_rfl) (by kernel_rfl) (by kernel_rfl) ?_
    refine TS_go 1 ?_
    replace h := bindO h
    obtain ⟨v5, hv5, h⟩ := h
    refine TS_con [] [(29, 900000)] (some (24, 0)) (okT_world_Notices v4.2 8 v5 hv5) (by kernel_rfl) (by kernel_rfl) (by kernel_rfl) ?_
    replace h := bindO h
    obtain ⟨v6, hv6, h⟩ := h
    refine TS_con [[], [41]] [(30, 900000)] none (okT_ref29_Encode_R v4.1 v5.1 v6 hv6) (by kernel_rfl) (by kernel_rfl) (by kernel_rfl) ?_
    refine TS_go 12 ?_
    replace h := bindO h
    obtain ⟨v7, hv7, h⟩ := h
    refine TS_call [] (ok_made_Mod a2 (List.length v6.1 : Int) v7 hv7) (by kernel_rfl) (by kernel_rfl) ?_
    refine TS_go 1 ?_
    replace h := bindO h
    obtain ⟨_e8, he8, h⟩ := h
    refine TS_idxR 30 1 0 (ecI .u8) .whole he8 (by kernel_rfl) (by kernel_rfl) ?_
    replace h := bindO h
    obtain ⟨_e9, he9, h⟩ := h
    refine TS_stE 30 5 1 (List.length v6.1) (0 + Int.toNat v7) 0 (ecI .u8) (ds := [.lit (.int .u8 (a3))]) a3 he9 (by kernel_rfl) (by kernel_rfl) (by kernel_rfl) (by kernel_rfl) ?_
    refine TS_go 13 ?_
    refine TS_litNT 49 5 1 (ecI .u8) [] ([42, 1, 0, 0, 0, 0, 9, IntKind.wrap .u8 (ishr .i64 (List.length a0 : Int) 8), IntKind.wrap .u8 (List.length a0 : Int)] : List Int) (by kernel_rfl) (by kernel_rfl) ?_
    refine TS_go 1 ?_
    refine TS_litNT 51 47 1 (ecS 1 (ecI .u8)) [2] ([([42, 1, 0, 0, 0, 0, 9, IntKind.wrap .u8 (ishr .i64 (List.length a0 : Int) 8), IntKind.wrap .u8 (List.length a0 : Int)] : List Int), a0] : List (List Int)) (by kernel_rfl) (by kernel_rfl) ?_
    replace h := bindO h
    obtain ⟨v10, hv10, h⟩ := h
    refine TS_con [[2]] [(52, 900000)] none (okT_slices_Concat_byte_byte ([([42, 1, 0, 0, 0, 0, 9, IntKind.wrap .u8 (ishr .i64 (List.length a0 : Int) 8), IntKind.wrap .u8 (List.length a0 : Int)] : List Int), a0] : List (List Int)) v10 hv10) (by kernel_rfl) (by kernel_rfl) (by kernel_rfl) ?_
    refine TS_settle 30 (by kernel_rfl) ?_
    refine TS_litNT 53 47 1 (ecS 1 (ecI .u8)) [2] ([a0, (List.set v6.1 (0 + Int.toNat v7) a3), v10] : List (List Int)) (by kernel_rfl) (by kernel_rfl) ?_
    refine TS_go 4 ?_
    refine TS_cut ⟨[(53, []), (54, []), (55, [])], [(53, (53, []))]⟩ (.mk [.code (codeAt [1, 1, 1, 1, 1, 0, 1, 0] (bodyOf Try.f6)), .blk 0, .code (codeAt [1, 1, 1, 1, 1, 1] (bodyOf Try.f6))] .normal ⟨[(53, .c (.slc 1 55 (List.length ([a0, (List.set v6.1 (0 + Int.toNat v7) a3), v10] : List (List Int))) (List.map (ecS 1 (ecI .u8)) ([a0, (List.set v6.1 (0 + Int.toNat v7) a3), v10] : List (List Int))))), (54, .c (.lit (.int .i64 ((List.length ([a0, (List.set v6.1 (0 + Int.toNat v7) a3), v10] : List (List Int)) : Int))))), (55, .c (.lit (.int .i64 (0))))], [(53, .spare 47 1 (List.length ([a0, (List.set v6.1 (0 + Int.toNat v7) a3), v10] : List (List Int))))]⟩) (by kernel_rfl) (by kernel_rfl) ?_
    replace h := bindO h
    obtain ⟨y13, hl1, hK1⟩ := h
    refine TS_loopB (F_law29_MessagesUnique_l1 a0 v6 v7 a3 v10) ⟨[(53, []), (54, []), (55, [])], [(53, (53, []))]⟩ (fun (s11 : Int) => [(55, .c (.lit (.int .i64 (s11))))]) (fun (s11 : Int) => []) 0 y13 (.exit 0) (fun (b : Unit) => (Sum.inl b : (Unit) ⊕ (Bool))) ⟨[], []⟩ (fun (b12 : Unit) => []) (fun (b12 : Unit) => []) hl1 (by kernel_rfl) (by kernel_rfl) ?_ ?_
    · intro s11 x h hy1
      unfold F_law29_MessagesUnique_l1 at h
      refine TS_go 5 ?_
      replace h := condO h
      rcases h with ⟨hb14, h⟩ | ⟨hb14, h⟩
      · refine TS_know 56 (b := true) hb14 (by kernel_rfl) (by kernel_rfl) ?_
        refine TS_T (by kernel_rfl) rfl ?_
        refine TS_go 1 ?_
        refine TS_cut ⟨[(53, []), (54, []), (55, [])], [(53, (53, []))]⟩ (.mk [.code (codeAt [1, 1, 1, 1, 1, 0, 1, 0, 0, 1, 1] (bodyOf Try.f6))] .normal ⟨[(53, .c (.slc 1 55 (List.length ([a0, (List.set v6.1 (0 + Int.toNat v7) a3), v10] : List (List Int))) (List.map (ecS 1 (ecI .u8)) ([a0, (List.set v6.1 (0 + Int.toNat v7) a3), v10] : List (List Int))))), (54, .c (.lit (.int .i64 ((List.length ([a0, (List.set v6.1 (0 + Int.toNat v7) a3), v10] : List (List Int)) : Int))))), (55, .c (.lit (.int .i64 (s11))))], [(53, .spare 47 1 (List.length ([a0, (List.set v6.1 (0 + Int.toNat v7) a3), v10] : List (List Int))))]⟩) (by kernel_rfl) (by kernel_rfl) ?_
        refine TS_joinB ⟨[(53, []), (54, []), (55, [])], [(53, (53, []))]⟩ (fun (v15 : Unit) => []) (fun (v15 : Unit) => []) (F_law29_MessagesUnique_j2 s11) x ?_ ?_
        · clear h
          intro v15 h
          unfold F_law29_MessagesUnique_j2 at h
          refine TS_go 4 ?_
          have ret := Option.some.inj h
          subst ret
          exact TS_againB _ ⟨[(53, []), (54, []), (55, [])], [(53, (53, []))]⟩ rfl (by kernel_rfl) (by kernel_rfl)
        · refine TS_go 3 ?_
          replace h := bindO h
          obtain ⟨e16, he16, h⟩ := h
          refine TS_idx (ecS 1 (ecI .u8)) he16 (by kernel_rfl) (by kernel_rfl) ?_
          refine TS_go 6 ?_
          replace h := bindO h
          obtain ⟨v17, hv17, h⟩ := h
          refine TS_con [] [(61, 900064)] none (okT_messages_Decode e16 v17 hv17) (by kernel_rfl) (by kernel_rfl) (by kernel_rfl) ?_
          refine TS_go 14 ?_
          replace h := condO h
          rcases h with ⟨hb18, h⟩ | ⟨hb18, h⟩
          · refine TS_know 66 (b := true) hb18 (by kernel_rfl) (by kernel_rfl) ?_
            refine TS_T (by kernel_rfl) rfl ?_
            refine TS_go 3 ?_
            exact TS_meet () ⟨[(53, []), (54, []), (55, [])], [(53, (53, []))]⟩ h (by kernel_rfl) (by kernel_rfl)
          · refine TS_know 66 (b := false) hb18 (by kernel_rfl) (by kernel_rfl) ?_
            refine TS_F (by kernel_rfl) rfl ?_
            refine TS_go 5 ?_
            replace h := bindO h
            obtain ⟨v19, hv19, h⟩ := h
            refine TS_con [[], [41]] [(70, 900000)] none (okT_messages_Encode v17.1 v17.2.1 v19 hv19) (by kernel_rfl) (by kernel_rfl) (by kernel_rfl) ?_
            refine TS_go 11 ?_
            replace h := condO h
            rcases h with ⟨hb20, h⟩ | ⟨hb20, h⟩
            · refine TS_know 74 (b := true) hb20 (by kernel_rfl) (by kernel_rfl) ?_
              refine TS_know 75 (b := true) hb20 (by kernel_rfl) (by kernel_rfl) ?_
              refine TS_go 6 ?_
              refine TS_T (by kernel_rfl) rfl ?_
              refine TS_go 6 ?_
              refine TS_outJ (by kernel_rfl) ?_
              have ret := Option.some.inj h
              subst ret
              have hy1q := hy1 _ rfl
              subst hy1q
              replace h := (elimR hK1)
              refine TS_retB rfl (by kernel_rfl) ?_
              refine TS_go 2 ?_
              have ret := Option.some.inj h
              subst ret
              exact TS_ret (by kernel_rfl) (by kernel_rfl) (by kernel_rfl)
            · refine TS_know 74 (b := false) hb20 (by kernel_rfl) (by kernel_rfl) ?_
              refine TS_know 75 (b := false) hb20 (by kernel_rfl) (by kernel_rfl) ?_
              refine TS_go 2 ?_
              replace h := bindO h
              obtain ⟨v21, hv21, h⟩ := h
              refine TS_call [[], [2]] (ok_bytes_Equal e16 v19.1 v21 hv21) (by kernel_rfl) (by kernel_rfl) ?_
              refine TS_go 3 ?_
              replace h := condO h
              rcases h with ⟨hb22, h⟩ | ⟨hb22, h⟩
              · subst hb22
                refine TS_F (by kernel_rfl) rfl ?_
                refine TS_go 2 ?_
                exact TS_meet () ⟨[(53, []), (54, []), (55, [])], [(53, (53, []))]⟩ h (by kernel_rfl) (by kernel_rfl)
              · subst hb22
                refine TS_T (by kernel_rfl) rfl ?_
                refine TS_go 6 ?_
                refine TS_outJ (by kernel_rfl) ?_
                have ret := Option.some.inj h
                subst ret
                have hy1q := hy1 _ rfl
                subst hy1q
                replace h := (elimR hK1)
                refine TS_retB rfl (by kernel_rfl) ?_
                refine TS_go 2 ?_
                have ret := Option.some.inj h
                subst ret
                exact TS_ret (by kernel_rfl) (by kernel_rfl) (by kernel_rfl)
      · refine TS_know 56 (b := false) hb14 (by kernel_rfl) (by kernel_rfl) ?_
        refine TS_F (by kernel_rfl) rfl ?_
        refine TS_go 2 ?_
        have ret := Option.some.inj h
        subst ret
        exact TS_brkB () ⟨[], []⟩ rfl (by kernel_rfl) (by kernel_rfl) (by kernel_rfl)
    · intro b12 hb
      subst y13
      have h := elimL hK1
      refine TS_go 3 ?_
      replace h := bindO h
      obtain ⟨v24, hv24, h⟩ := h
      refine TS_call [] (ok_law29_known  v24 hv24) (by kernel_rfl) (by kernel_rfl) ?_
      refine TS_go 3 ?_
      have ret := Option.some.inj h
      subst ret
      exact TS_ret (by kernel_rfl) (by kernel_rfl) (by kernel_rfl)
end
section
open Go.ChangeShapes Go.WideShapes Go.ChangeAt Go.RowKit

theorem own : ownKnob Try.prog.godebug = none := by kernel_rfl
theorem laidOut : laidOutB Try.prog = true := by kernel_rfl

/-- the arguments read as before -/
theorem trodAll_below {H : Type} {enc : TypeId × Value → H} {P : Program} (hl : laidOutB P = true) {W W' : World} (hb : Below W.heap.size W W') :
    ∀ {ts : List TypeId} {vs : List Value} {ds : List (DataW H)} {ps : List MemPlace}, ts.all (fun t => P.readableRec t && decide (t < P.types.size)) = true →
      DataW.TrodAll enc P W 0 (fun _ => true) true ts vs ds ps → DataW.TrodAll enc P W' 0 (fun b => decide (b < W.heap.size)) true ts vs ds ps
  | [], _, _, _, _, h => by
    obtain ⟨rfl, rfl, rfl⟩ := trodAll_nil h
    exact trodAll_mk0
  | t :: ts, vs, ds, ps, hr, h => by
    obtain ⟨v, vs', d, ds', p, q, rfl, rfl, rfl, h1, h2⟩ := trodAll_cons h
    simp only [List.all_cons, Bool.and_eq_true, decide_eq_true_eq] at hr
    have lt : ∀ x ∈ p, x.block < W.heap.size := by obtain ⟨m, hm⟩ := h1; exact DataW.trod_lt m _ _ _ hm
    exact trodAll_cons_mk (Below.trod hl hr.1.1 hr.1.2 h1 hb lt) (trodAll_below hl hb hr.2 h2)

theorem u8_bd {x : Int} (h : (Lit.int .u8 x).wf = true) : 0 ≤ x ∧ x ≤ 255 := by
  simpa [Lit.wf, IntKind.min, IntKind.max, IntKind.signed, IntKind.bits] using h

/-- the reader that sees all -/
def rdAll (w : World) : Rd := fun b o => w.cell? ⟨b, o, none⟩
def env0 : Env := ⟨fun _ => (0, 0), fun _ => (.slice none 0 0, .slice none 0 0)⟩
theorem vrel_lit (rd : Rd) (g : Env) (v : Value) : VRel rd g v (.c (.lit v)) := IRel.lit v
def ArgsOk (rd : Rd) (g : Env) : List Value → List SV → Prop
  | [], [] => True
  | u :: us, x :: xs => VRel rd g u x ∧ ArgsOk rd g us xs
  | _, _ => False
theorem ArgsOk.get {rd : Rd} {g : Env} : ∀ {us : List Value} {xs : List SV}, ArgsOk rd g us xs → us.length = xs.length ∧ ∀ (i : Nat) (x : SV), xs[i]? = some x → ∃ u, us[i]? = some u ∧ VRel rd g u x
  | [], [], _ => ⟨rfl, fun i x h => by simp at h⟩
  | u :: us, y :: xs, h => by
    obtain ⟨h1, h2⟩ := h
    obtain ⟨k1, k2⟩ := h2.get
    refine ⟨by simp [k1], fun i x hx => ?_⟩
    rcases i with _ | i
    · cases hx; exact ⟨u, rfl, h1⟩
    · exact k2 i x (by simpa using hx)
/-- a law that is true -/
theorem con_true {P : Program} {f : FuncId} {args : List SV} (h : Con P f args [] (.c (.lit (.bool true))) []) {W : World} {us : List Value} (ha : ArgsOk (rdAll W) env0 us args) :
    Calls P f us.toArray W fun e w' => e = .returned (.bool true) ∧ Ext W w' := by
  obtain ⟨h1, h2⟩ := ha.get
  have nol : ∀ d (x : Res), look ([] : Hp) d = some x → False := fun d x hx => by simp [look] at hx
  have noin : ∀ g b o, ¬ InFoot g ([] : Hp) b o := by rintro g b o ⟨d, r, hd, _⟩; exact nol _ _ hd
  refine (h (rdAll W) env0 W us.toArray (fun b o v hv => hv) (by simpa using h1) (fun i x hx => by simpa using h2 i x hx) (fun d x hx => (nol d x hx).elim) (fun d d' r r' b o _ hd => (nol _ _ hd).elim) (fun b o hx => (noin _ _ _ hx).elim)).mono ?_
  rintro e w' ⟨u, g', rfl, hk, _, _, _, _, hu⟩
  have hE : Ext W w' := (hk.weak (fun b o x => noin _ _ _ x)).ext
  refine ⟨?_, hE⟩
  have := (hu (rdAll w') (by
    intro b o v hv
    obtain ⟨g, rfl⟩ := hE
    have hb := World.block_lt_of_cell? _ _ hv
    unfold rdAll
    rw [cell_plus _ _ _ _ _ hb]
    exact hv) (fun b o u _ _ hc => hc)).1
  cases this
  rfl
def wfI (k : IntKind) (n : Int) : Prop := (Lit.int k n).wf = true
def wfA (k : IntKind) (n : Nat) (l : List Int) : Prop := l.length = n ∧ ∀ z ∈ l, wfI k z
def Seg (rd : Rd) (cs : List Value) (off n : Nat) (l : List SC) : Prop := l.length = n ∧ ∀ (j : Nat) (y : SC), l[j]? = some y → ∃ u, cs[off + j]? = some u ∧ IRel rd u y
theorem Seg.append {rd : Rd} {cs : List Value} {off n m : Nat} {l l' : List SC} (h : Seg rd cs off n l) (k : Seg rd cs (off + n) m l') : Seg rd cs off (n + m) (l ++ l') := by
  refine ⟨by rw [List.length_append, h.1, k.1], fun j y hy => ?_⟩
  by_cases hj : j < l.length
  · rw [List.getElem?_append_left hj] at hy
    exact h.2 j y hy
  · rw [List.getElem?_append_right (by omega)] at hy
    obtain ⟨u, h1, h2⟩ := k.2 _ y hy
    have h3 := h.1
    refine ⟨u, ?_, h2⟩
    rw [← h1]
    congr 1
    omega

/-- a value of the type t is the shadow of an α -/
def Opens (P : Program) (t : TypeId) {α : Type} (f : α → List SC) (wf : α → Prop) : Prop :=
  ∀ (H : Type) (enc : TypeId × Value → H) (W : World) (fuel : Nat) (cs : List Value) (x : DataW H × List MemPlace), DataW.trod enc P W 0 (fun _ => true) true fuel t cs = some x → ∃ a : α, Seg (rdAll W) cs 0 cs.length (f a) ∧ wf a

theorem opens_int {P : Program} {t : TypeId} {k : IntKind} (ht : P.underlying t = some (.int k)) : Opens P t (ecI k) (wfI k) := by
  intro H enc W fuel cs x h
  obtain ⟨n, rfl, _, hw⟩ := DataW.trod_int ht h
  refine ⟨n, ⟨rfl, fun j y hy => ?_⟩, hw⟩
  rcases j with _ | j
  · simp only [ecI, List.getElem?_cons_zero, Option.some.injEq] at hy
    subst hy
    exact ⟨_, rfl, .lit _⟩
  · simp [ecI] at hy
end
section
open Go.ChangeShapes Go.WideShapes Go.ChangeAt Go.RowKit

def Wt (P : Program) (t : TypeId) {H : Type} (d : DataW H) : Prop := ∀ n ∈ d.weights P t, n ≤ reachBytes
def OpensR (P : Program) (t : TypeId) {α : Type} (f : α → List SC) (wf : α → Prop) : Prop :=
  ∀ (H : Type) (enc : TypeId × Value → H) (W : World) (fuel : Nat) (cs : List Value) (x : DataW H × List MemPlace), DataW.trod enc P W 0 (fun _ => true) true fuel t cs = some x → Wt P t x.1 → ∃ a : α, Seg (rdAll W) cs 0 cs.length (f a) ∧ wf a
theorem Opens.r {P : Program} {t : TypeId} {α : Type} {f : α → List SC} {wf : α → Prop} (h : Opens P t f wf) : OpensR P t f wf := fun H enc W fuel cs x h1 _ => h H enc W fuel cs x h1
def wfR {α : Type} (p : α → Prop) (l : List α) : Prop := l.length ≤ 140737488351232 ∧ ∀ z ∈ l, p z
theorem mem_weightsAll {H : Type} {P : Program} {e : TypeId} : ∀ {l : List (DataW H)} {d : DataW H}, d ∈ l → ∀ n ∈ d.weights P e, n ∈ DataW.weightsAll P e l
  | x :: l, d, h, n, hn => by
    simp only [DataW.weightsAll, List.mem_append]
    rcases List.mem_cons.1 h with rfl | h
    · exact Or.inl hn
    · exact Or.inr (mem_weightsAll h n hn)
theorem wt_of {H : Type} {P : Program} {ts : List TypeId} {ds : List (DataW H)} (h : (DataW.weightsEach P ts ds).all (· ≤ reachBytes) = true) {j : Nat} {t : TypeId} {d : DataW H} (ht : ts[j]? = some t) (hd : ds[j]? = some d) : Wt P t d := fun n hn => by
  have := List.all_eq_true.1 h _ (DataW.weights_mem_each ht hd n hn)
  simpa using this
theorem opens_sliceR {P : Program} {t e : TypeId} {sz : Nat} (ht : P.underlying t = some (.slice e)) (hsz : P.cellsOf e = sz) {α : Type} {f : α → List SC} {wf : α → Prop} (hop : OpensR P e f wf) (hlen : ∀ a, (f a).length = sz) (hpos : decide (0 < sz) = true) (hby : decide (0 < P.bytesOf e) = true) : OpensR P t (ecS sz f) (wfR wf) := by
  intro H enc W fuel cs x h hw
  have hb := of_decide_eq_true hby
  have hp := of_decide_eq_true hpos
  rcases DataW.trod_slice ht h with ⟨rfl, _⟩ | ⟨a, len, cap, elems, rest, m, _, rfl, rfl, _, hlc, hcm, hel, hg, _⟩
  · refine ⟨[], ⟨rfl, fun j y hy => ?_⟩, by simp, fun z hz => absurd hz (by simp)⟩
    rcases j with _ | j
    · simp only [ecS, List.map_nil, List.getElem?_cons_zero, Option.some.injEq] at hy
      subst hy
      exact ⟨_, rfl, .nil _ _ _ (by decide)⟩
    · simp [ecS] at hy
  · have e0 : DataW.weights P t (.slice (elems.map (·.1)) (rest.map (·.1)) : DataW H) = (((elems.map (·.1)).length + (rest.map (·.1)).length) * P.bytesOf e :: (DataW.weightsAll P e (elems.map (·.1)) ++ DataW.weightsAll P e (rest.map (·.1)))) := by simp [DataW.weights, ht]
    have hlen' : len ≤ 140737488351232 := by
      have h2 := hw (((elems.map (·.1)).length + (rest.map (·.1)).length) * P.bytesOf e) (by rw [e0]; exact List.mem_cons_self)
      have h3 : len * 1 ≤ ((elems.map (·.1)).length + (rest.map (·.1)).length) * P.bytesOf e := Nat.mul_le_mul (by rw [List.length_map, hel]; omega) hb
      have h4 : reachBytes = 140737488351232 := rfl
      omega
    have key : ∀ i, i < len → ∃ (us : List Value) (b : α), W.cells? 0 (a.add (i * sz)) sz = some us ∧ Seg (rdAll W) us 0 us.length (f b) ∧ wf b := by
      intro i hi
      have h1 := hg i hi
      rw [hsz] at h1
      obtain ⟨y, hy⟩ : ∃ y, elems[i]? = some y := ⟨_, List.getElem?_eq_getElem (by omega)⟩
      rw [hy] at h1
      obtain ⟨us, k1, k2⟩ := Option.bind_eq_some_iff.1 h1
      obtain ⟨b, k3, k4⟩ := hop H enc W m us y k2 (fun n hn => hw n (by
        rw [e0]
        exact List.mem_cons_of_mem _ (List.mem_append_left _ (mem_weightsAll (d := y.1) (List.mem_map.2 ⟨y, List.mem_of_getElem? hy, rfl⟩) n hn))))
      exact ⟨us, b, k1, k3, k4⟩
    have key2 : ∃ l : List α, l.length = len ∧ ∀ i b, l[i]? = some b → wf b ∧ ∃ us, W.cells? 0 (a.add (i * sz)) sz = some us ∧ Seg (rdAll W) us 0 us.length (f b) := by
      have : ∀ q, q ≤ len → ∃ l : List α, l.length = q ∧ ∀ i b, l[i]? = some b → wf b ∧ ∃ us, W.cells? 0 (a.add (i * sz)) sz = some us ∧ Seg (rdAll W) us 0 us.length (f b) := by
        intro q
        induction q with
        | zero => exact fun _ => ⟨[], rfl, fun i b hb => by simp at hb⟩
        | succ q ih =>
          intro hq
          obtain ⟨l, hl, hall⟩ := ih (by omega)
          obtain ⟨us, b, k1, k2, k3⟩ := key q (by omega)
          refine ⟨l ++ [b], by simp [hl], fun i c hc => ?_⟩
          by_cases hi : i < l.length
          · rw [List.getElem?_append_left hi] at hc
            exact hall i c hc
          · rw [List.getElem?_append_right (by omega)] at hc
            have hi0 : i - l.length = 0 := by
              have := (List.getElem?_eq_some_iff.1 hc).1
              simp at this
              omega
            rw [hi0] at hc
            cases hc
            have : i = q := by omega
            subst this
            exact ⟨k3, us, k1, k2⟩
      exact this len (Nat.le_refl _)
    obtain ⟨l, hl, hall⟩ := key2
    refine ⟨l, ⟨rfl, fun j y hy => ?_⟩, by omega, fun z hz => ?_⟩
    · rcases j with _ | j
      · simp only [ecS, List.getElem?_cons_zero, Option.some.injEq] at hy
        subst hy
        refine ⟨_, rfl, ?_⟩
        rw [hl]
        by_cases hz : len = 0
        · subst hz
          have : l = [] := List.eq_nil_of_length_eq_zero hl
          subst this
          exact .nil _ _ _ hcm
        · obtain ⟨b0, hb0⟩ : ∃ b, l[0]? = some b := ⟨_, List.getElem?_eq_getElem (by omega)⟩
          obtain ⟨_, us0, k0, _⟩ := hall 0 b0 hb0
          obtain ⟨hlen0, _, hc0⟩ := World.cells?_some k0
          have hcell0 := hc0 0 (by omega)
          obtain ⟨bl, off, spot⟩ := a
          have hspot : spot = none := by
            obtain ⟨z, hz0⟩ : ∃ z, us0[0]? = some z := ⟨_, List.getElem?_eq_getElem (by omega)⟩
            rw [hz0] at hcell0
            simpa [Addr.add] using World.cell?_spot hcell0
          subst hspot
          have cellAt : ∀ i b, l[i]? = some b → ∀ j y, (f b)[j]? = some y → ∃ u, W.cell? ⟨bl, off + i * sz + j, none⟩ = some u ∧ IRel (rdAll W) u y := by
            intro i b hb j y hy
            obtain ⟨_, us, k1, k2⟩ := hall i b hb
            obtain ⟨hlen1, _, hc1⟩ := World.cells?_some k1
            obtain ⟨u, q1, q2⟩ := k2.2 j y hy
            rw [Nat.zero_add] at q1
            have hj : j < sz := by have := (List.getElem?_eq_some_iff.1 hy).1; rw [hlen b] at this; exact this
            have := hc1 j (by omega)
            rw [q1] at this
            refine ⟨u, ?_, q2⟩
            rw [Addr.add_mid, Addr.add_mid] at this
            exact this
          refine .slc bl off len cap sz (l.map f) (fun i j => (W.cell? ⟨bl, off + i * sz + j, none⟩).getD (.bool false)) (by simp [hl]) hlc hcm ?_ ?_ ?_
          · intro x hx
            obtain ⟨b, _, rfl⟩ := List.mem_map.1 hx
            exact hlen b
          · intro i x j y hx hy
            rw [List.getElem?_map] at hx
            obtain ⟨b, hb, rfl⟩ := Option.map_eq_some_iff.1 hx
            obtain ⟨u, q1, _⟩ := cellAt i b hb j y hy
            simp only [rdAll, q1, Option.getD_some]
          · intro i x j y hx hy
            rw [List.getElem?_map] at hx
            obtain ⟨b, hb, rfl⟩ := Option.map_eq_some_iff.1 hx
            obtain ⟨u, q1, q2⟩ := cellAt i b hb j y hy
            simp only [q1, Option.getD_some]
            exact q2
      · simp [ecS] at hy
    · obtain ⟨i, hi⟩ := List.getElem?_of_mem hz
      exact (hall i z hi).1

/-- a single cell as an argument -/
theorem open_cellR {P : Program} {t : TypeId} {H : Type} {enc : TypeId × Value → H} {W : World} {v : Value} {d : DataW H} {p : List MemPlace} {α : Type} {f : α → List SC} {wf : α → Prop} {c : α → SC} (hop : OpensR P t f wf) (hc : ∀ a, f a = [c a]) (hv : v.cells = #[v]) (h : DataW.Trod enc P W 0 (fun _ => true) true t v d p) (hw : Wt P t d) : ∃ a, VRel (rdAll W) env0 v (.c (c a)) ∧ wf a := by
  obtain ⟨fuel, hf⟩ := h
  obtain ⟨a, hs, hw2⟩ := hop H enc W fuel _ _ hf hw
  rw [hv] at hs
  refine ⟨a, ?_, hw2⟩
  obtain ⟨u, k1, k2⟩ := hs.2 0 (c a) (by rw [hc]; rfl)
  simp at k1
  subst k1
  exact k2.c
/-- a slice as an argument -/
theorem open_slcR {P : Program} {t e : TypeId} {H : Type} {enc : TypeId × Value → H} {W : World} {v : Value} {d : DataW H} {p : List MemPlace} {r : Reach} {b0 : Nat} {α : Type} {sz : Nat} {f : α → List SC} {wf : List α → Prop} (hop : OpensR P t (ecS sz f) wf) (ht : P.underlying t = some (.slice e))
    (hv : Value.okWide P W r b0 t v) (h : DataW.Trod enc P W 0 (fun _ => true) true t v d p) (hw : Wt P t d) : ∃ a, VRel (rdAll W) env0 v (.c (eS sz f a)) ∧ wf a := by
  obtain ⟨a0, len, cap, rfl⟩ := okWide_slice ht hv
  exact open_cellR hop (fun a => rfl) rfl h hw
end
section
open Go.ChangeShapes Go.WideShapes Go.ChangeAt Go.RowKit

def S_Prefix.wf (x : S_Prefix) : Prop := wfA .u8 16 x.IP ∧ wfI .i64 x.Bits
def S_Destination.wf (x : S_Destination) : Prop := S_Prefix.wf x.Dst ∧ S_Prefix.wf x.Src ∧ wfI .u64 x.Router
def S_Notice.wf (x : S_Notice) : Prop := wfI .i64 x.Kind ∧ wfI .u16 x.Seq ∧ wfI .i64 x.Metric ∧ wfI .u64 x.Neighbour ∧ S_Destination.wf x.To ∧ wfI .i64 x.Hops
end
section
open Go.ChangeShapes Go.WideShapes Go.ChangeAt Go.RowKit

set_option maxRecDepth 100000 in
theorem messagesUnique_lifted (hF : ∀ (a0 : List Int) (a1 : List Int) (a2 : Int) (a3 : Int), wfR (wfI .u8) a0 → wfR (wfI .i64) a1 → wfI .i64 a2 → wfI .u8 a3 → F_law29_MessagesUnique a0 a1 a2 a3 = some true) (os : Os) (started : os.Started) (H : Type) (enc : TypeId × Value → H) :
    ReturnsInHanded {} Try.checked os 6 .any (Rows.messagesUniqueSpec.pre6 enc Try.prog Try.f6 Rows.messagesUniqueRow.domain false) (Rows.messagesUniqueSpec.post enc Try.prog Try.f6 false true false false) := by
  refine returnsInHanded_of_change_sized (C := Try.checked) own started (by kernel_rfl) Try.func6
    (ChangeSpec.witness6 (enc := enc) (C := Try.checked) false ⟨#[], #[.slice none 0 0, .slice none 0 0, .int .i64 0, .int .u8 0], []⟩ 8 (by kernel_rfl) (by kernel_rfl) (by kernel_rfl) (by kernel_rfl)) ?_
  intro W base args ds gs before hval0 hW hcnd hsz0 _
  have hval : ∀ (j : Nat) t v, Try.f6.params[j]? = some t → args[j]? = some v → Value.okWide Try.prog W .any base t v := hval0
  have hW' := hW
  obtain ⟨p, q, hA0, hV, rfl, hfz, hnd⟩ := hW
  have hA : DataW.TrodAll enc Try.prog W 0 (fun _ => true) true Try.f6.params.toList args.toList ds p := hA0
  have hAll := hA
  rw [Try.params6] at hA hval hAll
  obtain ⟨v0, vs0, d0, ds0, p0, q0, hargs, rfl, rfl, h0, r0⟩ := trodAll_cons hA
  obtain ⟨v1, vs1, d1, ds1, p1, q1, rfl, rfl, rfl, h1, r1⟩ := trodAll_cons r0
  obtain ⟨v2, vs2, d2, ds2, p2, q2, rfl, rfl, rfl, h2, r2⟩ := trodAll_cons r1
  obtain ⟨v3, vs3, d3, ds3, p3, q3, rfl, rfl, rfl, h3, r3⟩ := trodAll_cons r2
  obtain ⟨rfl, rfl, rfl⟩ := trodAll_nil r3
  obtain rfl : args = #[v0, v1, v2, v3] := by cases args; simp_all
  obtain ⟨rfl, rfl⟩ := trodVars_none hV
  obtain ⟨x0, hR0, w0⟩ := open_slcR (opens_sliceR (sz := 1) Try.underlying47 (by kernel_rfl) (opens_int (k := .u8) Try.underlying5).r (fun _ => by kernel_rfl) (by kernel_rfl) (by kernel_rfl)) Try.underlying47 (hval 0 47 v0 rfl rfl) h0 (wt_of hsz0 (j := 0) (by kernel_rfl) rfl)
  obtain ⟨x1, hR1, w1⟩ := open_slcR (opens_sliceR (sz := 1) Try.underlying23 (by kernel_rfl) (opens_int (k := .i64) Try.underlying3).r (fun _ => by kernel_rfl) (by kernel_rfl) (by kernel_rfl)) Try.underlying23 (hval 1 23 v1 rfl rfl) h1 (wt_of hsz0 (j := 1) (by kernel_rfl) rfl)
  obtain ⟨x2, rfl, rfl, rfl, w2⟩ := open_int Try.underlying3 (hval 2 3 v2 rfl rfl) h2
  obtain ⟨x3, rfl, rfl, rfl, w3⟩ := open_int Try.underlying5 (hval 3 5 v3 rfl rfl) h3
  clear hA0 hval0 hsz0
  refine (con_true (us := [v0, v1, .int .i64 x2, .int .u8 x3]) (ok_law29_MessagesUnique x0 x1 x2 x3 true (hF x0 x1 x2 x3 w0 w1 w2 w3)) ⟨hR0, hR1, vrel_lit _ _ _, vrel_lit _ _ _, trivial⟩).mono fun e W' ⟨he, hx⟩ => ?_
  subst he
  have bel := hx.below
  exact ⟨_, rfl, _, _, _, [], _, [], hW', trodAll_mk1 (shut_bool Try.underlying4 _), trodAll_below laidOut bel (by kernel_rfl) hAll, rfl, bel.frame _, fun h => by cases h⟩

theorem messagesUnique_of (hF : ∀ (a0 : List Int) (a1 : List Int) (a2 : Int) (a3 : Int), wfR (wfI .u8) a0 → wfR (wfI .i64) a1 → wfI .i64 a2 → wfI .u8 a3 → F_law29_MessagesUnique a0 a1 a2 a3 = some true) : Rows.MessagesUniqueSaid :=
  OpenClaim.holds_of_wide 6 Try.f6 rfl rfl rfl rfl rfl rfl rfl ⟨rfl, rfl, rfl, rfl, rfl⟩ rfl rfl rfl rfl rfl (by kernel_rfl) Try.func6 (by kernel_rfl)
    (of_decide_eq_true (by kernel_rfl)) (by unfold Func.isWrapper; first | (rw [if_pos (by decide +kernel)]; kernel_rfl) | (rw [if_neg (by decide +kernel)]; exact ⟨rfl, rfl⟩))
    (fun os started H enc _ => messagesUnique_lifted hF os started H enc)
end
section
open Go.RowKit

theorem beqF {α : Type} [BEq α] [LawfulBEq α] {a b : α} (h : ¬ a = b) : (a == b) = false := by simpa using h
theorem decT {p : Prop} [Decidable p] (h : p) : decide p = true := by simpa using h
theorem decF {p : Prop} [Decidable p] (h : ¬ p) : decide p = false := by simpa using h
theorem wi {x : Int} (h0 : -9223372036854775808 ≤ x) (h1 : x ≤ 9223372036854775807) : IntKind.wrap .i64 x = x := by
  simp [IntKind.wrap, IntKind.bits, IntKind.signed]
  omega
theorem wu {x : Int} (h0 : 0 ≤ x) (h1 : x < 18446744073709551616) : IntKind.wrap .u64 x = x := by
  simp [IntKind.wrap, IntKind.bits, IntKind.signed]
  omega
theorem wu16 {x : Int} (h0 : 0 ≤ x) (h1 : x < 65536) : IntKind.wrap .u16 x = x := by
  simp [IntKind.wrap, IntKind.bits, IntKind.signed]
  omega
theorem wu8 {x : Int} (h0 : 0 ≤ x) (h1 : x < 256) : IntKind.wrap .u8 x = x := by
  simp [IntKind.wrap, IntKind.bits, IntKind.signed]
  omega
theorem wk (k : Nat) (h : k < 9223372036854775807) : IntKind.wrap .i64 ((k : Int) + 1) = ((k + 1 : Nat) : Int) := by
  rw [wi (by omega) (by omega)]; rfl
theorem wrap8 (x : Int) : IntKind.wrap .u8 x = x % 256 := by
  simp [IntKind.wrap, IntKind.bits, IntKind.signed]
theorem wrap16 (x : Int) : IntKind.wrap .u16 x = x % 65536 := by
  simp [IntKind.wrap, IntKind.bits, IntKind.signed]
theorem wrap64 (x : Int) : IntKind.wrap .u64 x = x % 18446744073709551616 := by
  simp [IntKind.wrap, IntKind.bits, IntKind.signed]
theorem wrap8_bd (x : Int) : 0 ≤ IntKind.wrap .u8 x ∧ IntKind.wrap .u8 x ≤ 255 := by rw [wrap8]; omega

section
variable {σ ρ : Type} {step : σ → Option (σ ⊕ ρ)}
theorem loop_done {s : σ} {r : ρ} (h : step s = some (.inr r)) : loopO step s = some r := by rw [loopO_eq, h]
theorem loop_next {s s' : σ} (h : step s = some (.inl s')) : loopO step s = loopO step s' := by rw [loopO_eq, h]
/-- a loop that keeps I and ends with Q -/
theorem loop_inv (I : σ → Prop) (Q : ρ → Prop) (m : σ → Nat) (hs : ∀ s, I s → (∃ s', step s = some (.inl s') ∧ I s' ∧ m s' < m s) ∨ (∃ r, step s = some (.inr r) ∧ Q r)) (s : σ) (h : I s) : ∃ r, loopO step s = some r ∧ Q r := by
  induction hn : m s using Nat.strongRecOn generalizing s with
  | ind n ih =>
    subst hn
    rcases hs s h with ⟨s', h1, h2, h3⟩ | ⟨r, h1, h2⟩
    · obtain ⟨r, hr, hq⟩ := ih (m s') h3 s' h2 rfl
      exact ⟨r, by rw [loop_next h1]; exact hr, hq⟩
    · exact ⟨r, loop_done h1, h2⟩
/-- a loop whose states are known -/
theorem loop_to (S : Nat → σ) (n : Nat) (h : ∀ k, k < n → step (S k) = some (.inl (S (k + 1)))) : loopO step (S 0) = loopO step (S n) := by
  induction n with
  | zero => rfl
  | succ n ih => rw [ih (fun k hk => h k (by omega)), loop_next (h n (by omega))]
theorem loop_run (S : Nat → σ) (n : Nat) {r : ρ} (h : ∀ k, k < n → step (S k) = some (.inl (S (k + 1)))) (he : step (S n) = some (.inr r)) : loopO step (S 0) = some r := by
  rw [loop_to S n h, loop_done he]
/-- a loop that is left at the first place where p fails -/
theorem loop_first (S : Nat → σ) (n : Nat) (p : Nat → Bool) (out : Nat → ρ) {re : ρ} (h1 : ∀ k, k < n → p k = true → step (S k) = some (.inl (S (k + 1)))) (h2 : ∀ k, k < n → p k = false → step (S k) = some (.inr (out k))) (h3 : step (S n) = some (.inr re)) :
    (∃ k, k < n ∧ p k = false ∧ (∀ j, j < k → p j = true) ∧ loopO step (S 0) = some (out k)) ∨ ((∀ k, k < n → p k = true) ∧ loopO step (S 0) = some re) := by
  by_cases hx : ∀ k, k < n → p k = true
  · exact .inr ⟨hx, loop_run S n (fun k hk => h1 k hk (hx k hk)) h3⟩
  · have hx' : ∃ k, k < n ∧ p k = false := by
      apply Classical.byContradiction
      intro hno
      apply hx
      intro k hk
      cases hpk : p k with
      | true => rfl
      | false => exact absurd ⟨k, hk, hpk⟩ hno
    have : ∃ k, (k < n ∧ p k = false) ∧ ∀ j, j < k → ¬ (j < n ∧ p j = false) := by
      obtain ⟨k, hk⟩ := hx'
      induction k using Nat.strongRecOn with
      | ind k ih =>
        by_cases hj : ∃ j, j < k ∧ j < n ∧ p j = false
        · obtain ⟨j, hj1, hj2⟩ := hj; exact ih j hj1 hj2
        · exact ⟨k, hk, fun j hjk hh => hj ⟨j, hjk, hh⟩⟩
    obtain ⟨k, ⟨hk, hpk⟩, hmin⟩ := this
    have hall : ∀ j, j < k → p j = true := by
      intro j hj
      cases hpj : p j with
      | true => rfl
      | false => exact absurd ⟨by omega, hpj⟩ (hmin j hj)
    refine .inl ⟨k, hk, hpk, hall, ?_⟩
    rw [loop_to S k (fun j hj => h1 j (by omega) (hall j hj)), loop_done (h2 k hk hpk)]
/-- a loop that answers whether p holds everywhere -/
theorem loop_all (S : Nat → σ) (n : Nat) (p : Nat → Bool) {rt rf : ρ} (h1 : ∀ k, k < n → p k = true → step (S k) = some (.inl (S (k + 1)))) (h2 : ∀ k, k < n → p k = false → step (S k) = some (.inr rf)) (h3 : step (S n) = some (.inr rt)) :
    loopO step (S 0) = some (if ∀ k, k < n → p k = true then rt else rf) := by
  rcases loop_first S n p (fun _ => rf) h1 h2 h3 with ⟨k, hk, hpk, _, h⟩ | ⟨ha, h⟩
  · rw [h, if_neg]
    intro hh
    rw [hh k hk] at hpk
    cases hpk
  · rw [h, if_pos ha]
end
theorem idx_nat {α : Type} (l : List α) (k : Nat) : idx l (k : Int) = l[k]? := by simp [idx]
theorem idx_lt {α : Type} {l : List α} {k : Nat} (h : k < l.length) : idx l (k : Int) = some l[k] := by rw [idx_nat]; exact List.getElem?_eq_getElem h
theorem idx_int {α : Type} {l : List α} {i : Int} (h0 : 0 ≤ i) (h1 : i < l.length) : idx l i = some (l[i.toNat]'(by omega)) := by
  unfold idx; rw [if_pos h0]; exact List.getElem?_eq_getElem _
theorem appO_some {α : Type} {by_ : Nat} {l1 l2 : List α} (h : (l1.length + l2.length) * by_ ≤ 140737488355328) (h' : l1.length + l2.length ≤ 140737488355328) : appO by_ l1 l2 = some (l1 ++ l2) := by
  unfold appO; rw [if_pos ⟨h, h'⟩]
theorem subO_some {α : Type} {l : List α} {a b : Int} (h0 : 0 ≤ a) (h1 : a ≤ b) (h2 : b ≤ l.length) : subO l a b = some ((l.take b.toNat).drop a.toNat) := by
  unfold subO; rw [if_pos ⟨h0, h1, h2⟩]

theorem arrL_id {n : Nat} {l : List Int} (h : l.length = n) : arrL n l = l := by
  apply List.ext_getElem?
  intro i
  unfold arrL
  rcases Nat.lt_or_ge i n with hi | hi
  · rw [List.getElem?_map, List.getElem?_range hi, List.getElem?_eq_getElem (by omega)]
    simp [List.getD_eq_getElem?_getD, List.getElem?_eq_getElem (show i < l.length by omega)]
  · rw [List.getElem?_eq_none (by simpa using hi), List.getElem?_eq_none (by omega)]
theorem arrEq_iff {n : Nat} {a b : List Int} : arrEq n a b = true ↔ ∀ i, i < n → a.getD i 0 = b.getD i 0 := by
  unfold arrEq
  have : ∀ l : List Nat, (l.foldr (fun i r => (a.getD i 0 == b.getD i 0) && r) true) = true ↔ ∀ i ∈ l, a.getD i 0 = b.getD i 0 := by
    intro l
    induction l with
    | nil => simp
    | cons x l ih => simp only [List.foldr_cons, Bool.and_eq_true, beq_iff_eq, ih, List.mem_cons, forall_eq_or_imp]
  rw [this]
  simp
theorem arrEq_eq {n : Nat} {a b : List Int} (ha : a.length = n) (hb : b.length = n) : arrEq n a b = decide (a = b) := by
  rw [Bool.eq_iff_iff, arrEq_iff, decide_eq_true_iff]
  constructor
  · intro h
    apply List.ext_getElem (by omega)
    intro i h1 h2
    have := h i (by omega)
    simpa [List.getD_eq_getElem?_getD, List.getElem?_eq_getElem h1, List.getElem?_eq_getElem h2] using this
  · rintro rfl _ _; rfl
theorem setA_set {n : Nat} {l : List Int} {i : Nat} {v : Int} (h : l.length = n) : setA n l i v = l.set i v := by
  apply List.ext_getElem?
  intro j
  unfold setA
  rcases Nat.lt_or_ge j n with hj | hj
  · rw [List.getElem?_map, List.getElem?_range hj, List.getElem?_set]
    by_cases hij : i = j
    · subst hij; simp; omega
    · simp [hij, Ne.symm hij, List.getD_eq_getElem?_getD, List.getElem?_eq_getElem (show j < l.length by omega)]
  · rw [List.getElem?_eq_none (by simpa using hj), List.getElem?_eq_none (by simp; omega)]
theorem setA_len (n : Nat) (l : List Int) (i : Nat) (v : Int) : (setA n l i v).length = n := by simp [setA]

theorem getD_get {l : List Int} {i : Nat} (h : i < l.length) : l.getD i 0 = l[i] := by simp [List.getD_eq_getElem?_getD, List.getElem?_eq_getElem h]
theorem getD_mem {p : Int → Prop} {l : List Int} (h : ∀ z ∈ l, p z) (h0 : p 0) (i : Nat) : p (l.getD i 0) := by
  rcases Nat.lt_or_ge i l.length with hi | hi
  · rw [getD_get hi]; exact h _ (List.getElem_mem hi)
  · rw [List.getD_eq_getElem?_getD, List.getElem?_eq_none hi]; exact h0
end
section
open Go.RowKit

def okB (l : List Int) : Prop := ∀ z ∈ l, 0 ≤ z ∧ z ≤ 255
theorem okB_nil : okB [] := fun z h => by simp at h
theorem okB.append {a b : List Int} (ha : okB a) (hb : okB b) : okB (a ++ b) := fun z h => (List.mem_append.1 h).elim (ha z) (hb z)
theorem okB.get {l : List Int} (h : okB l) {i : Nat} (hi : i < l.length) : 0 ≤ l[i] ∧ l[i] ≤ 255 := h _ (List.getElem_mem hi)
theorem okB.take {l : List Int} (h : okB l) (n : Nat) : okB (l.take n) := fun z hz => h z (List.mem_of_mem_take hz)
theorem okB.drop {l : List Int} (h : okB l) (n : Nat) : okB (l.drop n) := fun z hz => h z (List.mem_of_mem_drop hz)
theorem okB.set {l : List Int} (h : okB l) (n : Nat) {v : Int} (hv : 0 ≤ v ∧ v ≤ 255) : okB (l.set n v) := fun z hz => (List.mem_or_eq_of_mem_set hz).elim (h z) (fun e => e ▸ hv)
theorem okB.getD {l : List Int} (h : okB l) (n : Nat) : 0 ≤ l.getD n 0 ∧ l.getD n 0 ≤ 255 := getD_mem (p := fun z => 0 ≤ z ∧ z ≤ 255) h (by omega) n
theorem okB_one {v : Int} (h : 0 ≤ v ∧ v ≤ 255) : okB [v] := fun z hz => by rw [List.mem_singleton.1 hz]; exact h
theorem okB_cons {v : Int} {l : List Int} (h : 0 ≤ v ∧ v ≤ 255) (k : okB l) : okB (v :: l) := fun z hz => (List.mem_cons.1 hz).elim (fun e => e ▸ h) (k z)
theorem okB_wf {l : List Int} (h : ∀ z ∈ l, wfI .u8 z) : okB l := fun z hz => by
  have := h z hz
  simp [wfI, Lit.wf, IntKind.min, IntKind.max, IntKind.bits, IntKind.signed] at this
  omega
theorem u8_inj {a b : Int} (ha : 0 ≤ a ∧ a ≤ 255) (hb : 0 ≤ b ∧ b ≤ 255) (h : a.toNat.toUInt8 = b.toNat.toUInt8) : a = b := by
  have e1 : (a.toNat.toUInt8).toNat = a.toNat := by simp [Nat.toUInt8]; omega
  have e2 : (b.toNat.toUInt8).toNat = b.toNat := by simp [Nat.toUInt8]; omega
  rw [h] at e1
  omega
theorem u8L_inj : ∀ {a b : List Int}, okB a → okB b → u8L a = u8L b → a = b
  | [], [], _, _, _ => rfl
  | [], _ :: _, _, _, h => by simp [u8L] at h
  | _ :: _, [], _, _, h => by simp [u8L] at h
  | x :: s, y :: t, ha, hb, h => by
    simp only [u8L, List.map_cons, List.cons.injEq] at h
    rw [u8_inj (ha x (by simp)) (hb y (by simp)) h.1, u8L_inj (fun z hz => ha z (by simp [hz])) (fun z hz => hb z (by simp [hz])) h.2]
theorem u8L_beq {a b : List Int} (ha : okB a) (hb : okB b) : (u8L a == u8L b) = decide (a = b) := by
  by_cases h : a = b
  · subst h; simp
  · rw [decF h]
    exact beqF (fun q => h (u8L_inj ha hb q))
theorem ishr_eq {x y : Int} (h0 : 0 ≤ y) (h1 : y < 64) : ishr .u64 x y = x / 2 ^ y.toNat := by
  unfold ishr
  rw [show min y.toNat IntKind.u64.bits = y.toNat by simp [IntKind.bits]; omega]
  exact Int.fdiv_eq_ediv_of_nonneg _ (Int.pow_nonneg (by omega))
theorem ishl_eq {x y : Int} (h0 : 0 ≤ y) (h1 : y < 64) : ishl .u64 x y = (x * 2 ^ y.toNat) % 18446744073709551616 := by
  unfold ishl
  rw [show min y.toNat IntKind.u64.bits = y.toNat by simp [IntKind.bits]; omega, wrap64]
theorem byte_eq {v : Int} {j : Int} (h0 : 0 ≤ j) (h1 : j < 64) : IntKind.wrap .u8 (ishr .u64 v j) = v / 2 ^ j.toNat % 256 := by
  rw [ishr_eq h0 h1, wrap8]
theorem ior_add {x y : Int} (i : Nat) (h0 : 0 ≤ x) (h1 : x < 2 ^ i) (h2 : 0 ≤ y) (h3 : x + y * 2 ^ i < 18446744073709551616) : ior .u64 x (y * 2 ^ i) = x + y * 2 ^ i := by
  obtain ⟨a, rfl⟩ := Int.eq_ofNat_of_zero_le h0
  obtain ⟨b, rfl⟩ := Int.eq_ofNat_of_zero_le h2
  have hp : ((b : Int) * 2 ^ i) = ((b * 2 ^ i : Nat) : Int) := by rw [Int.natCast_mul, Int.natCast_pow]; rfl
  have ha : a < 2 ^ i := by
    have e : ((2 : Int) ^ i) = ((2 ^ i : Nat) : Int) := by rw [Int.natCast_pow]; rfl
    rw [e] at h1
    omega
  rw [hp] at h3 ⊢
  have h3' : a + b * 2 ^ i < 18446744073709551616 := by omega
  unfold ior
  have e1 : (BitVec.ofInt IntKind.u64.bits (a : Int)).toNat = a := by
    rw [BitVec.toNat_ofInt]
    simp only [IntKind.bits]
    omega
  have e2 : (BitVec.ofInt IntKind.u64.bits ((b * 2 ^ i : Nat) : Int)).toNat = b * 2 ^ i := by
    rw [BitVec.toNat_ofInt]
    simp only [IntKind.bits]
    omega
  rw [BitVec.toNat_or, e1, e2, Nat.or_comm, show b * 2 ^ i ||| a = 2 ^ i * b + a by rw [Nat.two_pow_add_eq_or_of_lt ha, Nat.mul_comm]]
  rw [wrap64, Nat.mul_comm]
  omega

def beB (v : Int) (n : Nat) : List Int := (List.range n).map fun i => v / 2 ^ (8 * (n - 1 - i)) % 256
theorem beB_len (v : Int) (n : Nat) : (beB v n).length = n := by simp [beB]
theorem beB_ok (v : Int) (n : Nat) : okB (beB v n) := fun z hz => by
  obtain ⟨i, _, rfl⟩ := List.mem_map.1 hz
  omega
theorem beB_get {v : Int} {n i : Nat} (h : i < n) : (beB v n)[i]? = some (v / 2 ^ (8 * (n - 1 - i)) % 256) := by
  unfold beB
  rw [List.getElem?_map, List.getElem?_range h]; rfl
theorem take_snoc {α : Type} {l : List α} {k : Nat} {x : α} (h : l[k]? = some x) : l.take (k + 1) = l.take k ++ [x] := by
  rw [List.take_add_one, h]; rfl
theorem set_mid {α : Type} (a b : List α) (x y : α) {k : Nat} (h : k = a.length) : (a ++ x :: b).set k y = a ++ y :: b := by
  subst h
  rw [List.set_append_right _ _ (Nat.le_refl _), Nat.sub_self]
  rfl

/-- the number of bytes, the greatest first -/
def beN : List Int → Int := fun l => l.foldl (fun v c => v * 256 + c) 0
theorem beN_snoc (l : List Int) (x : Int) : beN (l ++ [x]) = beN l * 256 + x := by simp [beN]
theorem beN_aux : ∀ (l : List Int) (v : Int), okB l → 0 ≤ v → 0 ≤ l.foldl (fun v c => v * 256 + c) v ∧ l.foldl (fun v c => v * 256 + c) v < (v + 1) * 256 ^ l.length
  | [], v, _, h => by simp; omega
  | x :: l, v, h, hv => by
    have h1 := h x (by simp)
    obtain ⟨a, b⟩ := beN_aux l (v * 256 + x) (fun z hz => h z (by simp [hz])) (by omega)
    refine ⟨a, Int.lt_of_lt_of_le b ?_⟩
    have e : (v + 1) * (256 : Int) ^ (x :: l).length = (v + 1) * 256 * 256 ^ l.length := by
      rw [List.length_cons, Int.pow_succ, Int.mul_comm ((256 : Int) ^ l.length) 256, Int.mul_assoc]
    rw [e]
    exact Int.mul_le_mul_of_nonneg_right (by omega) (Int.pow_nonneg (by omega))
theorem beN_bd {l : List Int} (h : okB l) : 0 ≤ beN l ∧ beN l < 256 ^ l.length := by
  have := beN_aux l 0 h (by omega)
  simpa [beN] using this
end
section
open Go.RowKit

theorem put_n (v : Int) (n : Nat) (hn : n ≤ 8) : F_ref29_Put_N0 v n = some (beB v n) := by
  unfold F_ref29_Put_N0
  rw [wi (by omega) (by omega)]
  have hl := loop_run (step := F_ref29_Put_N0_l1 v) (S := fun k => ((beB v n).take k, (n : Int) - 1 - (k : Int))) n (r := beB v n) (fun k hk => by
    unfold F_ref29_Put_N0_l1
    dsimp only
    have w1 : IntKind.wrap .i64 (8 * ((n : Int) - 1 - (k : Int))) = ((8 * (n - 1 - k) : Nat) : Int) := by rw [wi (by omega) (by omega)]; omega
    have w2 : IntKind.wrap .u64 ((8 * (n - 1 - k) : Nat) : Int) = ((8 * (n - 1 - k) : Nat) : Int) := wu (by omega) (by omega)
    have w3 : IntKind.wrap .i64 ((n : Int) - 1 - (k : Int) - 1) = (n : Int) - 1 - ((k + 1 : Nat) : Int) := by rw [wi (by omega) (by omega)]; omega
    rw [decT (show (n : Int) - 1 - (k : Int) ≥ 0 by omega), w1, w2, w3, decT (show (0 : Int) ≤ ((8 * (n - 1 - k) : Nat) : Int) by omega)]
    simp only [cond_true, Cut.app]
    rw [appO_some (by simp only [List.length_take, beB_len, List.length_singleton]; omega) (by simp only [List.length_take, beB_len, List.length_singleton]; omega), Option.bind_some, byte_eq (by omega) (by omega), Int.toNat_natCast, take_snoc (beB_get hk)]) (by
    unfold F_ref29_Put_N0_l1
    dsimp only
    rw [decF (show ¬ (n : Int) - 1 - (n : Int) ≥ 0 by omega)]
    simp only [cond_false]
    rw [List.take_of_length_le (by rw [beB_len]; exact Nat.le_refl _)])
  simp only [Int.natCast_zero, List.take_zero, Int.sub_zero] at hl
  rw [hl]
  rfl
theorem put_g (a : List Int) (v : Int) (n : Nat) (hn : n ≤ 8) (ha : a.length ≤ 1000000000000) : F_ref29_Put_G0 a v n = some (a ++ beB v n) := by
  unfold F_ref29_Put_G0
  rw [wi (by omega) (by omega)]
  have hl := loop_run (step := F_ref29_Put_G0_l1 v) (S := fun k => (a ++ (beB v n).take k, (n : Int) - 1 - (k : Int))) n (r := a ++ beB v n) (fun k hk => by
    unfold F_ref29_Put_G0_l1
    dsimp only
    have w1 : IntKind.wrap .i64 (8 * ((n : Int) - 1 - (k : Int))) = ((8 * (n - 1 - k) : Nat) : Int) := by rw [wi (by omega) (by omega)]; omega
    have w2 : IntKind.wrap .u64 ((8 * (n - 1 - k) : Nat) : Int) = ((8 * (n - 1 - k) : Nat) : Int) := wu (by omega) (by omega)
    have w3 : IntKind.wrap .i64 ((n : Int) - 1 - (k : Int) - 1) = (n : Int) - 1 - ((k + 1 : Nat) : Int) := by rw [wi (by omega) (by omega)]; omega
    rw [decT (show (n : Int) - 1 - (k : Int) ≥ 0 by omega), w1, w2, w3, decT (show (0 : Int) ≤ ((8 * (n - 1 - k) : Nat) : Int) by omega)]
    simp only [cond_true, Cut.app]
    rw [appO_some (by simp only [List.length_append, List.length_take, beB_len, List.length_singleton]; omega) (by simp only [List.length_append, List.length_take, beB_len, List.length_singleton]; omega), Option.bind_some, byte_eq (by omega) (by omega), Int.toNat_natCast, take_snoc (beB_get hk), List.append_assoc]) (by
    unfold F_ref29_Put_G0_l1
    dsimp only
    rw [decF (show ¬ (n : Int) - 1 - (n : Int) ≥ 0 by omega)]
    simp only [cond_false]
    rw [List.take_of_length_le (by rw [beB_len]; exact Nat.le_refl _)])
  simp only [Int.natCast_zero, List.take_zero, List.append_nil, Int.sub_zero] at hl
  rw [hl]
  rfl
end
section
open Go.RowKit

theorem octets_append_n (a : List Int) (v : Int) (n : Nat) (hn : n ≤ 8) (ha : a.length ≤ 140737488355320) : F_octets_Append_j1 a v n = some (a ++ beB v n) := by
  unfold F_octets_Append_j1
  have e1 : IntKind.wrap .i64 ((a.length : Int) + (n : Int)) = ((a.length + n : Nat) : Int) := by rw [wi (by omega) (by omega)]; rfl
  rw [e1]
  have e2 : mkO 1 ((a.length + n : Nat) : Int) ((a.length + n : Nat) : Int) = some (a.length + n) := by
    unfold mkO
    rw [if_pos ⟨by omega, by omega, by omega, by omega⟩, Int.toNat_natCast]
  rw [e2, Option.bind_some]
  have e3 : cpL (List.replicate (a.length + n) (0 : Int)) 0 (List.length (Cut.app .whole (List.replicate (a.length + n) (0 : Int)))) (Cut.app .whole a) = a ++ (beB v n).take 0 ++ List.replicate (n - 0) 0 := by
    unfold cpL
    simp only [Cut.app, List.length_replicate, List.take_zero, List.nil_append, List.append_nil, Nat.zero_add, Nat.sub_zero]
    rw [show min a.length (a.length + n) = a.length by omega, List.take_length, List.drop_replicate, show a.length + n - a.length = n by omega]
  rw [e3]
  have hl := loop_run (step := F_octets_Append_l2 n a v) (S := fun k => ((k : Int), a ++ (beB v n).take k ++ List.replicate (n - k) 0)) n (r := a ++ beB v n) (fun k hk => by
    unfold F_octets_Append_l2
    dsimp only
    have w1 : IntKind.wrap .i64 ((n : Int) - 1) = (n : Int) - 1 := wi (by omega) (by omega)
    have w2 : IntKind.wrap .i64 ((n : Int) - 1 - (k : Int)) = ((n - 1 - k : Nat) : Int) := by rw [wi (by omega) (by omega)]; omega
    have w3 : IntKind.wrap .i64 (8 * ((n - 1 - k : Nat) : Int)) = ((8 * (n - 1 - k) : Nat) : Int) := by rw [wi (by omega) (by omega)]; omega
    have w4 : IntKind.wrap .i64 ((a.length : Int) + (k : Int)) = ((a.length + k : Nat) : Int) := by rw [wi (by omega) (by omega)]; rfl
    have hlen : (a ++ (beB v n).take k ++ List.replicate (n - k) (0 : Int)).length = a.length + n := by
      simp only [List.length_append, List.length_take, beB_len, List.length_replicate]; omega
    rw [decT (show (k : Int) < (n : Int) by omega), w1, w2, w3, w4, decT (show (0 : Int) ≤ ((8 * (n - 1 - k) : Nat) : Int) by omega)]
    simp only [cond_true, Cut.app, Nat.zero_add, Int.toNat_natCast]
    rw [idx_lt (by omega), Option.bind_some, List.getElem?_eq_getElem (by omega), Option.bind_some, wk k (by omega), byte_eq (by omega) (by omega), Int.toNat_natCast]
    congr 3
    obtain ⟨m, hm⟩ : ∃ m, n - k = m + 1 := ⟨n - k - 1, by omega⟩
    rw [hm, List.replicate_succ, set_mid _ _ _ _ (by simp only [List.length_append, List.length_take, beB_len]; omega), take_snoc (beB_get hk), show n - (k + 1) = m by omega]
    simp) (by
    unfold F_octets_Append_l2
    dsimp only
    rw [decF (show ¬ (n : Int) < (n : Int) by omega)]
    simp only [cond_false]
    rw [List.take_of_length_le (by rw [beB_len]; exact Nat.le_refl _), Nat.sub_self]
    simp)
  simp only [Int.natCast_zero] at hl
  rw [hl]
  rfl
/-- octets.Append -/
theorem octets_append (a : List Int) (v : Int) (n : Nat) (hn : n ≤ 8) (ha : a.length ≤ 140737488355320) : F_octets_Append a v n = some (a ++ beB v n) := by
  unfold F_octets_Append
  rw [decF (show ¬ (n : Int) < 0 by omega), decF (show ¬ (n : Int) > 8 by omega)]
  exact octets_append_n a v n hn ha
end
section
open Go.RowKit

def Bytes (l : List Int) : Prop := ∀ z ∈ l, 0 ≤ z ∧ z ≤ 255
def bit8 (b : Int) (j : Nat) : Int := iand .u8 (ishr .u8 b (7 - (j : Int))) 1
def maskB (b : Int) (c : Nat) : Int := iandNot .u8 b (ishr .u8 255 (c : Int))
theorem byte_fin {b : Int} (h : 0 ≤ b ∧ b ≤ 255) : ∃ x : Fin 256, b = ((x : Nat) : Int) := ⟨⟨b.toNat, by omega⟩, by simp; omega⟩
theorem bit8_sum0 : ∀ x : Fin 256, ((x : Nat) : Int) = 128 * bit8 x 0 + 64 * bit8 x 1 + 32 * bit8 x 2 + 16 * bit8 x 3 + 8 * bit8 x 4 + 4 * bit8 x 5 + 2 * bit8 x 6 + bit8 x 7 := by decide +kernel
theorem bit8_ext {x y : Int} (hx : 0 ≤ x ∧ x ≤ 255) (hy : 0 ≤ y ∧ y ≤ 255) (h : ∀ j, j < 8 → bit8 x j = bit8 y j) : x = y := by
  obtain ⟨a, rfl⟩ := byte_fin hx
  obtain ⟨b, rfl⟩ := byte_fin hy
  rw [bit8_sum0 a, bit8_sum0 b, h 0 (by omega), h 1 (by omega), h 2 (by omega), h 3 (by omega), h 4 (by omega), h 5 (by omega), h 6 (by omega), h 7 (by omega)]
theorem maskB_bit0 : ∀ x : Fin 256, ∀ c : Fin 9, ∀ j : Fin 8, bit8 (maskB x c) j = if (j : Nat) < c then bit8 x j else 0 := by decide +kernel
theorem maskB_bit {x : Int} (hx : 0 ≤ x ∧ x ≤ 255) {c j : Nat} (hc : c ≤ 8) (hj : j < 8) : bit8 (maskB x c) j = if j < c then bit8 x j else 0 := by
  obtain ⟨a, rfl⟩ := byte_fin hx
  exact maskB_bit0 a ⟨c, by omega⟩ ⟨j, hj⟩
theorem maskB_byte0 : ∀ x : Fin 256, ∀ c : Fin 9, 0 ≤ maskB x c ∧ maskB x c ≤ 255 := by decide +kernel
theorem maskB_byte {x : Int} (hx : 0 ≤ x ∧ x ≤ 255) {c : Nat} (hc : c ≤ 8) : 0 ≤ maskB x c ∧ maskB x c ≤ 255 := by
  obtain ⟨a, rfl⟩ := byte_fin hx
  exact maskB_byte0 a ⟨c, by omega⟩
theorem bit8_01_0 : ∀ x : Fin 256, ∀ j : Fin 8, bit8 x j = 0 ∨ bit8 x j = 1 := by decide +kernel
theorem bit8_01 {x : Int} (hx : 0 ≤ x ∧ x ≤ 255) {j : Nat} (hj : j < 8) : bit8 x j = 0 ∨ bit8 x j = 1 := by
  obtain ⟨a, rfl⟩ := byte_fin hx
  exact bit8_01_0 a ⟨j, hj⟩

theorem getD_byte {l : List Int} (h : Bytes l) (i : Nat) : 0 ≤ l.getD i 0 ∧ l.getD i 0 ≤ 255 := getD_mem (p := fun z => 0 ≤ z ∧ z ≤ 255) h ⟨by omega, by omega⟩ i
/-- bit k of a row of bytes -/
def bitA (l : List Int) (k : Nat) : Int := bit8 (l.getD (k / 8) 0) (k % 8)
theorem bitA_ext {a b : List Int} (ha : a.length = 16) (hb : b.length = 16) (Ba : Bytes a) (Bb : Bytes b) (h : ∀ k, k < 128 → bitA a k = bitA b k) : a = b := by
  apply List.ext_getElem (by omega)
  intro i h1 h2
  have e : a.getD i 0 = b.getD i 0 := by
    refine bit8_ext (getD_byte Ba i) (getD_byte Bb i) (fun j hj => ?_)
    have := h (8 * i + j) (by omega)
    unfold bitA at this
    rwa [show (8 * i + j) / 8 = i by omega, show (8 * i + j) % 8 = j by omega] at this
  rwa [getD_get h1, getD_get h2] at e
def clamp (bits i : Nat) : Nat := min 8 (bits - 8 * i)
def maskL (l : List Int) (bits : Nat) : List Int := (List.range 16).map fun i => maskB (l.getD i 0) (clamp bits i)
theorem maskL_len (l : List Int) (bits : Nat) : (maskL l bits).length = 16 := by simp [maskL]
theorem maskL_get (l : List Int) (bits : Nat) {i : Nat} (hi : i < 16) : (maskL l bits).getD i 0 = maskB (l.getD i 0) (clamp bits i) := by
  simp [maskL, List.getD_eq_getElem?_getD, List.getElem?_range hi]
theorem maskL_bytes {l : List Int} (h : Bytes l) (bits : Nat) : Bytes (maskL l bits) := by
  intro z hz
  obtain ⟨i, _, rfl⟩ := List.mem_map.1 hz
  exact maskB_byte (getD_byte h i) (by unfold clamp; omega)
theorem bitA_mask {l : List Int} (h : Bytes l) (bits : Nat) {k : Nat} (hk : k < 128) : bitA (maskL l bits) k = if k < bits then bitA l k else 0 := by
  unfold bitA
  rw [maskL_get l bits (show k / 8 < 16 by omega), maskB_bit (getD_byte h _) (by unfold clamp; omega) (by omega)]
  by_cases hb : k < bits
  · rw [if_pos hb, if_pos (by unfold clamp; omega)]
  · rw [if_neg hb, if_neg (by unfold clamp; omega)]
/-- the bits behind the first ones are zero -/
def zeroFrom (l : List Int) (bits : Nat) : Prop := ∀ k, k < 128 → bits ≤ k → bitA l k = 0
theorem mask_eq_self {l : List Int} (hl : l.length = 16) (h : Bytes l) (bits : Nat) : maskL l bits = l ↔ zeroFrom l bits := by
  constructor
  · intro e k hk hb
    have := bitA_mask h bits hk
    rw [e, if_neg (by omega)] at this
    exact this
  · intro hz
    refine bitA_ext (maskL_len _ _) hl (maskL_bytes h _) h (fun k hk => ?_)
    rw [bitA_mask h bits hk]
    split
    · rfl
    · exact (hz k hk (by omega)).symm
theorem zero_bytes (n : Nat) : Bytes (List.replicate n 0) := by
  intro z hz
  have := (List.mem_replicate.1 hz).2
  omega
theorem set_bytes {l : List Int} (h : Bytes l) (i : Nat) {v : Int} (hv : 0 ≤ v ∧ v ≤ 255) : Bytes (l.set i v) := by
  intro z hz
  rcases List.mem_or_eq_of_mem_set hz with h1 | rfl
  · exact h z h1
  · exact hv
end
section
open Go.RowKit

instance : DecidableEq S_Prefix := fun p q => decidable_of_iff (p.IP = q.IP ∧ p.Bits = q.Bits) (by obtain ⟨i, b⟩ := p; obtain ⟨j, c⟩ := q; simp)
def wfP (p : S_Prefix) : Prop := p.IP.length = 16 ∧ Bytes p.IP
instance (l : List Int) (b : Nat) : Decidable (zeroFrom l b) := by unfold zeroFrom; infer_instance
def vpB (p : S_Prefix) : Bool := decide (0 ≤ p.Bits ∧ p.Bits ≤ 128 ∧ zeroFrom p.IP p.Bits.toNat)
theorem vpB_iff {p : S_Prefix} : vpB p = true ↔ 0 ≤ p.Bits ∧ p.Bits ≤ 128 ∧ zeroFrom p.IP p.Bits.toNat := by simp [vpB]

theorem quo8 (k : Nat) (h : k < 128) : iquo .i64 (k : Int) 8 = ((k / 8 : Nat) : Int) := by
  unfold iquo
  rw [show (k : Int).tdiv 8 = ((k / 8 : Nat) : Int) from rfl, wi (by omega) (by omega)]
theorem sh7 (k : Nat) : IntKind.wrap .u64 (7 - IntKind.wrap .u64 (Int.tmod (k : Int) 8)) = 7 - ((k % 8 : Nat) : Int) := by
  rw [show Int.tmod (k : Int) 8 = ((k % 8 : Nat) : Int) from rfl, wu (x := ((k % 8 : Nat) : Int)) (by omega) (by omega), wu (by omega) (by omega)]
theorem bit_eq (l : List Int) {k : Nat} (h : k < 128) : F_ref04_bit l (k : Int) = some (bitA l k) := by
  unfold F_ref04_bit
  rw [quo8 k h, sh7 k, decT (by omega), decT (by omega)]
  rfl
theorem ref_vp {p : S_Prefix} : F_ref04_ValidPrefix p = some (vpB p) := by
  unfold F_ref04_ValidPrefix
  by_cases h1 : p.Bits < 0
  · rw [decT h1]
    simp [vpB]
    omega
  · rw [decF h1]
    by_cases h2 : p.Bits > 128
    · rw [decT h2]
      simp [vpB]
      omega
    · rw [decF h2]
      simp only [cond_false]
      obtain ⟨b, hb⟩ : ∃ b : Nat, p.Bits = (b : Int) := ⟨p.Bits.toNat, by omega⟩
      have hb128 : b ≤ 128 := by omega
      have e := loop_all (step := F_ref04_ValidPrefix_l1 p) (S := fun k => ((b + k : Nat) : Int)) (128 - b) (fun k => decide (bitA p.IP (b + k) = 0)) (rt := Sum.inl ()) (rf := Sum.inr false) (by
          intro k hk hp
          unfold F_ref04_ValidPrefix_l1
          rw [decT (by omega), bit_eq _ (by omega)]
          simp only [cond_true, Option.bind_some]
          have hp' := of_decide_eq_true hp
          rw [hp', wk _ (by omega)]
          rfl) (by
          intro k hk hp
          unfold F_ref04_ValidPrefix_l1
          rw [decT (by omega), bit_eq _ (by omega)]
          simp only [cond_true, Option.bind_some]
          have hp' := of_decide_eq_false hp
          rw [show (bitA p.IP (b + k) != 0) = true by simpa using hp']
          rfl) (by
          unfold F_ref04_ValidPrefix_l1
          rw [decF (by omega)]
          rfl)
      rw [Nat.add_zero] at e
      rw [hb, e]
      simp only [Option.bind_some]
      unfold vpB
      by_cases hz : zeroFrom p.IP b
      · rw [if_pos (by
          intro k hk
          exact decide_eq_true (hz (b + k) (by omega) (by omega)))]
        simp only [Sum.elim_inl]
        congr 1
        symm
        rw [decide_eq_true_iff, hb]
        exact ⟨by omega, by omega, by simpa using hz⟩
      · rw [if_neg (by
          intro hk
          apply hz
          intro k hk2 hbk
          have := hk (k - b) (by omega)
          rw [show b + (k - b) = k by omega] at this
          exact of_decide_eq_true this)]
        simp only [Sum.elim_inr]
        congr 1
        symm
        rw [decide_eq_false_iff_not, hb]
        rintro ⟨_, _, h3⟩
        exact hz (by simpa using h3)
theorem addr_mask (l : List Int) {b : Int} (h0 : 0 ≤ b) (h1 : b ≤ 128) : F_address_Mask l b = some ⟨maskL l b.toNat, b⟩ := by
  unfold F_address_Mask
  obtain ⟨n, rfl⟩ : ∃ n : Nat, b = (n : Int) := ⟨b.toNat, by omega⟩
  rw [if_neg (show ¬ ((n : Int) < 0) by omega), if_neg (show ¬ ((128 : Int) < (n : Int)) by omega)]
  have e := loop_run (step := F_address_Mask_l1 l) (S := fun k => ((k : Int), S_Prefix.mk ((List.range 16).map fun i => if i < k then maskB (l.getD i 0) (clamp n i) else 0) (n : Int))) 16 (r := ⟨maskL l n, n⟩) (by
    intro k hk
    unfold F_address_Mask_l1
    dsimp only
    have hcl : (if (8 : Int) < if IntKind.wrap .i64 ((n : Int) - IntKind.wrap .i64 (8 * (k : Int))) < 0 then 0 else IntKind.wrap .i64 ((n : Int) - IntKind.wrap .i64 (8 * (k : Int))) then 8 else if IntKind.wrap .i64 ((n : Int) - IntKind.wrap .i64 (8 * (k : Int))) < 0 then 0 else IntKind.wrap .i64 ((n : Int) - IntKind.wrap .i64 (8 * (k : Int)))) = ((clamp n k : Nat) : Int) := by
      rw [wi (x := 8 * (k : Int)) (by omega) (by omega), wi (x := (n : Int) - 8 * (k : Int)) (by omega) (by omega)]
      unfold clamp
      split <;> split at * <;> omega
    rw [hcl, decT (show (k : Int) < 16 by omega), decT (show (0 : Int) ≤ (k : Int) ∧ (k : Int) < 16 by omega), decT (show (0 : Int) ≤ ((clamp n k : Nat) : Int) by omega), wk k (by omega)]
    simp only [cond_true, Int.toNat_natCast]
    congr 3
    congr 1
    apply List.ext_getElem?
    intro i
    unfold setA
    rw [List.getElem?_map, List.getElem?_map]
    rcases Nat.lt_or_ge i 16 with hi | hi
    · rw [List.getElem?_range hi]
      simp only [Option.map_some]
      congr 1
      by_cases hik : i = k
      · subst hik
        rw [if_pos rfl, if_pos (by omega)]
        rfl
      · rw [if_neg hik]
        simp only [List.getD_eq_getElem?_getD, List.getElem?_map, List.getElem?_range hi, Option.map_some, Option.getD_some]
        by_cases h2 : i < k
        · rw [if_pos h2, if_pos (by omega)]
        · rw [if_neg h2, if_neg (by omega)]
    · rw [List.getElem?_eq_none (by simpa using hi)]
      rfl) (by
    unfold F_address_Mask_l1
    rw [decF (by dsimp only; omega)]
    simp only [cond_false]
    congr 3)
  have e0 : ((List.range 16).map fun i => if i < 0 then maskB (l.getD i 0) (clamp n i) else 0) = [0, 0, 0, 0, 0, 0, 0, 0, 0, 0, 0, 0, 0, 0, 0, 0] := by simp [List.range, List.range.loop]
  rw [e0] at e
  rw [show ((0 : Nat) : Int) = 0 from rfl] at e
  rw [e]
  rfl
theorem addr_vp {p : S_Prefix} (h : wfP p) : F_address_ValidPrefix p = some (vpB p) := by
  unfold F_address_ValidPrefix
  by_cases h0 : p.Bits ≥ 0
  · rw [decT h0]
    by_cases h1 : p.Bits ≤ 128
    · rw [decT h1, addr_mask p.IP h0 h1]
      simp only [cond_true, Option.bind_some]
      congr 1
      unfold vpB S_Prefix.eqb
      dsimp only
      rw [arrEq_eq (maskL_len _ _) h.1]
      rw [Bool.eq_iff_iff]
      simp only [Bool.and_eq_true, decide_eq_true_eq, beq_iff_eq, and_true, mask_eq_self h.1 h.2]
      constructor
      · rintro hz; exact ⟨h0, h1, hz⟩
      · rintro ⟨_, _, hz⟩; exact hz
    · rw [decF h1]
      simp [vpB]
      omega
  · rw [decF h0]
    simp [vpB]
    omega
/-- a prefix covers an address -/
def agree (l a : List Int) (b : Nat) : Prop := ∀ k, k < 128 → (k < b → bitA l k = bitA a k)
instance (l a : List Int) (b : Nat) : Decidable (agree l a b) := by unfold agree; infer_instance
theorem eqb_P {p q : S_Prefix} (hp : wfP p) (hq : wfP q) : S_Prefix.eqb p q = decide (p = q) := by
  unfold S_Prefix.eqb
  rw [arrEq_eq hp.1 hq.1, Bool.eq_iff_iff]
  obtain ⟨i, b⟩ := p
  obtain ⟨j, c⟩ := q
  simp
end
section
open Go.RowKit

def ad0 : List Int := [0, 0, 0, 0, 0, 0, 0, 0, 0, 0, 0, 0, 0, 0, 0, 0]
def p0 : S_Prefix := S_Prefix.mk ad0 0
def t0 : S_Destination := S_Destination.mk p0 p0 0
structure WfN (n : S_Notice) : Prop where
  seq : 0 ≤ n.Seq ∧ n.Seq ≤ 65535
  nb : 0 ≤ n.Neighbour ∧ n.Neighbour ≤ 18446744073709551615
  ro : 0 ≤ n.To.Router ∧ n.To.Router ≤ 18446744073709551615
  dst : wfP n.To.Dst
  src : wfP n.To.Src
theorem wfP0 : wfP p0 := ⟨rfl, by intro z hz; simp [p0, ad0] at hz; omega⟩
def toB (t : S_Destination) : Bool := vpB t.Dst && vpB t.Src && (t.Router != 0)
noncomputable def validN (n : S_Notice) : Bool :=
  bif n.Kind == 1 then S_Notice.eqb n (S_Notice.mk n.Kind n.Seq 0 0 t0 0)
  else bif n.Kind == 2 then S_Notice.eqb n (S_Notice.mk n.Kind 0 n.Metric n.Neighbour t0 0) && (n.Neighbour != 0) && decide (0 ≤ n.Metric ∧ n.Metric ≤ 65535)
  else bif n.Kind == 3 then S_Notice.eqb n (S_Notice.mk n.Kind n.Seq n.Metric 0 n.To 0) && toB n.To && decide (0 ≤ n.Metric ∧ n.Metric ≤ 65535)
  else bif n.Kind == 4 then S_Notice.eqb n (S_Notice.mk n.Kind 0 0 0 n.To 0) && (n.To.Router == 0) && vpB n.To.Dst && vpB n.To.Src
  else bif n.Kind == 5 then S_Notice.eqb n (S_Notice.mk n.Kind n.Seq 0 0 n.To n.Hops) && toB n.To && decide (1 ≤ n.Hops ∧ n.Hops ≤ 32)
  else false
theorem metric_p (x : Int) : F_metric_Valid x = some (decide (0 ≤ x ∧ x ≤ 65535)) := by
  unfold F_metric_Valid
  by_cases h : x ≥ 0 <;> by_cases h2 : x ≤ 65535 <;> simp [h, h2] <;> omega
theorem metric_r (x : Int) : F_ref24_Valid x = some (decide (0 ≤ x ∧ x ≤ 65535)) := metric_p x
theorem to_p {t : S_Destination} (h1 : wfP t.Dst) (h2 : wfP t.Src) : F_sources_ValidTo t = some (toB t) := by
  unfold F_sources_ValidTo toB
  rw [addr_vp h1, Option.bind_some, addr_vp h2]
  cases vpB t.Dst <;> cases vpB t.Src <;> rfl
theorem to_r {t : S_Destination} : F_ref26_ValidTo t = some (toB t) := by
  unfold F_ref26_ValidTo toB
  rw [ref_vp, Option.bind_some, ref_vp]
  cases vpB t.Dst <;> cases vpB t.Src <;> rfl
theorem hops_b (h : Int) : (bif decide (h ≥ 1) then some (decide (h ≤ 32)) else some false) = some (decide (1 ≤ h ∧ h ≤ 32)) := by
  by_cases h1 : h ≥ 1 <;> by_cases h2 : h ≤ 32 <;> simp [h1, h2] <;> omega
theorem valid_p {n : S_Notice} (w : WfN n) : F_messages_Valid n = some (validN n) := by
  unfold F_messages_Valid validN
  simp only [metric_p, to_p w.dst w.src, addr_vp w.dst, addr_vp w.src, Option.bind_some, hops_b]
  change (bif n.Kind == 1 then some (S_Notice.eqb n (S_Notice.mk n.Kind n.Seq 0 0 t0 0)) else bif n.Kind == 2 then bif S_Notice.eqb n (S_Notice.mk n.Kind 0 n.Metric n.Neighbour t0 0) then _ else _ else _) = _
  generalize S_Notice.eqb n (S_Notice.mk n.Kind n.Seq 0 0 t0 0) = b1
  generalize S_Notice.eqb n (S_Notice.mk n.Kind 0 n.Metric n.Neighbour t0 0) = b2
  generalize S_Notice.eqb n (S_Notice.mk n.Kind n.Seq n.Metric 0 n.To 0) = b3
  generalize S_Notice.eqb n (S_Notice.mk n.Kind 0 0 0 n.To 0) = b4
  generalize S_Notice.eqb n (S_Notice.mk n.Kind n.Seq 0 0 n.To n.Hops) = b5
  cases n.Kind == 1
  · cases n.Kind == 2
    · cases n.Kind == 3
      · cases n.Kind == 4
        · cases n.Kind == 5
          · rfl
          · cases b5 <;> cases toB n.To <;> simp
        · cases b4 <;> cases n.To.Router == 0 <;> cases vpB n.To.Dst <;> simp
      · cases b3 <;> cases toB n.To <;> simp
    · cases b2 <;> cases n.Neighbour != 0 <;> simp
  · rfl
theorem valid_r {n : S_Notice} : F_ref29_Valid n = some (validN n) := by
  unfold F_ref29_Valid validN
  simp only [metric_r, to_r, ref_vp, Option.bind_some, hops_b]
  change (bif n.Kind == 1 then some (S_Notice.eqb n (S_Notice.mk n.Kind n.Seq 0 0 t0 0)) else bif n.Kind == 2 then bif S_Notice.eqb n (S_Notice.mk n.Kind 0 n.Metric n.Neighbour t0 0) then _ else _ else _) = _
  generalize S_Notice.eqb n (S_Notice.mk n.Kind n.Seq 0 0 t0 0) = b1
  generalize S_Notice.eqb n (S_Notice.mk n.Kind 0 n.Metric n.Neighbour t0 0) = b2
  generalize S_Notice.eqb n (S_Notice.mk n.Kind n.Seq n.Metric 0 n.To 0) = b3
  generalize S_Notice.eqb n (S_Notice.mk n.Kind 0 0 0 n.To 0) = b4
  generalize S_Notice.eqb n (S_Notice.mk n.Kind n.Seq 0 0 n.To n.Hops) = b5
  cases n.Kind == 1
  · cases n.Kind == 2
    · cases n.Kind == 3
      · cases n.Kind == 4
        · cases n.Kind == 5
          · rfl
          · cases b5 <;> cases toB n.To <;> simp
        · cases b4 <;> cases n.To.Router == 0 <;> cases vpB n.To.Dst <;> simp
      · cases b3 <;> cases toB n.To <;> simp
    · cases b2 <;> cases n.Neighbour != 0 <;> simp
  · rfl
theorem eqb_T {a b : S_Destination} (h1 : wfP a.Dst) (h2 : wfP a.Src) (h3 : wfP b.Dst) (h4 : wfP b.Src) : S_Destination.eqb a b = true ↔ a = b := by
  unfold S_Destination.eqb
  rw [eqb_P h1 h3, eqb_P h2 h4]
  obtain ⟨d, s, r⟩ := a
  obtain ⟨d', s', r'⟩ := b
  simp
theorem eqb_N {a b : S_Notice} (ha : WfN a) (hb : WfN b) : S_Notice.eqb a b = true ↔ a = b := by
  unfold S_Notice.eqb
  have := eqb_T ha.dst ha.src hb.dst hb.src
  obtain ⟨k, s, m, n, t, h⟩ := a
  obtain ⟨k', s', m', n', t', h'⟩ := b
  simp only [Bool.and_true, Bool.and_eq_true, beq_iff_eq, this, S_Notice.mk.injEq]
/-- what a valid notice looks like -/
inductive GoodN : S_Notice → Prop where
  | hello (s : Int) (h : 0 ≤ s ∧ s ≤ 65535) : GoodN (S_Notice.mk 1 s 0 0 t0 0)
  | heard (m b : Int) (h : 0 ≤ m ∧ m ≤ 65535) (hb : 0 ≤ b ∧ b ≤ 18446744073709551615) (h0 : b ≠ 0) : GoodN (S_Notice.mk 2 0 m b t0 0)
  | update (s m : Int) (d c : S_Prefix) (r : Int) (hs : 0 ≤ s ∧ s ≤ 65535) (h : 0 ≤ m ∧ m ≤ 65535) (wd : wfP d) (wc : wfP c) (vd : vpB d = true) (vc : vpB c = true) (hr : 0 ≤ r ∧ r ≤ 18446744073709551615) (h0 : r ≠ 0) : GoodN (S_Notice.mk 3 s m 0 (S_Destination.mk d c r) 0)
  | route (d c : S_Prefix) (wd : wfP d) (wc : wfP c) (vd : vpB d = true) (vc : vpB c = true) : GoodN (S_Notice.mk 4 0 0 0 (S_Destination.mk d c 0) 0)
  | seqr (s h : Int) (d c : S_Prefix) (r : Int) (hs : 0 ≤ s ∧ s ≤ 65535) (hh : 1 ≤ h ∧ h ≤ 32) (wd : wfP d) (wc : wfP c) (vd : vpB d = true) (vc : vpB c = true) (hr : 0 ≤ r ∧ r ≤ 18446744073709551615) (h0 : r ≠ 0) : GoodN (S_Notice.mk 5 s 0 0 (S_Destination.mk d c r) h)
theorem eqb_rfl (n : S_Notice) (w : WfN n) : S_Notice.eqb n n = true := (eqb_N w w).2 rfl
theorem good_wf {n : S_Notice} (h : GoodN n) : WfN n := by
  cases h with
  | hello s h => exact ⟨h, ⟨by simp, by simp⟩, ⟨by simp [t0], by simp [t0]⟩, wfP0, wfP0⟩
  | heard m b h hb h0 => exact ⟨⟨by simp, by simp⟩, hb, ⟨by simp [t0], by simp [t0]⟩, wfP0, wfP0⟩
  | update s m d c r hs h wd wc vd vc hr h0 => exact ⟨hs, ⟨by simp, by simp⟩, hr, wd, wc⟩
  | route d c wd wc vd vc => exact ⟨⟨by simp, by simp⟩, ⟨by simp, by simp⟩, ⟨by simp, by simp⟩, wd, wc⟩
  | seqr s h d c r hs hh wd wc vd vc hr h0 => exact ⟨hs, ⟨by simp, by simp⟩, hr, wd, wc⟩
theorem good_valid {n : S_Notice} (h : GoodN n) : validN n = true := by
  have w := good_wf h
  unfold validN
  cases h with
  | hello s h => exact eqb_rfl _ w
  | heard m b h hb h0 =>
    have e := eqb_rfl _ w
    simp only [show ((2 : Int) == 1) = false from rfl, show ((2 : Int) == 2) = true from rfl, cond_false, cond_true, e, decT h, Bool.and_true]
    simp [h0]
  | update s m d c r hs h wd wc vd vc hr h0 =>
    have e := eqb_rfl _ w
    simp only [show ((3 : Int) == 1) = false from rfl, show ((3 : Int) == 2) = false from rfl, show ((3 : Int) == 3) = true from rfl, cond_false, cond_true, e, decT h, Bool.and_true, toB, vd, vc]
    simp [h0]
  | route d c wd wc vd vc =>
    have e := eqb_rfl _ w
    simp only [show ((4 : Int) == 1) = false from rfl, show ((4 : Int) == 2) = false from rfl, show ((4 : Int) == 3) = false from rfl, show ((4 : Int) == 4) = true from rfl, cond_false, cond_true, e, Bool.and_true, vd, vc]
    rfl
  | seqr s h d c r hs hh wd wc vd vc hr h0 =>
    have e := eqb_rfl _ w
    simp only [show ((5 : Int) == 1) = false from rfl, show ((5 : Int) == 2) = false from rfl, show ((5 : Int) == 3) = false from rfl, show ((5 : Int) == 4) = false from rfl, show ((5 : Int) == 5) = true from rfl, cond_false, cond_true, e, decT hh, Bool.and_true, toB, vd, vc]
    simp [h0]
theorem valid_good {n : S_Notice} (w : WfN n) (hv : validN n = true) : GoodN n := by
  unfold validN at hv
  have w0 : (0 : Int) ≤ 0 ∧ (0 : Int) ≤ 65535 := ⟨by decide, by decide⟩
  have w1 : (0 : Int) ≤ 0 ∧ (0 : Int) ≤ 18446744073709551615 := ⟨by decide, by decide⟩
  by_cases k1 : n.Kind = 1
  · rw [k1] at hv
    have e := (eqb_N w (b := S_Notice.mk 1 n.Seq 0 0 t0 0) ⟨w.seq, w1, w1, wfP0, wfP0⟩).1 hv
    rw [e]
    exact .hello _ w.seq
  by_cases k2 : n.Kind = 2
  · rw [k2] at hv
    simp only [show ((2 : Int) == 1) = false from rfl, show ((2 : Int) == 2) = true from rfl, cond_false, cond_true, Bool.and_eq_true, decide_eq_true_eq, bne_iff_ne, ne_eq] at hv
    have e := (eqb_N w (b := S_Notice.mk 2 0 n.Metric n.Neighbour t0 0) ⟨w0, w.nb, w1, wfP0, wfP0⟩).1 hv.1.1
    rw [e]
    exact .heard _ _ hv.2 w.nb hv.1.2
  by_cases k3 : n.Kind = 3
  · rw [k3] at hv
    simp only [show ((3 : Int) == 1) = false from rfl, show ((3 : Int) == 2) = false from rfl, show ((3 : Int) == 3) = true from rfl, cond_false, cond_true, Bool.and_eq_true, decide_eq_true_eq, toB, bne_iff_ne, ne_eq] at hv
    have e := (eqb_N w (b := S_Notice.mk 3 n.Seq n.Metric 0 n.To 0) ⟨w.seq, w1, w.ro, w.dst, w.src⟩).1 hv.1.1
    rw [e]
    exact .update _ _ _ _ _ w.seq hv.2 w.dst w.src hv.1.2.1.1 hv.1.2.1.2 w.ro hv.1.2.2
  by_cases k4 : n.Kind = 4
  · rw [k4] at hv
    simp only [show ((4 : Int) == 1) = false from rfl, show ((4 : Int) == 2) = false from rfl, show ((4 : Int) == 3) = false from rfl, show ((4 : Int) == 4) = true from rfl, cond_false, cond_true, Bool.and_eq_true, beq_iff_eq] at hv
    have e := (eqb_N w (b := S_Notice.mk 4 0 0 0 n.To 0) ⟨w0, w1, w.ro, w.dst, w.src⟩).1 hv.1.1.1
    have e2 : n.To = S_Destination.mk n.To.Dst n.To.Src 0 := by rw [← hv.1.1.2]
    rw [e, e2]
    exact .route _ _ w.dst w.src hv.1.2 hv.2
  by_cases k5 : n.Kind = 5
  · rw [k5] at hv
    simp only [show ((5 : Int) == 1) = false from rfl, show ((5 : Int) == 2) = false from rfl, show ((5 : Int) == 3) = false from rfl, show ((5 : Int) == 4) = false from rfl, show ((5 : Int) == 5) = true from rfl, cond_false, cond_true, Bool.and_eq_true, decide_eq_true_eq, toB, bne_iff_ne, ne_eq] at hv
    have e := (eqb_N w (b := S_Notice.mk 5 n.Seq 0 0 n.To n.Hops) ⟨w.seq, w1, w.ro, w.dst, w.src⟩).1 hv.1.1
    rw [e]
    exact .seqr _ _ _ _ _ w.seq hv.2 w.dst w.src hv.1.2.1.1 hv.1.2.1.2 w.ro hv.1.2.2
  · rw [beqF k1, beqF k2, beqF k3, beqF k4, beqF k5] at hv
    cases hv
def sz (b : Int) : Nat := ((b + 7) / 8).toNat
def pfx (p : S_Prefix) : List Int := p.IP.take (sz p.Bits)
def comm : List Int → List Int → Nat
  | x :: a, y :: b => if x = y then comm a b + 1 else 0
  | _, _ => 0
def el (k : Int) (b : List Int) : List Int := [k, (b.length : Int)] ++ b
def encN (r : Int) (d : List Int) (n : S_Notice) : List Int :=
  if n.Kind = 1 then el 1 (beB n.Seq 2)
  else if n.Kind = 2 then el 2 (beB n.Neighbour 8 ++ beB n.Metric 2)
  else if n.Kind = 3 then (if n.To.Router ≠ r then el 6 (beB n.To.Router 8) else []) ++ el 3 ([(comm (pfx n.To.Dst) d : Int), n.To.Dst.Bits, n.To.Src.Bits] ++ beB n.Seq 2 ++ beB n.Metric 2 ++ (pfx n.To.Dst).drop (comm (pfx n.To.Dst) d) ++ pfx n.To.Src)
  else if n.Kind = 5 then el 5 ([n.To.Dst.Bits, n.To.Src.Bits] ++ beB n.Seq 2 ++ [n.Hops] ++ beB n.To.Router 8 ++ pfx n.To.Dst ++ pfx n.To.Src)
  else el 4 ([n.To.Dst.Bits, n.To.Src.Bits] ++ pfx n.To.Dst ++ pfx n.To.Src)
def nxR (r : Int) (n : S_Notice) : Int := if n.Kind = 3 then n.To.Router else r
def nxD (d : List Int) (n : S_Notice) : List Int := if n.Kind = 3 then n.To.Dst.IP else d
def encL (r : Int) (d : List Int) : List S_Notice → List Int
  | [] => []
  | n :: l => encN r d n ++ encL (nxR r n) (nxD d n) l
theorem sz_le {b : Int} (h0 : 0 ≤ b) (h1 : b ≤ 128) : sz b ≤ 16 := by unfold sz; omega
theorem sz_eq {b : Int} (h0 : 0 ≤ b) (h1 : b ≤ 255) : iquo .i64 (IntKind.wrap .i64 (b + 7)) 8 = (sz b : Int) := by
  rw [wi (by omega) (by omega)]
  unfold iquo sz
  rw [Int.tdiv_eq_ediv_of_nonneg (by omega), wi (by omega) (by omega)]
  omega
theorem size_p {b : Int} (h0 : 0 ≤ b) (h1 : b ≤ 255) : F_messages_size b = some (sz b : Int) := by unfold F_messages_size; rw [sz_eq h0 h1]
theorem size_r {b : Int} (h0 : 0 ≤ b) (h1 : b ≤ 255) : F_ref29_size b = some (sz b : Int) := by unfold F_ref29_size; rw [sz_eq h0 h1]
theorem pfx_len {p : S_Prefix} (w : wfP p) (v : vpB p = true) : (pfx p).length = sz p.Bits := by
  have := vpB_iff.1 v
  unfold pfx
  rw [List.length_take, w.1, Nat.min_eq_left (sz_le this.1 this.2.1)]
theorem pfx_le {p : S_Prefix} (w : wfP p) : (pfx p).length ≤ 16 := by
  unfold pfx
  rw [List.length_take, w.1]
  omega
theorem pfx_ok {p : S_Prefix} (w : wfP p) : okB (pfx p) := fun z hz => w.2 z (List.mem_of_mem_take hz)
theorem pb_p {p : S_Prefix} (w : wfP p) (v : vpB p = true) : F_messages_prefixBytes p = some (pfx p) := by
  have hv := vpB_iff.1 v
  have := sz_le hv.1 hv.2.1
  unfold F_messages_prefixBytes
  rw [size_p hv.1 (by omega), Option.bind_some, arrL_id w.1, subO_some (by omega) (by omega) (by rw [w.1]; omega)]
  simp [pfx]
theorem comm_le : ∀ (a d : List Int), comm a d ≤ a.length
  | [], _ => by simp [comm]
  | _ :: _, [] => by simp [comm]
  | x :: a, y :: d => by
    unfold comm
    have := comm_le a d
    split <;> simp <;> omega
theorem comm_take : ∀ (a d : List Int), a.take (comm a d) = d.take (comm a d)
  | [], _ => by simp [comm]
  | _ :: _, [] => by simp [comm]
  | x :: a, y :: d => by
    unfold comm
    have := comm_take a d
    split
    · rename_i h; subst h; simp [this]
    · simp
theorem comm_iff : ∀ (a d : List Int) (k : Nat), k ≤ a.length → a.length ≤ d.length → (∀ j, j < k → a.getD j 0 = d.getD j 0) → (k < a.length → a.getD k 0 ≠ d.getD k 0) → comm a d = k
  | [], _, k, h, _, _, _ => by simp [comm] at *; omega
  | x :: a, [], k, _, h, _, _ => by simp at h
  | x :: a, y :: d, k, hk, hl, h1, h2 => by
    unfold comm
    cases k with
    | zero =>
      have := h2 (by simp)
      simp at this
      rw [if_neg this]
    | succ k =>
      have := h1 0 (by omega)
      simp at this
      rw [if_pos this, comm_iff a d k (by simp at hk; omega) (by simpa using hl) (fun j hj => by simpa using h1 (j + 1) (by omega)) (fun h => by simpa using h2 (by simp; omega))]
end
end Go.Proofs.Ytcemblilhbidgaa
