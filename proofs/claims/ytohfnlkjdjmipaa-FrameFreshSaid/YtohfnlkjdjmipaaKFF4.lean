/-
  Part 4 of what the proof of this law rests on.
-/
import Derived.Test.YtohfnlkjdjmipaaKFF3
namespace Go.Proofs.Ytohfnlkjdjmipaa
section
open Go.RowKit
attribute [local irreducible] TS go TD goD

/-- multihop/octets.Append -/
noncomputable def F_octets_Append_l2 (v1 : Int) (a0 : List Int) (a1 : Int) (s3 : Int × (List Int)) : Option ((Int × (List Int)) ⊕ ((List Int))) :=
  bif (decide (s3.1 < v1)) then
    bif decide (0 ≤ (IntKind.wrap .i64 (8 * (IntKind.wrap .i64 ((IntKind.wrap .i64 (v1 - 1)) - s3.1))))) then
      (idx (Cut.app .whole s3.2) (IntKind.wrap .i64 ((List.length a0 : Int) + s3.1))).bind fun _e8 =>
      (s3.2[(0 + Int.toNat (IntKind.wrap .i64 ((List.length a0 : Int) + s3.1)))]?).bind fun _e9 =>
      some (Sum.inl (IntKind.wrap .i64 (s3.1 + 1), (List.set s3.2 (0 + Int.toNat (IntKind.wrap .i64 ((List.length a0 : Int) + s3.1))) (IntKind.wrap .u8 (ishr .u64 a1 (IntKind.wrap .i64 (8 * (IntKind.wrap .i64 ((IntKind.wrap .i64 (v1 - 1)) - s3.1)))))))))
    else none
  else
    some (Sum.inr s3.2)
noncomputable def F_octets_Append_j1 (a0 : List Int) (a1 : Int) (v1 : Int) : Option ((List Int)) :=
  (mkO 1 (IntKind.wrap .i64 ((List.length a0 : Int) + v1)) (IntKind.wrap .i64 ((List.length a0 : Int) + v1))).bind fun n2 =>
  (loopO (F_octets_Append_l2 v1 a0 a1) (0, (cpL (List.replicate n2 (0 : Int)) 0 (List.length (Cut.app .whole (List.replicate n2 (0 : Int)))) (Cut.app .whole a0)))).bind fun b4 =>
  some (b4)
noncomputable def F_octets_Append (a0 : List Int) (a1 : Int) (a2 : Int) : Option ((List Int)) :=
  bif (decide (a2 < 0)) then
    (F_octets_Append_j1 a0 a1) 0
  else
    bif (decide (a2 > 8)) then
      (F_octets_Append_j1 a0 a1) 0
    else
      (F_octets_Append_j1 a0 a1) a2
set_option maxRecDepth 100000 in
set_option maxHeartbeats 40000000 in
theorem okT_octets_Append (a0 : List Int) (a1 : Int) (a2 : Int) (r : (List Int)) (h : F_octets_Append a0 a1 a2 = some r) : Con Try.prog 44 [.c (eS 1 (ecI .u8) (a0)), .c (.lit (.int .u64 (a1))), .c (.lit (.int .i64 (a2)))] [] (.c (.slc 1 900002 (List.length r) (List.map (ecI .u8) r))) [(900000, .spare 5 1 (List.length r))] := by
  unfold F_octets_Append at h
  refine con_of [] [(900000, [])] 43 Try.func44 rfl rfl (by kernel_rfl) (fun K => ?_)
  refine TS_go 4 ?_
  refine TS_cut ⟨[(0, []), (1, []), (2, [])], []⟩ (.mk [.code (codeAt [1] (bodyOf Try.f44))] .normal ⟨[(0, .c (.slc 1 0 (List.length a0) (List.map (ecI .u8) a0))), (1, .c (.lit (.int .u64 (a1)))), (2, .c (.lit (.int .i64 (a2))))], []⟩) (by kernel_rfl) (by kernel_rfl) ?_
  refine TS_joinB ⟨[(0, []), (1, []), (2, [])], []⟩ (fun (v1 : Int) => [(2, .c (.lit (.int .i64 (v1))))]) (fun (v1 : Int) => []) (F_octets_Append_j1 a0 a1) r ?_ ?_
  · clear h
    intro v1 h
    unfold F_octets_Append_j1 at h
    refine TS_go 6 ?_
    replace h := bindO h
    obtain ⟨n2, hn2, h⟩ := h
    refine TS_makeR 19 5 1 (ecI .u8) (0 : Int) [] (cs := [.lit (.int .u8 (0))]) (l := IntKind.wrap .i64 ((List.length a0 : Int) + v1)) (c := IntKind.wrap .i64 ((List.length a0 : Int) + v1)) hn2 (by kernel_rfl) (by kernel_rfl) (by kernel_rfl) ?_
    refine TS_go 6 ?_
    refine TS_cpR 19 5 1 (List.length (List.replicate n2 (0 : Int))) 0 (ecI .u8) (fun _ => by kernel_rfl) (l := (List.replicate n2 (0 : Int))) (l2 := a0) .whole .whole (by kernel_rfl) (by kernel_rfl) ?_
    refine TS_go 8 ?_
    refine TS_cut ⟨[(0, []), (1, []), (2, []), (7, []), (23, []), (24, [])], [(19, (19, []))]⟩ (.mk [.code (codeAt [1, 1, 1, 1, 0, 1, 0] (bodyOf Try.f44)), .blk 0, .code (codeAt [1, 1, 1, 1, 1] (bodyOf Try.f44))] .normal ⟨[(0, .c (.slc 1 0 (List.length a0) (List.map (ecI .u8) a0))), (1, .c (.lit (.int .u64 (a1)))), (2, .c (.lit (.int .i64 (v1)))), (7, .c (.own 19)), (23, .c (.lit (.int .i64 (v1)))), (24, .c (.lit (.int .i64 (0))))], [(19, .row 5 1 (List.length (cpL (List.replicate n2 (0 : Int)) 0 (List.length (Cut.app .whole (List.replicate n2 (0 : Int)))) (Cut.app .whole a0))) (List.map (ecI .u8) (cpL (List.replicate n2 (0 : Int)) 0 (List.length (Cut.app .whole (List.replicate n2 (0 : Int)))) (Cut.app .whole a0))))]⟩) (by kernel_rfl) (by kernel_rfl) ?_
    replace h := bindO h
    obtain ⟨y5, hl2, hK2⟩ := h
    refine TS_loopB (F_octets_Append_l2 v1 a0 a1) ⟨[(0, []), (1, []), (2, []), (7, []), (23, []), (24, [])], [(19, (19, []))]⟩ (fun (s3 : Int × (List Int)) => [(24, .c (.lit (.int .i64 (s3.1))))]) (fun (s3 : Int × (List Int)) => [(19, .row 5 1 (List.length s3.2) (List.map (ecI .u8) s3.2))]) (0, (cpL (List.replicate n2 (0 : Int)) 0 (List.length (Cut.app .whole (List.replicate n2 (0 : Int)))) (Cut.app .whole a0))) y5 (.exit 0) (fun (b : (List Int)) => b) ⟨[(7, [])], [(19, (19, []))]⟩ (fun (b4 : (List Int)) => []) (fun (b4 : (List Int)) => [(19, .row 5 1 (List.length b4) (List.map (ecI .u8) b4))]) hl2 (by kernel_rfl) (by kernel_rfl) ?_ ?_
    · intro s3 x h hy2
      unfold F_octets_Append_l2 at h
      refine TS_go 5 ?_
      replace h := condO h
      rcases h with ⟨hb6, h⟩ | ⟨hb6, h⟩
      · refine TS_know 25 (b := true) hb6 (by kernel_rfl) (by kernel_rfl) ?_
        refine TS_T (by kernel_rfl) rfl ?_
        refine TS_go 20 ?_
        replace h := chkO h
        obtain ⟨hc7, h⟩ := h
        refine TS_num (op := .shr) (k := .u64) (k' := .i64) (m := a1) (i := IntKind.wrap .i64 (8 * (IntKind.wrap .i64 ((IntKind.wrap .i64 (v1 - 1)) - s3.1)))) (of_decide_eq_true hc7) rfl (by simp) (by kernel_rfl) (by kernel_rfl) ?_
        refine TS_go 1 ?_
        replace h := bindO h
        obtain ⟨_e8, he8, h⟩ := h
        refine TS_idxR 19 1 0 (ecI .u8) .whole he8 (by kernel_rfl) (by kernel_rfl) ?_
        replace h := bindO h
        obtain ⟨_e9, he9, h⟩ := h
        refine TS_stE 19 5 1 (List.length s3.2) (0 + Int.toNat (IntKind.wrap .i64 ((List.length a0 : Int) + s3.1))) 0 (ecI .u8) (ds := [.lit (.int .u8 (IntKind.wrap .u8 (ishr .u64 a1 (IntKind.wrap .i64 (8 * (IntKind.wrap .i64 ((IntKind.wrap .i64 (v1 - 1)) - s3.1)))))))]) (IntKind.wrap .u8 (ishr .u64 a1 (IntKind.wrap .i64 (8 * (IntKind.wrap .i64 ((IntKind.wrap .i64 (v1 - 1)) - s3.1)))))) he9 (by kernel_rfl) (by kernel_rfl) (by kernel_rfl) (by kernel_rfl) ?_
        refine TS_go 6 ?_
        have ret := Option.some.inj h
        subst ret
        exact TS_againB _ ⟨[(0, []), (1, []), (2, []), (7, []), (23, []), (24, [])], [(19, (19, []))]⟩ rfl (by kernel_rfl) (by kernel_rfl)
      · refine TS_know 25 (b := false) hb6 (by kernel_rfl) (by kernel_rfl) ?_
        refine TS_F (by kernel_rfl) rfl ?_
        refine TS_go 2 ?_
        have ret := Option.some.inj h
        subst ret
        exact TS_brkB s3.2 ⟨[(7, [])], [(19, (19, []))]⟩ rfl (by kernel_rfl) (by kernel_rfl) (by kernel_rfl)
    · intro b4 hb
      subst y5
      have h := hK2
      refine TS_go 6 ?_
      refine TS_settle 19 (by kernel_rfl) ?_
      refine TS_fitU ⟨[(6, [])], [(19, (900000, []))]⟩ (by kernel_rfl) ?_
      refine TS_go 1 ?_
      have ret := Option.some.inj h
      subst ret
      exact TS_ret (by kernel_rfl) (by kernel_rfl) (by kernel_rfl)
  · refine TS_go 5 ?_
    replace h := condO h
    rcases h with ⟨hb11, h⟩ | ⟨hb11, h⟩
    · refine TS_know 10 (b := true) hb11 (by kernel_rfl) (by kernel_rfl) ?_
      refine TS_know 11 (b := true) hb11 (by kernel_rfl) (by kernel_rfl) ?_
      refine TS_go 4 ?_
      refine TS_T (by kernel_rfl) rfl ?_
      refine TS_go 3 ?_
      exact TS_meet 0 ⟨[(0, []), (1, []), (2, [])], []⟩ h (by kernel_rfl) (by kernel_rfl)
    · refine TS_know 10 (b := false) hb11 (by kernel_rfl) (by kernel_rfl) ?_
      refine TS_know 11 (b := false) hb11 (by kernel_rfl) (by kernel_rfl) ?_
      refine TS_go 4 ?_
      replace h := condO h
      rcases h with ⟨hb12, h⟩ | ⟨hb12, h⟩
      · refine TS_know 13 (b := true) hb12 (by kernel_rfl) (by kernel_rfl) ?_
        refine TS_know 14 (b := true) hb12 (by kernel_rfl) (by kernel_rfl) ?_
        refine TS_T (by kernel_rfl) rfl ?_
        refine TS_go 3 ?_
        exact TS_meet 0 ⟨[(0, []), (1, []), (2, [])], []⟩ h (by kernel_rfl) (by kernel_rfl)
      · refine TS_know 13 (b := false) hb12 (by kernel_rfl) (by kernel_rfl) ?_
        refine TS_know 14 (b := false) hb12 (by kernel_rfl) (by kernel_rfl) ?_
        refine TS_F (by kernel_rfl) rfl ?_
        refine TS_go 1 ?_
        exact TS_meet a2 ⟨[(0, []), (1, []), (2, [])], []⟩ h (by kernel_rfl) (by kernel_rfl)
/-- multihop/frame.appendAddr -/
noncomputable def F_frame_appendAddr (a0 : List Int) (a1 : S_Addr) : Option ((List Int)) :=
  bif (a1.Mode == 2) then
    (F_octets_Append a0 (IntKind.wrap .u64 a1.Short) 2).bind fun v2 =>
    some (v2)
  else
    (F_octets_Append a0 a1.EUI 8).bind fun v3 =>
    some (v3)
set_option maxRecDepth 100000 in
set_option maxHeartbeats 40000000 in
theorem okT_frame_appendAddr (a0 : List Int) (a1 : S_Addr) (r : (List Int)) (h : F_frame_appendAddr a0 a1 = some r) : Con Try.prog 45 [.c (eS 1 (ecI .u8) (a0)), .agg (S_Addr.cs a1)] [] (.c (.slc 1 900002 (List.length r) (List.map (ecI .u8) r))) [(900000, .spare 5 1 (List.length r))] := by
  unfold F_frame_appendAddr at h
  refine con_of [] [(900000, [])] 17 Try.func45 rfl rfl (by kernel_rfl) (fun K => ?_)
  refine TS_go 12 ?_
  replace h := condO h
  rcases h with ⟨hb1, h⟩ | ⟨hb1, h⟩
  · refine TS_know 7 (b := true) hb1 (by kernel_rfl) (by kernel_rfl) ?_
    refine TS_T (by kernel_rfl) rfl ?_
    refine TS_go 6 ?_
    replace h := bindO h
    obtain ⟨v2, hv2, h⟩ := h
    refine TS_con [] [(12, 900000)] none (okT_octets_Append a0 (IntKind.wrap .u64 a1.Short) 2 v2 hv2) (by kernel_rfl) (by kernel_rfl) (by kernel_rfl) ?_
    refine TS_go 2 ?_
    refine TS_fitU ⟨[(4, [])], [(12, (900000, []))]⟩ (by kernel_rfl) ?_
    refine TS_go 2 ?_
    have ret := Option.some.inj h
    subst ret
    exact TS_ret (by kernel_rfl) (by kernel_rfl) (by kernel_rfl)
  · refine TS_know 7 (b := false) hb1 (by kernel_rfl) (by kernel_rfl) ?_
    refine TS_F (by kernel_rfl) rfl ?_
    refine TS_go 6 ?_
    replace h := bindO h
    obtain ⟨v3, hv3, h⟩ := h
    refine TS_con [] [(16, 900000)] none (okT_octets_Append a0 a1.EUI 8 v3 hv3) (by kernel_rfl) (by kernel_rfl) (by kernel_rfl) ?_
    refine TS_go 2 ?_
    refine TS_fitU ⟨[(4, [])], [(16, (900000, []))]⟩ (by kernel_rfl) ?_
    refine TS_go 1 ?_
    have ret := Option.some.inj h
    subst ret
    exact TS_ret (by kernel_rfl) (by kernel_rfl) (by kernel_rfl)
/-- multihop/frame.Header -/
noncomputable def F_frame_Header_j3 (v1 : S_Frame) (v6 : (List Int)) : Option ((List Int)) :=
  (appO 1 v6 (Cut.app .whole v1.Payload)).bind fun l7 =>
  some (l7)
noncomputable def F_frame_Header_j2 (v1 : S_Frame) (v5 : (List Int)) : Option ((List Int)) :=
  bif v1.Secure then
    (F_octets_Append v5 (IntKind.wrap .u64 v1.Counter) 4).bind fun v9 =>
    (appO 1 v9 (Cut.app .whole ([v1.Key] : List Int))).bind fun l10 =>
    (F_frame_Header_j3 v1) l10
  else
    (F_frame_Header_j3 v1) v5
noncomputable def F_frame_Header_j1  (v1 : S_Frame) : Option ((List Int)) :=
  (F_frame_flag v1.AckRequest 32).bind fun v2 =>
  (F_frame_flag v1.Pending 16).bind fun v3 =>
  (F_frame_flag v1.Secure 8).bind fun v4 =>
  bif (v1.Kind != 2) then
    (F_octets_Append ([ior .u8 (ior .u8 (ior .u8 (ishl .u8 (IntKind.wrap .u8 v1.Kind) 6) v2) v3) v4, ior .u8 (ishl .u8 (IntKind.wrap .u8 v1.Dst.Mode) 6) (ishl .u8 (IntKind.wrap .u8 v1.Src.Mode) 4), v1.Seq] : List Int) (IntKind.wrap .u64 v1.Pan) 2).bind fun v12 =>
    (F_frame_appendAddr v12 v1.Dst).bind fun v13 =>
    (F_frame_appendAddr v13 v1.Src).bind fun v14 =>
    (F_frame_Header_j2 v1) v14
  else
    (F_frame_Header_j2 v1) ([ior .u8 (ior .u8 (ior .u8 (ishl .u8 (IntKind.wrap .u8 v1.Kind) 6) v2) v3) v4, ior .u8 (ishl .u8 (IntKind.wrap .u8 v1.Dst.Mode) 6) (ishl .u8 (IntKind.wrap .u8 v1.Src.Mode) 4), v1.Seq] : List Int)
noncomputable def F_frame_Header (a0 : S_Frame) : Option ((List Int)) :=
  (F_frame_Valid a0).bind fun v15 =>
  bif v15 then
    (F_frame_Header_j1) a0
  else
    (mkO 1 4 4).bind fun n17 =>
    (F_frame_Valid (S_Frame.mk a0.Kind a0.AckRequest a0.Pending a0.Secure a0.Seq a0.Pan a0.Dst a0.Src a0.Counter a0.Key a0.Payload (List.replicate n17 (0 : Int)))).bind fun v18 =>
    bif v18 then
      (F_frame_Header_j1) (S_Frame.mk a0.Kind a0.AckRequest a0.Pending a0.Secure a0.Seq a0.Pan a0.Dst a0.Src a0.Counter a0.Key a0.Payload (List.replicate n17 (0 : Int)))
    else
      some (([] : List Int))
set_option maxRecDepth 100000 in
set_option maxHeartbeats 40000000 in
theorem okT_frame_Header (a0 : S_Frame) (r : (List Int)) (h : F_frame_Header a0 = some r) : Con Try.prog 21 [.agg (S_Frame.cs a0)] [] (.c (.slc 1 900002 (List.length r) (List.map (ecI .u8) r))) [(900000, .spare 5 1 (List.length r))] := by
  unfold F_frame_Header at h
  refine con_of [] [(900000, [])] 76 Try.func21 rfl rfl (by kernel_rfl) (fun K => ?_)
  refine TS_go 5 ?_
  refine TS_cut ⟨[(1, [])], [(1, (1, []))]⟩ (.mk [.code (codeAt [1] (bodyOf Try.f21))] .normal ⟨[(1, .c (.box 1 0))], [(1, .box [.lit (.int .i64 (a0.Kind)), .lit (.bool (a0.AckRequest)), .lit (.bool (a0.Pending)), .lit (.bool (a0.Secure)), .lit (.int .u8 (a0.Seq)), .lit (.int .u16 (a0.Pan)), .lit (.int .i64 (a0.Dst.Mode)), .lit (.int .u16 (a0.Dst.Short)), .lit (.int .u64 (a0.Dst.EUI)), .lit (.int .i64 (a0.Src.Mode)), .lit (.int .u16 (a0.Src.Short)), .lit (.int .u64 (a0.Src.EUI)), .lit (.int .u32 (a0.Counter)), .lit (.int .u8 (a0.Key)), .slc 1 0 (List.length a0.Payload) (List.map (ecI .u8) a0.Payload), .slc 1 0 (List.length a0.MIC) (List.map (ecI .u8) a0.MIC)])]⟩) (by kernel_rfl) (by kernel_rfl) ?_
  refine TS_joinB ⟨[(1, [])], [(1, (1, []))]⟩ (fun (v1 : S_Frame) => []) (fun (v1 : S_Frame) => [(1, .box (S_Frame.cs v1))]) (F_frame_Header_j1) r ?_ ?_
  · clear h
    intro v1 h
    unfold F_frame_Header_j1 at h
    refine TS_go 1 ?_
    refine TS_draw (by kernel_rfl) ?_
    refine TD_go 6 ?_
    replace h := bindO h
    obtain ⟨v2, hv2, h⟩ := h
    refine TD_call [] (ok_frame_flag v1.AckRequest 32 v2 hv2) (by kernel_rfl) (by kernel_rfl) ?_
    refine TD_go 3 ?_
    replace h := bindO h
    obtain ⟨v3, hv3, h⟩ := h
    refine TD_call [] (ok_frame_flag v1.Pending 16 v3 hv3) (by kernel_rfl) (by kernel_rfl) ?_
    refine TD_go 3 ?_
    replace h := bindO h
    obtain ⟨v4, hv4, h⟩ := h
    refine TD_call [] (ok_frame_flag v1.Secure 8 v4 hv4) (by kernel_rfl) (by kernel_rfl) ?_
    refine TD_go 2 ?_
    refine TD_end (by kernel_rfl) ?_
    refine TS_go 16 ?_
    refine TS_litNT 43 5 1 (ecI .u8) [] ([ior .u8 (ior .u8 (ior .u8 (ishl .u8 (IntKind.wrap .u8 v1.Kind) 6) v2) v3) v4, ior .u8 (ishl .u8 (IntKind.wrap .u8 v1.Dst.Mode) 6) (ishl .u8 (IntKind.wrap .u8 v1.Src.Mode) 4), v1.Seq] : List Int) (by kernel_rfl) (by kernel_rfl) ?_
    refine TS_go 2 ?_
    refine TS_cut ⟨[(1, []), (4, [])], [(1, (1, [])), (43, (43, []))]⟩ (.mk [.code (codeAt [1, 1, 1, 1] (bodyOf Try.f21))] .normal ⟨[(1, .c (.box 1 0)), (4, .c (.slc 1 45 (List.length ([ior .u8 (ior .u8 (ior .u8 (ishl .u8 (IntKind.wrap .u8 v1.Kind) 6) v2) v3) v4, ior .u8 (ishl .u8 (IntKind.wrap .u8 v1.Dst.Mode) 6) (ishl .u8 (IntKind.wrap .u8 v1.Src.Mode) 4), v1.Seq] : List Int)) (List.map (ecI .u8) ([ior .u8 (ior .u8 (ior .u8 (ishl .u8 (IntKind.wrap .u8 v1.Kind) 6) v2) v3) v4, ior .u8 (ishl .u8 (IntKind.wrap .u8 v1.Dst.Mode) 6) (ishl .u8 (IntKind.wrap .u8 v1.Src.Mode) 4), v1.Seq] : List Int))))], [(1, .box [.lit (.int .i64 (v1.Kind)), .lit (.bool (v1.AckRequest)), .lit (.bool (v1.Pending)), .lit (.bool (v1.Secure)), .lit (.int .u8 (v1.Seq)), .lit (.int .u16 (v1.Pan)), .lit (.int .i64 (v1.Dst.Mode)), .lit (.int .u16 (v1.Dst.Short)), .lit (.int .u64 (v1.Dst.EUI)), .lit (.int .i64 (v1.Src.Mode)), .lit (.int .u16 (v1.Src.Short)), .lit (.int .u64 (v1.Src.EUI)), .lit (.int .u32 (v1.Counter)), .lit (.int .u8 (v1.Key)), .slc 1 0 (List.length v1.Payload) (List.map (ecI .u8) v1.Payload), .slc 1 0 (List.length v1.MIC) (List.map (ecI .u8) v1.MIC)]), (43, .spare 5 1 (List.length ([ior .u8 (ior .u8 (ior .u8 (ishl .u8 (IntKind.wrap .u8 v1.Kind) 6) v2) v3) v4, ior .u8 (ishl .u8 (IntKind.wrap .u8 v1.Dst.Mode) 6) (ishl .u8 (IntKind.wrap .u8 v1.Src.Mode) 4), v1.Seq] : List Int)))]⟩) (by kernel_rfl) (by kernel_rfl) ?_
    refine TS_joinB ⟨[(1, []), (4, [])], [(1, (1, [])), (43, (43, []))]⟩ (fun (v5 : (List Int)) => [(4, .c (.slc 1 45 (List.length v5) (List.map (ecI .u8) v5)))]) (fun (v5 : (List Int)) => [(43, .spare 5 1 (List.length v5))]) (F_frame_Header_j2 v1) r ?_ ?_
    · clear h
      intro v5 h
      unfold F_frame_Header_j2 at h
      refine TS_cut ⟨[(1, []), (4, [])], [(1, (1, [])), (43, (43, []))]⟩ (.mk [.code (codeAt [1, 1, 1, 1, 1] (bodyOf Try.f21))] .normal ⟨[(1, .c (.box 1 0)), (4, .c (.slc 1 45 (List.length v5) (List.map (ecI .u8) v5)))], [(1, .box [.lit (.int .i64 (v1.Kind)), .lit (.bool (v1.AckRequest)), .lit (.bool (v1.Pending)), .lit (.bool (v1.Secure)), .lit (.int .u8 (v1.Seq)), .lit (.int .u16 (v1.Pan)), .lit (.int .i64 (v1.Dst.Mode)), .lit (.int .u16 (v1.Dst.Short)), .lit (.int .u64 (v1.Dst.EUI)), .lit (.int .i64 (v1.Src.Mode)), .lit (.int .u16 (v1.Src.Short)), .lit (.int .u64 (v1.Src.EUI)), .lit (.int .u32 (v1.Counter)), .lit (.int .u8 (v1.Key)), .slc 1 0 (List.length v1.Payload) (List.map (ecI .u8) v1.Payload), .slc 1 0 (List.length v1.MIC) (List.map (ecI .u8) v1.MIC)]), (43, .spare 5 1 (List.length v5))]⟩) (by kernel_rfl) (by kernel_rfl) ?_
      refine TS_joinB ⟨[(1, []), (4, [])], [(1, (1, [])), (43, (43, []))]⟩ (fun (v6 : (List Int)) => [(4, .c (.slc 1 45 (List.length v6) (List.map (ecI .u8) v6)))]) (fun (v6 : (List Int)) => [(43, .spare 5 1 (List.length v6))]) (F_frame_Header_j3 v1) r ?_ ?_
      · clear h
        intro v6 h
        unfold F_frame_Header_j3 at h
        refine TS_go 5 ?_
        replace h := bindO h
        obtain ⟨_l7, hl7, h⟩ := h
        refine TS_appT (d := 43) (e := 5) (sz := 1) (N := List.length v6) (ecI .u8) (fun _ => by kernel_rfl) (l1 := v6) (l2 := v1.Payload) (c := .whole) hl7 (by kernel_rfl) (by kernel_rfl) ?_
        refine TS_go 2 ?_
        refine TS_fitU ⟨[(2, [])], [(43, (900000, []))]⟩ (by kernel_rfl) ?_
        refine TS_go 1 ?_
        have ret := Option.some.inj h
        subst ret
        exact TS_ret (by kernel_rfl) (by kernel_rfl) (by kernel_rfl)
      · refine TS_go 5 ?_
        replace h := condO h
        rcases h with ⟨hb8, h⟩ | ⟨hb8, h⟩
        · refine TS_know 61 (b := true) hb8 (by kernel_rfl) (by kernel_rfl) ?_
          refine TS_T (by kernel_rfl) rfl ?_
          refine TS_go 6 ?_
          replace h := bindO h
          obtain ⟨v9, hv9, h⟩ := h
          refine TS_con [[2]] [(66, 900000)] none (okT_octets_Append v5 (IntKind.wrap .u64 v1.Counter) 4 v9 hv9) (by kernel_rfl) (by kernel_rfl) (by kernel_rfl) ?_
          refine TS_go 6 ?_
          refine TS_litNT 70 5 1 (ecI .u8) [] ([v1.Key] : List Int) (by kernel_rfl) (by kernel_rfl) ?_
          replace h := bindO h
          obtain ⟨l10, hl10, h⟩ := h
          refine TS_appT (d := 66) (e := 5) (sz := 1) (N := List.length v9) (ecI .u8) (fun _ => by kernel_rfl) (l1 := v9) (l2 := ([v1.Key] : List Int)) (c := .whole) hl10 (by kernel_rfl) (by kernel_rfl) ?_
          refine TS_go 2 ?_
          exact TS_meet l10 ⟨[(1, []), (4, [])], [(1, (1, [])), (66, (43, []))]⟩ h (by kernel_rfl) (by kernel_rfl)
        · refine TS_know 61 (b := false) hb8 (by kernel_rfl) (by kernel_rfl) ?_
          refine TS_F (by kernel_rfl) rfl ?_
          refine TS_go 1 ?_
          exact TS_meet v5 ⟨[(1, []), (4, [])], [(1, (1, [])), (43, (43, []))]⟩ h (by kernel_rfl) (by kernel_rfl)
    · refine TS_go 6 ?_
      replace h := condO h
      rcases h with ⟨hb11, h⟩ | ⟨hb11, h⟩
      · refine TS_know 46 (b := true) hb11 (by kernel_rfl) (by kernel_rfl) ?_
        refine TS_T (by kernel_rfl) rfl ?_
        refine TS_go 6 ?_
        replace h := bindO h
        obtain ⟨v12, hv12, h⟩ := h
        refine TS_con [[2]] [(51, 900000)] none (okT_octets_Append ([ior .u8 (ior .u8 (ior .u8 (ishl .u8 (IntKind.wrap .u8 v1.Kind) 6) v2) v3) v4, ior .u8 (ishl .u8 (IntKind.wrap .u8 v1.Dst.Mode) 6) (ishl .u8 (IntKind.wrap .u8 v1.Src.Mode) 4), v1.Seq] : List Int) (IntKind.wrap .u64 v1.Pan) 2 v12 hv12) (by kernel_rfl) (by kernel_rfl) (by kernel_rfl) ?_
        refine TS_go 7 ?_
        replace h := bindO h
        obtain ⟨v13, hv13, h⟩ := h
        refine TS_con [[2]] [(55, 900000)] none (okT_frame_appendAddr v12 v1.Dst v13 hv13) (by kernel_rfl) (by kernel_rfl) (by kernel_rfl) ?_
        refine TS_go 6 ?_
        replace h := bindO h
        obtain ⟨v14, hv14, h⟩ := h
        refine TS_con [[2]] [(59, 900000)] none (okT_frame_appendAddr v13 v1.Src v14 hv14) (by kernel_rfl) (by kernel_rfl) (by kernel_rfl) ?_
        refine TS_go 2 ?_
        exact TS_meet v14 ⟨[(1, []), (4, [])], [(1, (1, [])), (59, (43, []))]⟩ h (by kernel_rfl) (by kernel_rfl)
      · refine TS_know 46 (b := false) hb11 (by kernel_rfl) (by kernel_rfl) ?_
        refine TS_F (by kernel_rfl) rfl ?_
        refine TS_go 1 ?_
        exact TS_meet ([ior .u8 (ior .u8 (ior .u8 (ishl .u8 (IntKind.wrap .u8 v1.Kind) 6) v2) v3) v4, ior .u8 (ishl .u8 (IntKind.wrap .u8 v1.Dst.Mode) 6) (ishl .u8 (IntKind.wrap .u8 v1.Src.Mode) 4), v1.Seq] : List Int) ⟨[(1, []), (4, [])], [(1, (1, [])), (43, (43, []))]⟩ h (by kernel_rfl) (by kernel_rfl)
  · refine TS_go 3 ?_
    replace h := bindO h
    obtain ⟨v15, hv15, h⟩ := h
    refine TS_call [] (ok_frame_Valid a0 v15 hv15) (by kernel_rfl) (by kernel_rfl) ?_
    refine TS_go 2 ?_
    replace h := condO h
    rcases h with ⟨hb16, h⟩ | ⟨hb16, h⟩
    · subst hb16
      refine TS_F (by kernel_rfl) rfl ?_
      refine TS_go 1 ?_
      exact TS_meet a0 ⟨[(1, [])], [(1, (1, []))]⟩ h (by kernel_rfl) (by kernel_rfl)
    · subst hb16
      refine TS_T (by kernel_rfl) rfl ?_
      refine TS_go 2 ?_
      replace h := bindO h
      obtain ⟨n17, hn17, h⟩ := h
      refine TS_makeT 8 5 1 (ecI .u8) (0 : Int) [] (cs := [.lit (.int .u8 (0))]) (l := 4) (c := 4) hn17 (by kernel_rfl) (by kernel_rfl) (by kernel_rfl) ?_
      refine TS_go 6 ?_
      replace h := bindO h
      obtain ⟨v18, hv18, h⟩ := h
      refine TS_call [[0, 0, 0, 0, 0, 0, 0, 0, 0, 0, 0, 0, 0, 0, 2, 2]] (ok_frame_Valid (S_Frame.mk a0.Kind a0.AckRequest a0.Pending a0.Secure a0.Seq a0.Pan a0.Dst a0.Src a0.Counter a0.Key a0.Payload (List.replicate n17 (0 : Int))) v18 hv18) (by kernel_rfl) (by kernel_rfl) ?_
      refine TS_go 2 ?_
      replace h := condO h
      rcases h with ⟨hb19, h⟩ | ⟨hb19, h⟩
      · subst hb19
        refine TS_F (by kernel_rfl) rfl ?_
        refine TS_go 1 ?_
        exact TS_meet (S_Frame.mk a0.Kind a0.AckRequest a0.Pending a0.Secure a0.Seq a0.Pan a0.Dst a0.Src a0.Counter a0.Key a0.Payload (List.replicate n17 (0 : Int))) ⟨[(1, [])], [(1, (1, [0, 0, 0, 0, 0, 0, 0, 0, 0, 0, 0, 0, 0, 0, 0, 2]))]⟩ h (by kernel_rfl) (by kernel_rfl)
      · subst hb19
        refine TS_T (by kernel_rfl) rfl ?_
        refine TS_go 4 ?_
        refine TS_nilT 2 600000 5 1 (by kernel_rfl) ?_
        refine TS_fitU ⟨[(2, [])], [(600000, (900000, []))]⟩ (by kernel_rfl) ?_
        refine TS_go 1 ?_
        refine TS_outJ (by kernel_rfl) ?_
        have ret := Option.some.inj h
        subst ret
        exact TS_ret (by kernel_rfl) (by kernel_rfl) (by kernel_rfl)
/-- multihop/checksum.Extend -/
noncomputable def F_checksum_Extend_j3 (s6 : Int × Int) (v10 : Int) : Option ((Int × Int) ⊕ (Int)) :=
  some (Sum.inl (v10, IntKind.wrap .i64 (s6.2 + 1)))
noncomputable def F_checksum_Extend_l2  (s6 : Int × Int) : Option ((Int × Int) ⊕ (Int)) :=
  bif (decide (s6.2 < 8)) then
    bif ((iand .u16 s6.1 1) == 1) then
      (F_checksum_Extend_j3 s6) (ixor .u16 (ishr .u16 s6.1 1) 33800)
    else
      (F_checksum_Extend_j3 s6) (ishr .u16 s6.1 1)
  else
    some (Sum.inr s6.1)
noncomputable def F_checksum_Extend_l1 (a1 : List Int) (s1 : Int × Int) : Option ((Int × Int) ⊕ (Int)) :=
  bif (decide (s1.2 < (List.length a1 : Int))) then
    (idx a1 s1.2).bind fun e5 =>
    (loopO (F_checksum_Extend_l2) (ixor .u16 s1.1 (IntKind.wrap .u16 e5), 0)).bind fun b7 =>
    some (Sum.inl (b7, IntKind.wrap .i64 (s1.2 + 1)))
  else
    some (Sum.inr s1.1)
noncomputable def F_checksum_Extend (a0 : Int) (a1 : List Int) : Option (Int) :=
  (loopO (F_checksum_Extend_l1 a1) (a0, 0)).bind fun b2 =>
  some (b2)
set_option maxRecDepth 100000 in
set_option maxHeartbeats 40000000 in
theorem ok_checksum_Extend (a0 : Int) (a1 : List Int) (r : Int) (h : F_checksum_Extend a0 a1 = some r) : Con Try.prog 73 [.c (.lit (.int .u16 (a0))), .c (eS 1 (ecI .u8) (a1))] [] (.c (.lit (.int .u16 (r)))) [] := by
  unfold F_checksum_Extend at h
  refine con_of [] [] 31 Try.func73 rfl rfl (by kernel_rfl) (fun K => ?_)
  refine TS_go 12 ?_
  refine TS_cut ⟨[(0, []), (8, []), (9, []), (10, [])], []⟩ (.mk [.code (codeAt [1, 0, 1, 0] (bodyOf Try.f73)), .blk 0, .code (codeAt [1, 1] (bodyOf Try.f73))] .normal ⟨[(0, .c (.lit (.int .u16 (a0)))), (8, .c (.slc 1 0 (List.length a1) (List.map (ecI .u8) a1))), (9, .c (.lit (.int .i64 ((List.length a1 : Int))))), (10, .c (.lit (.int .i64 (0))))], []⟩) (by kernel_rfl) (by kernel_rfl) ?_
  replace h := bindO h
  obtain ⟨y3, hl1, hK1⟩ := h
  refine TS_loopB (F_checksum_Extend_l1 a1) ⟨[(0, []), (8, []), (9, []), (10, [])], []⟩ (fun (s1 : Int × Int) => [(0, .c (.lit (.int .u16 (s1.1)))), (10, .c (.lit (.int .i64 (s1.2))))]) (fun (s1 : Int × Int) => []) (a0, 0) y3 (.exit 0) (fun (b : Int) => b) ⟨[(0, [])], []⟩ (fun (b2 : Int) => [(0, .c (.lit (.int .u16 (b2))))]) (fun (b2 : Int) => []) hl1 (by kernel_rfl) (by kernel_rfl) ?_ ?_
  · intro s1 x h hy1
    unfold F_checksum_Extend_l1 at h
    refine TS_go 5 ?_
    replace h := condO h
    rcases h with ⟨hb4, h⟩ | ⟨hb4, h⟩
    · refine TS_know 11 (b := true) hb4 (by kernel_rfl) (by kernel_rfl) ?_
      refine TS_T (by kernel_rfl) rfl ?_
      refine TS_go 5 ?_
      replace h := bindO h
      obtain ⟨e5, he5, h⟩ := h
      refine TS_idx (ecI .u8) he5 (by kernel_rfl) (by kernel_rfl) ?_
      refine TS_go 16 ?_
      refine TS_cut ⟨[(0, []), (8, []), (9, []), (10, []), (18, [])], []⟩ (.mk [.code (codeAt [1, 0, 1, 0, 0, 1, 1, 0, 0, 1, 1, 1, 0] (bodyOf Try.f73)), .blk 2, .blk 1, .code (codeAt [1, 0, 1, 0, 0, 1, 1, 1] (bodyOf Try.f73))] .normal ⟨[(0, .c (.lit (.int .u16 (ixor .u16 s1.1 (IntKind.wrap .u16 e5))))), (8, .c (.slc 1 0 (List.length a1) (List.map (ecI .u8) a1))), (9, .c (.lit (.int .i64 ((List.length a1 : Int))))), (10, .c (.lit (.int .i64 (s1.2)))), (18, .c (.lit (.int .i64 (0))))], []⟩) (by kernel_rfl) (by kernel_rfl) ?_
      replace h := bindO h
      obtain ⟨y8, hl2, hK2⟩ := h
      refine TS_loopB (F_checksum_Extend_l2) ⟨[(0, []), (8, []), (9, []), (10, []), (18, [])], []⟩ (fun (s6 : Int × Int) => [(0, .c (.lit (.int .u16 (s6.1)))), (18, .c (.lit (.int .i64 (s6.2))))]) (fun (s6 : Int × Int) => []) (ixor .u16 s1.1 (IntKind.wrap .u16 e5), 0) y8 (.exit 2) (fun (b : Int) => b) ⟨[(0, []), (8, []), (9, []), (10, [])], []⟩ (fun (b7 : Int) => [(0, .c (.lit (.int .u16 (b7))))]) (fun (b7 : Int) => []) hl2 (by kernel_rfl) (by kernel_rfl) ?_ ?_
      · intro s6 x h hy2
        unfold F_checksum_Extend_l2 at h
        refine TS_go 5 ?_
        replace h := condO h
        rcases h with ⟨hb9, h⟩ | ⟨hb9, h⟩
        · refine TS_know 19 (b := true) hb9 (by kernel_rfl) (by kernel_rfl) ?_
          refine TS_T (by kernel_rfl) rfl ?_
          refine TS_go 1 ?_
          refine TS_cut ⟨[(0, []), (8, []), (9, []), (10, []), (18, [])], []⟩ (.mk [.code (codeAt [1, 0, 1, 0, 0, 1, 1, 0, 0, 1, 1, 1, 0, 0, 1, 1] (bodyOf Try.f73))] .normal ⟨[(0, .c (.lit (.int .u16 (s6.1)))), (8, .c (.slc 1 0 (List.length a1) (List.map (ecI .u8) a1))), (9, .c (.lit (.int .i64 ((List.length a1 : Int))))), (10, .c (.lit (.int .i64 (s1.2)))), (18, .c (.lit (.int .i64 (s6.2))))], []⟩) (by kernel_rfl) (by kernel_rfl) ?_
          refine TS_joinB ⟨[(0, []), (8, []), (9, []), (10, []), (18, [])], []⟩ (fun (v10 : Int) => [(0, .c (.lit (.int .u16 (v10))))]) (fun (v10 : Int) => []) (F_checksum_Extend_j3 s6) x ?_ ?_
          · clear h
            intro v10 h
            unfold F_checksum_Extend_j3 at h
            refine TS_go 4 ?_
            have ret := Option.some.inj h
            subst ret
            exact TS_againB _ ⟨[(0, []), (8, []), (9, []), (10, []), (18, [])], []⟩ rfl (by kernel_rfl) (by kernel_rfl)
          · refine TS_go 18 ?_
            replace h := condO h
            rcases h with ⟨hb11, h⟩ | ⟨hb11, h⟩
            · refine TS_know 25 (b := true) hb11 (by kernel_rfl) (by kernel_rfl) ?_
              refine TS_T (by kernel_rfl) rfl ?_
              refine TS_go 6 ?_
              exact TS_meet (ixor .u16 (ishr .u16 s6.1 1) 33800) ⟨[(0, []), (8, []), (9, []), (10, []), (18, [])], []⟩ h (by kernel_rfl) (by kernel_rfl)
            · refine TS_know 25 (b := false) hb11 (by kernel_rfl) (by kernel_rfl) ?_
              refine TS_F (by kernel_rfl) rfl ?_
              refine TS_go 2 ?_
              exact TS_meet (ishr .u16 s6.1 1) ⟨[(0, []), (8, []), (9, []), (10, []), (18, [])], []⟩ h (by kernel_rfl) (by kernel_rfl)
        · refine TS_know 19 (b := false) hb9 (by kernel_rfl) (by kernel_rfl) ?_
          refine TS_F (by kernel_rfl) rfl ?_
          refine TS_go 2 ?_
          have ret := Option.some.inj h
          subst ret
          exact TS_brkB s6.1 ⟨[(0, []), (8, []), (9, []), (10, [])], []⟩ rfl (by kernel_rfl) (by kernel_rfl) (by kernel_rfl)
      · intro b7 hb
        subst y8
        have h := hK2
        refine TS_go 6 ?_
        have ret := Option.some.inj h
        subst ret
        exact TS_againB _ ⟨[(0, []), (8, []), (9, []), (10, [])], []⟩ rfl (by kernel_rfl) (by kernel_rfl)
    · refine TS_know 11 (b := false) hb4 (by kernel_rfl) (by kernel_rfl) ?_
      refine TS_F (by kernel_rfl) rfl ?_
      refine TS_go 2 ?_
      have ret := Option.some.inj h
      subst ret
      exact TS_brkB s1.1 ⟨[(0, [])], []⟩ rfl (by kernel_rfl) (by kernel_rfl) (by kernel_rfl)
  · intro b2 hb
    subst y3
    have h := hK1
    refine TS_go 7 ?_
    have ret := Option.some.inj h
    subst ret
    exact TS_ret (by kernel_rfl) (by kernel_rfl) (by kernel_rfl)

/-- multihop/checksum.CRC -/
noncomputable def F_checksum_CRC (a0 : List Int) : Option (Int) :=
  (F_checksum_Extend 0 a0).bind fun v1 =>
  some (v1)
set_option maxRecDepth 100000 in
set_option maxHeartbeats 40000000 in
theorem ok_checksum_CRC (a0 : List Int) (r : Int) (h : F_checksum_CRC a0 = some r) : Con Try.prog 64 [.c (eS 1 (ecI .u8) (a0))] [] (.c (.lit (.int .u16 (r)))) [] := by
  unfold F_checksum_CRC at h
  refine con_of [] [] 5 Try.func64 rfl rfl (by kernel_rfl) (fun K => ?_)
  refine TS_go 7 ?_
  replace h := bindO h
  obtain ⟨v1, hv1, h⟩ := h
  refine TS_call [] (ok_checksum_Extend 0 a0 v1 hv1) (by kernel_rfl) (by kernel_rfl) ?_
  refine TS_go 3 ?_
  have ret := Option.some.inj h
  subst ret
  exact TS_ret (by kernel_rfl) (by kernel_rfl) (by kernel_rfl)

/-- multihop/checksum.Append -/
noncomputable def F_checksum_Append (a0 : List Int) : Option ((List Int)) :=
  (F_checksum_CRC a0).bind fun v1 =>
  (mkO 1 0 (IntKind.wrap .i64 ((List.length a0 : Int) + 2))).bind fun n2 =>
  (appO 1 (List.replicate n2 (0 : Int)) (Cut.app .whole a0)).bind fun l3 =>
  (appO 1 l3 (Cut.app .whole ([IntKind.wrap .u8 v1, IntKind.wrap .u8 (ishr .u16 v1 8)] : List Int))).bind fun l4 =>
  some (l4)
set_option maxRecDepth 100000 in
set_option maxHeartbeats 40000000 in
theorem okT_checksum_Append (a0 : List Int) (r : (List Int)) (h : F_checksum_Append a0 = some r) : Con Try.prog 39 [.c (eS 1 (ecI .u8) (a0))] [] (.c (.slc 1 900002 (List.length r) (List.map (ecI .u8) r))) [(900000, .spare 5 1 (List.length r))] := by
  unfold F_checksum_Append at h
  refine con_of [] [(900000, [])] 22 Try.func39 rfl rfl (by kernel_rfl) (fun K => ?_)
  refine TS_go 7 ?_
  replace h := bindO h
  obtain ⟨v1, hv1, h⟩ := h
  refine TS_call [] (ok_checksum_CRC a0 v1 hv1) (by kernel_rfl) (by kernel_rfl) ?_
  refine TS_go 7 ?_
  replace h := bindO h
  obtain ⟨n2, hn2, h⟩ := h
  refine TS_makeT 10 5 1 (ecI .u8) (0 : Int) [] (cs := [.lit (.int .u8 (0))]) (l := 0) (c := IntKind.wrap .i64 ((List.length a0 : Int) + 2)) hn2 (by kernel_rfl) (by kernel_rfl) (by kernel_rfl) ?_
  refine TS_go 6 ?_
  replace h := bindO h
  obtain ⟨l3, hl3, h⟩ := h
  refine TS_appT (d := 10) (e := 5) (sz := 1) (N := List.length (List.replicate n2 (0 : Int))) (ecI .u8) (fun _ => by kernel_rfl) (l1 := (List.replicate n2 (0 : Int))) (l2 := a0) (c := .whole) hl3 (by kernel_rfl) (by kernel_rfl) ?_
  refine TS_go 10 ?_
  refine TS_litNT 20 5 1 (ecI .u8) [] ([IntKind.wrap .u8 v1, IntKind.wrap .u8 (ishr .u16 v1 8)] : List Int) (by kernel_rfl) (by kernel_rfl) ?_
  replace h := bindO h
  obtain ⟨_l4, hl4, h⟩ := h
  refine TS_appT (d := 10) (e := 5) (sz := 1) (N := List.length l3) (ecI .u8) (fun _ => by kernel_rfl) (l1 := l3) (l2 := ([IntKind.wrap .u8 v1, IntKind.wrap .u8 (ishr .u16 v1 8)] : List Int)) (c := .whole) hl4 (by kernel_rfl) (by kernel_rfl) ?_
  refine TS_go 2 ?_
  refine TS_fitU ⟨[(2, [])], [(10, (900000, []))]⟩ (by kernel_rfl) ?_
  refine TS_go 1 ?_
  have ret := Option.some.inj h
  subst ret
  exact TS_ret (by kernel_rfl) (by kernel_rfl) (by kernel_rfl)
/-- multihop/frame.Encode -/
noncomputable def F_frame_Encode (a0 : S_Frame) : Option ((List Int) × Int) :=
  (F_frame_Valid a0).bind fun v1 =>
  bif v1 then
    (F_frame_Header a0).bind fun v3 =>
    (appO 1 v3 (Cut.app .whole a0.MIC)).bind fun l4 =>
    (F_checksum_Append l4).bind fun v5 =>
    some ((v5, 0))
  else
    some ((([] : List Int), 1))
set_option maxRecDepth 100000 in
set_option maxHeartbeats 40000000 in
theorem okT_frame_Encode (a0 : S_Frame) (r : (List Int) × Int) (h : F_frame_Encode a0 = some r) : Con Try.prog 18 [.agg (S_Frame.cs a0)] [] (.tup [(false, [.slc 1 900002 (List.length r.1) (List.map (ecI .u8) r.1)]), (false, [.lit (.int .i64 (r.2))])]) [(900000, .spare 5 1 (List.length r.1))] := by
  unfold F_frame_Encode at h
  refine con_of [] [(900000, [])] 13 Try.func18 rfl rfl (by kernel_rfl) (fun K => ?_)
  refine TS_go 10 ?_
  replace h := bindO h
  obtain ⟨v1, hv1, h⟩ := h
  refine TS_call [] (ok_frame_Valid a0 v1 hv1) (by kernel_rfl) (by kernel_rfl) ?_
  refine TS_go 2 ?_
  replace h := condO h
  rcases h with ⟨hb2, h⟩ | ⟨hb2, h⟩
  · subst hb2
    refine TS_F (by kernel_rfl) rfl ?_
    refine TS_go 2 ?_
    refine TS_draw (by kernel_rfl) ?_
    refine TD_go 1 ?_
    replace h := bindO h
    obtain ⟨v3, hv3, h⟩ := h
    refine TD_conX (d := 8) (e := 900000) [] (okT_frame_Header a0 v3 hv3) (by kernel_rfl) (by kernel_rfl) ?_
    refine TD_go 2 ?_
    replace h := bindO h
    obtain ⟨l4, hl4, h⟩ := h
    refine TD_appT (d := 8) (e := 5) (sz := 1) (N := List.length v3) (ecI .u8) (fun _ => by kernel_rfl) (l1 := v3) (l2 := a0.MIC) (c := .whole) hl4 (by kernel_rfl) (by kernel_rfl) ?_
    replace h := bindO h
    obtain ⟨v5, hv5, h⟩ := h
    refine TD_conX (d := 12) (e := 900000) [[2]] (okT_checksum_Append l4 v5 hv5) (by kernel_rfl) (by kernel_rfl) ?_
    refine TD_go 2 ?_
    refine TD_end (by kernel_rfl) ?_
    refine TS_fitU ⟨[(2, []), (3, [])], [(12, (900000, []))]⟩ (by kernel_rfl) ?_
    refine TS_go 1 ?_
    have ret := Option.some.inj h
    subst ret
    exact TS_ret (by kernel_rfl) (by kernel_rfl) (by kernel_rfl)
  · subst hb2
    refine TS_T (by kernel_rfl) rfl ?_
    refine TS_go 5 ?_
    refine TS_nilT 2 600000 5 1 (by kernel_rfl) ?_
    refine TS_fitU ⟨[(2, []), (3, [])], [(600000, (900000, []))]⟩ (by kernel_rfl) ?_
    refine TS_go 2 ?_
    have ret := Option.some.inj h
    subst ret
    exact TS_ret (by kernel_rfl) (by kernel_rfl) (by kernel_rfl)
/-- multihop/checksum.Check -/
noncomputable def F_checksum_Check (a0 : List Int) : Option (Bool) :=
  bif (decide ((IntKind.wrap .i64 ((List.length a0 : Int) - 2)) < 0)) then
    some (false)
  else
    (subO a0 0 (IntKind.wrap .i64 ((List.length a0 : Int) - 2))).bind fun l2 =>
    (F_checksum_CRC l2).bind fun v3 =>
    (idx a0 (IntKind.wrap .i64 ((List.length a0 : Int) - 2))).bind fun e4 =>
    bif (e4 == (IntKind.wrap .u8 v3)) then
      (idx a0 (IntKind.wrap .i64 ((IntKind.wrap .i64 ((List.length a0 : Int) - 2)) + 1))).bind fun e6 =>
      some ((e6 == (IntKind.wrap .u8 (ishr .u16 v3 8))))
    else
      some (false)
set_option maxRecDepth 100000 in
set_option maxHeartbeats 40000000 in
theorem ok_checksum_Check (a0 : List Int) (r : Bool) (h : F_checksum_Check a0 = some r) : Con Try.prog 40 [.c (eS 1 (ecI .u8) (a0))] [] (.c (.lit (.bool (r)))) [] := by
  unfold F_checksum_Check at h
  refine con_of [] [] 32 Try.func40 rfl rfl (by kernel_rfl) (fun K => ?_)
  refine TS_go 17 ?_
  replace h := condO h
  rcases h with ⟨hb1, h⟩ | ⟨hb1, h⟩
  · refine TS_know 9 (b := true) hb1 (by kernel_rfl) (by kernel_rfl) ?_
    refine TS_T (by kernel_rfl) rfl ?_
    refine TS_go 6 ?_
    have ret := Option.some.inj h
    subst ret
    exact TS_ret (by kernel_rfl) (by kernel_rfl) (by kernel_rfl)
  · refine TS_know 9 (b := false) hb1 (by kernel_rfl) (by kernel_rfl) ?_
    refine TS_F (by kernel_rfl) rfl ?_
    refine TS_go 5 ?_
    replace h := bindO h
    obtain ⟨l2, hl2, h⟩ := h
    refine TS_sub (ecI .u8) 1 hl2 (by kernel_rfl) (by kernel_rfl) ?_
    replace h := bindO h
    obtain ⟨v3, hv3, h⟩ := h
    refine TS_call [] (ok_checksum_CRC l2 v3 hv3) (by kernel_rfl) (by kernel_rfl) ?_
    refine TS_go 6 ?_
    replace h := bindO h
    obtain ⟨_e4, he4, h⟩ := h
    refine TS_idx (ecI .u8) he4 (by kernel_rfl) (by kernel_rfl) ?_
    refine TS_go 5 ?_
    replace h := condO h
    rcases h with ⟨hb5, h⟩ | ⟨hb5, h⟩
    · refine TS_know 20 (b := true) hb5 (by kernel_rfl) (by kernel_rfl) ?_
      refine TS_know 21 (b := true) hb5 (by kernel_rfl) (by kernel_rfl) ?_
      refine TS_go 3 ?_
      replace h := bindO h
      obtain ⟨_e6, he6, h⟩ := h
      refine TS_idx (ecI .u8) he6 (by kernel_rfl) (by kernel_rfl) ?_
      refine TS_go 9 ?_
      have ret := Option.some.inj h
      subst ret
      exact TS_ret (by kernel_rfl) (by kernel_rfl) (by kernel_rfl)
    · refine TS_know 20 (b := false) hb5 (by kernel_rfl) (by kernel_rfl) ?_
      refine TS_know 21 (b := false) hb5 (by kernel_rfl) (by kernel_rfl) ?_
      refine TS_go 13 ?_
      have ret := Option.some.inj h
      subst ret
      exact TS_ret (by kernel_rfl) (by kernel_rfl) (by kernel_rfl)

/-- multihop/octets.Uint -/
noncomputable def F_octets_Uint_l1 (l5 : List Int) (s6 : Int × Int) : Option ((Int × Int) ⊕ (Int)) :=
  bif (decide (s6.2 < (List.length l5 : Int))) then
    (idx l5 s6.2).bind fun e10 =>
    some (Sum.inl (ior .u64 (ishl .u64 s6.1 8) (IntKind.wrap .u64 e10), IntKind.wrap .i64 (s6.2 + 1)))
  else
    some (Sum.inr s6.1)
noncomputable def F_octets_Uint (a0 : List Int) (a1 : Int) (a2 : Int) : Option (Int × Bool) :=
  bif (decide (a2 < 1)) then
    some ((0, false))
  else
    bif (decide (a2 > 8)) then
      some ((0, false))
    else
      bif (decide (a1 < 0)) then
        some ((0, false))
      else
        bif (decide (a1 > (IntKind.wrap .i64 ((List.length a0 : Int) - a2)))) then
          some ((0, false))
        else
          (subO a0 a1 (IntKind.wrap .i64 (a1 + a2))).bind fun l5 =>
          (loopO (F_octets_Uint_l1 l5) (0, 0)).bind fun b7 =>
          some ((b7, true))
set_option maxRecDepth 100000 in
set_option maxHeartbeats 40000000 in
theorem ok_octets_Uint (a0 : List Int) (a1 : Int) (a2 : Int) (r : Int × Bool) (h : F_octets_Uint a0 a1 a2 = some r) : Con Try.prog 74 [.c (eS 1 (ecI .u8) (a0)), .c (.lit (.int .i64 (a1))), .c (.lit (.int .i64 (a2)))] [] (.tup [(false, [.lit (.int .u64 (r.1))]), (false, [.lit (.bool (r.2))])]) [] := by
  unfold F_octets_Uint at h
  refine con_of [] [] 47 Try.func74 rfl rfl (by kernel_rfl) (fun K => ?_)
  refine TS_go 11 ?_
  replace h := condO h
  rcases h with ⟨hb1, h⟩ | ⟨hb1, h⟩
  · refine TS_know 12 (b := true) hb1 (by kernel_rfl) (by kernel_rfl) ?_
    refine TS_know 13 (b := true) hb1 (by kernel_rfl) (by kernel_rfl) ?_
    refine TS_go 16 ?_
    refine TS_T (by kernel_rfl) rfl ?_
    refine TS_go 7 ?_
    have ret := Option.some.inj h
    subst ret
    exact TS_ret (by kernel_rfl) (by kernel_rfl) (by kernel_rfl)
  · refine TS_know 12 (b := false) hb1 (by kernel_rfl) (by kernel_rfl) ?_
    refine TS_know 13 (b := false) hb1 (by kernel_rfl) (by kernel_rfl) ?_
    refine TS_go 4 ?_
    replace h := condO h
    rcases h with ⟨hb2, h⟩ | ⟨hb2, h⟩
    · refine TS_know 15 (b := true) hb2 (by kernel_rfl) (by kernel_rfl) ?_
      refine TS_know 16 (b := true) hb2 (by kernel_rfl) (by kernel_rfl) ?_
      refine TS_know 17 (b := true) hb2 (by kernel_rfl) (by kernel_rfl) ?_
      refine TS_go 12 ?_
      refine TS_T (by kernel_rfl) rfl ?_
      refine TS_go 7 ?_
      have ret := Option.some.inj h
      subst ret
      exact TS_ret (by kernel_rfl) (by kernel_rfl) (by kernel_rfl)
    · refine TS_know 15 (b := false) hb2 (by kernel_rfl) (by kernel_rfl) ?_
      refine TS_know 16 (b := false) hb2 (by kernel_rfl) (by kernel_rfl) ?_
      refine TS_know 17 (b := false) hb2 (by kernel_rfl) (by kernel_rfl) ?_
      refine TS_go 4 ?_
      replace h := condO h
      rcases h with ⟨hb3, h⟩ | ⟨hb3, h⟩
      · refine TS_know 19 (b := true) hb3 (by kernel_rfl) (by kernel_rfl) ?_
        refine TS_know 20 (b := true) hb3 (by kernel_rfl) (by kernel_rfl) ?_
        refine TS_know 21 (b := true) hb3 (by kernel_rfl) (by kernel_rfl) ?_
        refine TS_go 8 ?_
        refine TS_T (by kernel_rfl) rfl ?_
        refine TS_go 7 ?_
        have ret := Option.some.inj h
        subst ret
        exact TS_ret (by kernel_rfl) (by kernel_rfl) (by kernel_rfl)
      · refine TS_know 19 (b := false) hb3 (by kernel_rfl) (by kernel_rfl) ?_
        refine TS_know 20 (b := false) hb3 (by kernel_rfl) (by kernel_rfl) ?_
        refine TS_know 21 (b := false) hb3 (by kernel_rfl) (by kernel_rfl) ?_
        refine TS_go 8 ?_
        replace h := condO h
        rcases h with ⟨hb4, h⟩ | ⟨hb4, h⟩
        · refine TS_know 27 (b := true) hb4 (by kernel_rfl) (by kernel_rfl) ?_
          refine TS_know 28 (b := true) hb4 (by kernel_rfl) (by kernel_rfl) ?_
          refine TS_T (by kernel_rfl) rfl ?_
          refine TS_go 7 ?_
          have ret := Option.some.inj h
          subst ret
          exact TS_ret (by kernel_rfl) (by kernel_rfl) (by kernel_rfl)
        · refine TS_know 27 (b := false) hb4 (by kernel_rfl) (by kernel_rfl) ?_
          refine TS_know 28 (b := false) hb4 (by kernel_rfl) (by kernel_rfl) ?_
          refine TS_F (by kernel_rfl) rfl ?_
          refine TS_go 13 ?_
          replace h := bindO h
          obtain ⟨l5, hl5, h⟩ := h
          refine TS_sub (ecI .u8) 1 hl5 (by kernel_rfl) (by kernel_rfl) ?_
          refine TS_go 4 ?_
          refine TS_cut ⟨[(8, []), (34, []), (35, []), (36, [])], []⟩ (.mk [.code (codeAt [1, 1, 1, 0, 1, 0] (bodyOf Try.f74)), .blk 0, .code (codeAt [1, 1, 1, 1] (bodyOf Try.f74))] .normal ⟨[(8, .c (.lit (.int .u64 (0)))), (34, .c (.slc 1 0 (List.length l5) (List.map (ecI .u8) l5))), (35, .c (.lit (.int .i64 ((List.length l5 : Int))))), (36, .c (.lit (.int .i64 (0))))], []⟩) (by kernel_rfl) (by kernel_rfl) ?_
          replace h := bindO h
          obtain ⟨y8, hl1, hK1⟩ := h
          refine TS_loopB (F_octets_Uint_l1 l5) ⟨[(8, []), (34, []), (35, []), (36, [])], []⟩ (fun (s6 : Int × Int) => [(8, .c (.lit (.int .u64 (s6.1)))), (36, .c (.lit (.int .i64 (s6.2))))]) (fun (s6 : Int × Int) => []) (0, 0) y8 (.exit 0) (fun (b : Int) => b) ⟨[(8, [])], []⟩ (fun (b7 : Int) => [(8, .c (.lit (.int .u64 (b7))))]) (fun (b7 : Int) => []) hl1 (by kernel_rfl) (by kernel_rfl) ?_ ?_
          · intro s6 x h hy1
            unfold F_octets_Uint_l1 at h
            refine TS_go 5 ?_
            replace h := condO h
            rcases h with ⟨hb9, h⟩ | ⟨hb9, h⟩
            · refine TS_know 37 (b := true) hb9 (by kernel_rfl) (by kernel_rfl) ?_
              refine TS_T (by kernel_rfl) rfl ?_
              refine TS_go 5 ?_
              replace h := bindO h
              obtain ⟨_e10, he10, h⟩ := h
              refine TS_idx (ecI .u8) he10 (by kernel_rfl) (by kernel_rfl) ?_
              refine TS_go 16 ?_
              have ret := Option.some.inj h
              subst ret
              exact TS_againB _ ⟨[(8, []), (34, []), (35, []), (36, [])], []⟩ rfl (by kernel_rfl) (by kernel_rfl)
            · refine TS_know 37 (b := false) hb9 (by kernel_rfl) (by kernel_rfl) ?_
              refine TS_F (by kernel_rfl) rfl ?_
              refine TS_go 2 ?_
              have ret := Option.some.inj h
              subst ret
              exact TS_brkB s6.1 ⟨[(8, [])], []⟩ rfl (by kernel_rfl) (by kernel_rfl) (by kernel_rfl)
          · intro b7 hb
            subst y8
            have h := hK1
            refine TS_go 8 ?_
            have ret := Option.some.inj h
            subst ret
            exact TS_ret (by kernel_rfl) (by kernel_rfl) (by kernel_rfl)

/-- (*multihop/frame.reader).next -/
noncomputable def F_frame_reader_next (a0 : S_frame_reader) (a1 : Int) : Option (Int × S_frame_reader) :=
  (F_octets_Uint a0.b 0 a1).bind fun v1 =>
  bif v1.2 then
    (subO a0.b a1 (List.length a0.b : Int)).bind fun l3 =>
    some ((v1.1, (S_frame_reader.mk l3 a0.bad)))
  else
    some ((0, (S_frame_reader.mk a0.b true)))
set_option maxRecDepth 100000 in
set_option maxHeartbeats 40000000 in
theorem ok_frame_reader_next (a0 : S_frame_reader) (a1 : Int) (r : Int × S_frame_reader) (h : F_frame_reader_next a0 a1 = some r) : Con Try.prog 65 [.c (.box 1000000 0), .c (.lit (.int .i64 (a1)))] [(1000000, .box (S_frame_reader.cs a0))] (.c (.lit (.int .u64 (r.1)))) [(1000000, .box (S_frame_reader.cs r.2))] := by
  unfold F_frame_reader_next at h
  refine con_of [] [(1000000, [2])] 31 Try.func65 rfl rfl (by kernel_rfl) (fun K => ?_)
  refine TS_go 11 ?_
  replace h := bindO h
  obtain ⟨v1, hv1, h⟩ := h
  refine TS_call [] (ok_octets_Uint a0.b 0 a1 v1 hv1) (by kernel_rfl) (by kernel_rfl) ?_
  refine TS_go 12 ?_
  replace h := condO h
  rcases h with ⟨hb2, h⟩ | ⟨hb2, h⟩
  · refine TS_know 15 (b := true) hb2 (by kernel_rfl) (by kernel_rfl) ?_
    refine TS_know 6 (b := true) hb2 (by kernel_rfl) (by kernel_rfl) ?_
    refine TS_know 16 (b := true) hb2 (by kernel_rfl) (by kernel_rfl) ?_
    refine TS_know 17 (b := false) (notF hb2) (by kernel_rfl) (by kernel_rfl) ?_
    refine TS_F (by kernel_rfl) rfl ?_
    refine TS_go 9 ?_
    replace h := bindO h
    obtain ⟨_l3, hl3, h⟩ := h
    refine TS_sub (ecI .u8) 1 hl3 (by kernel_rfl) (by kernel_rfl) ?_
    refine TS_go 10 ?_
    have ret := Option.some.inj h
    subst ret
    exact TS_ret (by kernel_rfl) (by kernel_rfl) (by kernel_rfl)
  · refine TS_know 15 (b := false) hb2 (by kernel_rfl) (by kernel_rfl) ?_
    refine TS_know 6 (b := false) hb2 (by kernel_rfl) (by kernel_rfl) ?_
    refine TS_know 16 (b := false) hb2 (by kernel_rfl) (by kernel_rfl) ?_
    refine TS_know 17 (b := true) (notT hb2) (by kernel_rfl) (by kernel_rfl) ?_
    refine TS_T (by kernel_rfl) rfl ?_
    refine TS_go 13 ?_
    have ret := Option.some.inj h
    subst ret
    exact TS_ret (by kernel_rfl) (by kernel_rfl) (by kernel_rfl)

/-- (*multihop/frame.reader).addr -/
noncomputable def F_frame_reader_addr_j1  (v1 : S_frame_reader × S_Addr) : Option (S_Addr × S_frame_reader) :=
  some ((v1.2, v1.1))
noncomputable def F_frame_reader_addr (a0 : S_frame_reader) (a1 : Int) : Option (S_Addr × S_frame_reader) :=
  bif (a1 == 2) then
    (F_frame_reader_next a0 2).bind fun v3 =>
    (F_frame_reader_addr_j1) (v3.2, (S_Addr.mk a1 (IntKind.wrap .u16 v3.1) 0))
  else
    bif (a1 == 3) then
      (F_frame_reader_next a0 8).bind fun v5 =>
      (F_frame_reader_addr_j1) (v5.2, (S_Addr.mk a1 0 v5.1))
    else
      (F_frame_reader_addr_j1) (a0, (S_Addr.mk a1 0 0))
set_option maxRecDepth 100000 in
set_option maxHeartbeats 40000000 in
theorem ok_frame_reader_addr (a0 : S_frame_reader) (a1 : Int) (r : S_Addr × S_frame_reader) (h : F_frame_reader_addr a0 a1 = some r) : Con Try.prog 66 [.c (.box 1000000 0), .c (.lit (.int .i64 (a1)))] [(1000000, .box (S_frame_reader.cs a0))] (.agg (S_Addr.cs r.1)) [(1000000, .box (S_frame_reader.cs r.2))] := by
  unfold F_frame_reader_addr at h
  refine con_of [] [(1000000, [2])] 21 Try.func66 rfl rfl (by kernel_rfl) (fun K => ?_)
  refine TS_go 11 ?_
  refine TS_cut ⟨[(0, []), (1, []), (4, []), (5, [])], [(1000000, (1000000, [])), (4, (4, [])), (5, (5, []))]⟩ (.mk [.code (codeAt [1, 1] (bodyOf Try.f66))] .normal ⟨[(0, .c (.box 1000000 0)), (1, .c (.lit (.int .i64 (a1)))), (4, .c (.box 4 0)), (5, .c (.box 5 0))], [(1000000, .box [.slc 1 0 (List.length a0.b) (List.map (ecI .u8) a0.b), .lit (.bool (a0.bad))]), (4, .box [.lit (.int .i64 (0)), .lit (.int .u16 (0)), .lit (.int .u64 (0))]), (5, .box [.lit (.int .i64 (a1)), .lit (.int .u16 (0)), .lit (.int .u64 (0))])]⟩) (by kernel_rfl) (by kernel_rfl) ?_
  refine TS_joinB ⟨[(4, []), (5, [])], [(1000000, (1000000, [])), (4, (4, [])), (5, (5, []))]⟩ (fun (v1 : S_frame_reader × S_Addr) => []) (fun (v1 : S_frame_reader × S_Addr) => [(1000000, .box (S_frame_reader.cs v1.1)), (5, .box (S_Addr.cs v1.2))]) (F_frame_reader_addr_j1) r ?_ ?_
  · clear h
    intro v1 h
    unfold F_frame_reader_addr_j1 at h
    refine TS_go 6 ?_
    have ret := Option.some.inj h
    subst ret
    exact TS_ret (by kernel_rfl) (by kernel_rfl) (by kernel_rfl)
  · refine TS_go 10 ?_
    replace h := condO h
    rcases h with ⟨hb2, h⟩ | ⟨hb2, h⟩
    · refine TS_know 10 (b := true) hb2 (by kernel_rfl) (by kernel_rfl) ?_
      refine TS_know 9 (b := true) hb2 (by kernel_rfl) (by kernel_rfl) ?_
      refine TS_T (by kernel_rfl) rfl ?_
      refine TS_go 2 ?_
      replace h := bindO h
      obtain ⟨v3, hv3, h⟩ := h
      refine TS_con [] [] (some (1000000, 0)) (ok_frame_reader_next a0 2 v3 hv3) (by kernel_rfl) (by kernel_rfl) (by kernel_rfl) ?_
      refine TS_go 5 ?_
      exact TS_meet (v3.2, (S_Addr.mk a1 (IntKind.wrap .u16 v3.1) 0)) ⟨[(4, []), (5, [])], [(1000000, (1000000, [])), (4, (4, [])), (5, (5, []))]⟩ h (by kernel_rfl) (by kernel_rfl)
    · refine TS_know 10 (b := false) hb2 (by kernel_rfl) (by kernel_rfl) ?_
      refine TS_know 9 (b := false) hb2 (by kernel_rfl) (by kernel_rfl) ?_
      refine TS_F (by kernel_rfl) rfl ?_
      refine TS_go 5 ?_
      replace h := condO h
      rcases h with ⟨hb4, h⟩ | ⟨hb4, h⟩
      · refine TS_know 16 (b := true) hb4 (by kernel_rfl) (by kernel_rfl) ?_
        refine TS_know 15 (b := true) hb4 (by kernel_rfl) (by kernel_rfl) ?_
        refine TS_T (by kernel_rfl) rfl ?_
        refine TS_go 2 ?_
        replace h := bindO h
        obtain ⟨v5, hv5, h⟩ := h
        refine TS_con [] [] (some (1000000, 0)) (ok_frame_reader_next a0 8 v5 hv5) (by kernel_rfl) (by kernel_rfl) (by kernel_rfl) ?_
        refine TS_go 4 ?_
        exact TS_meet (v5.2, (S_Addr.mk a1 0 v5.1)) ⟨[(4, []), (5, [])], [(1000000, (1000000, [])), (4, (4, [])), (5, (5, []))]⟩ h (by kernel_rfl) (by kernel_rfl)
      · refine TS_know 16 (b := false) hb4 (by kernel_rfl) (by kernel_rfl) ?_
        refine TS_know 15 (b := false) hb4 (by kernel_rfl) (by kernel_rfl) ?_
        refine TS_F (by kernel_rfl) rfl ?_
        refine TS_go 2 ?_
        exact TS_meet (a0, (S_Addr.mk a1 0 0)) ⟨[(4, []), (5, [])], [(1000000, (1000000, [])), (4, (4, [])), (5, (5, []))]⟩ h (by kernel_rfl) (by kernel_rfl)

/-- multihop/frame.parse -/
noncomputable def F_frame_parse_j3 (v5 : S_frame_reader × S_Frame) (v7 : Int) : Option (S_Frame × Bool) :=
  (subO v5.1.b 0 v7).bind fun l8 =>
  (appO 1 ([] : List Int) (Cut.app .whole l8)).bind fun l9 =>
  (subO v5.1.b v7 (List.length v5.1.b : Int)).bind fun l10 =>
  (appO 1 ([] : List Int) (Cut.app .whole l10)).bind fun l11 =>
  some (((S_Frame.mk v5.2.Kind v5.2.AckRequest v5.2.Pending v5.2.Secure v5.2.Seq v5.2.Pan v5.2.Dst v5.2.Src v5.2.Counter v5.2.Key l9 l11), true))
noncomputable def F_frame_parse_j2  (v5 : S_frame_reader × S_Frame) : Option (S_Frame × Bool) :=
  bif v5.1.bad then
    some (((S_Frame.mk 0 false false false 0 0 (S_Addr.mk 0 0 0) (S_Addr.mk 0 0 0) 0 0 ([] : List Int) ([] : List Int)), false))
  else
    bif v5.2.Secure then
      bif (decide ((IntKind.wrap .i64 ((List.length v5.1.b : Int) - 4)) < 0)) then
        some (((S_Frame.mk 0 false false false 0 0 (S_Addr.mk 0 0 0) (S_Addr.mk 0 0 0) 0 0 ([] : List Int) ([] : List Int)), false))
      else
        (F_frame_parse_j3 v5) (IntKind.wrap .i64 ((List.length v5.1.b : Int) - 4))
    else
      (F_frame_parse_j3 v5) (List.length v5.1.b : Int)
noncomputable def F_frame_parse_j1  (v4 : S_frame_reader × S_Frame) : Option (S_Frame × Bool) :=
  bif v4.2.Secure then
    (F_frame_reader_next v4.1 4).bind fun v15 =>
    (F_frame_reader_next v15.2 1).bind fun v16 =>
    (F_frame_parse_j2) (v16.2, (S_Frame.mk v4.2.Kind v4.2.AckRequest v4.2.Pending v4.2.Secure v4.2.Seq v4.2.Pan v4.2.Dst v4.2.Src (IntKind.wrap .u32 v15.1) (IntKind.wrap .u8 v16.1) v4.2.Payload v4.2.MIC))
  else
    (F_frame_parse_j2) (v4.1, v4.2)
noncomputable def F_frame_parse (a0 : List Int) : Option (S_Frame × Bool) :=
  (F_frame_reader_next (S_frame_reader.mk a0 false) 1).bind fun v1 =>
  (F_frame_reader_next v1.2 1).bind fun v2 =>
  (F_frame_reader_next v2.2 1).bind fun v3 =>
  bif ((IntKind.wrap .i64 (ishr .u8 (IntKind.wrap .u8 v1.1) 6)) != 2) then
    (F_frame_reader_next v3.2 2).bind fun v18 =>
    (F_frame_reader_addr v18.2 (IntKind.wrap .i64 (iand .u8 (ishr .u8 (IntKind.wrap .u8 v2.1) 6) 3))).bind fun v19 =>
    (F_frame_reader_addr v19.2 (IntKind.wrap .i64 (iand .u8 (ishr .u8 (IntKind.wrap .u8 v2.1) 4) 3))).bind fun v20 =>
    (F_frame_parse_j1) (v20.2, (S_Frame.mk (IntKind.wrap .i64 (ishr .u8 (IntKind.wrap .u8 v1.1) 6)) ((iand .u8 (IntKind.wrap .u8 v1.1) 32) != 0) ((iand .u8 (IntKind.wrap .u8 v1.1) 16) != 0) ((iand .u8 (IntKind.wrap .u8 v1.1) 8) != 0) (IntKind.wrap .u8 v3.1) (IntKind.wrap .u16 v18.1) v19.1 v20.1 0 0 ([] : List Int) ([] : List Int)))
  else
    (F_frame_parse_j1) (v3.2, (S_Frame.mk (IntKind.wrap .i64 (ishr .u8 (IntKind.wrap .u8 v1.1) 6)) ((iand .u8 (IntKind.wrap .u8 v1.1) 32) != 0) ((iand .u8 (IntKind.wrap .u8 v1.1) 16) != 0) ((iand .u8 (IntKind.wrap .u8 v1.1) 8) != 0) (IntKind.wrap .u8 v3.1) 0 (S_Addr.mk 0 0 0) (S_Addr.mk 0 0 0) 0 0 ([] : List Int) ([] : List Int)))
set_option maxRecDepth 100000 in
set_option maxHeartbeats 40000000 in
theorem okT_frame_parse (a0 : List Int) (r : S_Frame × Bool) (h : F_frame_parse a0 = some r) : Con Try.prog 41 [.c (eS 1 (ecI .u8) (a0))] [] (.tup [(true, [.lit (.int .i64 (r.1.Kind)), .lit (.bool (r.1.AckRequest)), .lit (.bool (r.1.Pending)), .lit (.bool (r.1.Secure)), .lit (.int .u8 (r.1.Seq)), .lit (.int .u16 (r.1.Pan)), .lit (.int .i64 (r.1.Dst.Mode)), .lit (.int .u16 (r.1.Dst.Short)), .lit (.int .u64 (r.1.Dst.EUI)), .lit (.int .i64 (r.1.Src.Mode)), .lit (.int .u16 (r.1.Src.Short)), .lit (.int .u64 (r.1.Src.EUI)), .lit (.int .u32 (r.1.Counter)), .lit (.int .u8 (r.1.Key)), .slc 1 900016 (List.length r.1.Payload) (List.map (ecI .u8) r.1.Payload), .slc 1 900017 (List.length r.1.MIC) (List.map (ecI .u8) r.1.MIC)]), (false, [.lit (.bool (r.2))])]) [(900014, .spare 5 1 (List.length r.1.Payload)), (900015, .spare 5 1 (List.length r.1.MIC))] := by
  unfold F_frame_parse at h
  refine con_of [] [(900014, []), (900015, [])] 92 Try.func41 rfl rfl (by kernel_rfl) (fun K => ?_)
  refine TS_go 14 ?_
  replace h := bindO h
  obtain ⟨v1, hv1, h⟩ := h
  refine TS_con [] [] (some (4, 0)) (ok_frame_reader_next (S_frame_reader.mk a0 false) 1 v1 hv1) (by kernel_rfl) (by kernel_rfl) (by kernel_rfl) ?_
  refine TS_go 1 ?_
  replace h := bindO h
  obtain ⟨v2, hv2, h⟩ := h
  refine TS_con [] [] (some (4, 0)) (ok_frame_reader_next v1.2 1 v2 hv2) (by kernel_rfl) (by kernel_rfl) (by kernel_rfl) ?_
  refine TS_go 18 ?_
  replace h := bindO h
  obtain ⟨v3, hv3, h⟩ := h
  refine TS_con [] [] (some (4, 0)) (ok_frame_reader_next v2.2 1 v3 hv3) (by kernel_rfl) (by kernel_rfl) (by kernel_rfl) ?_
  refine TS_go 5 ?_
  refine TS_cut ⟨[(2, []), (4, []), (6, []), (7, [])], [(2, (2, [])), (4, (4, [])), (7, (7, []))]⟩ (.mk [.code (codeAt [1, 1, 1, 1] (bodyOf Try.f41))] .normal ⟨[(2, .c (.box 2 0)), (4, .c (.box 4 0)), (6, .c (.lit (.int .u8 (IntKind.wrap .u8 v2.1)))), (7, .c (.box 7 0))], [(2, .box [.lit (.int .i64 (0)), .lit (.bool (false)), .lit (.bool (false)), .lit (.bool (false)), .lit (.int .u8 (0)), .lit (.int .u16 (0)), .lit (.int .i64 (0)), .lit (.int .u16 (0)), .lit (.int .u64 (0)), .lit (.int .i64 (0)), .lit (.int .u16 (0)), .lit (.int .u64 (0)), .lit (.int .u32 (0)), .lit (.int .u8 (0)), .lit (.slice none 0 0), .lit (.slice none 0 0)]), (4, .box [.slc 1 0 (List.length v3.2.b) (List.map (ecI .u8) v3.2.b), .lit (.bool (v3.2.bad))]), (7, .box [.lit (.int .i64 (IntKind.wrap .i64 (ishr .u8 (IntKind.wrap .u8 v1.1) 6))), .lit (.bool (((iand .u8 (IntKind.wrap .u8 v1.1) 32) != 0))), .lit (.bool (((iand .u8 (IntKind.wrap .u8 v1.1) 16) != 0))), .lit (.bool (((iand .u8 (IntKind.wrap .u8 v1.1) 8) != 0))), .lit (.int .u8 (IntKind.wrap .u8 v3.1)), .lit (.int .u16 (0)), .lit (.int .i64 (0)), .lit (.int .u16 (0)), .lit (.int .u64 (0)), .lit (.int .i64 (0)), .lit (.int .u16 (0)), .lit (.int .u64 (0)), .lit (.int .u32 (0)), .lit (.int .u8 (0)), .lit (.slice none 0 0), .lit (.slice none 0 0)])]⟩) (by kernel_rfl) (by kernel_rfl) ?_
  refine TS_joinB ⟨[(2, []), (4, []), (7, [])], [(2, (2, [])), (4, (4, [])), (7, (7, [0, 0, 0, 0, 0, 0, 0, 0, 0, 0, 0, 0, 0, 0, 2, 2]))]⟩ (fun (v4 : S_frame_reader × S_Frame) => []) (fun (v4 : S_frame_reader × S_Frame) => [(4, .box (S_frame_reader.cs v4.1)), (7, .box (S_Frame.cs v4.2))]) (F_frame_parse_j1) r ?_ ?_
  · clear h
    intro v4 h
    unfold F_frame_parse_j1 at h
    refine TS_cut ⟨[(2, []), (4, []), (7, [])], [(2, (2, [])), (4, (4, [])), (7, (7, []))]⟩ (.mk [.code (codeAt [1, 1, 1, 1, 1] (bodyOf Try.f41))] .normal ⟨[(2, .c (.box 2 0)), (4, .c (.box 4 0)), (7, .c (.box 7 0))], [(2, .box [.lit (.int .i64 (0)), .lit (.bool (false)), .lit (.bool (false)), .lit (.bool (false)), .lit (.int .u8 (0)), .lit (.int .u16 (0)), .lit (.int .i64 (0)), .lit (.int .u16 (0)), .lit (.int .u64 (0)), .lit (.int .i64 (0)), .lit (.int .u16 (0)), .lit (.int .u64 (0)), .lit (.int .u32 (0)), .lit (.int .u8 (0)), .lit (.slice none 0 0), .lit (.slice none 0 0)]), (4, .box [.slc 1 0 (List.length v4.1.b) (List.map (ecI .u8) v4.1.b), .lit (.bool (v4.1.bad))]), (7, .box [.lit (.int .i64 (v4.2.Kind)), .lit (.bool (v4.2.AckRequest)), .lit (.bool (v4.2.Pending)), .lit (.bool (v4.2.Secure)), .lit (.int .u8 (v4.2.Seq)), .lit (.int .u16 (v4.2.Pan)), .lit (.int .i64 (v4.2.Dst.Mode)), .lit (.int .u16 (v4.2.Dst.Short)), .lit (.int .u64 (v4.2.Dst.EUI)), .lit (.int .i64 (v4.2.Src.Mode)), .lit (.int .u16 (v4.2.Src.Short)), .lit (.int .u64 (v4.2.Src.EUI)), .lit (.int .u32 (v4.2.Counter)), .lit (.int .u8 (v4.2.Key)), .slc 1 0 (List.length v4.2.Payload) (List.map (ecI .u8) v4.2.Payload), .slc 1 0 (List.length v4.2.MIC) (List.map (ecI .u8) v4.2.MIC)])]⟩) (by kernel_rfl) (by kernel_rfl) ?_
    refine TS_joinB ⟨[(2, []), (4, []), (7, [])], [(2, (2, [])), (4, (4, [])), (7, (7, []))]⟩ (fun (v5 : S_frame_reader × S_Frame) => []) (fun (v5 : S_frame_reader × S_Frame) => [(4, .box (S_frame_reader.cs v5.1)), (7, .box (S_Frame.cs v5.2))]) (F_frame_parse_j2) r ?_ ?_
    · clear h
      intro v5 h
      unfold F_frame_parse_j2 at h
      refine TS_go 6 ?_
      replace h := condO h
      rcases h with ⟨hb6, h⟩ | ⟨hb6, h⟩
      · refine TS_know 67 (b := true) hb6 (by kernel_rfl) (by kernel_rfl) ?_
        refine TS_T (by kernel_rfl) rfl ?_
        refine TS_go 6 ?_
        refine TS_nilB 2 14 600000 5 1 (by kernel_rfl) ?_
        refine TS_nilB 2 15 600001 5 1 (by kernel_rfl) ?_
        refine TS_fitU ⟨[(2, []), (3, [])], [(600000, (900014, [])), (600001, (900015, [])), (2, (2, []))]⟩ (by kernel_rfl) ?_
        refine TS_go 2 ?_
        have ret := Option.some.inj h
        subst ret
        exact TS_ret (by kernel_rfl) (by kernel_rfl) (by kernel_rfl)
      · refine TS_know 67 (b := false) hb6 (by kernel_rfl) (by kernel_rfl) ?_
        refine TS_F (by kernel_rfl) rfl ?_
        refine TS_go 8 ?_
        refine TS_cut ⟨[(2, []), (4, []), (7, []), (10, [])], [(2, (2, [])), (4, (4, [])), (7, (7, []))]⟩ (.mk [.code (codeAt [1, 1, 1, 1, 1, 1, 1, 1] (bodyOf Try.f41))] .normal ⟨[(2, .c (.box 2 0)), (4, .c (.box 4 0)), (7, .c (.box 7 0)), (10, .c (.lit (.int .i64 ((List.length v5.1.b : Int)))))], [(2, .box [.lit (.int .i64 (0)), .lit (.bool (false)), .lit (.bool (false)), .lit (.bool (false)), .lit (.int .u8 (0)), .lit (.int .u16 (0)), .lit (.int .i64 (0)), .lit (.int .u16 (0)), .lit (.int .u64 (0)), .lit (.int .i64 (0)), .lit (.int .u16 (0)), .lit (.int .u64 (0)), .lit (.int .u32 (0)), .lit (.int .u8 (0)), .lit (.slice none 0 0), .lit (.slice none 0 0)]), (4, .box [.slc 1 0 (List.length v5.1.b) (List.map (ecI .u8) v5.1.b), .lit (.bool (v5.1.bad))]), (7, .box [.lit (.int .i64 (v5.2.Kind)), .lit (.bool (v5.2.AckRequest)), .lit (.bool (v5.2.Pending)), .lit (.bool (v5.2.Secure)), .lit (.int .u8 (v5.2.Seq)), .lit (.int .u16 (v5.2.Pan)), .lit (.int .i64 (v5.2.Dst.Mode)), .lit (.int .u16 (v5.2.Dst.Short)), .lit (.int .u64 (v5.2.Dst.EUI)), .lit (.int .i64 (v5.2.Src.Mode)), .lit (.int .u16 (v5.2.Src.Short)), .lit (.int .u64 (v5.2.Src.EUI)), .lit (.int .u32 (v5.2.Counter)), .lit (.int .u8 (v5.2.Key)), .slc 1 0 (List.length v5.2.Payload) (List.map (ecI .u8) v5.2.Payload), .slc 1 0 (List.length v5.2.MIC) (List.map (ecI .u8) v5.2.MIC)])]⟩) (by kernel_rfl) (by kernel_rfl) ?_
        refine TS_joinB ⟨[(2, []), (4, []), (7, []), (10, [])], [(2, (2, [])), (4, (4, [])), (7, (7, []))]⟩ (fun (v7 : Int) => [(10, .c (.lit (.int .i64 (v7))))]) (fun (v7 : Int) => []) (F_frame_parse_j3 v5) r ?_ ?_
        · clear h
          intro v7 h
          unfold F_frame_parse_j3 at h
          refine TS_go 5 ?_
          replace h := bindO h
          obtain ⟨l8, hl8, h⟩ := h
          refine TS_sub (ecI .u8) 1 hl8 (by kernel_rfl) (by kernel_rfl) ?_
          replace h := bindO h
          obtain ⟨_l9, hl9, h⟩ := h
          refine TS_appNT 83 5 1 (ecI .u8) (fun _ => by kernel_rfl) (l2 := l8) .whole hl9 (by kernel_rfl) (by kernel_rfl) ?_
          refine TS_go 8 ?_
          replace h := bindO h
          obtain ⟨l10, hl10, h⟩ := h
          refine TS_sub (ecI .u8) 1 hl10 (by kernel_rfl) (by kernel_rfl) ?_
          replace h := bindO h
          obtain ⟨_l11, hl11, h⟩ := h
          refine TS_appNT 89 5 1 (ecI .u8) (fun _ => by kernel_rfl) (l2 := l10) .whole hl11 (by kernel_rfl) (by kernel_rfl) ?_
          refine TS_go 9 ?_
          refine TS_fitU ⟨[(2, []), (3, [])], [(83, (900014, [])), (89, (900015, [])), (2, (2, []))]⟩ (by kernel_rfl) ?_
          refine TS_go 1 ?_
          have ret := Option.some.inj h
          subst ret
          exact TS_ret (by kernel_rfl) (by kernel_rfl) (by kernel_rfl)
        · refine TS_go 5 ?_
          replace h := condO h
          rcases h with ⟨hb12, h⟩ | ⟨hb12, h⟩
          · refine TS_know 73 (b := true) hb12 (by kernel_rfl) (by kernel_rfl) ?_
            refine TS_T (by kernel_rfl) rfl ?_
            refine TS_go 11 ?_
            replace h := condO h
            rcases h with ⟨hb13, h⟩ | ⟨hb13, h⟩
            · refine TS_know 77 (b := true) hb13 (by kernel_rfl) (by kernel_rfl) ?_
              refine TS_T (by kernel_rfl) rfl ?_
              refine TS_go 6 ?_
              refine TS_nilB 2 14 600000 5 1 (by kernel_rfl) ?_
              refine TS_nilB 2 15 600001 5 1 (by kernel_rfl) ?_
              refine TS_fitU ⟨[(2, []), (3, [])], [(600000, (900014, [])), (600001, (900015, [])), (2, (2, []))]⟩ (by kernel_rfl) ?_
              refine TS_go 1 ?_
              refine TS_outJ (by kernel_rfl) ?_
              have ret := Option.some.inj h
              subst ret
              exact TS_ret (by kernel_rfl) (by kernel_rfl) (by kernel_rfl)
            · refine TS_know 77 (b := false) hb13 (by kernel_rfl) (by kernel_rfl) ?_
              refine TS_F (by kernel_rfl) rfl ?_
              refine TS_go 1 ?_
              exact TS_meet (IntKind.wrap .i64 ((List.length v5.1.b : Int) - 4)) ⟨[(2, []), (4, []), (7, []), (10, [])], [(2, (2, [])), (4, (4, [])), (7, (7, []))]⟩ h (by kernel_rfl) (by kernel_rfl)
          · refine TS_know 73 (b := false) hb12 (by kernel_rfl) (by kernel_rfl) ?_
            refine TS_F (by kernel_rfl) rfl ?_
            refine TS_go 1 ?_
            exact TS_meet (List.length v5.1.b : Int) ⟨[(2, []), (4, []), (7, []), (10, [])], [(2, (2, [])), (4, (4, [])), (7, (7, []))]⟩ h (by kernel_rfl) (by kernel_rfl)
    · refine TS_go 5 ?_
      replace h := condO h
      rcases h with ⟨hb14, h⟩ | ⟨hb14, h⟩
      · refine TS_know 59 (b := true) hb14 (by kernel_rfl) (by kernel_rfl) ?_
        refine TS_T (by kernel_rfl) rfl ?_
        refine TS_go 2 ?_
        replace h := bindO h
        obtain ⟨v15, hv15, h⟩ := h
        refine TS_con [] [] (some (4, 0)) (ok_frame_reader_next v4.1 4 v15 hv15) (by kernel_rfl) (by kernel_rfl) (by kernel_rfl) ?_
        refine TS_go 5 ?_
        replace h := bindO h
        obtain ⟨v16, hv16, h⟩ := h
        refine TS_con [] [] (some (4, 0)) (ok_frame_reader_next v15.2 1 v16 hv16) (by kernel_rfl) (by kernel_rfl) (by kernel_rfl) ?_
        refine TS_go 4 ?_
        exact TS_meet (v16.2, (S_Frame.mk v4.2.Kind v4.2.AckRequest v4.2.Pending v4.2.Secure v4.2.Seq v4.2.Pan v4.2.Dst v4.2.Src (IntKind.wrap .u32 v15.1) (IntKind.wrap .u8 v16.1) v4.2.Payload v4.2.MIC)) ⟨[(2, []), (4, []), (7, [])], [(2, (2, [])), (4, (4, [])), (7, (7, []))]⟩ h (by kernel_rfl) (by kernel_rfl)
      · refine TS_know 59 (b := false) hb14 (by kernel_rfl) (by kernel_rfl) ?_
        refine TS_F (by kernel_rfl) rfl ?_
        refine TS_go 1 ?_
        exact TS_meet (v4.1, v4.2) ⟨[(2, []), (4, []), (7, [])], [(2, (2, [])), (4, (4, [])), (7, (7, []))]⟩ h (by kernel_rfl) (by kernel_rfl)
  · refine TS_go 6 ?_
    replace h := condO h
    rcases h with ⟨hb17, h⟩ | ⟨hb17, h⟩
    · refine TS_know 34 (b := true) hb17 (by kernel_rfl) (by kernel_rfl) ?_
      refine TS_T (by kernel_rfl) rfl ?_
      refine TS_go 2 ?_
      replace h := bindO h
      obtain ⟨v18, hv18, h⟩ := h
      refine TS_con [] [] (some (4, 0)) (ok_frame_reader_next v3.2 2 v18 hv18) (by kernel_rfl) (by kernel_rfl) (by kernel_rfl) ?_
      refine TS_go 14 ?_
      refine TS_cut ⟨[(2, []), (4, []), (6, []), (7, []), (8, []), (38, [])], [(2, (2, [])), (4, (4, [])), (7, (7, [])), (8, (8, []))]⟩ (.mk [.code (codeAt [1, 1, 1, 1, 0, 1, 0, 1, 1, 0, 1, 0] (bodyOf Try.f41)), .blk 0, .code (codeAt [1, 1, 1, 1, 0, 1, 0, 1, 1, 1] (bodyOf Try.f41))] .normal ⟨[(2, .c (.box 2 0)), (4, .c (.box 4 0)), (6, .c (.lit (.int .u8 (IntKind.wrap .u8 v2.1)))), (7, .c (.box 7 0)), (8, .c (.box 8 0)), (38, .c (.lit (.int .i64 (0))))], [(2, .box [.lit (.int .i64 (0)), .lit (.bool (false)), .lit (.bool (false)), .lit (.bool (false)), .lit (.int .u8 (0)), .lit (.int .u16 (0)), .lit (.int .i64 (0)), .lit (.int .u16 (0)), .lit (.int .u64 (0)), .lit (.int .i64 (0)), .lit (.int .u16 (0)), .lit (.int .u64 (0)), .lit (.int .u32 (0)), .lit (.int .u8 (0)), .lit (.slice none 0 0), .lit (.slice none 0 0)]), (4, .box [.slc 1 0 (List.length v18.2.b) (List.map (ecI .u8) v18.2.b), .lit (.bool (v18.2.bad))]), (7, .box [.lit (.int .i64 (IntKind.wrap .i64 (ishr .u8 (IntKind.wrap .u8 v1.1) 6))), .lit (.bool (((iand .u8 (IntKind.wrap .u8 v1.1) 32) != 0))), .lit (.bool (((iand .u8 (IntKind.wrap .u8 v1.1) 16) != 0))), .lit (.bool (((iand .u8 (IntKind.wrap .u8 v1.1) 8) != 0))), .lit (.int .u8 (IntKind.wrap .u8 v3.1)), .lit (.int .u16 (IntKind.wrap .u16 v18.1)), .lit (.int .i64 (0)), .lit (.int .u16 (0)), .lit (.int .u64 (0)), .lit (.int .i64 (0)), .lit (.int .u16 (0)), .lit (.int .u64 (0)), .lit (.int .u32 (0)), .lit (.int .u8 (0)), .lit (.slice none 0 0), .lit (.slice none 0 0)]), (8, .box [.lit (.int .i64 (0)), .lit (.int .u16 (0)), .lit (.int .u64 (0)), .lit (.int .i64 (0)), .lit (.int .u16 (0)), .lit (.int .u64 (0))])]⟩) (by kernel_rfl) (by kernel_rfl) ?_
      refine TS_unr 16 (by kernel_rfl) ?_
      refine TS_go 5 ?_
      refine TS_T (by kernel_rfl) rfl ?_
      refine TS_go 17 ?_
      replace h := bindO h
      obtain ⟨v19, hv19, h⟩ := h
      refine TS_con [] [] (some (4, 0)) (ok_frame_reader_addr v18.2 (IntKind.wrap .i64 (iand .u8 (ishr .u8 (IntKind.wrap .u8 v2.1) 6) 3)) v19 hv19) (by kernel_rfl) (by kernel_rfl) (by kernel_rfl) ?_
      refine TS_go 8 ?_
      refine TS_unrN (by kernel_rfl) (by kernel_rfl) ?_
      refine TS_go 5 ?_
      refine TS_T (by kernel_rfl) rfl ?_
      refine TS_go 17 ?_
      replace h := bindO h
      obtain ⟨v20, hv20, h⟩ := h
      refine TS_con [] [] (some (4, 0)) (ok_frame_reader_addr v19.2 (IntKind.wrap .i64 (iand .u8 (ishr .u8 (IntKind.wrap .u8 v2.1) 4) 3)) v20 hv20) (by kernel_rfl) (by kernel_rfl) (by kernel_rfl) ?_
      refine TS_go 8 ?_
      refine TS_unrN (by kernel_rfl) (by kernel_rfl) ?_
      refine TS_go 5 ?_
      refine TS_F (by kernel_rfl) rfl ?_
      refine TS_go 2 ?_
      refine TS_unrX (by kernel_rfl) ?_
      refine TS_go 1 ?_
      refine TS_draw (by kernel_rfl) ?_
      refine TD_go 8 ?_
      refine TD_end (by kernel_rfl) ?_
      exact TS_meet (v20.2, (S_Frame.mk (IntKind.wrap .i64 (ishr .u8 (IntKind.wrap .u8 v1.1) 6)) ((iand .u8 (IntKind.wrap .u8 v1.1) 32) != 0) ((iand .u8 (IntKind.wrap .u8 v1.1) 16) != 0) ((iand .u8 (IntKind.wrap .u8 v1.1) 8) != 0) (IntKind.wrap .u8 v3.1) (IntKind.wrap .u16 v18.1) v19.1 v20.1 0 0 ([] : List Int) ([] : List Int))) ⟨[(2, []), (4, []), (7, [])], [(2, (2, [])), (4, (4, [])), (7, (7, [0, 0, 0, 0, 0, 0, 0, 0, 0, 0, 0, 0, 0, 0, 2, 2]))]⟩ h (by kernel_rfl) (by kernel_rfl)
    · refine TS_know 34 (b := false) hb17 (by kernel_rfl) (by kernel_rfl) ?_
      refine TS_F (by kernel_rfl) rfl ?_
      refine TS_go 1 ?_
      exact TS_meet (v3.2, (S_Frame.mk (IntKind.wrap .i64 (ishr .u8 (IntKind.wrap .u8 v1.1) 6)) ((iand .u8 (IntKind.wrap .u8 v1.1) 32) != 0) ((iand .u8 (IntKind.wrap .u8 v1.1) 16) != 0) ((iand .u8 (IntKind.wrap .u8 v1.1) 8) != 0) (IntKind.wrap .u8 v3.1) 0 (S_Addr.mk 0 0 0) (S_Addr.mk 0 0 0) 0 0 ([] : List Int) ([] : List Int))) ⟨[(2, []), (4, []), (7, [])], [(2, (2, [])), (4, (4, [])), (7, (7, [0, 0, 0, 0, 0, 0, 0, 0, 0, 0, 0, 0, 0, 0, 2, 2]))]⟩ h (by kernel_rfl) (by kernel_rfl)
/-- bytes.Equal -/
noncomputable def F_bytes_Equal (a0 : List Int) (a1 : List Int) : Option (Bool) :=
  some (((u8L (Cut.app .whole a0)) == (u8L (Cut.app .whole a1))))
set_option maxRecDepth 100000 in
set_option maxHeartbeats 40000000 in
theorem ok_bytes_Equal (a0 : List Int) (a1 : List Int) (r : Bool) (h : F_bytes_Equal a0 a1 = some r) : Con Try.prog 42 [.c (eS 1 (ecI .u8) (a0)), .c (eS 1 (ecI .u8) (a1))] [] (.c (.lit (.bool (r)))) [] := by
  unfold F_bytes_Equal at h
  refine con_of [] [] 10 Try.func42 rfl rfl (by kernel_rfl) (fun K => ?_)
  refine TS_go 7 ?_
  refine TS_b2s a0 .whole (by kernel_rfl) (by kernel_rfl) ?_
  refine TS_go 1 ?_
  refine TS_b2s a1 .whole (by kernel_rfl) (by kernel_rfl) ?_
  refine TS_str .eql (u8L (Cut.app .whole a0)) (u8L (Cut.app .whole a1)) rfl (by kernel_rfl) (by kernel_rfl) ?_
  refine TS_go 3 ?_
  have ret := Option.some.inj h
  subst ret
  exact TS_ret (by kernel_rfl) (by kernel_rfl) (by kernel_rfl)

/-- multihop/frame.Decode -/
noncomputable def F_frame_Decode (a0 : List Int) : Option (S_Frame × Int) :=
  bif (decide ((List.length a0 : Int) > 127)) then
    some (((S_Frame.mk 0 false false false 0 0 (S_Addr.mk 0 0 0) (S_Addr.mk 0 0 0) 0 0 ([] : List Int) ([] : List Int)), 3))
  else
    bif (decide ((List.length a0 : Int) < 5)) then
      some (((S_Frame.mk 0 false false false 0 0 (S_Addr.mk 0 0 0) (S_Addr.mk 0 0 0) 0 0 ([] : List Int) ([] : List Int)), 4))
    else
      (F_checksum_Check a0).bind fun v3 =>
      bif v3 then
        (subO a0 0 (IntKind.wrap .i64 ((List.length a0 : Int) - 2))).bind fun l5 =>
        (F_frame_parse l5).bind fun v6 =>
        bif v6.2 then
          (F_frame_Encode v6.1).bind fun v8 =>
          bif (v8.2 != 0) then
            some (((S_Frame.mk 0 false false false 0 0 (S_Addr.mk 0 0 0) (S_Addr.mk 0 0 0) 0 0 ([] : List Int) ([] : List Int)), 5))
          else
            (F_bytes_Equal v8.1 a0).bind fun v10 =>
            bif v10 then
              some ((v6.1, 0))
            else
              some (((S_Frame.mk 0 false false false 0 0 (S_Addr.mk 0 0 0) (S_Addr.mk 0 0 0) 0 0 ([] : List Int) ([] : List Int)), 5))
        else
          some (((S_Frame.mk 0 false false false 0 0 (S_Addr.mk 0 0 0) (S_Addr.mk 0 0 0) 0 0 ([] : List Int) ([] : List Int)), 5))
      else
        some (((S_Frame.mk 0 false false false 0 0 (S_Addr.mk 0 0 0) (S_Addr.mk 0 0 0) 0 0 ([] : List Int) ([] : List Int)), 6))
set_option maxRecDepth 100000 in
set_option maxHeartbeats 40000000 in
theorem okT_frame_Decode (a0 : List Int) (r : S_Frame × Int) (h : F_frame_Decode a0 = some r) : Con Try.prog 19 [.c (eS 1 (ecI .u8) (a0))] [] (.tup [(true, [.lit (.int .i64 (r.1.Kind)), .lit (.bool (r.1.AckRequest)), .lit (.bool (r.1.Pending)), .lit (.bool (r.1.Secure)), .lit (.int .u8 (r.1.Seq)), .lit (.int .u16 (r.1.Pan)), .lit (.int .i64 (r.1.Dst.Mode)), .lit (.int .u16 (r.1.Dst.Short)), .lit (.int .u64 (r.1.Dst.EUI)), .lit (.int .i64 (r.1.Src.Mode)), .lit (.int .u16 (r.1.Src.Short)), .lit (.int .u64 (r.1.Src.EUI)), .lit (.int .u32 (r.1.Counter)), .lit (.int .u8 (r.1.Key)), .slc 1 900016 (List.length r.1.Payload) (List.map (ecI .u8) r.1.Payload), .slc 1 900017 (List.length r.1.MIC) (List.map (ecI .u8) r.1.MIC)]), (false, [.lit (.int .i64 (r.2))])]) [(900014, .spare 5 1 (List.length r.1.Payload)), (900015, .spare 5 1 (List.length r.1.MIC))] := by
  unfold F_frame_Decode at h
  refine con_of [] [(900014, []), (900015, [])] 50 Try.func19 rfl rfl (by kernel_rfl) (fun K => ?_)
  refine TS_go 14 ?_
  replace h := condO h
  rcases h with ⟨hb1, h⟩ | ⟨hb1, h⟩
  · refine TS_know 11 (b := true) hb1 (by kernel_rfl) (by kernel_rfl) ?_
    refine TS_know 8 (b := true) hb1 (by kernel_rfl) (by kernel_rfl) ?_
    refine TS_T (by kernel_rfl) rfl ?_
    refine TS_go 6 ?_
    refine TS_nilB 2 14 600000 5 1 (by kernel_rfl) ?_
    refine TS_nilB 2 15 600001 5 1 (by kernel_rfl) ?_
    refine TS_fitU ⟨[(2, []), (3, [])], [(600000, (900014, [])), (600001, (900015, [])), (2, (2, []))]⟩ (by kernel_rfl) ?_
    refine TS_go 3 ?_
    have ret := Option.some.inj h
    subst ret
    exact TS_ret (by kernel_rfl) (by kernel_rfl) (by kernel_rfl)
  · refine TS_know 11 (b := false) hb1 (by kernel_rfl) (by kernel_rfl) ?_
    refine TS_know 8 (b := false) hb1 (by kernel_rfl) (by kernel_rfl) ?_
    refine TS_F (by kernel_rfl) rfl ?_
    refine TS_go 7 ?_
    replace h := condO h
    rcases h with ⟨hb2, h⟩ | ⟨hb2, h⟩
    · refine TS_know 16 (b := true) hb2 (by kernel_rfl) (by kernel_rfl) ?_
      refine TS_know 13 (b := true) hb2 (by kernel_rfl) (by kernel_rfl) ?_
      refine TS_T (by kernel_rfl) rfl ?_
      refine TS_go 6 ?_
      refine TS_nilB 2 14 600000 5 1 (by kernel_rfl) ?_
      refine TS_nilB 2 15 600001 5 1 (by kernel_rfl) ?_
      refine TS_fitU ⟨[(2, []), (3, [])], [(600000, (900014, [])), (600001, (900015, [])), (2, (2, []))]⟩ (by kernel_rfl) ?_
      refine TS_go 3 ?_
      have ret := Option.some.inj h
      subst ret
      exact TS_ret (by kernel_rfl) (by kernel_rfl) (by kernel_rfl)
    · refine TS_know 16 (b := false) hb2 (by kernel_rfl) (by kernel_rfl) ?_
      refine TS_know 13 (b := false) hb2 (by kernel_rfl) (by kernel_rfl) ?_
      refine TS_F (by kernel_rfl) rfl ?_
      refine TS_go 3 ?_
      replace h := bindO h
      obtain ⟨v3, hv3, h⟩ := h
      refine TS_call [] (ok_checksum_Check a0 v3 hv3) (by kernel_rfl) (by kernel_rfl) ?_
      refine TS_go 3 ?_
      replace h := condO h
      rcases h with ⟨hb4, h⟩ | ⟨hb4, h⟩
      · subst hb4
        refine TS_F (by kernel_rfl) rfl ?_
        refine TS_go 8 ?_
        replace h := bindO h
        obtain ⟨l5, hl5, h⟩ := h
        refine TS_sub (ecI .u8) 1 hl5 (by kernel_rfl) (by kernel_rfl) ?_
        replace h := bindO h
        obtain ⟨v6, hv6, h⟩ := h
        refine TS_con [] [(29, 900014), (600000, 900015)] none (okT_frame_parse l5 v6 hv6) (by kernel_rfl) (by kernel_rfl) (by kernel_rfl) ?_
        refine TS_go 13 ?_
        replace h := condO h
        rcases h with ⟨hb7, h⟩ | ⟨hb7, h⟩
        · refine TS_know 31 (b := true) hb7 (by kernel_rfl) (by kernel_rfl) ?_
          refine TS_know 5 (b := true) hb7 (by kernel_rfl) (by kernel_rfl) ?_
          refine TS_know 32 (b := true) hb7 (by kernel_rfl) (by kernel_rfl) ?_
          refine TS_know 33 (b := false) (notF hb7) (by kernel_rfl) (by kernel_rfl) ?_
          refine TS_F (by kernel_rfl) rfl ?_
          refine TS_go 4 ?_
          replace h := bindO h
          obtain ⟨v8, hv8, h⟩ := h
          refine TS_con [[0, 0, 0, 0, 0, 0, 0, 0, 0, 0, 0, 0, 0, 0, 2, 2]] [(37, 900000)] none (okT_frame_Encode v6.1 v8 hv8) (by kernel_rfl) (by kernel_rfl) (by kernel_rfl) ?_
          refine TS_go 12 ?_
          replace h := condO h
          rcases h with ⟨hb9, h⟩ | ⟨hb9, h⟩
          · refine TS_know 41 (b := true) hb9 (by kernel_rfl) (by kernel_rfl) ?_
            refine TS_know 42 (b := true) hb9 (by kernel_rfl) (by kernel_rfl) ?_
            refine TS_go 6 ?_
            refine TS_T (by kernel_rfl) rfl ?_
            refine TS_go 6 ?_
            refine TS_nilB 2 14 600001 5 1 (by kernel_rfl) ?_
            refine TS_nilB 2 15 600002 5 1 (by kernel_rfl) ?_
            refine TS_fitU ⟨[(2, []), (3, [])], [(600001, (900014, [])), (600002, (900015, [])), (2, (2, []))]⟩ (by kernel_rfl) ?_
            refine TS_go 2 ?_
            have ret := Option.some.inj h
            subst ret
            exact TS_ret (by kernel_rfl) (by kernel_rfl) (by kernel_rfl)
          · refine TS_know 41 (b := false) hb9 (by kernel_rfl) (by kernel_rfl) ?_
            refine TS_know 42 (b := false) hb9 (by kernel_rfl) (by kernel_rfl) ?_
            refine TS_go 2 ?_
            replace h := bindO h
            obtain ⟨v10, hv10, h⟩ := h
            refine TS_call [[2]] (ok_bytes_Equal v8.1 a0 v10 hv10) (by kernel_rfl) (by kernel_rfl) ?_
            refine TS_go 3 ?_
            replace h := condO h
            rcases h with ⟨hb11, h⟩ | ⟨hb11, h⟩
            · subst hb11
              refine TS_F (by kernel_rfl) rfl ?_
              refine TS_go 7 ?_
              refine TS_fitU ⟨[(2, []), (3, [])], [(29, (900014, [])), (600000, (900015, [])), (2, (2, []))]⟩ (by kernel_rfl) ?_
              refine TS_go 1 ?_
              have ret := Option.some.inj h
              subst ret
              exact TS_ret (by kernel_rfl) (by kernel_rfl) (by kernel_rfl)
            · subst hb11
              refine TS_T (by kernel_rfl) rfl ?_
              refine TS_go 6 ?_
              refine TS_nilB 2 14 600001 5 1 (by kernel_rfl) ?_
              refine TS_nilB 2 15 600002 5 1 (by kernel_rfl) ?_
              refine TS_fitU ⟨[(2, []), (3, [])], [(600001, (900014, [])), (600002, (900015, [])), (2, (2, []))]⟩ (by kernel_rfl) ?_
              refine TS_go 2 ?_
              have ret := Option.some.inj h
              subst ret
              exact TS_ret (by kernel_rfl) (by kernel_rfl) (by kernel_rfl)
        · refine TS_know 31 (b := false) hb7 (by kernel_rfl) (by kernel_rfl) ?_
          refine TS_know 5 (b := false) hb7 (by kernel_rfl) (by kernel_rfl) ?_
          refine TS_know 32 (b := false) hb7 (by kernel_rfl) (by kernel_rfl) ?_
          refine TS_know 33 (b := true) (notT hb7) (by kernel_rfl) (by kernel_rfl) ?_
          refine TS_T (by kernel_rfl) rfl ?_
          refine TS_go 6 ?_
          refine TS_nilB 2 14 600001 5 1 (by kernel_rfl) ?_
          refine TS_nilB 2 15 600002 5 1 (by kernel_rfl) ?_
          refine TS_fitU ⟨[(2, []), (3, [])], [(600001, (900014, [])), (600002, (900015, [])), (2, (2, []))]⟩ (by kernel_rfl) ?_
          refine TS_go 2 ?_
          have ret := Option.some.inj h
          subst ret
          exact TS_ret (by kernel_rfl) (by kernel_rfl) (by kernel_rfl)
      · subst hb4
        refine TS_T (by kernel_rfl) rfl ?_
        refine TS_go 6 ?_
        refine TS_nilB 2 14 600000 5 1 (by kernel_rfl) ?_
        refine TS_nilB 2 15 600001 5 1 (by kernel_rfl) ?_
        refine TS_fitU ⟨[(2, []), (3, [])], [(600000, (900014, [])), (600001, (900015, [])), (2, (2, []))]⟩ (by kernel_rfl) ?_
        refine TS_go 3 ?_
        have ret := Option.some.inj h
        subst ret
        exact TS_ret (by kernel_rfl) (by kernel_rfl) (by kernel_rfl)
/-- multihop/octets.Append -/
noncomputable def F_octets_Append_R_l2 (v1 : Int) (a0 : List Int) (a1 : Int) (s3 : Int × (List Int)) : Option ((Int × (List Int)) ⊕ ((List Int))) :=
  bif (decide (s3.1 < v1)) then
    bif decide (0 ≤ (IntKind.wrap .i64 (8 * (IntKind.wrap .i64 ((IntKind.wrap .i64 (v1 - 1)) - s3.1))))) then
      (idx (Cut.app .whole s3.2) (IntKind.wrap .i64 ((List.length a0 : Int) + s3.1))).bind fun _e8 =>
      (s3.2[(0 + Int.toNat (IntKind.wrap .i64 ((List.length a0 : Int) + s3.1)))]?).bind fun _e9 =>
      some (Sum.inl (IntKind.wrap .i64 (s3.1 + 1), (List.set s3.2 (0 + Int.toNat (IntKind.wrap .i64 ((List.length a0 : Int) + s3.1))) (IntKind.wrap .u8 (ishr .u64 a1 (IntKind.wrap .i64 (8 * (IntKind.wrap .i64 ((IntKind.wrap .i64 (v1 - 1)) - s3.1)))))))))
    else none
  else
    some (Sum.inr s3.2)
noncomputable def F_octets_Append_R_j1 (a0 : List Int) (a1 : Int) (v1 : Int) : Option ((List Int)) :=
  (mkO 1 (IntKind.wrap .i64 ((List.length a0 : Int) + v1)) (IntKind.wrap .i64 ((List.length a0 : Int) + v1))).bind fun n2 =>
  (loopO (F_octets_Append_R_l2 v1 a0 a1) (0, (cpL (List.replicate n2 (0 : Int)) 0 (List.length (Cut.app .whole (List.replicate n2 (0 : Int)))) (Cut.app .whole a0)))).bind fun b4 =>
  some (b4)
noncomputable def F_octets_Append_R (a0 : List Int) (a1 : Int) (a2 : Int) : Option ((List Int)) :=
  bif (decide (a2 < 0)) then
    (F_octets_Append_R_j1 a0 a1) 0
  else
    bif (decide (a2 > 8)) then
      (F_octets_Append_R_j1 a0 a1) 0
    else
      (F_octets_Append_R_j1 a0 a1) a2
set_option maxRecDepth 100000 in
set_option maxHeartbeats 40000000 in
theorem okT_octets_Append_R (a0 : List Int) (a1 : Int) (a2 : Int) (r : (List Int)) (h : F_octets_Append_R a0 a1 a2 = some r) : Con Try.prog 44 [.c (eS 1 (ecI .u8) (a0)), .c (.lit (.int .u64 (a1))), .c (.lit (.int .i64 (a2)))] [] (.c (.own 900000)) [(900000, .row 5 1 (List.length r) (List.map (ecI .u8) r))] := by
  unfold F_octets_Append_R at h
  refine con_of [] [(900000, [])] 43 Try.func44 rfl rfl (by kernel_rfl) (fun K => ?_)
  refine TS_go 4 ?_
  refine TS_cut ⟨[(0, []), (1, []), (2, [])], []⟩ (.mk [.code (codeAt [1] (bodyOf Try.f44))] .normal ⟨[(0, .c (.slc 1 0 (List.length a0) (List.map (ecI .u8) a0))), (1, .c (.lit (.int .u64 (a1)))), (2, .c (.lit (.int .i64 (a2))))], []⟩) (by kernel_rfl) (by kernel_rfl) ?_
  refine TS_joinB ⟨[(0, []), (1, []), (2, [])], []⟩ (fun (v1 : Int) => [(2, .c (.lit (.int .i64 (v1))))]) (fun (v1 : Int) => []) (F_octets_Append_R_j1 a0 a1) r ?_ ?_
  · clear h
    intro v1 h
    unfold F_octets_Append_R_j1 at h
    refine TS_go 6 ?_
    replace h := bindO h
    obtain ⟨n2, hn2, h⟩ := h
    refine TS_makeR 19 5 1 (ecI .u8) (0 : Int) [] (cs := [.lit (.int .u8 (0))]) (l := IntKind.wrap .i64 ((List.length a0 : Int) + v1)) (c := IntKind.wrap .i64 ((List.length a0 : Int) + v1)) hn2 (by kernel_rfl) (by kernel_rfl) (by kernel_rfl) ?_
    refine TS_go 6 ?_
    refine TS_cpR 19 5 1 (List.length (List.replicate n2 (0 : Int))) 0 (ecI .u8) (fun _ => by kernel_rfl) (l := (List.replicate n2 (0 : Int))) (l2 := a0) .whole .whole (by kernel_rfl) (by kernel_rfl) ?_
    refine TS_go 8 ?_
    refine TS_cut ⟨[(0, []), (1, []), (2, []), (7, []), (23, []), (24, [])], [(19, (19, []))]⟩ (.mk [.code (codeAt [1, 1, 1, 1, 0, 1, 0] (bodyOf Try.f44)), .blk 0, .code (codeAt [1, 1, 1, 1, 1] (bodyOf Try.f44))] .normal ⟨[(0, .c (.slc 1 0 (List.length a0) (List.map (ecI .u8) a0))), (1, .c (.lit (.int .u64 (a1)))), (2, .c (.lit (.int .i64 (v1)))), (7, .c (.own 19)), (23, .c (.lit (.int .i64 (v1)))), (24, .c (.lit (.int .i64 (0))))], [(19, .row 5 1 (List.length (cpL (List.replicate n2 (0 : Int)) 0 (List.length (Cut.app .whole (List.replicate n2 (0 : Int)))) (Cut.app .whole a0))) (List.map (ecI .u8) (cpL (List.replicate n2 (0 : Int)) 0 (List.length (Cut.app .whole (List.replicate n2 (0 : Int)))) (Cut.app .whole a0))))]⟩) (by kernel_rfl) (by kernel_rfl) ?_
    replace h := bindO h
    obtain ⟨y5, hl2, hK2⟩ := h
    refine TS_loopB (F_octets_Append_R_l2 v1 a0 a1) ⟨[(0, []), (1, []), (2, []), (7, []), (23, []), (24, [])], [(19, (19, []))]⟩ (fun (s3 : Int × (List Int)) => [(24, .c (.lit (.int .i64 (s3.1))))]) (fun (s3 : Int × (List Int)) => [(19, .row 5 1 (List.length s3.2) (List.map (ecI .u8) s3.2))]) (0, (cpL (List.replicate n2 (0 : Int)) 0 (List.length (Cut.app .whole (List.replicate n2 (0 : Int)))) (Cut.app .whole a0))) y5 (.exit 0) (fun (b : (List Int)) => b) ⟨[(7, [])], [(19, (19, []))]⟩ (fun (b4 : (List Int)) => []) (fun (b4 : (List Int)) => [(19, .row 5 1 (List.length b4) (List.map (ecI .u8) b4))]) hl2 (by kernel_rfl) (by kernel_rfl) ?_ ?_
    · intro s3 x h hy2
      unfold F_octets_Append_R_l2 at h
      refine TS_go 5 ?_
      replace h := condO h
      rcases h with ⟨hb6, h⟩ | ⟨hb6, h⟩
      · refine TS_know 25 (b := true) hb6 (by kernel_rfl) (by kernel_rfl) ?_
        refine TS_T (by kernel_rfl) rfl ?_
        refine TS_go 20 ?_
        replace h := chkO h
        obtain ⟨hc7, h⟩ := h
        refine TS_num (op := .shr) (k := .u64) (k' := .i64) (m := a1) (i := IntKind.wrap .i64 (8 * (IntKind.wrap .i64 ((IntKind.wrap .i64 (v1 - 1)) - s3.1)))) (of_decide_eq_true hc7) rfl (by simp) (by kernel_rfl) (by kernel_rfl) ?_
        refine TS_go 1 ?_
        replace h := bindO h
        obtain ⟨_e8, he8, h⟩ := h
        refine TS_idxR 19 1 0 (ecI .u8) .whole he8 (by kernel_rfl) (by kernel_rfl) ?_
        replace h := bindO h
        obtain ⟨_e9, he9, h⟩ := h
        refine TS_stE 19 5 1 (List.length s3.2) (0 + Int.toNat (IntKind.wrap .i64 ((List.length a0 : Int) + s3.1))) 0 (ecI .u8) (ds := [.lit (.int .u8 (IntKind.wrap .u8 (ishr .u64 a1 (IntKind.wrap .i64 (8 * (IntKind.wrap .i64 ((IntKind.wrap .i64 (v1 - 1)) - s3.1)))))))]) (IntKind.wrap .u8 (ishr .u64 a1 (IntKind.wrap .i64 (8 * (IntKind.wrap .i64 ((IntKind.wrap .i64 (v1 - 1)) - s3.1)))))) he9 (by kernel_rfl) (by kernel_rfl) (by kernel_rfl) (by kernel_rfl) ?_
        refine TS_go 6 ?_
        have ret := Option.some.inj h
        subst ret
        exact TS_againB _ ⟨[(0, []), (1, []), (2, []), (7, []), (23, []), (24, [])], [(19, (19, []))]⟩ rfl (by kernel_rfl) (by kernel_rfl)
      · refine TS_know 25 (b := false) hb6 (by kernel_rfl) (by kernel_rfl) ?_
        refine TS_F (by kernel_rfl) rfl ?_
        refine TS_go 2 ?_
        have ret := Option.some.inj h
        subst ret
        exact TS_brkB s3.2 ⟨[(7, [])], [(19, (19, []))]⟩ rfl (by kernel_rfl) (by kernel_rfl) (by kernel_rfl)
    · intro b4 hb
      subst y5
      have h := hK2
      refine TS_go 6 ?_
      refine TS_fitU ⟨[(6, [])], [(19, (900000, []))]⟩ (by kernel_rfl) ?_
      refine TS_go 1 ?_
      have ret := Option.some.inj h
      subst ret
      exact TS_ret (by kernel_rfl) (by kernel_rfl) (by kernel_rfl)
  · refine TS_go 5 ?_
    replace h := condO h
    rcases h with ⟨hb11, h⟩ | ⟨hb11, h⟩
    · refine TS_know 10 (b := true) hb11 (by kernel_rfl) (by kernel_rfl) ?_
      refine TS_know 11 (b := true) hb11 (by kernel_rfl) (by kernel_rfl) ?_
      refine TS_go 4 ?_
      refine TS_T (by kernel_rfl) rfl ?_
      refine TS_go 3 ?_
      exact TS_meet 0 ⟨[(0, []), (1, []), (2, [])], []⟩ h (by kernel_rfl) (by kernel_rfl)
    · refine TS_know 10 (b := false) hb11 (by kernel_rfl) (by kernel_rfl) ?_
      refine TS_know 11 (b := false) hb11 (by kernel_rfl) (by kernel_rfl) ?_
      refine TS_go 4 ?_
      replace h := condO h
      rcases h with ⟨hb12, h⟩ | ⟨hb12, h⟩
      · refine TS_know 13 (b := true) hb12 (by kernel_rfl) (by kernel_rfl) ?_
        refine TS_know 14 (b := true) hb12 (by kernel_rfl) (by kernel_rfl) ?_
        refine TS_T (by kernel_rfl) rfl ?_
        refine TS_go 3 ?_
        exact TS_meet 0 ⟨[(0, []), (1, []), (2, [])], []⟩ h (by kernel_rfl) (by kernel_rfl)
      · refine TS_know 13 (b := false) hb12 (by kernel_rfl) (by kernel_rfl) ?_
        refine TS_know 14 (b := false) hb12 (by kernel_rfl) (by kernel_rfl) ?_
        refine TS_F (by kernel_rfl) rfl ?_
        refine TS_go 1 ?_
        exact TS_meet a2 ⟨[(0, []), (1, []), (2, [])], []⟩ h (by kernel_rfl) (by kernel_rfl)

/-- multihop/frame.appendAddr -/
noncomputable def F_frame_appendAddr_R (a0 : List Int) (a1 : S_Addr) : Option ((List Int)) :=
  bif (a1.Mode == 2) then
    (F_octets_Append_R a0 (IntKind.wrap .u64 a1.Short) 2).bind fun v2 =>
    some (v2)
  else
    (F_octets_Append_R a0 a1.EUI 8).bind fun v3 =>
    some (v3)
set_option maxRecDepth 100000 in
set_option maxHeartbeats 40000000 in
theorem okT_frame_appendAddr_R (a0 : List Int) (a1 : S_Addr) (r : (List Int)) (h : F_frame_appendAddr_R a0 a1 = some r) : Con Try.prog 45 [.c (eS 1 (ecI .u8) (a0)), .agg (S_Addr.cs a1)] [] (.c (.own 900000)) [(900000, .row 5 1 (List.length r) (List.map (ecI .u8) r))] := by
  unfold F_frame_appendAddr_R at h
  refine con_of [] [(900000, [])] 17 Try.func45 rfl rfl (by kernel_rfl) (fun K => ?_)
  refine TS_go 12 ?_
  replace h := condO h
  rcases h with ⟨hb1, h⟩ | ⟨hb1, h⟩
  · refine TS_know 7 (b := true) hb1 (by kernel_rfl) (by kernel_rfl) ?_
    refine TS_T (by kernel_rfl) rfl ?_
    refine TS_go 6 ?_
    replace h := bindO h
    obtain ⟨v2, hv2, h⟩ := h
    refine TS_con [] [(12, 900000)] none (okT_octets_Append_R a0 (IntKind.wrap .u64 a1.Short) 2 v2 hv2) (by kernel_rfl) (by kernel_rfl) (by kernel_rfl) ?_
    refine TS_go 2 ?_
    refine TS_fitU ⟨[(4, [])], [(12, (900000, []))]⟩ (by kernel_rfl) ?_
    refine TS_go 2 ?_
    have ret := Option.some.inj h
    subst ret
    exact TS_ret (by kernel_rfl) (by kernel_rfl) (by kernel_rfl)
  · refine TS_know 7 (b := false) hb1 (by kernel_rfl) (by kernel_rfl) ?_
    refine TS_F (by kernel_rfl) rfl ?_
    refine TS_go 6 ?_
    replace h := bindO h
    obtain ⟨v3, hv3, h⟩ := h
    refine TS_con [] [(16, 900000)] none (okT_octets_Append_R a0 a1.EUI 8 v3 hv3) (by kernel_rfl) (by kernel_rfl) (by kernel_rfl) ?_
    refine TS_go 2 ?_
    refine TS_fitU ⟨[(4, [])], [(16, (900000, []))]⟩ (by kernel_rfl) ?_
    refine TS_go 1 ?_
    have ret := Option.some.inj h
    subst ret
    exact TS_ret (by kernel_rfl) (by kernel_rfl) (by kernel_rfl)

/-- multihop/frame.Header -/
noncomputable def F_frame_Header_R_j3 (v1 : S_Frame) (v6 : (List Int)) : Option ((List Int)) :=
  (appO 1 (List.take (List.length v6) v6) (Cut.app .whole v1.Payload)).bind fun l7 =>
  some (l7)
noncomputable def F_frame_Header_R_j2 (v1 : S_Frame) (v5 : (List Int)) : Option ((List Int)) :=
  bif v1.Secure then
    (F_octets_Append_R v5 (IntKind.wrap .u64 v1.Counter) 4).bind fun v9 =>
    (appO 1 (List.take (List.length v9) v9) (Cut.app .whole ([v1.Key] : List Int))).bind fun l10 =>
    (F_frame_Header_R_j3 v1) l10
  else
    (F_frame_Header_R_j3 v1) v5
noncomputable def F_frame_Header_R_j1  (v1 : S_Frame) : Option ((List Int)) :=
  (F_frame_flag v1.AckRequest 32).bind fun v2 =>
  (F_frame_flag v1.Pending 16).bind fun v3 =>
  (F_frame_flag v1.Secure 8).bind fun v4 =>
  bif (v1.Kind != 2) then
    (F_octets_Append_R ([ior .u8 (ior .u8 (ior .u8 (ishl .u8 (IntKind.wrap .u8 v1.Kind) 6) v2) v3) v4, ior .u8 (ishl .u8 (IntKind.wrap .u8 v1.Dst.Mode) 6) (ishl .u8 (IntKind.wrap .u8 v1.Src.Mode) 4), v1.Seq] : List Int) (IntKind.wrap .u64 v1.Pan) 2).bind fun v12 =>
    (F_frame_appendAddr_R v12 v1.Dst).bind fun v13 =>
    (F_frame_appendAddr_R v13 v1.Src).bind fun v14 =>
    (F_frame_Header_R_j2 v1) v14
  else
    (F_frame_Header_R_j2 v1) ([ior .u8 (ior .u8 (ior .u8 (ishl .u8 (IntKind.wrap .u8 v1.Kind) 6) v2) v3) v4, ior .u8 (ishl .u8 (IntKind.wrap .u8 v1.Dst.Mode) 6) (ishl .u8 (IntKind.wrap .u8 v1.Src.Mode) 4), v1.Seq] : List Int)
noncomputable def F_frame_Header_R (a0 : S_Frame) : Option ((List Int)) :=
  (F_frame_Valid a0).bind fun v15 =>
  bif v15 then
    (F_frame_Header_R_j1) a0
  else
    (mkO 1 4 4).bind fun n17 =>
    (F_frame_Valid (S_Frame.mk a0.Kind a0.AckRequest a0.Pending a0.Secure a0.Seq a0.Pan a0.Dst a0.Src a0.Counter a0.Key a0.Payload (List.replicate n17 (0 : Int)))).bind fun v18 =>
    bif v18 then
      (F_frame_Header_R_j1) (S_Frame.mk a0.Kind a0.AckRequest a0.Pending a0.Secure a0.Seq a0.Pan a0.Dst a0.Src a0.Counter a0.Key a0.Payload (List.replicate n17 (0 : Int)))
    else
      some (([] : List Int))
set_option maxRecDepth 100000 in
set_option maxHeartbeats 40000000 in
theorem okT_frame_Header_R (a0 : S_Frame) (r : (List Int)) (h : F_frame_Header_R a0 = some r) : Con Try.prog 21 [.agg (S_Frame.cs a0)] [] (.c (.own 900000)) [(900000, .row 5 1 (List.length r) (List.map (ecI .u8) r))] := by
  unfold F_frame_Header_R at h
  refine con_of [] [(900000, [])] 76 Try.func21 rfl rfl (by kernel_rfl) (fun K => ?_)
  refine TS_go 5 ?_
  refine TS_cut ⟨[(1, [])], [(1, (1, []))]⟩ (.mk [.code (codeAt [1] (bodyOf Try.f21))] .normal ⟨[(1, .c (.box 1 0))], [(1, .box [.lit (.int .i64 (a0.Kind)), .lit (.bool (a0.AckRequest)), .lit (.bool (a0.Pending)), .lit (.bool (a0.Secure)), .lit (.int .u8 (a0.Seq)), .lit (.int .u16 (a0.Pan)), .lit (.int .i64 (a0.Dst.Mode)), .lit (.int .u16 (a0.Dst.Short)), .lit (.int .u64 (a0.Dst.EUI)), .lit (.int .i64 (a0.Src.Mode)), .lit (.int .u16 (a0.Src.Short)), .lit (.int .u64 (a0.Src.EUI)), .lit (.int .u32 (a0.Counter)), .lit (.int .u8 (a0.Key)), .slc 1 0 (List.length a0.Payload) (List.map (ecI .u8) a0.Payload), .slc 1 0 (List.length a0.MIC) (List.map (ecI .u8) a0.MIC)])]⟩) (by kernel_rfl) (by kernel_rfl) ?_
  refine TS_joinB ⟨[(1, [])], [(1, (1, []))]⟩ (fun (v1 : S_Frame) => []) (fun (v1 : S_Frame) => [(1, .box (S_Frame.cs v1))]) (F_frame_Header_R_j1) r ?_ ?_
  · clear h
    intro v1 h
    unfold F_frame_Header_R_j1 at h
    refine TS_go 1 ?_
    refine TS_draw (by kernel_rfl) ?_
    refine TD_go 6 ?_
    replace h := bindO h
    obtain ⟨v2, hv2, h⟩ := h
    refine TD_call [] (ok_frame_flag v1.AckRequest 32 v2 hv2) (by kernel_rfl) (by kernel_rfl) ?_
    refine TD_go 3 ?_
    replace h := bindO h
    obtain ⟨v3, hv3, h⟩ := h
    refine TD_call [] (ok_frame_flag v1.Pending 16 v3 hv3) (by kernel_rfl) (by kernel_rfl) ?_
    refine TD_go 3 ?_
    replace h := bindO h
    obtain ⟨v4, hv4, h⟩ := h
    refine TD_call [] (ok_frame_flag v1.Secure 8 v4 hv4) (by kernel_rfl) (by kernel_rfl) ?_
    refine TD_go 2 ?_
    refine TD_end (by kernel_rfl) ?_
    refine TS_go 16 ?_
    refine TS_litNR 43 5 1 (ecI .u8) [] ([ior .u8 (ior .u8 (ior .u8 (ishl .u8 (IntKind.wrap .u8 v1.Kind) 6) v2) v3) v4, ior .u8 (ishl .u8 (IntKind.wrap .u8 v1.Dst.Mode) 6) (ishl .u8 (IntKind.wrap .u8 v1.Src.Mode) 4), v1.Seq] : List Int) (by kernel_rfl) (by kernel_rfl) ?_
    refine TS_go 2 ?_
    refine TS_cut ⟨[(1, []), (4, [])], [(1, (1, [])), (43, (43, []))]⟩ (.mk [.code (codeAt [1, 1, 1, 1] (bodyOf Try.f21))] .normal ⟨[(1, .c (.box 1 0)), (4, .c (.own 43))], [(1, .box [.lit (.int .i64 (v1.Kind)), .lit (.bool (v1.AckRequest)), .lit (.bool (v1.Pending)), .lit (.bool (v1.Secure)), .lit (.int .u8 (v1.Seq)), .lit (.int .u16 (v1.Pan)), .lit (.int .i64 (v1.Dst.Mode)), .lit (.int .u16 (v1.Dst.Short)), .lit (.int .u64 (v1.Dst.EUI)), .lit (.int .i64 (v1.Src.Mode)), .lit (.int .u16 (v1.Src.Short)), .lit (.int .u64 (v1.Src.EUI)), .lit (.int .u32 (v1.Counter)), .lit (.int .u8 (v1.Key)), .slc 1 0 (List.length v1.Payload) (List.map (ecI .u8) v1.Payload), .slc 1 0 (List.length v1.MIC) (List.map (ecI .u8) v1.MIC)]), (43, .row 5 1 (List.length ([ior .u8 (ior .u8 (ior .u8 (ishl .u8 (IntKind.wrap .u8 v1.Kind) 6) v2) v3) v4, ior .u8 (ishl .u8 (IntKind.wrap .u8 v1.Dst.Mode) 6) (ishl .u8 (IntKind.wrap .u8 v1.Src.Mode) 4), v1.Seq] : List Int)) (List.map (ecI .u8) ([ior .u8 (ior .u8 (ior .u8 (ishl .u8 (IntKind.wrap .u8 v1.Kind) 6) v2) v3) v4, ior .u8 (ishl .u8 (IntKind.wrap .u8 v1.Dst.Mode) 6) (ishl .u8 (IntKind.wrap .u8 v1.Src.Mode) 4), v1.Seq] : List Int)))]⟩) (by kernel_rfl) (by kernel_rfl) ?_
    refine TS_joinB ⟨[(1, []), (4, [])], [(1, (1, [])), (43, (43, []))]⟩ (fun (v5 : (List Int)) => []) (fun (v5 : (List Int)) => [(43, .row 5 1 (List.length v5) (List.map (ecI .u8) v5))]) (F_frame_Header_R_j2 v1) r ?_ ?_
    · clear h
      intro v5 h
      unfold F_frame_Header_R_j2 at h
      refine TS_cut ⟨[(1, []), (4, [])], [(1, (1, [])), (43, (43, []))]⟩ (.mk [.code (codeAt [1, 1, 1, 1, 1] (bodyOf Try.f21))] .normal ⟨[(1, .c (.box 1 0)), (4, .c (.own 43))], [(1, .box [.lit (.int .i64 (v1.Kind)), .lit (.bool (v1.AckRequest)), .lit (.bool (v1.Pending)), .lit (.bool (v1.Secure)), .lit (.int .u8 (v1.Seq)), .lit (.int .u16 (v1.Pan)), .lit (.int .i64 (v1.Dst.Mode)), .lit (.int .u16 (v1.Dst.Short)), .lit (.int .u64 (v1.Dst.EUI)), .lit (.int .i64 (v1.Src.Mode)), .lit (.int .u16 (v1.Src.Short)), .lit (.int .u64 (v1.Src.EUI)), .lit (.int .u32 (v1.Counter)), .lit (.int .u8 (v1.Key)), .slc 1 0 (List.length v1.Payload) (List.map (ecI .u8) v1.Payload), .slc 1 0 (List.length v1.MIC) (List.map (ecI .u8) v1.MIC)]), (43, .row 5 1 (List.length v5) (List.map (ecI .u8) v5))]⟩) (by kernel_rfl) (by kernel_rfl) ?_
      refine TS_joinB ⟨[(1, []), (4, [])], [(1, (1, [])), (43, (43, []))]⟩ (fun (v6 : (List Int)) => []) (fun (v6 : (List Int)) => [(43, .row 5 1 (List.length v6) (List.map (ecI .u8) v6))]) (F_frame_Header_R_j3 v1) r ?_ ?_
      · clear h
        intro v6 h
        unfold F_frame_Header_R_j3 at h
        refine TS_go 5 ?_
        replace h := bindO h
        obtain ⟨_l7, hl7, h⟩ := h
        refine TS_appR (d := 43) (e := 5) (sz := 1) (N := List.length v6) (m := (List.length v6)) (ecI .u8) (fun _ => by kernel_rfl) (l1 := v6) (l2 := v1.Payload) (c := .whole) hl7 (by kernel_rfl) (by kernel_rfl) ?_
        refine TS_go 2 ?_
        refine TS_fitU ⟨[(2, [])], [(43, (900000, []))]⟩ (by kernel_rfl) ?_
        refine TS_go 1 ?_
        have ret := Option.some.inj h
        subst ret
        exact TS_ret (by kernel_rfl) (by kernel_rfl) (by kernel_rfl)
      · refine TS_go 5 ?_
        replace h := condO h
        rcases h with ⟨hb8, h⟩ | ⟨hb8, h⟩
        · refine TS_know 61 (b := true) hb8 (by kernel_rfl) (by kernel_rfl) ?_
          refine TS_T (by kernel_rfl) rfl ?_
          refine TS_go 6 ?_
          replace h := bindO h
          obtain ⟨v9, hv9, h⟩ := h
          refine TS_conF [] [(66, 900000)] (okT_octets_Append_R v5 (IntKind.wrap .u64 v1.Counter) 4 v9 hv9) (by kernel_rfl) ⟨nr_map _ (fun _ => by kernel_rfl), trivial⟩ (by kernel_rfl) ?_
          refine TS_go 6 ?_
          refine TS_litNT 70 5 1 (ecI .u8) [] ([v1.Key] : List Int) (by kernel_rfl) (by kernel_rfl) ?_
          replace h := bindO h
          obtain ⟨l10, hl10, h⟩ := h
          refine TS_appR (d := 66) (e := 5) (sz := 1) (N := List.length v9) (m := (List.length v9)) (ecI .u8) (fun _ => by kernel_rfl) (l1 := v9) (l2 := ([v1.Key] : List Int)) (c := .whole) hl10 (by kernel_rfl) (by kernel_rfl) ?_
          refine TS_go 2 ?_
          exact TS_meet l10 ⟨[(1, []), (4, [])], [(1, (1, [])), (66, (43, []))]⟩ h (by kernel_rfl) (by kernel_rfl)
        · refine TS_know 61 (b := false) hb8 (by kernel_rfl) (by kernel_rfl) ?_
          refine TS_F (by kernel_rfl) rfl ?_
          refine TS_go 1 ?_
          exact TS_meet v5 ⟨[(1, []), (4, [])], [(1, (1, [])), (43, (43, []))]⟩ h (by kernel_rfl) (by kernel_rfl)
    · refine TS_go 6 ?_
      replace h := condO h
      rcases h with ⟨hb11, h⟩ | ⟨hb11, h⟩
      · refine TS_know 46 (b := true) hb11 (by kernel_rfl) (by kernel_rfl) ?_
        refine TS_T (by kernel_rfl) rfl ?_
        refine TS_go 6 ?_
        replace h := bindO h
        obtain ⟨v12, hv12, h⟩ := h
        refine TS_conF [] [(51, 900000)] (okT_octets_Append_R ([ior .u8 (ior .u8 (ior .u8 (ishl .u8 (IntKind.wrap .u8 v1.Kind) 6) v2) v3) v4, ior .u8 (ishl .u8 (IntKind.wrap .u8 v1.Dst.Mode) 6) (ishl .u8 (IntKind.wrap .u8 v1.Src.Mode) 4), v1.Seq] : List Int) (IntKind.wrap .u64 v1.Pan) 2 v12 hv12) (by kernel_rfl) ⟨nr_map _ (fun _ => by kernel_rfl), trivial⟩ (by kernel_rfl) ?_
        refine TS_go 7 ?_
        replace h := bindO h
        obtain ⟨v13, hv13, h⟩ := h
        refine TS_conF [] [(55, 900000)] (okT_frame_appendAddr_R v12 v1.Dst v13 hv13) (by kernel_rfl) ⟨nr_map _ (fun _ => by kernel_rfl), trivial⟩ (by kernel_rfl) ?_
        refine TS_go 6 ?_
        replace h := bindO h
        obtain ⟨v14, hv14, h⟩ := h
        refine TS_conF [] [(59, 900000)] (okT_frame_appendAddr_R v13 v1.Src v14 hv14) (by kernel_rfl) ⟨nr_map _ (fun _ => by kernel_rfl), trivial⟩ (by kernel_rfl) ?_
        refine TS_go 2 ?_
        exact TS_meet v14 ⟨[(1, []), (4, [])], [(1, (1, [])), (59, (43, []))]⟩ h (by kernel_rfl) (by kernel_rfl)
      · refine TS_know 46 (b := false) hb11 (by kernel_rfl) (by kernel_rfl) ?_
        refine TS_F (by kernel_rfl) rfl ?_
        refine TS_go 1 ?_
        exact TS_meet ([ior .u8 (ior .u8 (ior .u8 (ishl .u8 (IntKind.wrap .u8 v1.Kind) 6) v2) v3) v4, ior .u8 (ishl .u8 (IntKind.wrap .u8 v1.Dst.Mode) 6) (ishl .u8 (IntKind.wrap .u8 v1.Src.Mode) 4), v1.Seq] : List Int) ⟨[(1, []), (4, [])], [(1, (1, [])), (43, (43, []))]⟩ h (by kernel_rfl) (by kernel_rfl)
  · refine TS_go 3 ?_
    replace h := bindO h
    obtain ⟨v15, hv15, h⟩ := h
    refine TS_call [] (ok_frame_Valid a0 v15 hv15) (by kernel_rfl) (by kernel_rfl) ?_
    refine TS_go 2 ?_
    replace h := condO h
    rcases h with ⟨hb16, h⟩ | ⟨hb16, h⟩
    · subst hb16
      refine TS_F (by kernel_rfl) rfl ?_
      refine TS_go 1 ?_
      exact TS_meet a0 ⟨[(1, [])], [(1, (1, []))]⟩ h (by kernel_rfl) (by kernel_rfl)
    · subst hb16
      refine TS_T (by kernel_rfl) rfl ?_
      refine TS_go 2 ?_
      replace h := bindO h
      obtain ⟨n17, hn17, h⟩ := h
      refine TS_makeT 8 5 1 (ecI .u8) (0 : Int) [] (cs := [.lit (.int .u8 (0))]) (l := 4) (c := 4) hn17 (by kernel_rfl) (by kernel_rfl) (by kernel_rfl) ?_
      refine TS_go 6 ?_
      replace h := bindO h
      obtain ⟨v18, hv18, h⟩ := h
      refine TS_call [[0, 0, 0, 0, 0, 0, 0, 0, 0, 0, 0, 0, 0, 0, 2, 2]] (ok_frame_Valid (S_Frame.mk a0.Kind a0.AckRequest a0.Pending a0.Secure a0.Seq a0.Pan a0.Dst a0.Src a0.Counter a0.Key a0.Payload (List.replicate n17 (0 : Int))) v18 hv18) (by kernel_rfl) (by kernel_rfl) ?_
      refine TS_go 2 ?_
      replace h := condO h
      rcases h with ⟨hb19, h⟩ | ⟨hb19, h⟩
      · subst hb19
        refine TS_F (by kernel_rfl) rfl ?_
        refine TS_go 1 ?_
        exact TS_meet (S_Frame.mk a0.Kind a0.AckRequest a0.Pending a0.Secure a0.Seq a0.Pan a0.Dst a0.Src a0.Counter a0.Key a0.Payload (List.replicate n17 (0 : Int))) ⟨[(1, [])], [(1, (1, [0, 0, 0, 0, 0, 0, 0, 0, 0, 0, 0, 0, 0, 0, 0, 2]))]⟩ h (by kernel_rfl) (by kernel_rfl)
      · subst hb19
        refine TS_T (by kernel_rfl) rfl ?_
        refine TS_go 4 ?_
        refine TS_nilR 2 600000 5 1 (by kernel_rfl) ?_
        refine TS_fitU ⟨[(2, [])], [(600000, (900000, []))]⟩ (by kernel_rfl) ?_
        refine TS_go 1 ?_
        refine TS_outJ (by kernel_rfl) ?_
        have ret := Option.some.inj h
        subst ret
        exact TS_ret (by kernel_rfl) (by kernel_rfl) (by kernel_rfl)

/-- multihop/frame.parse -/
noncomputable def F_frame_parse_R_j3 (v5 : S_frame_reader × S_Frame) (v7 : Int) : Option (S_Frame × Bool) :=
  (subO v5.1.b 0 v7).bind fun l8 =>
  (appO 1 ([] : List Int) (Cut.app .whole l8)).bind fun l9 =>
  (subO v5.1.b v7 (List.length v5.1.b : Int)).bind fun l10 =>
  (appO 1 ([] : List Int) (Cut.app .whole l10)).bind fun l11 =>
  some (((S_Frame.mk v5.2.Kind v5.2.AckRequest v5.2.Pending v5.2.Secure v5.2.Seq v5.2.Pan v5.2.Dst v5.2.Src v5.2.Counter v5.2.Key l9 l11), true))
noncomputable def F_frame_parse_R_j2  (v5 : S_frame_reader × S_Frame) : Option (S_Frame × Bool) :=
  bif v5.1.bad then
    some (((S_Frame.mk 0 false false false 0 0 (S_Addr.mk 0 0 0) (S_Addr.mk 0 0 0) 0 0 ([] : List Int) ([] : List Int)), false))
  else
    bif v5.2.Secure then
      bif (decide ((IntKind.wrap .i64 ((List.length v5.1.b : Int) - 4)) < 0)) then
        some (((S_Frame.mk 0 false false false 0 0 (S_Addr.mk 0 0 0) (S_Addr.mk 0 0 0) 0 0 ([] : List Int) ([] : List Int)), false))
      else
        (F_frame_parse_R_j3 v5) (IntKind.wrap .i64 ((List.length v5.1.b : Int) - 4))
    else
      (F_frame_parse_R_j3 v5) (List.length v5.1.b : Int)
noncomputable def F_frame_parse_R_j1  (v4 : S_frame_reader × S_Frame) : Option (S_Frame × Bool) :=
  bif v4.2.Secure then
    (F_frame_reader_next v4.1 4).bind fun v15 =>
    (F_frame_reader_next v15.2 1).bind fun v16 =>
    (F_frame_parse_R_j2) (v16.2, (S_Frame.mk v4.2.Kind v4.2.AckRequest v4.2.Pending v4.2.Secure v4.2.Seq v4.2.Pan v4.2.Dst v4.2.Src (IntKind.wrap .u32 v15.1) (IntKind.wrap .u8 v16.1) v4.2.Payload v4.2.MIC))
  else
    (F_frame_parse_R_j2) (v4.1, v4.2)
noncomputable def F_frame_parse_R (a0 : List Int) : Option (S_Frame × Bool) :=
  (F_frame_reader_next (S_frame_reader.mk a0 false) 1).bind fun v1 =>
  (F_frame_reader_next v1.2 1).bind fun v2 =>
  (F_frame_reader_next v2.2 1).bind fun v3 =>
  bif ((IntKind.wrap .i64 (ishr .u8 (IntKind.wrap .u8 v1.1) 6)) != 2) then
    (F_frame_reader_next v3.2 2).bind fun v18 =>
    (F_frame_reader_addr v18.2 (IntKind.wrap .i64 (iand .u8 (ishr .u8 (IntKind.wrap .u8 v2.1) 6) 3))).bind fun v19 =>
    (F_frame_reader_addr v19.2 (IntKind.wrap .i64 (iand .u8 (ishr .u8 (IntKind.wrap .u8 v2.1) 4) 3))).bind fun v20 =>
    (F_frame_parse_R_j1) (v20.2, (S_Frame.mk (IntKind.wrap .i64 (ishr .u8 (IntKind.wrap .u8 v1.1) 6)) ((iand .u8 (IntKind.wrap .u8 v1.1) 32) != 0) ((iand .u8 (IntKind.wrap .u8 v1.1) 16) != 0) ((iand .u8 (IntKind.wrap .u8 v1.1) 8) != 0) (IntKind.wrap .u8 v3.1) (IntKind.wrap .u16 v18.1) v19.1 v20.1 0 0 ([] : List Int) ([] : List Int)))
  else
    (F_frame_parse_R_j1) (v3.2, (S_Frame.mk (IntKind.wrap .i64 (ishr .u8 (IntKind.wrap .u8 v1.1) 6)) ((iand .u8 (IntKind.wrap .u8 v1.1) 32) != 0) ((iand .u8 (IntKind.wrap .u8 v1.1) 16) != 0) ((iand .u8 (IntKind.wrap .u8 v1.1) 8) != 0) (IntKind.wrap .u8 v3.1) 0 (S_Addr.mk 0 0 0) (S_Addr.mk 0 0 0) 0 0 ([] : List Int) ([] : List Int)))
set_option maxRecDepth 100000 in
set_option maxHeartbeats 40000000 in
theorem okT_frame_parse_R (a0 : List Int) (r : S_Frame × Bool) (h : F_frame_parse_R a0 = some r) : Con Try.prog 41 [.c (eS 1 (ecI .u8) (a0))] [] (.tup [(true, [.lit (.int .i64 (r.1.Kind)), .lit (.bool (r.1.AckRequest)), .lit (.bool (r.1.Pending)), .lit (.bool (r.1.Secure)), .lit (.int .u8 (r.1.Seq)), .lit (.int .u16 (r.1.Pan)), .lit (.int .i64 (r.1.Dst.Mode)), .lit (.int .u16 (r.1.Dst.Short)), .lit (.int .u64 (r.1.Dst.EUI)), .lit (.int .i64 (r.1.Src.Mode)), .lit (.int .u16 (r.1.Src.Short)), .lit (.int .u64 (r.1.Src.EUI)), .lit (.int .u32 (r.1.Counter)), .lit (.int .u8 (r.1.Key)), .own 900014, .own 900015]), (false, [.lit (.bool (r.2))])]) [(900014, .row 5 1 (List.length r.1.Payload) (List.map (ecI .u8) r.1.Payload)), (900015, .row 5 1 (List.length r.1.MIC) (List.map (ecI .u8) r.1.MIC))] := by
  unfold F_frame_parse_R at h
  refine con_of [] [(900014, []), (900015, [])] 92 Try.func41 rfl rfl (by kernel_rfl) (fun K => ?_)
  refine TS_go 14 ?_
  replace h := bindO h
  obtain ⟨v1, hv1, h⟩ := h
  refine TS_con [] [] (some (4, 0)) (ok_frame_reader_next (S_frame_reader.mk a0 false) 1 v1 hv1) (by kernel_rfl) (by kernel_rfl) (by kernel_rfl) ?_
  refine TS_go 1 ?_
  replace h := bindO h
  obtain ⟨v2, hv2, h⟩ := h
  refine TS_con [] [] (some (4, 0)) (ok_frame_reader_next v1.2 1 v2 hv2) (by kernel_rfl) (by kernel_rfl) (by kernel_rfl) ?_
  refine TS_go 18 ?_
  replace h := bindO h
  obtain ⟨v3, hv3, h⟩ := h
  refine TS_con [] [] (some (4, 0)) (ok_frame_reader_next v2.2 1 v3 hv3) (by kernel_rfl) (by kernel_rfl) (by kernel_rfl) ?_
  refine TS_go 5 ?_
  refine TS_cut ⟨[(2, []), (4, []), (6, []), (7, [])], [(2, (2, [])), (4, (4, [])), (7, (7, []))]⟩ (.mk [.code (codeAt [1, 1, 1, 1] (bodyOf Try.f41))] .normal ⟨[(2, .c (.box 2 0)), (4, .c (.box 4 0)), (6, .c (.lit (.int .u8 (IntKind.wrap .u8 v2.1)))), (7, .c (.box 7 0))], [(2, .box [.lit (.int .i64 (0)), .lit (.bool (false)), .lit (.bool (false)), .lit (.bool (false)), .lit (.int .u8 (0)), .lit (.int .u16 (0)), .lit (.int .i64 (0)), .lit (.int .u16 (0)), .lit (.int .u64 (0)), .lit (.int .i64 (0)), .lit (.int .u16 (0)), .lit (.int .u64 (0)), .lit (.int .u32 (0)), .lit (.int .u8 (0)), .lit (.slice none 0 0), .lit (.slice none 0 0)]), (4, .box [.slc 1 0 (List.length v3.2.b) (List.map (ecI .u8) v3.2.b), .lit (.bool (v3.2.bad))]), (7, .box [.lit (.int .i64 (IntKind.wrap .i64 (ishr .u8 (IntKind.wrap .u8 v1.1) 6))), .lit (.bool (((iand .u8 (IntKind.wrap .u8 v1.1) 32) != 0))), .lit (.bool (((iand .u8 (IntKind.wrap .u8 v1.1) 16) != 0))), .lit (.bool (((iand .u8 (IntKind.wrap .u8 v1.1) 8) != 0))), .lit (.int .u8 (IntKind.wrap .u8 v3.1)), .lit (.int .u16 (0)), .lit (.int .i64 (0)), .lit (.int .u16 (0)), .lit (.int .u64 (0)), .lit (.int .i64 (0)), .lit (.int .u16 (0)), .lit (.int .u64 (0)), .lit (.int .u32 (0)), .lit (.int .u8 (0)), .lit (.slice none 0 0), .lit (.slice none 0 0)])]⟩) (by kernel_rfl) (by kernel_rfl) ?_
  refine TS_joinB ⟨[(2, []), (4, []), (7, [])], [(2, (2, [])), (4, (4, [])), (7, (7, [0, 0, 0, 0, 0, 0, 0, 0, 0, 0, 0, 0, 0, 0, 2, 2]))]⟩ (fun (v4 : S_frame_reader × S_Frame) => []) (fun (v4 : S_frame_reader × S_Frame) => [(4, .box (S_frame_reader.cs v4.1)), (7, .box (S_Frame.cs v4.2))]) (F_frame_parse_R_j1) r ?_ ?_
  · clear h
    intro v4 h
    unfold F_frame_parse_R_j1 at h
    refine TS_cut ⟨[(2, []), (4, []), (7, [])], [(2, (2, [])), (4, (4, [])), (7, (7, []))]⟩ (.mk [.code (codeAt [1, 1, 1, 1, 1] (bodyOf Try.f41))] .normal ⟨[(2, .c (.box 2 0)), (4, .c (.box 4 0)), (7, .c (.box 7 0))], [(2, .box [.lit (.int .i64 (0)), .lit (.bool (false)), .lit (.bool (false)), .lit (.bool (false)), .lit (.int .u8 (0)), .lit (.int .u16 (0)), .lit (.int .i64 (0)), .lit (.int .u16 (0)), .lit (.int .u64 (0)), .lit (.int .i64 (0)), .lit (.int .u16 (0)), .lit (.int .u64 (0)), .lit (.int .u32 (0)), .lit (.int .u8 (0)), .lit (.slice none 0 0), .lit (.slice none 0 0)]), (4, .box [.slc 1 0 (List.length v4.1.b) (List.map (ecI .u8) v4.1.b), .lit (.bool (v4.1.bad))]), (7, .box [.lit (.int .i64 (v4.2.Kind)), .lit (.bool (v4.2.AckRequest)), .lit (.bool (v4.2.Pending)), .lit (.bool (v4.2.Secure)), .lit (.int .u8 (v4.2.Seq)), .lit (.int .u16 (v4.2.Pan)), .lit (.int .i64 (v4.2.Dst.Mode)), .lit (.int .u16 (v4.2.Dst.Short)), .lit (.int .u64 (v4.2.Dst.EUI)), .lit (.int .i64 (v4.2.Src.Mode)), .lit (.int .u16 (v4.2.Src.Short)), .lit (.int .u64 (v4.2.Src.EUI)), .lit (.int .u32 (v4.2.Counter)), .lit (.int .u8 (v4.2.Key)), .slc 1 0 (List.length v4.2.Payload) (List.map (ecI .u8) v4.2.Payload), .slc 1 0 (List.length v4.2.MIC) (List.map (ecI .u8) v4.2.MIC)])]⟩) (by kernel_rfl) (by kernel_rfl) ?_
    refine TS_joinB ⟨[(2, []), (4, []), (7, [])], [(2, (2, [])), (4, (4, [])), (7, (7, []))]⟩ (fun (v5 : S_frame_reader × S_Frame) => []) (fun (v5 : S_frame_reader × S_Frame) => [(4, .box (S_frame_reader.cs v5.1)), (7, .box (S_Frame.cs v5.2))]) (F_frame_parse_R_j2) r ?_ ?_
    · clear h
      intro v5 h
      unfold F_frame_parse_R_j2 at h
      refine TS_go 6 ?_
      replace h := condO h
      rcases h with ⟨hb6, h⟩ | ⟨hb6, h⟩
      · refine TS_know 67 (b := true) hb6 (by kernel_rfl) (by kernel_rfl) ?_
        refine TS_T (by kernel_rfl) rfl ?_
        refine TS_go 6 ?_
        refine TS_nilRB 2 14 600000 5 1 (by kernel_rfl) ?_
        refine TS_nilRB 2 15 600001 5 1 (by kernel_rfl) ?_
        refine TS_fitU ⟨[(2, []), (3, [])], [(600000, (900014, [])), (600001, (900015, [])), (2, (2, []))]⟩ (by kernel_rfl) ?_
        refine TS_go 2 ?_
        have ret := Option.some.inj h
        subst ret
        exact TS_ret (by kernel_rfl) (by kernel_rfl) (by kernel_rfl)
      · refine TS_know 67 (b := false) hb6 (by kernel_rfl) (by kernel_rfl) ?_
        refine TS_F (by kernel_rfl) rfl ?_
        refine TS_go 8 ?_
        refine TS_cut ⟨[(2, []), (4, []), (7, []), (10, [])], [(2, (2, [])), (4, (4, [])), (7, (7, []))]⟩ (.mk [.code (codeAt [1, 1, 1, 1, 1, 1, 1, 1] (bodyOf Try.f41))] .normal ⟨[(2, .c (.box 2 0)), (4, .c (.box 4 0)), (7, .c (.box 7 0)), (10, .c (.lit (.int .i64 ((List.length v5.1.b : Int)))))], [(2, .box [.lit (.int .i64 (0)), .lit (.bool (false)), .lit (.bool (false)), .lit (.bool (false)), .lit (.int .u8 (0)), .lit (.int .u16 (0)), .lit (.int .i64 (0)), .lit (.int .u16 (0)), .lit (.int .u64 (0)), .lit (.int .i64 (0)), .lit (.int .u16 (0)), .lit (.int .u64 (0)), .lit (.int .u32 (0)), .lit (.int .u8 (0)), .lit (.slice none 0 0), .lit (.slice none 0 0)]), (4, .box [.slc 1 0 (List.length v5.1.b) (List.map (ecI .u8) v5.1.b), .lit (.bool (v5.1.bad))]), (7, .box [.lit (.int .i64 (v5.2.Kind)), .lit (.bool (v5.2.AckRequest)), .lit (.bool (v5.2.Pending)), .lit (.bool (v5.2.Secure)), .lit (.int .u8 (v5.2.Seq)), .lit (.int .u16 (v5.2.Pan)), .lit (.int .i64 (v5.2.Dst.Mode)), .lit (.int .u16 (v5.2.Dst.Short)), .lit (.int .u64 (v5.2.Dst.EUI)), .lit (.int .i64 (v5.2.Src.Mode)), .lit (.int .u16 (v5.2.Src.Short)), .lit (.int .u64 (v5.2.Src.EUI)), .lit (.int .u32 (v5.2.Counter)), .lit (.int .u8 (v5.2.Key)), .slc 1 0 (List.length v5.2.Payload) (List.map (ecI .u8) v5.2.Payload), .slc 1 0 (List.length v5.2.MIC) (List.map (ecI .u8) v5.2.MIC)])]⟩) (by kernel_rfl) (by kernel_rfl) ?_
        refine TS_joinB ⟨[(2, []), (4, []), (7, []), (10, [])], [(2, (2, [])), (4, (4, [])), (7, (7, []))]⟩ (fun (v7 : Int) => [(10, .c (.lit (.int .i64 (v7))))]) (fun (v7 : Int) => []) (F_frame_parse_R_j3 v5) r ?_ ?_
        · clear h
          intro v7 h
          unfold F_frame_parse_R_j3 at h
          refine TS_go 5 ?_
          replace h := bindO h
          obtain ⟨l8, hl8, h⟩ := h
          refine TS_sub (ecI .u8) 1 hl8 (by kernel_rfl) (by kernel_rfl) ?_
          replace h := bindO h
          obtain ⟨_l9, hl9, h⟩ := h
          refine TS_appNR 83 5 1 (ecI .u8) (fun _ => by kernel_rfl) (l2 := l8) .whole hl9 (by kernel_rfl) (by kernel_rfl) ?_
          refine TS_go 8 ?_
          replace h := bindO h
          obtain ⟨l10, hl10, h⟩ := h
          refine TS_sub (ecI .u8) 1 hl10 (by kernel_rfl) (by kernel_rfl) ?_
          replace h := bindO h
          obtain ⟨_l11, hl11, h⟩ := h
          refine TS_appNR 89 5 1 (ecI .u8) (fun _ => by kernel_rfl) (l2 := l10) .whole hl11 (by kernel_rfl) (by kernel_rfl) ?_
          refine TS_go 9 ?_
          refine TS_fitU ⟨[(2, []), (3, [])], [(83, (900014, [])), (89, (900015, [])), (2, (2, []))]⟩ (by kernel_rfl) ?_
          refine TS_go 1 ?_
          have ret := Option.some.inj h
          subst ret
          exact TS_ret (by kernel_rfl) (by kernel_rfl) (by kernel_rfl)
        · refine TS_go 5 ?_
          replace h := condO h
          rcases h with ⟨hb12, h⟩ | ⟨hb12, h⟩
          · refine TS_know 73 (b := true) hb12 (by kernel_rfl) (by kernel_rfl) ?_
            refine TS_T (by kernel_rfl) rfl ?_
            refine TS_go 11 ?_
            replace h := condO h
            rcases h with ⟨hb13, h⟩ | ⟨hb13, h⟩
            · refine TS_know 77 (b := true) hb13 (by kernel_rfl) (by kernel_rfl) ?_
              refine TS_T (by kernel_rfl) rfl ?_
              refine TS_go 6 ?_
              refine TS_nilRB 2 14 600000 5 1 (by kernel_rfl) ?_
              refine TS_nilRB 2 15 600001 5 1 (by kernel_rfl) ?_
              refine TS_fitU ⟨[(2, []), (3, [])], [(600000, (900014, [])), (600001, (900015, [])), (2, (2, []))]⟩ (by kernel_rfl) ?_
              refine TS_go 1 ?_
              refine TS_outJ (by kernel_rfl) ?_
              have ret := Option.some.inj h
              subst ret
              exact TS_ret (by kernel_rfl) (by kernel_rfl) (by kernel_rfl)
            · refine TS_know 77 (b := false) hb13 (by kernel_rfl) (by kernel_rfl) ?_
              refine TS_F (by kernel_rfl) rfl ?_
              refine TS_go 1 ?_
              exact TS_meet (IntKind.wrap .i64 ((List.length v5.1.b : Int) - 4)) ⟨[(2, []), (4, []), (7, []), (10, [])], [(2, (2, [])), (4, (4, [])), (7, (7, []))]⟩ h (by kernel_rfl) (by kernel_rfl)
          · refine TS_know 73 (b := false) hb12 (by kernel_rfl) (by kernel_rfl) ?_
            refine TS_F (by kernel_rfl) rfl ?_
            refine TS_go 1 ?_
            exact TS_meet (List.length v5.1.b : Int) ⟨[(2, []), (4, []), (7, []), (10, [])], [(2, (2, [])), (4, (4, [])), (7, (7, []))]⟩ h (by kernel_rfl) (by kernel_rfl)
    · refine TS_go 5 ?_
      replace h := condO h
      rcases h with ⟨hb14, h⟩ | ⟨hb14, h⟩
      · refine TS_know 59 (b := true) hb14 (by kernel_rfl) (by kernel_rfl) ?_
        refine TS_T (by kernel_rfl) rfl ?_
        refine TS_go 2 ?_
        replace h := bindO h
        obtain ⟨v15, hv15, h⟩ := h
        refine TS_con [] [] (some (4, 0)) (ok_frame_reader_next v4.1 4 v15 hv15) (by kernel_rfl) (by kernel_rfl) (by kernel_rfl) ?_
        refine TS_go 5 ?_
        replace h := bindO h
        obtain ⟨v16, hv16, h⟩ := h
        refine TS_con [] [] (some (4, 0)) (ok_frame_reader_next v15.2 1 v16 hv16) (by kernel_rfl) (by kernel_rfl) (by kernel_rfl) ?_
        refine TS_go 4 ?_
        exact TS_meet (v16.2, (S_Frame.mk v4.2.Kind v4.2.AckRequest v4.2.Pending v4.2.Secure v4.2.Seq v4.2.Pan v4.2.Dst v4.2.Src (IntKind.wrap .u32 v15.1) (IntKind.wrap .u8 v16.1) v4.2.Payload v4.2.MIC)) ⟨[(2, []), (4, []), (7, [])], [(2, (2, [])), (4, (4, [])), (7, (7, []))]⟩ h (by kernel_rfl) (by kernel_rfl)
      · refine TS_know 59 (b := false) hb14 (by kernel_rfl) (by kernel_rfl) ?_
        refine TS_F (by kernel_rfl) rfl ?_
        refine TS_go 1 ?_
        exact TS_meet (v4.1, v4.2) ⟨[(2, []), (4, []), (7, [])], [(2, (2, [])), (4, (4, [])), (7, (7, []))]⟩ h (by kernel_rfl) (by kernel_rfl)
  · refine TS_go 6 ?_
    replace h := condO h
    rcases h with ⟨hb17, h⟩ | ⟨hb17, h⟩
    · refine TS_know 34 (b := true) hb17 (by kernel_rfl) (by kernel_rfl) ?_
      refine TS_T (by kernel_rfl) rfl ?_
      refine TS_go 2 ?_
      replace h := bindO h
      obtain ⟨v18, hv18, h⟩ := h
      refine TS_con [] [] (some (4, 0)) (ok_frame_reader_next v3.2 2 v18 hv18) (by kernel_rfl) (by kernel_rfl) (by kernel_rfl) ?_
      refine TS_go 14 ?_
      refine TS_cut ⟨[(2, []), (4, []), (6, []), (7, []), (8, []), (38, [])], [(2, (2, [])), (4, (4, [])), (7, (7, [])), (8, (8, []))]⟩ (.mk [.code (codeAt [1, 1, 1, 1, 0, 1, 0, 1, 1, 0, 1, 0] (bodyOf Try.f41)), .blk 0, .code (codeAt [1, 1, 1, 1, 0, 1, 0, 1, 1, 1] (bodyOf Try.f41))] .normal ⟨[(2, .c (.box 2 0)), (4, .c (.box 4 0)), (6, .c (.lit (.int .u8 (IntKind.wrap .u8 v2.1)))), (7, .c (.box 7 0)), (8, .c (.box 8 0)), (38, .c (.lit (.int .i64 (0))))], [(2, .box [.lit (.int .i64 (0)), .lit (.bool (false)), .lit (.bool (false)), .lit (.bool (false)), .lit (.int .u8 (0)), .lit (.int .u16 (0)), .lit (.int .i64 (0)), .lit (.int .u16 (0)), .lit (.int .u64 (0)), .lit (.int .i64 (0)), .lit (.int .u16 (0)), .lit (.int .u64 (0)), .lit (.int .u32 (0)), .lit (.int .u8 (0)), .lit (.slice none 0 0), .lit (.slice none 0 0)]), (4, .box [.slc 1 0 (List.length v18.2.b) (List.map (ecI .u8) v18.2.b), .lit (.bool (v18.2.bad))]), (7, .box [.lit (.int .i64 (IntKind.wrap .i64 (ishr .u8 (IntKind.wrap .u8 v1.1) 6))), .lit (.bool (((iand .u8 (IntKind.wrap .u8 v1.1) 32) != 0))), .lit (.bool (((iand .u8 (IntKind.wrap .u8 v1.1) 16) != 0))), .lit (.bool (((iand .u8 (IntKind.wrap .u8 v1.1) 8) != 0))), .lit (.int .u8 (IntKind.wrap .u8 v3.1)), .lit (.int .u16 (IntKind.wrap .u16 v18.1)), .lit (.int .i64 (0)), .lit (.int .u16 (0)), .lit (.int .u64 (0)), .lit (.int .i64 (0)), .lit (.int .u16 (0)), .lit (.int .u64 (0)), .lit (.int .u32 (0)), .lit (.int .u8 (0)), .lit (.slice none 0 0), .lit (.slice none 0 0)]), (8, .box [.lit (.int .i64 (0)), .lit (.int .u16 (0)), .lit (.int .u64 (0)), .lit (.int .i64 (0)), .lit (.int .u16 (0)), .lit (.int .u64 (0))])]⟩) (by kernel_rfl) (by kernel_rfl) ?_
      refine TS_unr 16 (by kernel_rfl) ?_
      refine TS_go 5 ?_
      refine TS_T (by kernel_rfl) rfl ?_
      refine TS_go 17 ?_
      replace h := bindO h
      obtain ⟨v19, hv19, h⟩ := h
      refine TS_con [] [] (some (4, 0)) (ok_frame_reader_addr v18.2 (IntKind.wrap .i64 (iand .u8 (ishr .u8 (IntKind.wrap .u8 v2.1) 6) 3)) v19 hv19) (by kernel_rfl) (by kernel_rfl) (by kernel_rfl) ?_
      refine TS_go 8 ?_
      refine TS_unrN (by kernel_rfl) (by kernel_rfl) ?_
      refine TS_go 5 ?_
      refine TS_T (by kernel_rfl) rfl ?_
      refine TS_go 17 ?_
      replace h := bindO h
      obtain ⟨v20, hv20, h⟩ := h
      refine TS_con [] [] (some (4, 0)) (ok_frame_reader_addr v19.2 (IntKind.wrap .i64 (iand .u8 (ishr .u8 (IntKind.wrap .u8 v2.1) 4) 3)) v20 hv20) (by kernel_rfl) (by kernel_rfl) (by kernel_rfl) ?_
      refine TS_go 8 ?_
      refine TS_unrN (by kernel_rfl) (by kernel_rfl) ?_
      refine TS_go 5 ?_
      refine TS_F (by kernel_rfl) rfl ?_
      refine TS_go 2 ?_
      refine TS_unrX (by kernel_rfl) ?_
      refine TS_go 1 ?_
      refine TS_draw (by kernel_rfl) ?_
      refine TD_go 8 ?_
      refine TD_end (by kernel_rfl) ?_
      exact TS_meet (v20.2, (S_Frame.mk (IntKind.wrap .i64 (ishr .u8 (IntKind.wrap .u8 v1.1) 6)) ((iand .u8 (IntKind.wrap .u8 v1.1) 32) != 0) ((iand .u8 (IntKind.wrap .u8 v1.1) 16) != 0) ((iand .u8 (IntKind.wrap .u8 v1.1) 8) != 0) (IntKind.wrap .u8 v3.1) (IntKind.wrap .u16 v18.1) v19.1 v20.1 0 0 ([] : List Int) ([] : List Int))) ⟨[(2, []), (4, []), (7, [])], [(2, (2, [])), (4, (4, [])), (7, (7, [0, 0, 0, 0, 0, 0, 0, 0, 0, 0, 0, 0, 0, 0, 2, 2]))]⟩ h (by kernel_rfl) (by kernel_rfl)
    · refine TS_know 34 (b := false) hb17 (by kernel_rfl) (by kernel_rfl) ?_
      refine TS_F (by kernel_rfl) rfl ?_
      refine TS_go 1 ?_
      exact TS_meet (v3.2, (S_Frame.mk (IntKind.wrap .i64 (ishr .u8 (IntKind.wrap .u8 v1.1) 6)) ((iand .u8 (IntKind.wrap .u8 v1.1) 32) != 0) ((iand .u8 (IntKind.wrap .u8 v1.1) 16) != 0) ((iand .u8 (IntKind.wrap .u8 v1.1) 8) != 0) (IntKind.wrap .u8 v3.1) 0 (S_Addr.mk 0 0 0) (S_Addr.mk 0 0 0) 0 0 ([] : List Int) ([] : List Int))) ⟨[(2, []), (4, []), (7, [])], [(2, (2, [])), (4, (4, [])), (7, (7, [0, 0, 0, 0, 0, 0, 0, 0, 0, 0, 0, 0, 0, 0, 2, 2]))]⟩ h (by kernel_rfl) (by kernel_rfl)

/-- multihop/checksum.Append -/
noncomputable def F_checksum_Append_R (a0 : List Int) : Option ((List Int)) :=
  (F_checksum_CRC a0).bind fun v1 =>
  (mkO 1 0 (IntKind.wrap .i64 ((List.length a0 : Int) + 2))).bind fun n2 =>
  (appO 1 (List.take (List.length (List.replicate n2 (0 : Int))) (List.replicate n2 (0 : Int))) (Cut.app .whole a0)).bind fun l3 =>
  (appO 1 (List.take (List.length l3) l3) (Cut.app .whole ([IntKind.wrap .u8 v1, IntKind.wrap .u8 (ishr .u16 v1 8)] : List Int))).bind fun l4 =>
  some (l4)
set_option maxRecDepth 100000 in
set_option maxHeartbeats 40000000 in
theorem okT_checksum_Append_R (a0 : List Int) (r : (List Int)) (h : F_checksum_Append_R a0 = some r) : Con Try.prog 39 [.c (eS 1 (ecI .u8) (a0))] [] (.c (.own 900000)) [(900000, .row 5 1 (List.length r) (List.map (ecI .u8) r))] := by
  unfold F_checksum_Append_R at h
  refine con_of [] [(900000, [])] 22 Try.func39 rfl rfl (by kernel_rfl) (fun K => ?_)
  refine TS_go 7 ?_
  replace h := bindO h
  obtain ⟨v1, hv1, h⟩ := h
  refine TS_call [] (ok_checksum_CRC a0 v1 hv1) (by kernel_rfl) (by kernel_rfl) ?_
  refine TS_go 7 ?_
  replace h := bindO h
  obtain ⟨n2, hn2, h⟩ := h
  refine TS_makeR 10 5 1 (ecI .u8) (0 : Int) [] (cs := [.lit (.int .u8 (0))]) (l := 0) (c := IntKind.wrap .i64 ((List.length a0 : Int) + 2)) hn2 (by kernel_rfl) (by kernel_rfl) (by kernel_rfl) ?_
  refine TS_go 6 ?_
  replace h := bindO h
  obtain ⟨l3, hl3, h⟩ := h
  refine TS_appR (d := 10) (e := 5) (sz := 1) (N := List.length (List.replicate n2 (0 : Int))) (m := (List.length (List.replicate n2 (0 : Int)))) (ecI .u8) (fun _ => by kernel_rfl) (l1 := (List.replicate n2 (0 : Int))) (l2 := a0) (c := .whole) hl3 (by kernel_rfl) (by kernel_rfl) ?_
  refine TS_go 10 ?_
  refine TS_litNT 20 5 1 (ecI .u8) [] ([IntKind.wrap .u8 v1, IntKind.wrap .u8 (ishr .u16 v1 8)] : List Int) (by kernel_rfl) (by kernel_rfl) ?_
  replace h := bindO h
  obtain ⟨_l4, hl4, h⟩ := h
  refine TS_appR (d := 10) (e := 5) (sz := 1) (N := List.length l3) (m := (List.length l3)) (ecI .u8) (fun _ => by kernel_rfl) (l1 := l3) (l2 := ([IntKind.wrap .u8 v1, IntKind.wrap .u8 (ishr .u16 v1 8)] : List Int)) (c := .whole) hl4 (by kernel_rfl) (by kernel_rfl) ?_
  refine TS_go 2 ?_
  refine TS_fitU ⟨[(2, [])], [(10, (900000, []))]⟩ (by kernel_rfl) ?_
  refine TS_go 1 ?_
  have ret := Option.some.inj h
  subst ret
  exact TS_ret (by kernel_rfl) (by kernel_rfl) (by kernel_rfl)

/-- multihop/frame.Encode -/
noncomputable def F_frame_Encode_R (a0 : S_Frame) : Option ((List Int) × Int) :=
  (F_frame_Valid a0).bind fun v1 =>
  bif v1 then
    (F_frame_Header a0).bind fun v3 =>
    (appO 1 v3 (Cut.app .whole a0.MIC)).bind fun l4 =>
    (F_checksum_Append_R l4).bind fun v5 =>
    some ((v5, 0))
  else
    some ((([] : List Int), 1))
set_option maxRecDepth 100000 in
set_option maxHeartbeats 40000000 in
theorem okT_frame_Encode_R (a0 : S_Frame) (r : (List Int) × Int) (h : F_frame_Encode_R a0 = some r) : Con Try.prog 18 [.agg (S_Frame.cs a0)] [] (.tup [(false, [.own 900000]), (false, [.lit (.int .i64 (r.2))])]) [(900000, .row 5 1 (List.length r.1) (List.map (ecI .u8) r.1))] := by
  unfold F_frame_Encode_R at h
  refine con_of [] [(900000, [])] 13 Try.func18 rfl rfl (by kernel_rfl) (fun K => ?_)
  refine TS_go 10 ?_
  replace h := bindO h
  obtain ⟨v1, hv1, h⟩ := h
  refine TS_call [] (ok_frame_Valid a0 v1 hv1) (by kernel_rfl) (by kernel_rfl) ?_
  refine TS_go 2 ?_
  replace h := condO h
  rcases h with ⟨hb2, h⟩ | ⟨hb2, h⟩
  · subst hb2
    refine TS_F (by kernel_rfl) rfl ?_
    refine TS_go 2 ?_
    refine TS_draw (by kernel_rfl) ?_
    refine TD_go 1 ?_
    replace h := bindO h
    obtain ⟨v3, hv3, h⟩ := h
    refine TD_conX (d := 8) (e := 900000) [] (okT_frame_Header a0 v3 hv3) (by kernel_rfl) (by kernel_rfl) ?_
    refine TD_go 2 ?_
    replace h := bindO h
    obtain ⟨l4, hl4, h⟩ := h
    refine TD_appT (d := 8) (e := 5) (sz := 1) (N := List.length v3) (ecI .u8) (fun _ => by kernel_rfl) (l1 := v3) (l2 := a0.MIC) (c := .whole) hl4 (by kernel_rfl) (by kernel_rfl) ?_
    replace h := bindO h
    obtain ⟨v5, hv5, h⟩ := h
    refine TD_conX (d := 12) (e := 900000) [[2]] (okT_checksum_Append_R l4 v5 hv5) (by kernel_rfl) (by kernel_rfl) ?_
    refine TD_go 2 ?_
    refine TD_end (by kernel_rfl) ?_
    refine TS_fitU ⟨[(2, []), (3, [])], [(12, (900000, []))]⟩ (by kernel_rfl) ?_
    refine TS_go 1 ?_
    have ret := Option.some.inj h
    subst ret
    exact TS_ret (by kernel_rfl) (by kernel_rfl) (by kernel_rfl)
  · subst hb2
    refine TS_T (by kernel_rfl) rfl ?_
    refine TS_go 5 ?_
    refine TS_nilR 2 600000 5 1 (by kernel_rfl) ?_
    refine TS_fitU ⟨[(2, []), (3, [])], [(600000, (900000, []))]⟩ (by kernel_rfl) ?_
    refine TS_go 2 ?_
    have ret := Option.some.inj h
    subst ret
    exact TS_ret (by kernel_rfl) (by kernel_rfl) (by kernel_rfl)

/-- multihop/frame.Decode -/
noncomputable def F_frame_Decode_R (a0 : List Int) : Option (S_Frame × Int) :=
  bif (decide ((List.length a0 : Int) > 127)) then
    some (((S_Frame.mk 0 false false false 0 0 (S_Addr.mk 0 0 0) (S_Addr.mk 0 0 0) 0 0 ([] : List Int) ([] : List Int)), 3))
  else
    bif (decide ((List.length a0 : Int) < 5)) then
      some (((S_Frame.mk 0 false false false 0 0 (S_Addr.mk 0 0 0) (S_Addr.mk 0 0 0) 0 0 ([] : List Int) ([] : List Int)), 4))
    else
      (F_checksum_Check a0).bind fun v3 =>
      bif v3 then
        (subO a0 0 (IntKind.wrap .i64 ((List.length a0 : Int) - 2))).bind fun l5 =>
        (F_frame_parse_R l5).bind fun v6 =>
        bif v6.2 then
          (F_frame_Encode_R v6.1).bind fun v8 =>
          bif (v8.2 != 0) then
            some (((S_Frame.mk 0 false false false 0 0 (S_Addr.mk 0 0 0) (S_Addr.mk 0 0 0) 0 0 ([] : List Int) ([] : List Int)), 5))
          else
            (F_bytes_Equal v8.1 a0).bind fun v10 =>
            bif v10 then
              some ((v6.1, 0))
            else
              some (((S_Frame.mk 0 false false false 0 0 (S_Addr.mk 0 0 0) (S_Addr.mk 0 0 0) 0 0 ([] : List Int) ([] : List Int)), 5))
        else
          some (((S_Frame.mk 0 false false false 0 0 (S_Addr.mk 0 0 0) (S_Addr.mk 0 0 0) 0 0 ([] : List Int) ([] : List Int)), 5))
      else
        some (((S_Frame.mk 0 false false false 0 0 (S_Addr.mk 0 0 0) (S_Addr.mk 0 0 0) 0 0 ([] : List Int) ([] : List Int)), 6))
set_option maxRecDepth 100000 in
set_option maxHeartbeats 40000000 in
theorem okT_frame_Decode_R (a0 : List Int) (r : S_Frame × Int) (h : F_frame_Decode_R a0 = some r) : Con Try.prog 19 [.c (eS 1 (ecI .u8) (a0))] [] (.tup [(true, [.lit (.int .i64 (r.1.Kind)), .lit (.bool (r.1.AckRequest)), .lit (.bool (r.1.Pending)), .lit (.bool (r.1.Secure)), .lit (.int .u8 (r.1.Seq)), .lit (.int .u16 (r.1.Pan)), .lit (.int .i64 (r.1.Dst.Mode)), .lit (.int .u16 (r.1.Dst.Short)), .lit (.int .u64 (r.1.Dst.EUI)), .lit (.int .i64 (r.1.Src.Mode)), .lit (.int .u16 (r.1.Src.Short)), .lit (.int .u64 (r.1.Src.EUI)), .lit (.int .u32 (r.1.Counter)), .lit (.int .u8 (r.1.Key)), .own 900014, .own 900015]), (false, [.lit (.int .i64 (r.2))])]) [(900014, .row 5 1 (List.length r.1.Payload) (List.map (ecI .u8) r.1.Payload)), (900015, .row 5 1 (List.length r.1.MIC) (List.map (ecI .u8) r.1.MIC))] := by
  unfold F_frame_Decode_R at h
  refine con_of [] [(900014, []), (900015, [])] 50 Try.func19 rfl rfl (by kernel_rfl) (fun K => ?_)
  refine TS_go 14 ?_
  replace h := condO h
  rcases h with ⟨hb1, h⟩ | ⟨hb1, h⟩
  · refine TS_know 11 (b := true) hb1 (by kernel_rfl) (by kernel_rfl) ?_
    refine TS_know 8 (b := true) hb1 (by kernel_rfl) (by kernel_rfl) ?_
    refine TS_T (by kernel_rfl) rfl ?_
    refine TS_go 6 ?_
    refine TS_nilRB 2 14 600000 5 1 (by kernel_rfl) ?_
    refine TS_nilRB 2 15 600001 5 1 (by kernel_rfl) ?_
    refine TS_fitU ⟨[(2, []), (3, [])], [(600000, (900014, [])), (600001, (900015, [])), (2, (2, []))]⟩ (by kernel_rfl) ?_
    refine TS_go 3 ?_
    have ret := Option.some.inj h
    subst ret
    exact TS_ret (by kernel_rfl) (by kernel_rfl) (by kernel_rfl)
  · refine TS_know 11 (b := false) hb1 (by kernel_rfl) (by kernel_rfl) ?_
    refine TS_know 8 (b := false) hb1 (by kernel_rfl) (by kernel_rfl) ?_
    refine TS_F (by kernel_rfl) rfl ?_
    refine TS_go 7 ?_
    replace h := condO h
    rcases h with ⟨hb2, h⟩ | ⟨hb2, h⟩
    · refine TS_know 16 (b := true) hb2 (by kernel_rfl) (by kernel_rfl) ?_
      refine TS_know 13 (b := true) hb2 (by kernel_rfl) (by kernel_rfl) ?_
      refine TS_T (by kernel_rfl) rfl ?_
      refine TS_go 6 ?_
      refine TS_nilRB 2 14 600000 5 1 (by kernel_rfl) ?_
      refine TS_nilRB 2 15 600001 5 1 (by kernel_rfl) ?_
      refine TS_fitU ⟨[(2, []), (3, [])], [(600000, (900014, [])), (600001, (900015, [])), (2, (2, []))]⟩ (by kernel_rfl) ?_
      refine TS_go 3 ?_
      have ret := Option.some.inj h
      subst ret
      exact TS_ret (by kernel_rfl) (by kernel_rfl) (by kernel_rfl)
    · refine TS_know 16 (b := false) hb2 (by kernel_rfl) (by kernel_rfl) ?_
      refine TS_know 13 (b := false) hb2 (by kernel_rfl) (by kernel_rfl) ?_
      refine TS_F (by kernel_rfl) rfl ?_
      refine TS_go 3 ?_
      replace h := bindO h
      obtain ⟨v3, hv3, h⟩ := h
      refine TS_call [] (ok_checksum_Check a0 v3 hv3) (by kernel_rfl) (by kernel_rfl) ?_
      refine TS_go 3 ?_
      replace h := condO h
      rcases h with ⟨hb4, h⟩ | ⟨hb4, h⟩
      · subst hb4
        refine TS_F (by kernel_rfl) rfl ?_
        refine TS_go 8 ?_
        replace h := bindO h
        obtain ⟨l5, hl5, h⟩ := h
        refine TS_sub (ecI .u8) 1 hl5 (by kernel_rfl) (by kernel_rfl) ?_
        replace h := bindO h
        obtain ⟨v6, hv6, h⟩ := h
        refine TS_con [] [(29, 900014), (600000, 900015)] none (okT_frame_parse_R l5 v6 hv6) (by kernel_rfl) (by kernel_rfl) (by kernel_rfl) ?_
        refine TS_go 13 ?_
        replace h := condO h
        rcases h with ⟨hb7, h⟩ | ⟨hb7, h⟩
        · refine TS_know 31 (b := true) hb7 (by kernel_rfl) (by kernel_rfl) ?_
          refine TS_know 5 (b := true) hb7 (by kernel_rfl) (by kernel_rfl) ?_
          refine TS_know 32 (b := true) hb7 (by kernel_rfl) (by kernel_rfl) ?_
          refine TS_know 33 (b := false) (notF hb7) (by kernel_rfl) (by kernel_rfl) ?_
          refine TS_F (by kernel_rfl) rfl ?_
          refine TS_go 4 ?_
          replace h := bindO h
          obtain ⟨v8, hv8, h⟩ := h
          refine TS_conF [] [(37, 900000)] (okT_frame_Encode_R v6.1 v8 hv8) (by kernel_rfl) ⟨nr_map _ (fun _ => by kernel_rfl), trivial⟩ (by kernel_rfl) ?_
          refine TS_go 12 ?_
          replace h := condO h
          rcases h with ⟨hb9, h⟩ | ⟨hb9, h⟩
          · refine TS_know 41 (b := true) hb9 (by kernel_rfl) (by kernel_rfl) ?_
            refine TS_know 42 (b := true) hb9 (by kernel_rfl) (by kernel_rfl) ?_
            refine TS_go 6 ?_
            refine TS_T (by kernel_rfl) rfl ?_
            refine TS_go 6 ?_
            refine TS_nilRB 2 14 600001 5 1 (by kernel_rfl) ?_
            refine TS_nilRB 2 15 600002 5 1 (by kernel_rfl) ?_
            refine TS_fitU ⟨[(2, []), (3, [])], [(600001, (900014, [])), (600002, (900015, [])), (2, (2, []))]⟩ (by kernel_rfl) ?_
            refine TS_go 2 ?_
            have ret := Option.some.inj h
            subst ret
            exact TS_ret (by kernel_rfl) (by kernel_rfl) (by kernel_rfl)
          · refine TS_know 41 (b := false) hb9 (by kernel_rfl) (by kernel_rfl) ?_
            refine TS_know 42 (b := false) hb9 (by kernel_rfl) (by kernel_rfl) ?_
            refine TS_go 2 ?_
            replace h := bindO h
            obtain ⟨v10, hv10, h⟩ := h
            refine TS_callF [] (ok_bytes_Equal v8.1 a0 v10 hv10) (by kernel_rfl) (by kernel_rfl) ?_
            refine TS_go 3 ?_
            replace h := condO h
            rcases h with ⟨hb11, h⟩ | ⟨hb11, h⟩
            · subst hb11
              refine TS_F (by kernel_rfl) rfl ?_
              refine TS_go 7 ?_
              refine TS_fitU ⟨[(2, []), (3, [])], [(29, (900014, [])), (600000, (900015, [])), (2, (2, []))]⟩ (by kernel_rfl) ?_
              refine TS_go 1 ?_
              have ret := Option.some.inj h
              subst ret
              exact TS_ret (by kernel_rfl) (by kernel_rfl) (by kernel_rfl)
            · subst hb11
              refine TS_T (by kernel_rfl) rfl ?_
              refine TS_go 6 ?_
              refine TS_nilRB 2 14 600001 5 1 (by kernel_rfl) ?_
              refine TS_nilRB 2 15 600002 5 1 (by kernel_rfl) ?_
              refine TS_fitU ⟨[(2, []), (3, [])], [(600001, (900014, [])), (600002, (900015, [])), (2, (2, []))]⟩ (by kernel_rfl) ?_
              refine TS_go 2 ?_
              have ret := Option.some.inj h
              subst ret
              exact TS_ret (by kernel_rfl) (by kernel_rfl) (by kernel_rfl)
        · refine TS_know 31 (b := false) hb7 (by kernel_rfl) (by kernel_rfl) ?_
          refine TS_know 5 (b := false) hb7 (by kernel_rfl) (by kernel_rfl) ?_
          refine TS_know 32 (b := false) hb7 (by kernel_rfl) (by kernel_rfl) ?_
          refine TS_know 33 (b := true) (notT hb7) (by kernel_rfl) (by kernel_rfl) ?_
          refine TS_T (by kernel_rfl) rfl ?_
          refine TS_go 6 ?_
          refine TS_nilRB 2 14 600001 5 1 (by kernel_rfl) ?_
          refine TS_nilRB 2 15 600002 5 1 (by kernel_rfl) ?_
          refine TS_fitU ⟨[(2, []), (3, [])], [(600001, (900014, [])), (600002, (900015, [])), (2, (2, []))]⟩ (by kernel_rfl) ?_
          refine TS_go 2 ?_
          have ret := Option.some.inj h
          subst ret
          exact TS_ret (by kernel_rfl) (by kernel_rfl) (by kernel_rfl)
      · subst hb4
        refine TS_T (by kernel_rfl) rfl ?_
        refine TS_go 6 ?_
        refine TS_nilRB 2 14 600000 5 1 (by kernel_rfl) ?_
        refine TS_nilRB 2 15 600001 5 1 (by kernel_rfl) ?_
        refine TS_fitU ⟨[(2, []), (3, [])], [(600000, (900014, [])), (600001, (900015, [])), (2, (2, []))]⟩ (by kernel_rfl) ?_
        refine TS_go 3 ?_
        have ret := Option.some.inj h
        subst ret
        exact TS_ret (by kernel_rfl) (by kernel_rfl) (by kernel_rfl)

/-- multihop/multihopref01.Same -/
noncomputable def F_ref01_Same_l1 (a0 : List Int) (a1 : List Int) (s2 : Int) : Option ((Int) ⊕ ((Unit) ⊕ (Bool))) :=
  bif (decide (s2 < (List.length a0 : Int))) then
    (idx a0 s2).bind fun e6 =>
    (idx a1 s2).bind fun e7 =>
    bif (e6 != e7) then
      some (Sum.inr (Sum.inr false))
    else
      some (Sum.inl (IntKind.wrap .i64 (s2 + 1)))
  else
    some (Sum.inr (Sum.inl ()))
noncomputable def F_ref01_Same (a0 : List Int) (a1 : List Int) : Option (Bool) :=
  bif ((List.length a0 : Int) != (List.length a1 : Int)) then
    some (false)
  else
    (loopO (F_ref01_Same_l1 a0 a1) 0).bind (Sum.elim (fun b3 =>
      some (true)
    ) (fun w9 => some w9))
set_option maxRecDepth 100000 in
set_option maxHeartbeats 40000000 in
theorem ok_ref01_Same (a0 : List Int) (a1 : List Int) (r : Bool) (h : F_ref01_Same a0 a1 = some r) : Con Try.prog 20 [.c (eS 1 (ecI .u8) (a0)), .c (eS 1 (ecI .u8) (a1))] [] (.c (.lit (.bool (r)))) [] := by
  unfold F_ref01_Same at h
  refine con_of [] [] 26 Try.func20 rfl rfl (by kernel_rfl) (fun K => ?_)
  refine TS_go 13 ?_
  replace h := condO h
  rcases h with ⟨hb1, h⟩ | ⟨hb1, h⟩
  · refine TS_know 10 (b := true) hb1 (by kernel_rfl) (by kernel_rfl) ?_
    refine TS_T (by kernel_rfl) rfl ?_
    refine TS_go 6 ?_
    have ret := Option.some.inj h
    subst ret
    exact TS_ret (by kernel_rfl) (by kernel_rfl) (by kernel_rfl)
  · refine TS_know 10 (b := false) hb1 (by kernel_rfl) (by kernel_rfl) ?_
    refine TS_F (by kernel_rfl) rfl ?_
    refine TS_go 7 ?_
    refine TS_cut ⟨[(0, []), (1, []), (5, [])], []⟩ (.mk [.code (codeAt [1, 1, 0, 1, 0] (bodyOf Try.f20)), .blk 0, .code (codeAt [1, 1, 1] (bodyOf Try.f20))] .normal ⟨[(0, .c (.slc 1 0 (List.length a0) (List.map (ecI .u8) a0))), (1, .c (.slc 1 0 (List.length a1) (List.map (ecI .u8) a1))), (5, .c (.lit (.int .i64 (0))))], []⟩) (by kernel_rfl) (by kernel_rfl) ?_
    replace h := bindO h
    obtain ⟨y4, hl1, hK1⟩ := h
    refine TS_loopB (F_ref01_Same_l1 a0 a1) ⟨[(0, []), (1, []), (5, [])], []⟩ (fun (s2 : Int) => [(5, .c (.lit (.int .i64 (s2))))]) (fun (s2 : Int) => []) 0 y4 (.exit 0) (fun (b : Unit) => (Sum.inl b : (Unit) ⊕ (Bool))) ⟨[], []⟩ (fun (b3 : Unit) => []) (fun (b3 : Unit) => []) hl1 (by kernel_rfl) (by kernel_rfl) ?_ ?_
    · intro s2 x h hy1
      unfold F_ref01_Same_l1 at h
      refine TS_go 8 ?_
      replace h := condO h
      rcases h with ⟨hb5, h⟩ | ⟨hb5, h⟩
      · refine TS_know 14 (b := true) hb5 (by kernel_rfl) (by kernel_rfl) ?_
        refine TS_T (by kernel_rfl) rfl ?_
        refine TS_go 4 ?_
        refine TS_draw (by kernel_rfl) ?_
        refine TD_go 2 ?_
        replace h := bindO h
        obtain ⟨_e6, he6, h⟩ := h
        refine TD_idx (ecI .u8) he6 (by kernel_rfl) (by kernel_rfl) ?_
        refine TD_go 3 ?_
        replace h := bindO h
        obtain ⟨_e7, he7, h⟩ := h
        refine TD_idx (ecI .u8) he7 (by kernel_rfl) (by kernel_rfl) ?_
        refine TD_go 2 ?_
        refine TD_end (by kernel_rfl) ?_
        replace h := condO h
        rcases h with ⟨hb8, h⟩ | ⟨hb8, h⟩
        · refine TS_know 25 (b := true) hb8 (by kernel_rfl) (by kernel_rfl) ?_
          refine TS_T (by kernel_rfl) rfl ?_
          refine TS_go 7 ?_
          have ret := Option.some.inj h
          subst ret
          have hy1q := hy1 _ rfl
          subst hy1q
          replace h := (elimR hK1)
          refine TS_retB rfl (by kernel_rfl) ?_
          refine TS_go 2 ?_
          have ret := Option.some.inj h
          subst ret
          exact TS_ret (by kernel_rfl) (by kernel_rfl) (by kernel_rfl)
        · refine TS_know 25 (b := false) hb8 (by kernel_rfl) (by kernel_rfl) ?_
          refine TS_F (by kernel_rfl) rfl ?_
          refine TS_go 7 ?_
          have ret := Option.some.inj h
          subst ret
          exact TS_againB _ ⟨[(0, []), (1, []), (5, [])], []⟩ rfl (by kernel_rfl) (by kernel_rfl)
      · refine TS_know 14 (b := false) hb5 (by kernel_rfl) (by kernel_rfl) ?_
        refine TS_F (by kernel_rfl) rfl ?_
        refine TS_go 2 ?_
        have ret := Option.some.inj h
        subst ret
        exact TS_brkB () ⟨[], []⟩ rfl (by kernel_rfl) (by kernel_rfl) (by kernel_rfl)
    · intro b3 hb
      subst y4
      have h := elimL hK1
      refine TS_go 6 ?_
      have ret := Option.some.inj h
      subst ret
      exact TS_ret (by kernel_rfl) (by kernel_rfl) (by kernel_rfl)

/-- multihop/multihoplaw05.known -/
noncomputable def F_law05_known  : Option (Bool) :=
  (F_frame_Encode (S_Frame.mk 2 false false false 7 0 (S_Addr.mk 0 0 0) (S_Addr.mk 0 0 0) 0 0 ([] : List Int) ([] : List Int))).bind fun v1 =>
  (F_frame_Decode v1.1).bind fun v2 =>
  bif (v1.2 == 0) then
    bif (v2.2 == 0) then
      bif ((List.length v1.1 : Int) == 5) then
        some ((v2.1.Seq == 7))
      else
        some (false)
    else
      some (false)
  else
    some (false)
set_option maxRecDepth 100000 in
set_option maxHeartbeats 40000000 in
theorem ok_law05_known  (r : Bool) (h : F_law05_known  = some r) : Con Try.prog 14 [] [] (.c (.lit (.bool (r)))) [] := by
  unfold F_law05_known at h
  refine con_of [] [] 31 Try.func14 rfl rfl (by kernel_rfl) (fun K => ?_)
  refine TS_go 7 ?_
  replace h := bindO h
  obtain ⟨v1, hv1, h⟩ := h
  refine TS_con [[0, 0, 0, 0, 0, 0, 0, 0, 0, 0, 0, 0, 0, 0, 2, 2]] [(7, 900000)] none (okT_frame_Encode (S_Frame.mk 2 false false false 7 0 (S_Addr.mk 0 0 0) (S_Addr.mk 0 0 0) 0 0 ([] : List Int) ([] : List Int)) v1 hv1) (by kernel_rfl) (by kernel_rfl) (by kernel_rfl) ?_
  refine TS_go 9 ?_
  replace h := bindO h
  obtain ⟨v2, hv2, h⟩ := h
  refine TS_con [[2]] [(12, 900014), (600000, 900015)] none (okT_frame_Decode v1.1 v2 hv2) (by kernel_rfl) (by kernel_rfl) (by kernel_rfl) ?_
  refine TS_go 12 ?_
  replace h := condO h
  rcases h with ⟨hb3, h⟩ | ⟨hb3, h⟩
  · refine TS_know 16 (b := true) hb3 (by kernel_rfl) (by kernel_rfl) ?_
    refine TS_know 17 (b := true) hb3 (by kernel_rfl) (by kernel_rfl) ?_
    refine TS_go 4 ?_
    replace h := condO h
    rcases h with ⟨hb4, h⟩ | ⟨hb4, h⟩
    · refine TS_know 19 (b := true) hb4 (by kernel_rfl) (by kernel_rfl) ?_
      refine TS_know 20 (b := true) hb4 (by kernel_rfl) (by kernel_rfl) ?_
      refine TS_know 21 (b := true) hb4 (by kernel_rfl) (by kernel_rfl) ?_
      refine TS_go 5 ?_
      replace h := condO h
      rcases h with ⟨hb5, h⟩ | ⟨hb5, h⟩
      · refine TS_know 24 (b := true) hb5 (by kernel_rfl) (by kernel_rfl) ?_
        refine TS_know 25 (b := true) hb5 (by kernel_rfl) (by kernel_rfl) ?_
        refine TS_know 26 (b := true) hb5 (by kernel_rfl) (by kernel_rfl) ?_
        refine TS_go 7 ?_
        have ret := Option.some.inj h
        subst ret
        exact TS_ret (by kernel_rfl) (by kernel_rfl) (by kernel_rfl)
      · refine TS_know 24 (b := false) hb5 (by kernel_rfl) (by kernel_rfl) ?_
        refine TS_know 25 (b := false) hb5 (by kernel_rfl) (by kernel_rfl) ?_
        refine TS_know 26 (b := false) hb5 (by kernel_rfl) (by kernel_rfl) ?_
        refine TS_go 7 ?_
        have ret := Option.some.inj h
        subst ret
        exact TS_ret (by kernel_rfl) (by kernel_rfl) (by kernel_rfl)
    · refine TS_know 19 (b := false) hb4 (by kernel_rfl) (by kernel_rfl) ?_
      refine TS_know 20 (b := false) hb4 (by kernel_rfl) (by kernel_rfl) ?_
      refine TS_know 21 (b := false) hb4 (by kernel_rfl) (by kernel_rfl) ?_
      refine TS_go 12 ?_
      have ret := Option.some.inj h
      subst ret
      exact TS_ret (by kernel_rfl) (by kernel_rfl) (by kernel_rfl)
  · refine TS_know 16 (b := false) hb3 (by kernel_rfl) (by kernel_rfl) ?_
    refine TS_know 17 (b := false) hb3 (by kernel_rfl) (by kernel_rfl) ?_
    refine TS_go 16 ?_
    have ret := Option.some.inj h
    subst ret
    exact TS_ret (by kernel_rfl) (by kernel_rfl) (by kernel_rfl)
end
section
open Go.RowKit
attribute [local irreducible] TS go TD goD

/-- multihop/multihopref05.Same -/
noncomputable def F_ref05_Same (a0 : S_Frame) (a1 : S_Frame) : Option (Bool) :=
  bif (a0.Kind == a1.Kind) then
    bif (a0.AckRequest == a1.AckRequest) then
      bif (a0.Pending == a1.Pending) then
        bif (a0.Secure == a1.Secure) then
          bif (a0.Seq == a1.Seq) then
            bif (a0.Pan == a1.Pan) then
              bif (S_Addr.eqb a0.Dst a1.Dst) then
                bif (S_Addr.eqb a0.Src a1.Src) then
                  bif (a0.Counter == a1.Counter) then
                    bif (a0.Key == a1.Key) then
                      (F_ref01_Same a0.Payload a1.Payload).bind fun v11 =>
                      bif v11 then
                        (F_ref01_Same a0.MIC a1.MIC).bind fun v13 =>
                        some (v13)
                      else
                        some (false)
                    else
                      some (false)
                  else
                    some (false)
                else
                  some (false)
              else
                some (false)
            else
              some (false)
          else
            some (false)
        else
          some (false)
      else
        some (false)
    else
      some (false)
  else
    some (false)
set_option maxRecDepth 100000 in
set_option maxHeartbeats 40000000 in
theorem ok_ref05_Same (a0 : S_Frame) (a1 : S_Frame) (r : Bool) (h : F_ref05_Same a0 a1 = some r) : Con Try.prog 22 [.agg (S_Frame.cs a0), .agg (S_Frame.cs a1)] [] (.c (.lit (.bool (r)))) [] := by
  unfold F_ref05_Same at h
  refine con_of [] [] 87 Try.func22 rfl rfl (by kernel_rfl) (fun K => ?_)
  refine TS_go 14 ?_
  replace h := condO h
  rcases h with ⟨hb1, h⟩ | ⟨hb1, h⟩
  · refine TS_know 9 (b := true) hb1 (by kernel_rfl) (by kernel_rfl) ?_
    refine TS_know 10 (b := true) hb1 (by kernel_rfl) (by kernel_rfl) ?_
    refine TS_go 7 ?_
    replace h := condO h
    rcases h with ⟨hb2, h⟩ | ⟨hb2, h⟩
    · refine TS_know 15 (b := true) hb2 (by kernel_rfl) (by kernel_rfl) ?_
      refine TS_know 16 (b := true) hb2 (by kernel_rfl) (by kernel_rfl) ?_
      refine TS_know 17 (b := true) hb2 (by kernel_rfl) (by kernel_rfl) ?_
      refine TS_go 7 ?_
      replace h := condO h
      rcases h with ⟨hb3, h⟩ | ⟨hb3, h⟩
      · refine TS_know 22 (b := true) hb3 (by kernel_rfl) (by kernel_rfl) ?_
        refine TS_know 23 (b := true) hb3 (by kernel_rfl) (by kernel_rfl) ?_
        refine TS_know 24 (b := true) hb3 (by kernel_rfl) (by kernel_rfl) ?_
        refine TS_go 7 ?_
        replace h := condO h
        rcases h with ⟨hb4, h⟩ | ⟨hb4, h⟩
        · refine TS_know 29 (b := true) hb4 (by kernel_rfl) (by kernel_rfl) ?_
          refine TS_know 30 (b := true) hb4 (by kernel_rfl) (by kernel_rfl) ?_
          refine TS_know 31 (b := true) hb4 (by kernel_rfl) (by kernel_rfl) ?_
          refine TS_go 7 ?_
          replace h := condO h
          rcases h with ⟨hb5, h⟩ | ⟨hb5, h⟩
          · refine TS_know 36 (b := true) hb5 (by kernel_rfl) (by kernel_rfl) ?_
            refine TS_know 37 (b := true) hb5 (by kernel_rfl) (by kernel_rfl) ?_
            refine TS_know 38 (b := true) hb5 (by kernel_rfl) (by kernel_rfl) ?_
            refine TS_go 7 ?_
            replace h := condO h
            rcases h with ⟨hb6, h⟩ | ⟨hb6, h⟩
            · refine TS_know 43 (b := true) hb6 (by kernel_rfl) (by kernel_rfl) ?_
              refine TS_know 44 (b := true) hb6 (by kernel_rfl) (by kernel_rfl) ?_
              refine TS_know 45 (b := true) hb6 (by kernel_rfl) (by kernel_rfl) ?_
              refine TS_go 7 ?_
              replace h := condO h
              rcases h with ⟨hb7, h⟩ | ⟨hb7, h⟩
              · refine TS_know 50 (b := true) hb7 (by kernel_rfl) (by kernel_rfl) ?_
                refine TS_know 51 (b := true) hb7 (by kernel_rfl) (by kernel_rfl) ?_
                refine TS_know 52 (b := true) hb7 (by kernel_rfl) (by kernel_rfl) ?_
                refine TS_go 7 ?_
                replace h := condO h
                rcases h with ⟨hb8, h⟩ | ⟨hb8, h⟩
                · refine TS_know 57 (b := true) hb8 (by kernel_rfl) (by kernel_rfl) ?_
                  refine TS_know 58 (b := true) hb8 (by kernel_rfl) (by kernel_rfl) ?_
                  refine TS_know 59 (b := true) hb8 (by kernel_rfl) (by kernel_rfl) ?_
                  refine TS_go 7 ?_
                  replace h := condO h
                  rcases h with ⟨hb9, h⟩ | ⟨hb9, h⟩
                  · refine TS_know 64 (b := true) hb9 (by kernel_rfl) (by kernel_rfl) ?_
                    refine TS_know 65 (b := true) hb9 (by kernel_rfl) (by kernel_rfl) ?_
                    refine TS_know 66 (b := true) hb9 (by kernel_rfl) (by kernel_rfl) ?_
                    refine TS_go 7 ?_
                    replace h := condO h
                    rcases h with ⟨hb10, h⟩ | ⟨hb10, h⟩
                    · refine TS_know 71 (b := true) hb10 (by kernel_rfl) (by kernel_rfl) ?_
                      refine TS_know 72 (b := true) hb10 (by kernel_rfl) (by kernel_rfl) ?_
                      refine TS_know 73 (b := true) hb10 (by kernel_rfl) (by kernel_rfl) ?_
                      refine TS_go 4 ?_
                      replace h := bindO h
                      obtain ⟨v11, hv11, h⟩ := h
                      refine TS_call [] (ok_ref01_Same a0.Payload a1.Payload v11 hv11) (by kernel_rfl) (by kernel_rfl) ?_
                      refine TS_go 2 ?_
                      replace h := condO h
                      rcases h with ⟨hb12, h⟩ | ⟨hb12, h⟩
                      · subst hb12
                        refine TS_go 4 ?_
                        replace h := bindO h
                        obtain ⟨v13, hv13, h⟩ := h
                        refine TS_call [] (ok_ref01_Same a0.MIC a1.MIC v13 hv13) (by kernel_rfl) (by kernel_rfl) ?_
                        refine TS_go 4 ?_
                        have ret := Option.some.inj h
                        subst ret
                        exact TS_ret (by kernel_rfl) (by kernel_rfl) (by kernel_rfl)
                      · subst hb12
                        refine TS_go 9 ?_
                        have ret := Option.some.inj h
                        subst ret
                        exact TS_ret (by kernel_rfl) (by kernel_rfl) (by kernel_rfl)
                    · refine TS_know 71 (b := false) hb10 (by kernel_rfl) (by kernel_rfl) ?_
                      refine TS_know 72 (b := false) hb10 (by kernel_rfl) (by kernel_rfl) ?_
                      refine TS_know 73 (b := false) hb10 (by kernel_rfl) (by kernel_rfl) ?_
                      refine TS_go 16 ?_
                      have ret := Option.some.inj h
                      subst ret
                      exact TS_ret (by kernel_rfl) (by kernel_rfl) (by kernel_rfl)
                  · refine TS_know 64 (b := false) hb9 (by kernel_rfl) (by kernel_rfl) ?_
                    refine TS_know 65 (b := false) hb9 (by kernel_rfl) (by kernel_rfl) ?_
                    refine TS_know 66 (b := false) hb9 (by kernel_rfl) (by kernel_rfl) ?_
                    refine TS_go 23 ?_
                    have ret := Option.some.inj h
                    subst ret
                    exact TS_ret (by kernel_rfl) (by kernel_rfl) (by kernel_rfl)
                · refine TS_know 57 (b := false) hb8 (by kernel_rfl) (by kernel_rfl) ?_
                  refine TS_know 58 (b := false) hb8 (by kernel_rfl) (by kernel_rfl) ?_
                  refine TS_know 59 (b := false) hb8 (by kernel_rfl) (by kernel_rfl) ?_
                  refine TS_go 30 ?_
                  have ret := Option.some.inj h
                  subst ret
                  exact TS_ret (by kernel_rfl) (by kernel_rfl) (by kernel_rfl)
              · refine TS_know 50 (b := false) hb7 (by kernel_rfl) (by kernel_rfl) ?_
                refine TS_know 51 (b := false) hb7 (by kernel_rfl) (by kernel_rfl) ?_
                refine TS_know 52 (b := false) hb7 (by kernel_rfl) (by kernel_rfl) ?_
                refine TS_go 37 ?_
                have ret := Option.some.inj h
                subst ret
                exact TS_ret (by kernel_rfl) (by kernel_rfl) (by kernel_rfl)
            · refine TS_know 43 (b := false) hb6 (by kernel_rfl) (by kernel_rfl) ?_
              refine TS_know 44 (b := false) hb6 (by kernel_rfl) (by kernel_rfl) ?_
              refine TS_know 45 (b := false) hb6 (by kernel_rfl) (by kernel_rfl) ?_
              refine TS_go 44 ?_
              have ret := Option.some.inj h
              subst ret
              exact TS_ret (by kernel_rfl) (by kernel_rfl) (by kernel_rfl)
          · refine TS_know 36 (b := false) hb5 (by kernel_rfl) (by kernel_rfl) ?_
            refine TS_know 37 (b := false) hb5 (by kernel_rfl) (by kernel_rfl) ?_
            refine TS_know 38 (b := false) hb5 (by kernel_rfl) (by kernel_rfl) ?_
            refine TS_go 51 ?_
            have ret := Option.some.inj h
            subst ret
            exact TS_ret (by kernel_rfl) (by kernel_rfl) (by kernel_rfl)
        · refine TS_know 29 (b := false) hb4 (by kernel_rfl) (by kernel_rfl) ?_
          refine TS_know 30 (b := false) hb4 (by kernel_rfl) (by kernel_rfl) ?_
          refine TS_know 31 (b := false) hb4 (by kernel_rfl) (by kernel_rfl) ?_
          refine TS_go 58 ?_
          have ret := Option.some.inj h
          subst ret
          exact TS_ret (by kernel_rfl) (by kernel_rfl) (by kernel_rfl)
      · refine TS_know 22 (b := false) hb3 (by kernel_rfl) (by kernel_rfl) ?_
        refine TS_know 23 (b := false) hb3 (by kernel_rfl) (by kernel_rfl) ?_
        refine TS_know 24 (b := false) hb3 (by kernel_rfl) (by kernel_rfl) ?_
        refine TS_go 65 ?_
        have ret := Option.some.inj h
        subst ret
        exact TS_ret (by kernel_rfl) (by kernel_rfl) (by kernel_rfl)
    · refine TS_know 15 (b := false) hb2 (by kernel_rfl) (by kernel_rfl) ?_
      refine TS_know 16 (b := false) hb2 (by kernel_rfl) (by kernel_rfl) ?_
      refine TS_know 17 (b := false) hb2 (by kernel_rfl) (by kernel_rfl) ?_
      refine TS_go 72 ?_
      have ret := Option.some.inj h
      subst ret
      exact TS_ret (by kernel_rfl) (by kernel_rfl) (by kernel_rfl)
  · refine TS_know 9 (b := false) hb1 (by kernel_rfl) (by kernel_rfl) ?_
    refine TS_know 10 (b := false) hb1 (by kernel_rfl) (by kernel_rfl) ?_
    refine TS_go 79 ?_
    have ret := Option.some.inj h
    subst ret
    exact TS_ret (by kernel_rfl) (by kernel_rfl) (by kernel_rfl)

/-- multihop/multihoplaw05.FrameFresh -/
noncomputable def F_law05_FrameFresh_l1  (s9 : Int × (List Int)) : Option ((Int × (List Int)) ⊕ (Unit)) :=
  bif (decide (s9.1 < (List.length s9.2 : Int))) then
    (idx (Cut.app .whole s9.2) s9.1).bind fun _e13 =>
    (s9.2[(0 + Int.toNat s9.1)]?).bind fun e14 =>
    (idx (Cut.app .whole s9.2) s9.1).bind fun _e15 =>
    (s9.2[(0 + Int.toNat s9.1)]?).bind fun _e16 =>
    some (Sum.inl (IntKind.wrap .i64 (s9.1 + 1), (List.set s9.2 (0 + Int.toNat s9.1) (IntKind.wrap .u8 (e14 + 1)))))
  else
    some (Sum.inr ())
noncomputable def F_law05_FrameFresh_l2  (s18 : Int × (List Int)) : Option ((Int × (List Int)) ⊕ ((List Int))) :=
  bif (decide (s18.1 < (List.length s18.2 : Int))) then
    (idx (Cut.app .whole s18.2) s18.1).bind fun _e22 =>
    (s18.2[(0 + Int.toNat s18.1)]?).bind fun e23 =>
    (idx (Cut.app .whole s18.2) s18.1).bind fun _e24 =>
    (s18.2[(0 + Int.toNat s18.1)]?).bind fun _e25 =>
    some (Sum.inl (IntKind.wrap .i64 (s18.1 + 1), (List.set s18.2 (0 + Int.toNat s18.1) (IntKind.wrap .u8 (e23 + 1)))))
  else
    some (Sum.inr s18.2)
noncomputable def F_law05_FrameFresh_l3  (s27 : Int × (List Int)) : Option ((Int × (List Int)) ⊕ (Unit)) :=
  bif (decide (s27.1 < (List.length s27.2 : Int))) then
    (idx (Cut.app .whole s27.2) s27.1).bind fun _e31 =>
    (s27.2[(0 + Int.toNat s27.1)]?).bind fun e32 =>
    (idx (Cut.app .whole s27.2) s27.1).bind fun _e33 =>
    (s27.2[(0 + Int.toNat s27.1)]?).bind fun _e34 =>
    some (Sum.inl (IntKind.wrap .i64 (s27.1 + 1), (List.set s27.2 (0 + Int.toNat s27.1) (IntKind.wrap .u8 (e32 + 1)))))
  else
    some (Sum.inr ())
noncomputable def F_law05_FrameFresh_l4  (s37 : Int × (List Int)) : Option ((Int × (List Int)) ⊕ (Unit)) :=
  bif (decide (s37.1 < (List.length s37.2 : Int))) then
    (idx (Cut.app .whole s37.2) s37.1).bind fun _e41 =>
    (s37.2[(0 + Int.toNat s37.1)]?).bind fun e42 =>
    (idx (Cut.app .whole s37.2) s37.1).bind fun _e43 =>
    (s37.2[(0 + Int.toNat s37.1)]?).bind fun _e44 =>
    some (Sum.inl (IntKind.wrap .i64 (s37.1 + 1), (List.set s37.2 (0 + Int.toNat s37.1) (IntKind.wrap .u8 (e42 + 1)))))
  else
    some (Sum.inr ())
noncomputable def F_law05_FrameFresh (a0 : List Int) : Option (Bool) :=
  (F_made_New a0).bind fun v1 =>
  (F_made_Tape_AnyFrame v1).bind fun v2 =>
  (appO 1 ([] : List Int) (Cut.app .whole v2.1.Payload)).bind fun l3 =>
  (appO 1 ([] : List Int) (Cut.app .whole v2.1.MIC)).bind fun l4 =>
  (F_frame_Header_R v2.1).bind fun v5 =>
  (F_frame_Encode_R v2.1).bind fun v6 =>
  (appO 1 ([] : List Int) (Cut.app .whole v6.1)).bind fun l7 =>
  (F_frame_Decode_R v6.1).bind fun v8 =>
  (loopO (F_law05_FrameFresh_l1) (0, v5)).bind fun b10 =>
  (loopO (F_law05_FrameFresh_l2) (0, v8.1.Payload)).bind fun b19 =>
  (loopO (F_law05_FrameFresh_l3) (0, v8.1.MIC)).bind fun b28 =>
  (F_ref01_Same v6.1 l7).bind fun v36 =>
  (loopO (F_law05_FrameFresh_l4) (0, v6.1)).bind fun b38 =>
  (F_law05_known ).bind fun v46 =>
  bif v46 then
    bif v36 then
      (F_ref05_Same v2.1 (S_Frame.mk v2.1.Kind v2.1.AckRequest v2.1.Pending v2.1.Secure v2.1.Seq v2.1.Pan v2.1.Dst v2.1.Src v2.1.Counter v2.1.Key l3 l4)).bind fun v49 =>
      some (v49)
    else
      some (false)
  else
    some (false)
set_option maxRecDepth 100000 in
set_option maxHeartbeats 40000000 in
theorem ok_law05_FrameFresh (a0 : List Int) (r : Bool) (h : F_law05_FrameFresh a0 = some r) : Con Try.prog 6 [.c (eS 1 (ecI .i64) (a0))] [] (.c (.lit (.bool (r)))) [] := by
  unfold F_law05_FrameFresh at h
  refine con_of [] [] 109 Try.func6 rfl rfl (by kernel_rfl) (fun K => ?_)
  refine TS_go 7 ?_
  replace h := bindO h
  obtain ⟨v1, hv1, h⟩ := h
  refine TS_con [] [(17, 10)] none (ok_made_New a0 v1 hv1) (by kernel_rfl) (by kernel_rfl) (by kernel_rfl) ?_
  replace h := bindO h
  obtain ⟨v2, hv2, h⟩ := h
  refine TS_con [] [] (some (17, 0)) (ok_made_Tape_AnyFrame v1 v2 hv2) (by kernel_rfl) (by kernel_rfl) (by kernel_rfl) ?_
  refine TS_go 11 ?_
  refine TS_litNT 20 5 1 (ecI .u8) [] ([] : List Int) (by kernel_rfl) (by kernel_rfl) ?_
  refine TS_go 2 ?_
  replace h := bindO h
  obtain ⟨l3, hl3, h⟩ := h
  refine TS_appT (d := 20) (e := 5) (sz := 1) (N := List.length ([] : List Int)) (ecI .u8) (fun _ => by kernel_rfl) (l1 := ([] : List Int)) (l2 := v2.1.Payload) (c := .whole) hl3 (by kernel_rfl) (by kernel_rfl) ?_
  refine TS_go 5 ?_
  refine TS_litNT 25 5 1 (ecI .u8) [] ([] : List Int) (by kernel_rfl) (by kernel_rfl) ?_
  refine TS_go 2 ?_
  replace h := bindO h
  obtain ⟨l4, hl4, h⟩ := h
  refine TS_appT (d := 25) (e := 5) (sz := 1) (N := List.length ([] : List Int)) (ecI .u8) (fun _ => by kernel_rfl) (l1 := ([] : List Int)) (l2 := v2.1.MIC) (c := .whole) hl4 (by kernel_rfl) (by kernel_rfl) ?_
  refine TS_go 6 ?_
  replace h := bindO h
  obtain ⟨v5, hv5, h⟩ := h
  refine TS_con [] [(31, 900000)] none (okT_frame_Header_R v2.1 v5 hv5) (by kernel_rfl) (by kernel_rfl) (by kernel_rfl) ?_
  refine TS_go 5 ?_
  replace h := bindO h
  obtain ⟨v6, hv6, h⟩ := h
  refine TS_con [] [(34, 900000)] none (okT_frame_Encode_R v2.1 v6 hv6) (by kernel_rfl) (by kernel_rfl) (by kernel_rfl) ?_
  refine TS_go 8 ?_
  refine TS_litNT 37 5 1 (ecI .u8) [] ([] : List Int) (by kernel_rfl) (by kernel_rfl) ?_
  refine TS_go 1 ?_
  replace h := bindO h
  obtain ⟨l7, hl7, h⟩ := h
  refine TS_appT (d := 37) (e := 5) (sz := 1) (N := List.length ([] : List Int)) (ecI .u8) (fun _ => by kernel_rfl) (l1 := ([] : List Int)) (l2 := v6.1) (c := .whole) hl7 (by kernel_rfl) (by kernel_rfl) ?_
  refine TS_go 5 ?_
  replace h := bindO h
  obtain ⟨v8, hv8, h⟩ := h
  refine TS_conF [] [(42, 900014), (600000, 900015)] (okT_frame_Decode_R v6.1 v8 hv8) (by kernel_rfl) ⟨nr_map _ (fun _ => by kernel_rfl), nr_map _ (fun _ => by kernel_rfl), trivial⟩ (by kernel_rfl) ?_
  refine TS_go 13 ?_
  refine TS_cut ⟨[(3, []), (4, []), (5, []), (6, []), (8, []), (9, []), (11, [])], [(3, (3, [])), (4, (4, [])), (20, (20, [])), (25, (25, [])), (31, (31, [])), (34, (34, [])), (37, (37, [])), (42, (42, [])), (600000, (600000, [])), (9, (9, []))]⟩ (.mk [.code (codeAt [1, 1, 1, 1, 1, 1, 1, 1, 1, 0, 1, 0] (bodyOf Try.f6)), .blk 0, .code (codeAt [1, 1, 1, 1, 1, 1, 1, 1, 1, 1] (bodyOf Try.f6))] .normal ⟨[(3, .c (.box 3 0)), (4, .c (.box 4 0)), (5, .c (.own 31)), (6, .c (.own 34)), (8, .c (.slc 1 39 (List.length l7) (List.map (ecI .u8) l7))), (9, .c (.box 9 0)), (11, .c (.lit (.int .i64 (0))))], [(3, .box [.lit (.int .i64 (v2.1.Kind)), .lit (.bool (v2.1.AckRequest)), .lit (.bool (v2.1.Pending)), .lit (.bool (v2.1.Secure)), .lit (.int .u8 (v2.1.Seq)), .lit (.int .u16 (v2.1.Pan)), .lit (.int .i64 (v2.1.Dst.Mode)), .lit (.int .u16 (v2.1.Dst.Short)), .lit (.int .u64 (v2.1.Dst.EUI)), .lit (.int .i64 (v2.1.Src.Mode)), .lit (.int .u16 (v2.1.Src.Short)), .lit (.int .u64 (v2.1.Src.EUI)), .lit (.int .u32 (v2.1.Counter)), .lit (.int .u8 (v2.1.Key)), .slc 1 0 (List.length v2.1.Payload) (List.map (ecI .u8) v2.1.Payload), .slc 1 0 (List.length v2.1.MIC) (List.map (ecI .u8) v2.1.MIC)]), (4, .box [.lit (.int .i64 (v2.1.Kind)), .lit (.bool (v2.1.AckRequest)), .lit (.bool (v2.1.Pending)), .lit (.bool (v2.1.Secure)), .lit (.int .u8 (v2.1.Seq)), .lit (.int .u16 (v2.1.Pan)), .lit (.int .i64 (v2.1.Dst.Mode)), .lit (.int .u16 (v2.1.Dst.Short)), .lit (.int .u64 (v2.1.Dst.EUI)), .lit (.int .i64 (v2.1.Src.Mode)), .lit (.int .u16 (v2.1.Src.Short)), .lit (.int .u64 (v2.1.Src.EUI)), .lit (.int .u32 (v2.1.Counter)), .lit (.int .u8 (v2.1.Key)), .slc 1 22 (List.length l3) (List.map (ecI .u8) l3), .slc 1 27 (List.length l4) (List.map (ecI .u8) l4)]), (20, .spare 5 1 (List.length l3)), (25, .spare 5 1 (List.length l4)), (31, .row 5 1 (List.length v5) (List.map (ecI .u8) v5)), (34, .row 5 1 (List.length v6.1) (List.map (ecI .u8) v6.1)), (37, .spare 5 1 (List.length l7)), (42, .row 5 1 (List.length v8.1.Payload) (List.map (ecI .u8) v8.1.Payload)), (600000, .row 5 1 (List.length v8.1.MIC) (List.map (ecI .u8) v8.1.MIC)), (9, .box [.lit (.int .i64 (v8.1.Kind)), .lit (.bool (v8.1.AckRequest)), .lit (.bool (v8.1.Pending)), .lit (.bool (v8.1.Secure)), .lit (.int .u8 (v8.1.Seq)), .lit (.int .u16 (v8.1.Pan)), .lit (.int .i64 (v8.1.Dst.Mode)), .lit (.int .u16 (v8.1.Dst.Short)), .lit (.int .u64 (v8.1.Dst.EUI)), .lit (.int .i64 (v8.1.Src.Mode)), .lit (.int .u16 (v8.1.Src.Short)), .lit (.int .u64 (v8.1.Src.EUI)), .lit (.int .u32 (v8.1.Counter)), .lit (.int .u8 (v8.1.Key)), .own 42, .own 600000])]⟩) (by kernel_rfl) (by kernel_rfl) ?_
  replace h := bindO h
  obtain ⟨y11, hl1, hK1⟩ := h
  refine TS_loopB (F_law05_FrameFresh_l1) ⟨[(3, []), (4, []), (5, []), (6, []), (8, []), (9, []), (11, [])], [(3, (3, [])), (4, (4, [])), (31, (31, [])), (34, (34, [])), (37, (37, [])), (9, (9, [])), (20, (20, [])), (25, (25, [])), (42, (42, [])), (600000, (600000, []))]⟩ (fun (s9 : Int × (List Int)) => [(11, .c (.lit (.int .i64 (s9.1))))]) (fun (s9 : Int × (List Int)) => [(31, .row 5 1 (List.length s9.2) (List.map (ecI .u8) s9.2))]) (0, v5) y11 (.exit 0) (fun (b : Unit) => b) ⟨[(3, []), (4, []), (6, []), (8, []), (9, [])], [(3, (3, [])), (4, (4, [])), (34, (34, [])), (37, (37, [])), (9, (9, [])), (20, (20, [])), (25, (25, [])), (42, (42, [])), (600000, (600000, []))]⟩ (fun (b10 : Unit) => []) (fun (b10 : Unit) => []) hl1 (by kernel_rfl) (by kernel_rfl) ?_ ?_
  · intro s9 x h hy1
    unfold F_law05_FrameFresh_l1 at h
    refine TS_go 8 ?_
    replace h := condO h
    rcases h with ⟨hb12, h⟩ | ⟨hb12, h⟩
    · refine TS_know 48 (b := true) hb12 (by kernel_rfl) (by kernel_rfl) ?_
      refine TS_T (by kernel_rfl) rfl ?_
      refine TS_go 6 ?_
      replace h := bindO h
      obtain ⟨_e13, he13, h⟩ := h
      refine TS_idxR 31 1 0 (ecI .u8) .whole he13 (by kernel_rfl) (by kernel_rfl) ?_
      replace h := bindO h
      obtain ⟨e14, he14, h⟩ := h
      refine TS_ldE 5 (0 + Int.toNat s9.1) 0 (ecI .u8) (v := .c (.lit (.int .u8 (e14)))) he14 (by kernel_rfl) (by kernel_rfl) (by kernel_rfl) ?_
      refine TS_go 1 ?_
      replace h := bindO h
      obtain ⟨_e15, he15, h⟩ := h
      refine TS_idxR 31 1 0 (ecI .u8) .whole he15 (by kernel_rfl) (by kernel_rfl) ?_
      replace h := bindO h
      obtain ⟨_e16, he16, h⟩ := h
      refine TS_stE 31 5 1 (List.length s9.2) (0 + Int.toNat s9.1) 0 (ecI .u8) (ds := [.lit (.int .u8 (IntKind.wrap .u8 (e14 + 1)))]) (IntKind.wrap .u8 (e14 + 1)) he16 (by kernel_rfl) (by kernel_rfl) (by kernel_rfl) (by kernel_rfl) ?_
      refine TS_go 7 ?_
      have ret := Option.some.inj h
      subst ret
      exact TS_againB _ ⟨[(3, []), (4, []), (5, []), (6, []), (8, []), (9, []), (11, [])], [(3, (3, [])), (4, (4, [])), (31, (31, [])), (34, (34, [])), (37, (37, [])), (9, (9, [])), (20, (20, [])), (25, (25, [])), (42, (42, [])), (600000, (600000, []))]⟩ rfl (by kernel_rfl) (by kernel_rfl)
    · refine TS_know 48 (b := false) hb12 (by kernel_rfl) (by kernel_rfl) ?_
      refine TS_F (by kernel_rfl) rfl ?_
      refine TS_go 2 ?_
      have ret := Option.some.inj h
      subst ret
      exact TS_brkB () ⟨[(3, []), (4, []), (6, []), (8, []), (9, [])], [(3, (3, [])), (4, (4, [])), (34, (34, [])), (37, (37, [])), (9, (9, [])), (20, (20, [])), (25, (25, [])), (42, (42, [])), (600000, (600000, []))]⟩ rfl (by kernel_rfl) (by kernel_rfl) (by kernel_rfl)
  · intro b10 hb
    subst y11
    have h := hK1
    refine TS_go 7 ?_
    refine TS_cut ⟨[(3, []), (4, []), (6, []), (8, []), (9, []), (12, [])], [(3, (3, [])), (4, (4, [])), (34, (34, [])), (37, (37, [])), (9, (9, [])), (20, (20, [])), (25, (25, [])), (42, (42, [])), (600000, (600000, []))]⟩ (.mk [.code (codeAt [1, 1, 1, 1, 1, 1, 1, 1, 1, 1, 0, 1, 0] (bodyOf Try.f6)), .blk 2, .code (codeAt [1, 1, 1, 1, 1, 1, 1, 1, 1, 1, 1] (bodyOf Try.f6))] .normal ⟨[(3, .c (.box 3 0)), (4, .c (.box 4 0)), (6, .c (.own 34)), (8, .c (.slc 1 39 (List.length l7) (List.map (ecI .u8) l7))), (9, .c (.box 9 0)), (12, .c (.lit (.int .i64 (0))))], [(3, .box [.lit (.int .i64 (v2.1.Kind)), .lit (.bool (v2.1.AckRequest)), .lit (.bool (v2.1.Pending)), .lit (.bool (v2.1.Secure)), .lit (.int .u8 (v2.1.Seq)), .lit (.int .u16 (v2.1.Pan)), .lit (.int .i64 (v2.1.Dst.Mode)), .lit (.int .u16 (v2.1.Dst.Short)), .lit (.int .u64 (v2.1.Dst.EUI)), .lit (.int .i64 (v2.1.Src.Mode)), .lit (.int .u16 (v2.1.Src.Short)), .lit (.int .u64 (v2.1.Src.EUI)), .lit (.int .u32 (v2.1.Counter)), .lit (.int .u8 (v2.1.Key)), .slc 1 0 (List.length v2.1.Payload) (List.map (ecI .u8) v2.1.Payload), .slc 1 0 (List.length v2.1.MIC) (List.map (ecI .u8) v2.1.MIC)]), (4, .box [.lit (.int .i64 (v2.1.Kind)), .lit (.bool (v2.1.AckRequest)), .lit (.bool (v2.1.Pending)), .lit (.bool (v2.1.Secure)), .lit (.int .u8 (v2.1.Seq)), .lit (.int .u16 (v2.1.Pan)), .lit (.int .i64 (v2.1.Dst.Mode)), .lit (.int .u16 (v2.1.Dst.Short)), .lit (.int .u64 (v2.1.Dst.EUI)), .lit (.int .i64 (v2.1.Src.Mode)), .lit (.int .u16 (v2.1.Src.Short)), .lit (.int .u64 (v2.1.Src.EUI)), .lit (.int .u32 (v2.1.Counter)), .lit (.int .u8 (v2.1.Key)), .slc 1 22 (List.length l3) (List.map (ecI .u8) l3), .slc 1 27 (List.length l4) (List.map (ecI .u8) l4)]), (34, .row 5 1 (List.length v6.1) (List.map (ecI .u8) v6.1)), (37, .spare 5 1 (List.length l7)), (9, .box [.lit (.int .i64 (v8.1.Kind)), .lit (.bool (v8.1.AckRequest)), .lit (.bool (v8.1.Pending)), .lit (.bool (v8.1.Secure)), .lit (.int .u8 (v8.1.Seq)), .lit (.int .u16 (v8.1.Pan)), .lit (.int .i64 (v8.1.Dst.Mode)), .lit (.int .u16 (v8.1.Dst.Short)), .lit (.int .u64 (v8.1.Dst.EUI)), .lit (.int .i64 (v8.1.Src.Mode)), .lit (.int .u16 (v8.1.Src.Short)), .lit (.int .u64 (v8.1.Src.EUI)), .lit (.int .u32 (v8.1.Counter)), .lit (.int .u8 (v8.1.Key)), .own 42, .own 600000]), (20, .spare 5 1 (List.length l3)), (25, .spare 5 1 (List.length l4)), (42, .row 5 1 (List.length v8.1.Payload) (List.map (ecI .u8) v8.1.Payload)), (600000, .row 5 1 (List.length v8.1.MIC) (List.map (ecI .u8) v8.1.MIC))]⟩) (by kernel_rfl) (by kernel_rfl) ?_
    replace h := bindO h
    obtain ⟨y20, hl2, hK2⟩ := h
    refine TS_loopB (F_law05_FrameFresh_l2) ⟨[(3, []), (4, []), (6, []), (8, []), (9, []), (12, [])], [(3, (3, [])), (4, (4, [])), (34, (34, [])), (37, (37, [])), (9, (9, [])), (20, (20, [])), (25, (25, [])), (42, (42, [])), (600000, (600000, []))]⟩ (fun (s18 : Int × (List Int)) => [(12, .c (.lit (.int .i64 (s18.1))))]) (fun (s18 : Int × (List Int)) => [(42, .row 5 1 (List.length s18.2) (List.map (ecI .u8) s18.2))]) (0, v8.1.Payload) y20 (.exit 2) (fun (b : (List Int)) => b) ⟨[(3, []), (4, []), (6, []), (8, []), (9, [])], [(3, (3, [])), (4, (4, [])), (34, (34, [])), (37, (37, [])), (9, (9, [])), (20, (20, [])), (25, (25, [])), (42, (42, [])), (600000, (600000, []))]⟩ (fun (b19 : (List Int)) => []) (fun (b19 : (List Int)) => [(42, .row 5 1 (List.length b19) (List.map (ecI .u8) b19))]) hl2 (by kernel_rfl) (by kernel_rfl) ?_ ?_
    · intro s18 x h hy2
      unfold F_law05_FrameFresh_l2 at h
      refine TS_go 9 ?_
      replace h := condO h
      rcases h with ⟨hb21, h⟩ | ⟨hb21, h⟩
      · refine TS_know 61 (b := true) hb21 (by kernel_rfl) (by kernel_rfl) ?_
        refine TS_T (by kernel_rfl) rfl ?_
        refine TS_go 7 ?_
        replace h := bindO h
        obtain ⟨_e22, he22, h⟩ := h
        refine TS_idxR 42 1 0 (ecI .u8) .whole he22 (by kernel_rfl) (by kernel_rfl) ?_
        replace h := bindO h
        obtain ⟨e23, he23, h⟩ := h
        refine TS_ldE 5 (0 + Int.toNat s18.1) 0 (ecI .u8) (v := .c (.lit (.int .u8 (e23)))) he23 (by kernel_rfl) (by kernel_rfl) (by kernel_rfl) ?_
        refine TS_go 1 ?_
        replace h := bindO h
        obtain ⟨_e24, he24, h⟩ := h
        refine TS_idxR 42 1 0 (ecI .u8) .whole he24 (by kernel_rfl) (by kernel_rfl) ?_
        replace h := bindO h
        obtain ⟨_e25, he25, h⟩ := h
        refine TS_stE 42 5 1 (List.length s18.2) (0 + Int.toNat s18.1) 0 (ecI .u8) (ds := [.lit (.int .u8 (IntKind.wrap .u8 (e23 + 1)))]) (IntKind.wrap .u8 (e23 + 1)) he25 (by kernel_rfl) (by kernel_rfl) (by kernel_rfl) (by kernel_rfl) ?_
        refine TS_go 7 ?_
        have ret := Option.some.inj h
        subst ret
        exact TS_againB _ ⟨[(3, []), (4, []), (6, []), (8, []), (9, []), (12, [])], [(3, (3, [])), (4, (4, [])), (34, (34, [])), (37, (37, [])), (9, (9, [])), (20, (20, [])), (25, (25, [])), (42, (42, [])), (600000, (600000, []))]⟩ rfl (by kernel_rfl) (by kernel_rfl)
      · refine TS_know 61 (b := false) hb21 (by kernel_rfl) (by kernel_rfl) ?_
        refine TS_F (by kernel_rfl) rfl ?_
        refine TS_go 2 ?_
        have ret := Option.some.inj h
        subst ret
        exact TS_brkB s18.2 ⟨[(3, []), (4, []), (6, []), (8, []), (9, [])], [(3, (3, [])), (4, (4, [])), (34, (34, [])), (37, (37, [])), (9, (9, [])), (20, (20, [])), (25, (25, [])), (42, (42, [])), (600000, (600000, []))]⟩ rfl (by kernel_rfl) (by kernel_rfl) (by kernel_rfl)
    · intro b19 hb
      subst y20
      have h := hK2
      refine TS_go 7 ?_
      refine TS_cut ⟨[(3, []), (4, []), (6, []), (8, []), (9, []), (13, [])], [(3, (3, [])), (4, (4, [])), (34, (34, [])), (37, (37, [])), (9, (9, [])), (20, (20, [])), (25, (25, [])), (42, (42, [])), (600000, (600000, []))]⟩ (.mk [.code (codeAt [1, 1, 1, 1, 1, 1, 1, 1, 1, 1, 1, 0, 1, 0] (bodyOf Try.f6)), .blk 4, .code (codeAt [1, 1, 1, 1, 1, 1, 1, 1, 1, 1, 1, 1] (bodyOf Try.f6))] .normal ⟨[(3, .c (.box 3 0)), (4, .c (.box 4 0)), (6, .c (.own 34)), (8, .c (.slc 1 39 (List.length l7) (List.map (ecI .u8) l7))), (9, .c (.box 9 0)), (13, .c (.lit (.int .i64 (0))))], [(3, .box [.lit (.int .i64 (v2.1.Kind)), .lit (.bool (v2.1.AckRequest)), .lit (.bool (v2.1.Pending)), .lit (.bool (v2.1.Secure)), .lit (.int .u8 (v2.1.Seq)), .lit (.int .u16 (v2.1.Pan)), .lit (.int .i64 (v2.1.Dst.Mode)), .lit (.int .u16 (v2.1.Dst.Short)), .lit (.int .u64 (v2.1.Dst.EUI)), .lit (.int .i64 (v2.1.Src.Mode)), .lit (.int .u16 (v2.1.Src.Short)), .lit (.int .u64 (v2.1.Src.EUI)), .lit (.int .u32 (v2.1.Counter)), .lit (.int .u8 (v2.1.Key)), .slc 1 0 (List.length v2.1.Payload) (List.map (ecI .u8) v2.1.Payload), .slc 1 0 (List.length v2.1.MIC) (List.map (ecI .u8) v2.1.MIC)]), (4, .box [.lit (.int .i64 (v2.1.Kind)), .lit (.bool (v2.1.AckRequest)), .lit (.bool (v2.1.Pending)), .lit (.bool (v2.1.Secure)), .lit (.int .u8 (v2.1.Seq)), .lit (.int .u16 (v2.1.Pan)), .lit (.int .i64 (v2.1.Dst.Mode)), .lit (.int .u16 (v2.1.Dst.Short)), .lit (.int .u64 (v2.1.Dst.EUI)), .lit (.int .i64 (v2.1.Src.Mode)), .lit (.int .u16 (v2.1.Src.Short)), .lit (.int .u64 (v2.1.Src.EUI)), .lit (.int .u32 (v2.1.Counter)), .lit (.int .u8 (v2.1.Key)), .slc 1 22 (List.length l3) (List.map (ecI .u8) l3), .slc 1 27 (List.length l4) (List.map (ecI .u8) l4)]), (34, .row 5 1 (List.length v6.1) (List.map (ecI .u8) v6.1)), (37, .spare 5 1 (List.length l7)), (9, .box [.lit (.int .i64 (v8.1.Kind)), .lit (.bool (v8.1.AckRequest)), .lit (.bool (v8.1.Pending)), .lit (.bool (v8.1.Secure)), .lit (.int .u8 (v8.1.Seq)), .lit (.int .u16 (v8.1.Pan)), .lit (.int .i64 (v8.1.Dst.Mode)), .lit (.int .u16 (v8.1.Dst.Short)), .lit (.int .u64 (v8.1.Dst.EUI)), .lit (.int .i64 (v8.1.Src.Mode)), .lit (.int .u16 (v8.1.Src.Short)), .lit (.int .u64 (v8.1.Src.EUI)), .lit (.int .u32 (v8.1.Counter)), .lit (.int .u8 (v8.1.Key)), .own 42, .own 600000]), (20, .spare 5 1 (List.length l3)), (25, .spare 5 1 (List.length l4)), (42, .row 5 1 (List.length b19) (List.map (ecI .u8) b19)), (600000, .row 5 1 (List.length v8.1.MIC) (List.map (ecI .u8) v8.1.MIC))]⟩) (by kernel_rfl) (by kernel_rfl) ?_
      replace h := bindO h
      obtain ⟨y29, hl3, hK3⟩ := h
      refine TS_loopB (F_law05_FrameFresh_l3) ⟨[(3, []), (4, []), (6, []), (8, []), (9, []), (13, [])], [(3, (3, [])), (4, (4, [])), (34, (34, [])), (37, (37, [])), (9, (9, [])), (20, (20, [])), (25, (25, [])), (42, (42, [])), (600000, (600000, []))]⟩ (fun (s27 : Int × (List Int)) => [(13, .c (.lit (.int .i64 (s27.1))))]) (fun (s27 : Int × (List Int)) => [(600000, .row 5 1 (List.length s27.2) (List.map (ecI .u8) s27.2))]) (0, v8.1.MIC) y29 (.exit 4) (fun (b : Unit) => b) ⟨[(3, []), (4, []), (6, []), (8, [])], [(3, (3, [])), (4, (4, [])), (34, (34, [])), (37, (37, [])), (20, (20, [])), (25, (25, []))]⟩ (fun (b28 : Unit) => []) (fun (b28 : Unit) => []) hl3 (by kernel_rfl) (by kernel_rfl) ?_ ?_
      · intro s27 x h hy3
        unfold F_law05_FrameFresh_l3 at h
        refine TS_go 9 ?_
        replace h := condO h
        rcases h with ⟨hb30, h⟩ | ⟨hb30, h⟩
        · refine TS_know 75 (b := true) hb30 (by kernel_rfl) (by kernel_rfl) ?_
          refine TS_T (by kernel_rfl) rfl ?_
          refine TS_go 7 ?_
          replace h := bindO h
          obtain ⟨_e31, he31, h⟩ := h
          refine TS_idxR 600000 1 0 (ecI .u8) .whole he31 (by kernel_rfl) (by kernel_rfl) ?_
          replace h := bindO h
          obtain ⟨e32, he32, h⟩ := h
          refine TS_ldE 5 (0 + Int.toNat s27.1) 0 (ecI .u8) (v := .c (.lit (.int .u8 (e32)))) he32 (by kernel_rfl) (by kernel_rfl) (by kernel_rfl) ?_
          refine TS_go 1 ?_
          replace h := bindO h
          obtain ⟨_e33, he33, h⟩ := h
          refine TS_idxR 600000 1 0 (ecI .u8) .whole he33 (by kernel_rfl) (by kernel_rfl) ?_
          replace h := bindO h
          obtain ⟨_e34, he34, h⟩ := h
          refine TS_stE 600000 5 1 (List.length s27.2) (0 + Int.toNat s27.1) 0 (ecI .u8) (ds := [.lit (.int .u8 (IntKind.wrap .u8 (e32 + 1)))]) (IntKind.wrap .u8 (e32 + 1)) he34 (by kernel_rfl) (by kernel_rfl) (by kernel_rfl) (by kernel_rfl) ?_
          refine TS_go 7 ?_
          have ret := Option.some.inj h
          subst ret
          exact TS_againB _ ⟨[(3, []), (4, []), (6, []), (8, []), (9, []), (13, [])], [(3, (3, [])), (4, (4, [])), (34, (34, [])), (37, (37, [])), (9, (9, [])), (20, (20, [])), (25, (25, [])), (42, (42, [])), (600000, (600000, []))]⟩ rfl (by kernel_rfl) (by kernel_rfl)
        · refine TS_know 75 (b := false) hb30 (by kernel_rfl) (by kernel_rfl) ?_
          refine TS_F (by kernel_rfl) rfl ?_
          refine TS_go 2 ?_
          have ret := Option.some.inj h
          subst ret
          exact TS_brkB () ⟨[(3, []), (4, []), (6, []), (8, [])], [(3, (3, [])), (4, (4, [])), (34, (34, [])), (37, (37, [])), (20, (20, [])), (25, (25, []))]⟩ rfl (by kernel_rfl) (by kernel_rfl) (by kernel_rfl)
      · intro b28 hb
        subst y29
        have h := hK3
        refine TS_go 5 ?_
        replace h := bindO h
        obtain ⟨v36, hv36, h⟩ := h
        refine TS_callF [[], [2]] (ok_ref01_Same v6.1 l7 v36 hv36) (by kernel_rfl) (by kernel_rfl) ?_
        refine TS_go 8 ?_
        refine TS_cut ⟨[(3, []), (4, []), (6, []), (14, []), (15, [])], [(3, (3, [])), (4, (4, [])), (34, (34, [])), (20, (20, [])), (25, (25, []))]⟩ (.mk [.code (codeAt [1, 1, 1, 1, 1, 1, 1, 1, 1, 1, 1, 1, 1, 0, 1, 0] (bodyOf Try.f6)), .blk 6, .code (codeAt [1, 1, 1, 1, 1, 1, 1, 1, 1, 1, 1, 1, 1, 1] (bodyOf Try.f6))] .normal ⟨[(3, .c (.box 3 0)), (4, .c (.box 4 0)), (6, .c (.own 34)), (14, .c (.lit (.bool (v36)))), (15, .c (.lit (.int .i64 (0))))], [(3, .box [.lit (.int .i64 (v2.1.Kind)), .lit (.bool (v2.1.AckRequest)), .lit (.bool (v2.1.Pending)), .lit (.bool (v2.1.Secure)), .lit (.int .u8 (v2.1.Seq)), .lit (.int .u16 (v2.1.Pan)), .lit (.int .i64 (v2.1.Dst.Mode)), .lit (.int .u16 (v2.1.Dst.Short)), .lit (.int .u64 (v2.1.Dst.EUI)), .lit (.int .i64 (v2.1.Src.Mode)), .lit (.int .u16 (v2.1.Src.Short)), .lit (.int .u64 (v2.1.Src.EUI)), .lit (.int .u32 (v2.1.Counter)), .lit (.int .u8 (v2.1.Key)), .slc 1 0 (List.length v2.1.Payload) (List.map (ecI .u8) v2.1.Payload), .slc 1 0 (List.length v2.1.MIC) (List.map (ecI .u8) v2.1.MIC)]), (4, .box [.lit (.int .i64 (v2.1.Kind)), .lit (.bool (v2.1.AckRequest)), .lit (.bool (v2.1.Pending)), .lit (.bool (v2.1.Secure)), .lit (.int .u8 (v2.1.Seq)), .lit (.int .u16 (v2.1.Pan)), .lit (.int .i64 (v2.1.Dst.Mode)), .lit (.int .u16 (v2.1.Dst.Short)), .lit (.int .u64 (v2.1.Dst.EUI)), .lit (.int .i64 (v2.1.Src.Mode)), .lit (.int .u16 (v2.1.Src.Short)), .lit (.int .u64 (v2.1.Src.EUI)), .lit (.int .u32 (v2.1.Counter)), .lit (.int .u8 (v2.1.Key)), .slc 1 22 (List.length l3) (List.map (ecI .u8) l3), .slc 1 27 (List.length l4) (List.map (ecI .u8) l4)]), (34, .row 5 1 (List.length v6.1) (List.map (ecI .u8) v6.1)), (20, .spare 5 1 (List.length l3)), (25, .spare 5 1 (List.length l4))]⟩) (by kernel_rfl) (by kernel_rfl) ?_
        replace h := bindO h
        obtain ⟨y39, hl4, hK4⟩ := h
        refine TS_loopB (F_law05_FrameFresh_l4) ⟨[(3, []), (4, []), (6, []), (14, []), (15, [])], [(3, (3, [])), (4, (4, [])), (34, (34, [])), (20, (20, [])), (25, (25, []))]⟩ (fun (s37 : Int × (List Int)) => [(15, .c (.lit (.int .i64 (s37.1))))]) (fun (s37 : Int × (List Int)) => [(34, .row 5 1 (List.length s37.2) (List.map (ecI .u8) s37.2))]) (0, v6.1) y39 (.exit 6) (fun (b : Unit) => b) ⟨[(3, []), (4, []), (14, [])], [(3, (3, [])), (4, (4, [])), (20, (20, [])), (25, (25, []))]⟩ (fun (b38 : Unit) => []) (fun (b38 : Unit) => []) hl4 (by kernel_rfl) (by kernel_rfl) ?_ ?_
        · intro s37 x h hy4
          unfold F_law05_FrameFresh_l4 at h
          refine TS_go 8 ?_
          replace h := condO h
          rcases h with ⟨hb40, h⟩ | ⟨hb40, h⟩
          · refine TS_know 91 (b := true) hb40 (by kernel_rfl) (by kernel_rfl) ?_
            refine TS_T (by kernel_rfl) rfl ?_
            refine TS_go 6 ?_
            replace h := bindO h
            obtain ⟨_e41, he41, h⟩ := h
            refine TS_idxR 34 1 0 (ecI .u8) .whole he41 (by kernel_rfl) (by kernel_rfl) ?_
            replace h := bindO h
            obtain ⟨e42, he42, h⟩ := h
            refine TS_ldE 5 (0 + Int.toNat s37.1) 0 (ecI .u8) (v := .c (.lit (.int .u8 (e42)))) he42 (by kernel_rfl) (by kernel_rfl) (by kernel_rfl) ?_
            refine TS_go 1 ?_
            replace h := bindO h
            obtain ⟨_e43, he43, h⟩ := h
            refine TS_idxR 34 1 0 (ecI .u8) .whole he43 (by kernel_rfl) (by kernel_rfl) ?_
            replace h := bindO h
            obtain ⟨_e44, he44, h⟩ := h
            refine TS_stE 34 5 1 (List.length s37.2) (0 + Int.toNat s37.1) 0 (ecI .u8) (ds := [.lit (.int .u8 (IntKind.wrap .u8 (e42 + 1)))]) (IntKind.wrap .u8 (e42 + 1)) he44 (by kernel_rfl) (by kernel_rfl) (by kernel_rfl) (by kernel_rfl) ?_
            refine TS_go 7 ?_
            have ret := Option.some.inj h
            subst ret
            exact TS_againB _ ⟨[(3, []), (4, []), (6, []), (14, []), (15, [])], [(3, (3, [])), (4, (4, [])), (34, (34, [])), (20, (20, [])), (25, (25, []))]⟩ rfl (by kernel_rfl) (by kernel_rfl)
          · refine TS_know 91 (b := false) hb40 (by kernel_rfl) (by kernel_rfl) ?_
            refine TS_F (by kernel_rfl) rfl ?_
            refine TS_go 2 ?_
            have ret := Option.some.inj h
            subst ret
            exact TS_brkB () ⟨[(3, []), (4, []), (14, [])], [(3, (3, [])), (4, (4, [])), (20, (20, [])), (25, (25, []))]⟩ rfl (by kernel_rfl) (by kernel_rfl) (by kernel_rfl)
        · intro b38 hb
          subst y39
          have h := hK4
          refine TS_go 3 ?_
          replace h := bindO h
          obtain ⟨v46, hv46, h⟩ := h
          refine TS_call [] (ok_law05_known  v46 hv46) (by kernel_rfl) (by kernel_rfl) ?_
          refine TS_go 1 ?_
          replace h := condO h
          rcases h with ⟨hb47, h⟩ | ⟨hb47, h⟩
          · subst hb47
            refine TS_go 3 ?_
            replace h := condO h
            rcases h with ⟨hb48, h⟩ | ⟨hb48, h⟩
            · subst hb48
              refine TS_go 2 ?_
              replace h := bindO h
              obtain ⟨v49, hv49, h⟩ := h
              refine TS_call [[], [0, 0, 0, 0, 0, 0, 0, 0, 0, 0, 0, 0, 0, 0, 2, 2]] (ok_ref05_Same v2.1 (S_Frame.mk v2.1.Kind v2.1.AckRequest v2.1.Pending v2.1.Secure v2.1.Seq v2.1.Pan v2.1.Dst v2.1.Src v2.1.Counter v2.1.Key l3 l4) v49 hv49) (by kernel_rfl) (by kernel_rfl) ?_
              refine TS_go 4 ?_
              have ret := Option.some.inj h
              subst ret
              exact TS_ret (by kernel_rfl) (by kernel_rfl) (by kernel_rfl)
            · subst hb48
              refine TS_go 7 ?_
              have ret := Option.some.inj h
              subst ret
              exact TS_ret (by kernel_rfl) (by kernel_rfl) (by kernel_rfl)
          · subst hb47
            refine TS_go 10 ?_
            have ret := Option.some.inj h
            subst ret
            exact TS_ret (by kernel_rfl) (by kernel_rfl) (by kernel_rfl)
end
section
open Go.RowKit

theorem decT {p : Prop} [Decidable p] (h : p) : decide p = true := by simpa using h
theorem decF {p : Prop} [Decidable p] (h : ¬ p) : decide p = false := by simpa using h
theorem wi {x : Int} (h0 : -9223372036854775808 ≤ x) (h1 : x ≤ 9223372036854775807) : IntKind.wrap .i64 x = x := by
  simp [IntKind.wrap, IntKind.bits, IntKind.signed]
  omega
theorem wu {x : Int} (h0 : 0 ≤ x) (h1 : x < 18446744073709551616) : IntKind.wrap .u64 x = x := by
  simp [IntKind.wrap, IntKind.bits, IntKind.signed]
  omega
theorem wu8 {x : Int} (h0 : 0 ≤ x) (h1 : x < 256) : IntKind.wrap .u8 x = x := by
  simp [IntKind.wrap, IntKind.bits, IntKind.signed]
  omega
theorem wk (k : Nat) (h : k < 9223372036854775807) : IntKind.wrap .i64 ((k : Int) + 1) = ((k + 1 : Nat) : Int) := by
  rw [wi (by omega) (by omega)]; rfl
theorem wrap8 (x : Int) : IntKind.wrap .u8 x = x % 256 := by
  simp [IntKind.wrap, IntKind.bits, IntKind.signed]
theorem wrap16 (x : Int) : IntKind.wrap .u16 x = x % 65536 := by
  simp [IntKind.wrap, IntKind.bits, IntKind.signed]
theorem wrap32 (x : Int) : IntKind.wrap .u32 x = x % 4294967296 := by
  simp [IntKind.wrap, IntKind.bits, IntKind.signed]
theorem wrap64 (x : Int) : IntKind.wrap .u64 x = x % 18446744073709551616 := by
  simp [IntKind.wrap, IntKind.bits, IntKind.signed]
theorem wrap8_bd (x : Int) : 0 ≤ IntKind.wrap .u8 x ∧ IntKind.wrap .u8 x ≤ 255 := by rw [wrap8]; omega

section
variable {σ ρ : Type} {step : σ → Option (σ ⊕ ρ)}
theorem loop_done {s : σ} {r : ρ} (h : step s = some (.inr r)) : loopO step s = some r := by rw [loopO_eq, h]
theorem loop_next {s s' : σ} (h : step s = some (.inl s')) : loopO step s = loopO step s' := by rw [loopO_eq, h]
/-- a loop that keeps I and ends with Q -/
theorem loop_inv (I : σ → Prop) (Q : ρ → Prop) (m : σ → Nat) (hs : ∀ s, I s → (∃ s', step s = some (.inl s') ∧ I s' ∧ m s' < m s) ∨ (∃ r, step s = some (.inr r) ∧ Q r)) (s : σ) (h : I s) : ∃ r, loopO step s = some r ∧ Q r := by
  induction hn : m s using Nat.strongRecOn generalizing s with
  | ind n ih =>
    subst hn
    rcases hs s h with ⟨s', h1, h2, h3⟩ | ⟨r, h1, h2⟩
    · obtain ⟨r, hr, hq⟩ := ih (m s') h3 s' h2 rfl
      exact ⟨r, by rw [loop_next h1]; exact hr, hq⟩
    · exact ⟨r, loop_done h1, h2⟩
/-- a loop whose states are known -/
theorem loop_to (S : Nat → σ) (n : Nat) (h : ∀ k, k < n → step (S k) = some (.inl (S (k + 1)))) : loopO step (S 0) = loopO step (S n) := by
  induction n with
  | zero => rfl
  | succ n ih => rw [ih (fun k hk => h k (by omega)), loop_next (h n (by omega))]
theorem loop_run (S : Nat → σ) (n : Nat) {r : ρ} (h : ∀ k, k < n → step (S k) = some (.inl (S (k + 1)))) (he : step (S n) = some (.inr r)) : loopO step (S 0) = some r := by
  rw [loop_to S n h, loop_done he]
end
theorem idx_nat {α : Type} (l : List α) (k : Nat) : idx l (k : Int) = l[k]? := by simp [idx]
theorem idx_lt {α : Type} {l : List α} {k : Nat} (h : k < l.length) : idx l (k : Int) = some l[k] := by rw [idx_nat]; exact List.getElem?_eq_getElem h
theorem idx_int {α : Type} {l : List α} {i : Int} (h0 : 0 ≤ i) (h1 : i < l.length) : idx l i = some (l[i.toNat]'(by omega)) := by
  unfold idx; rw [if_pos h0]; exact List.getElem?_eq_getElem _
theorem appO_some {α : Type} {by_ : Nat} {l1 l2 : List α} (h : (l1.length + l2.length) * by_ ≤ 140737488355328) (h' : l1.length + l2.length ≤ 140737488355328) : appO by_ l1 l2 = some (l1 ++ l2) := by
  unfold appO; rw [if_pos ⟨h, h'⟩]
theorem subO_some {α : Type} {l : List α} {a b : Int} (h0 : 0 ≤ a) (h1 : a ≤ b) (h2 : b ≤ l.length) : subO l a b = some ((l.take b.toNat).drop a.toNat) := by
  unfold subO; rw [if_pos ⟨h0, h1, h2⟩]

theorem getD_get {l : List Int} {i : Nat} (h : i < l.length) : l.getD i 0 = l[i] := by simp [List.getD_eq_getElem?_getD, List.getElem?_eq_getElem h]
theorem getD_mem {p : Int → Prop} {l : List Int} (h : ∀ z ∈ l, p z) (h0 : p 0) (i : Nat) : p (l.getD i 0) := by
  rcases Nat.lt_or_ge i l.length with hi | hi
  · rw [getD_get hi]; exact h _ (List.getElem_mem hi)
  · rw [List.getD_eq_getElem?_getD, List.getElem?_eq_none hi]; exact h0
end
section
open Go.ChangeShapes Go.WideShapes Go.ChangeAt Go.RowKit

theorem own : ownKnob Try.prog.godebug = none := by kernel_rfl
theorem laidOut : laidOutB Try.prog = true := by kernel_rfl

/-- the arguments read as before -/
theorem trodAll_below {H : Type} {enc : TypeId × Value → H} {P : Program} (hl : laidOutB P = true) {W W' : World} (hb : Below W.heap.size W W') :
    ∀ {ts : List TypeId} {vs : List Value} {ds : List (DataW H)} {ps : List MemPlace}, ts.all (fun t => P.readableRec t && decide (t < P.types.size)) = true →
      DataW.TrodAll enc P W 0 (fun _ => true) true ts vs ds ps → DataW.TrodAll enc P W' 0 (fun b => decide (b < W.heap.size)) true ts vs ds ps
  | [], _, _, _, _, h => by
    obtain ⟨rfl, rfl, rfl⟩ := trodAll_nil h
    exact trodAll_mk0
  | t :: ts, vs, ds, ps, hr, h => by
    obtain ⟨v, vs', d, ds', p, q, rfl, rfl, rfl, h1, h2⟩ := trodAll_cons h
    simp only [List.all_cons, Bool.and_eq_true, decide_eq_true_eq] at hr
    have lt : ∀ x ∈ p, x.block < W.heap.size := by obtain ⟨m, hm⟩ := h1; exact DataW.trod_lt m _ _ _ hm
    exact trodAll_cons_mk (Below.trod hl hr.1.1 hr.1.2 h1 hb lt) (trodAll_below hl hb hr.2 h2)

/-- the reader that sees all -/
def rdAll (w : World) : Rd := fun b o => w.cell? ⟨b, o, none⟩
def env0 : Env := ⟨fun _ => (0, 0), fun _ => (.slice none 0 0, .slice none 0 0)⟩
def ArgsOk (rd : Rd) (g : Env) : List Value → List SV → Prop
  | [], [] => True
  | u :: us, x :: xs => VRel rd g u x ∧ ArgsOk rd g us xs
  | _, _ => False
theorem ArgsOk.get {rd : Rd} {g : Env} : ∀ {us : List Value} {xs : List SV}, ArgsOk rd g us xs → us.length = xs.length ∧ ∀ (i : Nat) (x : SV), xs[i]? = some x → ∃ u, us[i]? = some u ∧ VRel rd g u x
  | [], [], _ => ⟨rfl, fun i x h => by simp at h⟩
  | u :: us, y :: xs, h => by
    obtain ⟨h1, h2⟩ := h
    obtain ⟨k1, k2⟩ := h2.get
    refine ⟨by simp [k1], fun i x hx => ?_⟩
    rcases i with _ | i
    · cases hx; exact ⟨u, rfl, h1⟩
    · exact k2 i x (by simpa using hx)
/-- a law that is true -/
theorem con_true {P : Program} {f : FuncId} {args : List SV} (h : Con P f args [] (.c (.lit (.bool true))) []) {W : World} {us : List Value} (ha : ArgsOk (rdAll W) env0 us args) :
    Calls P f us.toArray W fun e w' => e = .returned (.bool true) ∧ Ext W w' := by
  obtain ⟨h1, h2⟩ := ha.get
  have nol : ∀ d (x : Res), look ([] : Hp) d = some x → False := fun d x hx => by simp [look] at hx
  have noin : ∀ g b o, ¬ InFoot g ([] : Hp) b o := by rintro g b o ⟨d, r, hd, _⟩; exact nol _ _ hd
  refine (h (rdAll W) env0 W us.toArray (fun b o v hv => hv) (by simpa using h1) (fun i x hx => by simpa using h2 i x hx) (fun d x hx => (nol d x hx).elim) (fun d d' r r' b o _ hd => (nol _ _ hd).elim) (fun b o hx => (noin _ _ _ hx).elim)).mono ?_
  rintro e w' ⟨u, g', rfl, hk, _, _, _, _, hu⟩
  have hE : Ext W w' := (hk.weak (fun b o x => noin _ _ _ x)).ext
  refine ⟨?_, hE⟩
  have := (hu (rdAll w') (by
    intro b o v hv
    obtain ⟨g, rfl⟩ := hE
    have hb := World.block_lt_of_cell? _ _ hv
    unfold rdAll
    rw [cell_plus _ _ _ _ _ hb]
    exact hv) (fun b o u _ _ hc => hc)).1
  cases this
  rfl
def wfI (k : IntKind) (n : Int) : Prop := (Lit.int k n).wf = true
def Seg (rd : Rd) (cs : List Value) (off n : Nat) (l : List SC) : Prop := l.length = n ∧ ∀ (j : Nat) (y : SC), l[j]? = some y → ∃ u, cs[off + j]? = some u ∧ IRel rd u y
theorem Seg.append {rd : Rd} {cs : List Value} {off n m : Nat} {l l' : List SC} (h : Seg rd cs off n l) (k : Seg rd cs (off + n) m l') : Seg rd cs off (n + m) (l ++ l') := by
  refine ⟨by rw [List.length_append, h.1, k.1], fun j y hy => ?_⟩
  by_cases hj : j < l.length
  · rw [List.getElem?_append_left hj] at hy
    exact h.2 j y hy
  · rw [List.getElem?_append_right (by omega)] at hy
    obtain ⟨u, h1, h2⟩ := k.2 _ y hy
    have h3 := h.1
    refine ⟨u, ?_, h2⟩
    rw [← h1]
    congr 1
    omega

/-- a value of the type t is the shadow of an α -/
def Opens (P : Program) (t : TypeId) {α : Type} (f : α → List SC) (wf : α → Prop) : Prop :=
  ∀ (H : Type) (enc : TypeId × Value → H) (W : World) (fuel : Nat) (cs : List Value) (x : DataW H × List MemPlace), DataW.trod enc P W 0 (fun _ => true) true fuel t cs = some x → ∃ a : α, Seg (rdAll W) cs 0 cs.length (f a) ∧ wf a

theorem opens_int {P : Program} {t : TypeId} {k : IntKind} (ht : P.underlying t = some (.int k)) : Opens P t (ecI k) (wfI k) := by
  intro H enc W fuel cs x h
  obtain ⟨n, rfl, _, hw⟩ := DataW.trod_int ht h
  refine ⟨n, ⟨rfl, fun j y hy => ?_⟩, hw⟩
  rcases j with _ | j
  · simp only [ecI, List.getElem?_cons_zero, Option.some.injEq] at hy
    subst hy
    exact ⟨_, rfl, .lit _⟩
  · simp [ecI] at hy
end
section
open Go.RowKit

def okB (l : List Int) : Prop := ∀ z ∈ l, 0 ≤ z ∧ z ≤ 255
theorem okB_nil : okB [] := fun z h => by simp at h
theorem okB.append {a b : List Int} (ha : okB a) (hb : okB b) : okB (a ++ b) := fun z h => (List.mem_append.1 h).elim (ha z) (hb z)
theorem okB.get {l : List Int} (h : okB l) {i : Nat} (hi : i < l.length) : 0 ≤ l[i] ∧ l[i] ≤ 255 := h _ (List.getElem_mem hi)
theorem okB.take {l : List Int} (h : okB l) (n : Nat) : okB (l.take n) := fun z hz => h z (List.mem_of_mem_take hz)
theorem okB.drop {l : List Int} (h : okB l) (n : Nat) : okB (l.drop n) := fun z hz => h z (List.mem_of_mem_drop hz)
theorem okB.set {l : List Int} (h : okB l) (n : Nat) {v : Int} (hv : 0 ≤ v ∧ v ≤ 255) : okB (l.set n v) := fun z hz => (List.mem_or_eq_of_mem_set hz).elim (h z) (fun e => e ▸ hv)
theorem okB.getD {l : List Int} (h : okB l) (n : Nat) : 0 ≤ l.getD n 0 ∧ l.getD n 0 ≤ 255 := getD_mem (p := fun z => 0 ≤ z ∧ z ≤ 255) h (by omega) n
theorem okB_one {v : Int} (h : 0 ≤ v ∧ v ≤ 255) : okB [v] := fun z hz => by rw [List.mem_singleton.1 hz]; exact h
theorem okB_cons {v : Int} {l : List Int} (h : 0 ≤ v ∧ v ≤ 255) (k : okB l) : okB (v :: l) := fun z hz => (List.mem_cons.1 hz).elim (fun e => e ▸ h) (k z)
theorem ishr_eq {x y : Int} (h0 : 0 ≤ y) (h1 : y < 64) : ishr .u64 x y = x / 2 ^ y.toNat := by
  unfold ishr
  rw [show min y.toNat IntKind.u64.bits = y.toNat by simp [IntKind.bits]; omega]
  exact Int.fdiv_eq_ediv_of_nonneg _ (Int.pow_nonneg (by omega))
theorem ishl_eq {x y : Int} (h0 : 0 ≤ y) (h1 : y < 64) : ishl .u64 x y = (x * 2 ^ y.toNat) % 18446744073709551616 := by
  unfold ishl
  rw [show min y.toNat IntKind.u64.bits = y.toNat by simp [IntKind.bits]; omega, wrap64]
theorem byte_eq {v : Int} {j : Int} (h0 : 0 ≤ j) (h1 : j < 64) : IntKind.wrap .u8 (ishr .u64 v j) = v / 2 ^ j.toNat % 256 := by
  rw [ishr_eq h0 h1, wrap8]
theorem ior_add {x y : Int} (i : Nat) (h0 : 0 ≤ x) (h1 : x < 2 ^ i) (h2 : 0 ≤ y) (h3 : x + y * 2 ^ i < 18446744073709551616) : ior .u64 x (y * 2 ^ i) = x + y * 2 ^ i := by
  obtain ⟨a, rfl⟩ := Int.eq_ofNat_of_zero_le h0
  obtain ⟨b, rfl⟩ := Int.eq_ofNat_of_zero_le h2
  have hp : ((b : Int) * 2 ^ i) = ((b * 2 ^ i : Nat) : Int) := by rw [Int.natCast_mul, Int.natCast_pow]; rfl
  have ha : a < 2 ^ i := by
    have e : ((2 : Int) ^ i) = ((2 ^ i : Nat) : Int) := by rw [Int.natCast_pow]; rfl
    rw [e] at h1
    omega
  rw [hp] at h3 ⊢
  have h3' : a + b * 2 ^ i < 18446744073709551616 := by omega
  unfold ior
  have e1 : (BitVec.ofInt IntKind.u64.bits (a : Int)).toNat = a := by
    rw [BitVec.toNat_ofInt]
    simp only [IntKind.bits]
    omega
  have e2 : (BitVec.ofInt IntKind.u64.bits ((b * 2 ^ i : Nat) : Int)).toNat = b * 2 ^ i := by
    rw [BitVec.toNat_ofInt]
    simp only [IntKind.bits]
    omega
  rw [BitVec.toNat_or, e1, e2, Nat.or_comm, show b * 2 ^ i ||| a = 2 ^ i * b + a by rw [Nat.two_pow_add_eq_or_of_lt ha, Nat.mul_comm]]
  rw [wrap64, Nat.mul_comm]
  omega

def beB (v : Int) (n : Nat) : List Int := (List.range n).map fun i => v / 2 ^ (8 * (n - 1 - i)) % 256
theorem beB_len (v : Int) (n : Nat) : (beB v n).length = n := by simp [beB]
theorem beB_ok (v : Int) (n : Nat) : okB (beB v n) := fun z hz => by
  obtain ⟨i, _, rfl⟩ := List.mem_map.1 hz
  omega
theorem beB_get {v : Int} {n i : Nat} (h : i < n) : (beB v n)[i]? = some (v / 2 ^ (8 * (n - 1 - i)) % 256) := by
  unfold beB
  rw [List.getElem?_map, List.getElem?_range h]; rfl
theorem take_snoc {α : Type} {l : List α} {k : Nat} {x : α} (h : l[k]? = some x) : l.take (k + 1) = l.take k ++ [x] := by
  rw [List.take_add_one, h]; rfl
theorem set_mid {α : Type} (a b : List α) (x y : α) {k : Nat} (h : k = a.length) : (a ++ x :: b).set k y = a ++ y :: b := by
  subst h
  rw [List.set_append_right _ _ (Nat.le_refl _), Nat.sub_self]
  rfl

/-- the number of bytes, the greatest first -/
def beN : List Int → Int := fun l => l.foldl (fun v c => v * 256 + c) 0
theorem beN_snoc (l : List Int) (x : Int) : beN (l ++ [x]) = beN l * 256 + x := by simp [beN]
theorem beN_aux : ∀ (l : List Int) (v : Int), okB l → 0 ≤ v → 0 ≤ l.foldl (fun v c => v * 256 + c) v ∧ l.foldl (fun v c => v * 256 + c) v < (v + 1) * 256 ^ l.length
  | [], v, _, h => by simp; omega
  | x :: l, v, h, hv => by
    have h1 := h x (by simp)
    obtain ⟨a, b⟩ := beN_aux l (v * 256 + x) (fun z hz => h z (by simp [hz])) (by omega)
    refine ⟨a, Int.lt_of_lt_of_le b ?_⟩
    have e : (v + 1) * (256 : Int) ^ (x :: l).length = (v + 1) * 256 * 256 ^ l.length := by
      rw [List.length_cons, Int.pow_succ, Int.mul_comm ((256 : Int) ^ l.length) 256, Int.mul_assoc]
    rw [e]
    exact Int.mul_le_mul_of_nonneg_right (by omega) (Int.pow_nonneg (by omega))
theorem beN_bd {l : List Int} (h : okB l) : 0 ≤ beN l ∧ beN l < 256 ^ l.length := by
  have := beN_aux l 0 h (by omega)
  simpa [beN] using this
end
section
open Go.RowKit

theorem octets_append_n (a : List Int) (v : Int) (n : Nat) (hn : n ≤ 8) (ha : a.length ≤ 140737488355320) : F_octets_Append_j1 a v n = some (a ++ beB v n) := by
  unfold F_octets_Append_j1
  have e1 : IntKind.wrap .i64 ((a.length : Int) + (n : Int)) = ((a.length + n : Nat) : Int) := by rw [wi (by omega) (by omega)]; rfl
  rw [e1]
  have e2 : mkO 1 ((a.length + n : Nat) : Int) ((a.length + n : Nat) : Int) = some (a.length + n) := by
    unfold mkO
    rw [if_pos ⟨by omega, by omega, by omega, by omega⟩, Int.toNat_natCast]
  rw [e2, Option.bind_some]
  have e3 : cpL (List.replicate (a.length + n) (0 : Int)) 0 (List.length (Cut.app .whole (List.replicate (a.length + n) (0 : Int)))) (Cut.app .whole a) = a ++ (beB v n).take 0 ++ List.replicate (n - 0) 0 := by
    unfold cpL
    simp only [Cut.app, List.length_replicate, List.take_zero, List.nil_append, List.append_nil, Nat.zero_add, Nat.sub_zero]
    rw [show min a.length (a.length + n) = a.length by omega, List.take_length, List.drop_replicate, show a.length + n - a.length = n by omega]
  rw [e3]
  have hl := loop_run (step := F_octets_Append_l2 n a v) (S := fun k => ((k : Int), a ++ (beB v n).take k ++ List.replicate (n - k) 0)) n (r := a ++ beB v n) (fun k hk => by
    unfold F_octets_Append_l2
    dsimp only
    have w1 : IntKind.wrap .i64 ((n : Int) - 1) = (n : Int) - 1 := wi (by omega) (by omega)
    have w2 : IntKind.wrap .i64 ((n : Int) - 1 - (k : Int)) = ((n - 1 - k : Nat) : Int) := by rw [wi (by omega) (by omega)]; omega
    have w3 : IntKind.wrap .i64 (8 * ((n - 1 - k : Nat) : Int)) = ((8 * (n - 1 - k) : Nat) : Int) := by rw [wi (by omega) (by omega)]; omega
    have w4 : IntKind.wrap .i64 ((a.length : Int) + (k : Int)) = ((a.length + k : Nat) : Int) := by rw [wi (by omega) (by omega)]; rfl
    have hlen : (a ++ (beB v n).take k ++ List.replicate (n - k) (0 : Int)).length = a.length + n := by
      simp only [List.length_append, List.length_take, beB_len, List.length_replicate]; omega
    rw [decT (show (k : Int) < (n : Int) by omega), w1, w2, w3, w4, decT (show (0 : Int) ≤ ((8 * (n - 1 - k) : Nat) : Int) by omega)]
    simp only [cond_true, Cut.app, Nat.zero_add, Int.toNat_natCast]
    rw [idx_lt (by omega), Option.bind_some, List.getElem?_eq_getElem (by omega), Option.bind_some, wk k (by omega), byte_eq (by omega) (by omega), Int.toNat_natCast]
    congr 3
    obtain ⟨m, hm⟩ : ∃ m, n - k = m + 1 := ⟨n - k - 1, by omega⟩
    rw [hm, List.replicate_succ, set_mid _ _ _ _ (by simp only [List.length_append, List.length_take, beB_len]; omega), take_snoc (beB_get hk), show n - (k + 1) = m by omega]
    simp) (by
    unfold F_octets_Append_l2
    dsimp only
    rw [decF (show ¬ (n : Int) < (n : Int) by omega)]
    simp only [cond_false]
    rw [List.take_of_length_le (by rw [beB_len]; exact Nat.le_refl _), Nat.sub_self]
    simp)
  simp only [Int.natCast_zero] at hl
  rw [hl]
  rfl
/-- octets.Append -/
theorem octets_append (a : List Int) (v : Int) (n : Nat) (hn : n ≤ 8) (ha : a.length ≤ 140737488355320) : F_octets_Append a v n = some (a ++ beB v n) := by
  unfold F_octets_Append
  rw [decF (show ¬ (n : Int) < 0 by omega), decF (show ¬ (n : Int) > 8 by omega)]
  exact octets_append_n a v n hn ha
/-- the reference's Append -/
theorem ref01_append (a : List Int) (v : Int) (n : Nat) (hn : n ≤ 8) (ha : a.length ≤ 140737488355320) : F_ref01_Append a v n = some (a ++ beB v n) := by
  unfold F_ref01_Append
  simp only [Cut.app]
  rw [appO_some (by simp; omega) (by simp; omega), Option.bind_some, decF (show ¬ (n : Int) < 0 by omega), decF (show ¬ (n : Int) > 8 by omega)]
  simp only [cond_false, List.nil_append]
  rw [wi (by omega) (by omega)]
  have hl := loop_run (step := F_ref01_Append_l1 v) (S := fun k => (a ++ (beB v n).take k, (n : Int) - 1 - (k : Int))) n (r := a ++ beB v n) (fun k hk => by
    unfold F_ref01_Append_l1
    dsimp only
    have w1 : IntKind.wrap .u64 ((n : Int) - 1 - (k : Int)) = (n : Int) - 1 - (k : Int) := wu (by omega) (by omega)
    have w2 : IntKind.wrap .u64 (8 * ((n : Int) - 1 - (k : Int))) = ((8 * (n - 1 - k) : Nat) : Int) := by rw [wu (by omega) (by omega)]; omega
    have w3 : IntKind.wrap .i64 ((n : Int) - 1 - (k : Int) - 1) = (n : Int) - 1 - ((k + 1 : Nat) : Int) := by rw [wi (by omega) (by omega)]; omega
    rw [decT (show (n : Int) - 1 - (k : Int) ≥ 0 by omega), w1, w2, w3, decT (show (0 : Int) ≤ ((8 * (n - 1 - k) : Nat) : Int) by omega)]
    simp only [cond_true, Cut.app]
    rw [appO_some (by simp only [List.length_append, List.length_take, beB_len, List.length_singleton]; omega) (by simp only [List.length_append, List.length_take, beB_len, List.length_singleton]; omega), Option.bind_some, byte_eq (by omega) (by omega), Int.toNat_natCast, take_snoc (beB_get hk), List.append_assoc]) (by
    unfold F_ref01_Append_l1
    dsimp only
    rw [decF (show ¬ (n : Int) - 1 - (n : Int) ≥ 0 by omega)]
    simp only [cond_false]
    rw [List.take_of_length_le (by rw [beB_len]; exact Nat.le_refl _)])
  simp only [Int.natCast_zero, List.take_zero, List.append_nil, Int.sub_zero] at hl
  rw [hl]
  rfl
end
section
open Go.RowKit

theorem oc2 (a : List Int) (v : Int) (ha : a.length ≤ 1000) : F_octets_Append a v 2 = some (a ++ beB v 2) := octets_append a v 2 (by omega) (by omega)
theorem rc2 (a : List Int) (v : Int) (ha : a.length ≤ 1000) : F_ref01_Append a v 2 = some (a ++ beB v 2) := ref01_append a v 2 (by omega) (by omega)
theorem oc4 (a : List Int) (v : Int) (ha : a.length ≤ 1000) : F_octets_Append a v 4 = some (a ++ beB v 4) := octets_append a v 4 (by omega) (by omega)
theorem rc4 (a : List Int) (v : Int) (ha : a.length ≤ 1000) : F_ref01_Append a v 4 = some (a ++ beB v 4) := ref01_append a v 4 (by omega) (by omega)
theorem oc8 (a : List Int) (v : Int) (ha : a.length ≤ 1000) : F_octets_Append a v 8 = some (a ++ beB v 8) := octets_append a v 8 (by omega) (by omega)
theorem rc8 (a : List Int) (v : Int) (ha : a.length ≤ 1000) : F_ref01_Append a v 8 = some (a ++ beB v 8) := ref01_append a v 8 (by omega) (by omega)
def A00 : S_Addr := S_Addr.mk 0 0 0
def AdrOk (a : S_Addr) : Prop := (a.Mode = 2 ∧ a.EUI = 0 ∧ 0 ≤ a.Short ∧ a.Short ≤ 65535) ∨ (a.Mode = 3 ∧ a.Short = 0 ∧ 0 ≤ a.EUI ∧ a.EUI ≤ 18446744073709551615)
def bcast (a : S_Addr) : Prop := a.Mode = 2 ∧ a.Short = 65535
def adrL (a : S_Addr) : List Int := if a.Mode = 2 then beB a.Short 2 else beB a.EUI 8
def flg (b : Bool) (n : Int) : Int := bif b then n else 0
/-- the first three bytes -/
def hd3 (f : S_Frame) : List Int := [64 * f.Kind + flg f.AckRequest 32 + flg f.Pending 16 + flg f.Secure 8, 64 * f.Dst.Mode + 16 * f.Src.Mode, f.Seq]
def adrs (f : S_Frame) : List Int := if f.Kind = 2 then [] else beB f.Pan 2 ++ adrL f.Dst ++ adrL f.Src
def secs (f : S_Frame) : List Int := bif f.Secure then beB f.Counter 4 ++ [f.Key] else []
def hdL (f : S_Frame) : List Int := hd3 f ++ adrs f ++ secs f ++ f.Payload
structure GoodF (f : S_Frame) : Prop where
  kind : f.Kind = 1 ∨ f.Kind = 2 ∨ f.Kind = 3
  seq : 0 ≤ f.Seq ∧ f.Seq ≤ 255
  ack : f.Kind = 2 → f = S_Frame.mk 2 false f.Pending false f.Seq 0 A00 A00 0 0 [] []
  adr : f.Kind ≠ 2 → AdrOk f.Dst ∧ AdrOk f.Src ∧ ¬ bcast f.Src ∧ (f.AckRequest = true → ¬ bcast f.Dst) ∧ 0 ≤ f.Pan ∧ f.Pan ≤ 65535
  sec : f.Secure = true → 0 ≤ f.Counter ∧ f.Counter ≤ 4294967295 ∧ 0 ≤ f.Key ∧ f.Key ≤ 255 ∧ f.MIC.length = 4
  nos : f.Secure = false → f.Counter = 0 ∧ f.Key = 0 ∧ f.MIC = []
  pay : okB f.Payload
  mic : okB f.MIC
  size : (hdL f).length + f.MIC.length + 2 ≤ 127

theorem adrL_len (a : S_Addr) : (adrL a).length = if a.Mode = 2 then 2 else 8 := by
  unfold adrL
  split <;> rw [beB_len]
theorem adrL_ok (a : S_Addr) : okB (adrL a) := by
  unfold adrL
  split
  · exact beB_ok _ _
  · exact beB_ok _ _
theorem adrL_le (a : S_Addr) : (adrL a).length ≤ 8 := by
  unfold adrL
  split <;> rw [beB_len] <;> omega
theorem hd3_len (f : S_Frame) : (hd3 f).length = 3 := rfl
theorem adrs_le (f : S_Frame) : (adrs f).length ≤ 18 := by
  have h1 := adrL_le f.Dst
  have h2 := adrL_le f.Src
  unfold adrs
  split
  · simp
  · simp only [List.length_append, beB_len]; omega
theorem secs_le (f : S_Frame) : (secs f).length ≤ 5 := by
  unfold secs
  cases f.Secure
  · simp
  · simp only [cond_true, List.length_append, beB_len, List.length_singleton]; omega
/-- the length, as the program counts it -/
def lenF (f : S_Frame) : Int := 3 + f.Payload.length + 2 + (if f.Kind = 2 then 0 else 2 + (if f.Dst.Mode = 2 then 2 else 8) + (if f.Src.Mode = 2 then 2 else 8)) + (bif f.Secure then 5 + (f.MIC.length : Int) else 0)
theorem lenF_eq {f : S_Frame} (h : GoodF f) : lenF f = ((hdL f).length : Int) + f.MIC.length + 2 := by
  have hs : ((secs f).length : Int) = (bif f.Secure then 5 else 0) := by
    unfold secs
    cases f.Secure
    · rfl
    · simp only [cond_true, List.length_append, beB_len, List.length_singleton]; rfl
  have ha : ((adrs f).length : Int) = (if f.Kind = 2 then 0 else 2 + (if f.Dst.Mode = 2 then 2 else 8) + (if f.Src.Mode = 2 then 2 else 8)) := by
    unfold adrs
    split
    · rfl
    · rename_i hk
      obtain ⟨d, s, _⟩ := h.adr hk
      simp only [List.length_append, beB_len, adrL_len]
      split <;> split <;> rfl
  have hm : f.Secure = false → f.MIC.length = 0 := fun e => by rw [(h.nos e).2.2]; rfl
  unfold lenF hdL
  simp only [List.length_append, hd3_len]
  cases hc : f.Secure
  · rw [hc] at hs
    simp only [cond_false] at hs ⊢
    have := hm hc
    omega
  · rw [hc] at hs
    simp only [cond_true] at hs ⊢
    omega

theorem f_addrBytes {a : S_Addr} (h : AdrOk a) : F_frame_addrBytes a = some (if a.Mode = 2 then 2 else 8) := by
  unfold F_frame_addrBytes
  rcases h with h | h
  · rw [h.1]; rfl
  · rw [h.1]; rfl
theorem f_length {f : S_Frame} (h : GoodF f) : F_frame_length f = some (lenF f) := by
  have hp : (f.Payload.length : Int) ≤ 127 := by
    have := h.size
    unfold hdL at this
    simp only [List.length_append] at this
    omega
  have hm : (f.MIC.length : Int) ≤ 127 := by have := h.size; omega
  unfold F_frame_length F_frame_length_j1 F_frame_length_j2 lenF
  by_cases hk : f.Kind = 2
  · rw [show (f.Kind != 2) = false by simp [hk], if_pos hk]
    simp only [cond_false]
    cases f.Secure
    · simp only [cond_false]
      rw [wi (x := 3 + (f.Payload.length : Int)) (by omega) (by omega), wi (by omega) (by omega)]
      congr 1
    · simp only [cond_true]
      rw [wi (x := 3 + (f.Payload.length : Int)) (by omega) (by omega), wi (x := 3 + (f.Payload.length : Int) + 2) (by omega) (by omega), wi (x := 5 + (f.MIC.length : Int)) (by omega) (by omega), wi (by omega) (by omega)]
      congr 1
  · obtain ⟨d, s, _⟩ := h.adr hk
    rw [show (f.Kind != 2) = true by simp [hk], if_neg hk, f_addrBytes d, f_addrBytes s]
    simp only [cond_true, Option.bind_some]
    generalize ea : (if f.Dst.Mode = 2 then (2 : Int) else 8) = x
    generalize eb : (if f.Src.Mode = 2 then (2 : Int) else 8) = y
    have hx : 0 ≤ x ∧ x ≤ 8 := by rw [← ea]; split <;> omega
    have hy : 0 ≤ y ∧ y ≤ 8 := by rw [← eb]; split <;> omega
    rw [wi (x := 3 + (f.Payload.length : Int)) (by omega) (by omega), wi (x := 3 + (f.Payload.length : Int) + 2) (by omega) (by omega), wi (x := 2 + x) (by omega) (by omega), wi (x := 2 + x + y) (by omega) (by omega), wi (x := 3 + (f.Payload.length : Int) + 2 + (2 + x + y)) (by omega) (by omega)]
    cases f.Secure
    · simp only [cond_false]
      congr 1; omega
    · simp only [cond_true]
      rw [wi (x := 5 + (f.MIC.length : Int)) (by omega) (by omega), wi (by omega) (by omega)]
theorem f_avalid {a : S_Addr} (h : AdrOk a) : F_address_Valid a = some true := by
  unfold F_address_Valid
  rcases h with h | h
  · rw [h.1, h.2.1]; rfl
  · rw [h.1, h.2.1]; rfl
theorem f_amode {a : S_Addr} (h : AdrOk a) : (a.Mode == 0) = false := by
  rcases h with h | h
  · rw [h.1]; rfl
  · rw [h.1]; rfl
theorem f_abc {a : S_Addr} (h : ¬ bcast a) : F_address_IsBroadcast a = some false := by
  unfold F_address_IsBroadcast S_Addr.eqb
  by_cases h1 : a.Mode = 2
  · have h2 : a.Short ≠ 65535 := fun e => h ⟨h1, e⟩
    simp [h2]
  · simp [h1]
theorem f_valid {f : S_Frame} (h : GoodF f) : F_frame_Valid f = some true := by
  unfold F_frame_Valid F_frame_Valid_j1
  by_cases hk : f.Kind = 2
  · have e := h.ack hk
    rw [e]
    rfl
  · obtain ⟨d, s, nb, na, _⟩ := h.adr hk
    have hv : F_frame_validData f = some true := by
      have hl : decide (lenF f ≤ 127) = true := by
        rw [lenF_eq h]
        have := h.size
        exact decT (by omega)
      unfold F_frame_validData
      rw [f_avalid d, f_avalid s, f_amode d, f_amode s, f_abc nb, f_length h]
      simp only [Option.bind_some, cond_true, cond_false, hl]
      cases ha : f.AckRequest
      · cases hs : f.Secure
        · obtain ⟨c, k, m⟩ := h.nos hs
          rw [c, k, m]
          rfl
        · obtain ⟨_, _, _, _, m⟩ := h.sec hs
          rw [m]
          rfl
      · rw [f_abc (na ha)]
        cases hs : f.Secure
        · obtain ⟨c, k, m⟩ := h.nos hs
          rw [c, k, m]
          rfl
        · obtain ⟨_, _, _, _, m⟩ := h.sec hs
          rw [m]
          rfl
    rw [hv, show (f.Kind == 2) = false by simp [hk]]
    rcases h.kind with e | e | e
    · rw [e]; rfl
    · exact absurd e hk
    · rw [e]; rfl
theorem f_adr (l : List Int) {a : S_Addr} (h : AdrOk a) (hl : l.length ≤ 1000) : F_frame_appendAddr l a = some (l ++ adrL a) := by
  unfold F_frame_appendAddr adrL
  rcases h with h | h
  · rw [h.1, wu (x := a.Short) (by omega) (by omega)]
    simp only [BEq.rfl, cond_true, if_true]
    rw [oc2 l a.Short (by omega)]; rfl
  · rw [h.1]
    rw [show ((3 : Int) == 2) = false by rfl, if_neg (show ¬ (3 : Int) = 2 by omega)]
    simp only [cond_false]
    rw [oc8 l a.EUI (by omega)]; rfl
theorem f_flag (b : Bool) (n : Int) : F_frame_flag b n = some (flg b n) := by cases b <;> rfl
theorem f_byte0 (k : Int) (a p s : Bool) (h : k = 1 ∨ k = 2 ∨ k = 3) : ior .u8 (ior .u8 (ior .u8 (ishl .u8 (IntKind.wrap .u8 k) 6) (flg a 32)) (flg p 16)) (flg s 8) = 64 * k + flg a 32 + flg p 16 + flg s 8 := by
  rcases h with rfl | rfl | rfl <;> cases a <;> cases p <;> cases s <;> decide
theorem f_byte1 (k s : Int) (h : k = 0 ∨ k = 2 ∨ k = 3) (h' : s = 0 ∨ s = 2 ∨ s = 3) : ior .u8 (ishl .u8 (IntKind.wrap .u8 k) 6) (ishl .u8 (IntKind.wrap .u8 s) 4) = 64 * k + 16 * s := by
  rcases h with rfl | rfl | rfl <;> rcases h' with rfl | rfl | rfl <;> decide
theorem adr_mode {a : S_Addr} (h : AdrOk a) : a.Mode = 0 ∨ a.Mode = 2 ∨ a.Mode = 3 := by
  rcases h with h | h
  · exact Or.inr (Or.inl h.1)
  · exact Or.inr (Or.inr h.1)
theorem good_modes {f : S_Frame} (h : GoodF f) : (f.Dst.Mode = 0 ∨ f.Dst.Mode = 2 ∨ f.Dst.Mode = 3) ∧ (f.Src.Mode = 0 ∨ f.Src.Mode = 2 ∨ f.Src.Mode = 3) := by
  by_cases hk : f.Kind = 2
  · rw [h.ack hk]
    exact ⟨Or.inl rfl, Or.inl rfl⟩
  · obtain ⟨d, s, _⟩ := h.adr hk
    exact ⟨adr_mode d, adr_mode s⟩
theorem good_pay {f : S_Frame} (h : GoodF f) : f.Payload.length ≤ 127 ∧ f.MIC.length ≤ 127 := by
  have := h.size
  unfold hdL at this
  simp only [List.length_append] at this
  omega
theorem f_j2 {f : S_Frame} (h : GoodF f) (l : List Int) (hl : l.length ≤ 100) : F_frame_Header_j2 f l = some (l ++ secs f ++ f.Payload) := by
  have hp := (good_pay h).1
  unfold F_frame_Header_j2 F_frame_Header_j3 secs
  cases hs : f.Secure
  · simp only [cond_false, Cut.app, List.append_nil]
    rw [appO_some (by omega) (by omega)]; rfl
  · obtain ⟨c0, c1, k0, k1, _⟩ := h.sec hs
    simp only [cond_true, Cut.app]
    rw [wu (x := f.Counter) c0 (by omega), oc4 l f.Counter (by omega), Option.bind_some, appO_some (by simp only [List.length_append, beB_len, List.length_singleton]; omega) (by simp only [List.length_append, beB_len, List.length_singleton]; omega), Option.bind_some, appO_some (by simp only [List.length_append, beB_len, List.length_singleton]; omega) (by simp only [List.length_append, beB_len, List.length_singleton]; omega), Option.bind_some, List.append_assoc l]
theorem f_header {f : S_Frame} (h : GoodF f) : F_frame_Header f = some (hdL f) := by
  unfold F_frame_Header
  rw [f_valid h]
  simp only [Option.bind_some, cond_true]
  unfold F_frame_Header_j1
  obtain ⟨md, ms⟩ := good_modes h
  rw [f_flag, f_flag, f_flag]
  simp only [Option.bind_some]
  rw [f_byte0 _ _ _ _ h.kind, f_byte1 _ _ md ms]
  by_cases hk : f.Kind = 2
  · rw [show (f.Kind != 2) = false by simp [hk]]
    simp only [cond_false]
    rw [f_j2 h _ (by simp)]
    unfold hdL adrs hd3
    rw [if_pos hk, List.append_nil]
  · obtain ⟨d, s, _, _, p0, p1⟩ := h.adr hk
    have l1 := adrL_le f.Dst
    have l2 := adrL_le f.Src
    rw [show (f.Kind != 2) = true by simp [hk]]
    simp only [cond_true]
    rw [wu (x := f.Pan) p0 (by omega), oc2 _ f.Pan (by simp), Option.bind_some, f_adr _ d (by simp [beB_len]), Option.bind_some, f_adr _ s (by simp only [List.length_append, List.length_cons, List.length_nil, beB_len]; omega), Option.bind_some, f_j2 h _ (by simp only [List.length_append, List.length_cons, List.length_nil, beB_len]; omega)]
    unfold hdL adrs hd3
    rw [if_neg hk]
    simp only [List.append_assoc]

def toI (v : BitVec 16) : Int := (v.toNat : Int)
theorem toI_bd (v : BitVec 16) : 0 ≤ toI v ∧ toI v < 65536 := by
  have := v.isLt
  unfold toI; omega
theorem ofInt_toI (v : BitVec 16) : BitVec.ofInt 16 (toI v) = v := by
  unfold toI
  rw [BitVec.ofInt_natCast, BitVec.ofNat_toNat, BitVec.setWidth_eq]
theorem toI_ofInt {x : Int} (h : 0 ≤ x ∧ x ≤ 255) : toI (BitVec.ofInt 16 x) = x := by
  obtain ⟨n, rfl⟩ := Int.eq_ofNat_of_zero_le h.1
  unfold toI
  rw [BitVec.ofInt_natCast, BitVec.toNat_ofNat, Nat.mod_eq_of_lt (by omega)]
theorem ixor_I (a b : BitVec 16) : ixor .u16 (toI a) (toI b) = toI (a ^^^ b) := by
  unfold ixor
  rw [show IntKind.u16.bits = 16 by rfl, ofInt_toI, ofInt_toI, wrap16]
  have := (a ^^^ b).isLt
  unfold toI
  omega
theorem ishr_I (a : BitVec 16) (n : Nat) (h : n ≤ 16) : ishr .u16 (toI a) n = toI (a >>> n) := by
  unfold ishr toI
  rw [show min (n : Int).toNat IntKind.u16.bits = n by rw [show IntKind.u16.bits = 16 by rfl]; omega, BitVec.toNat_ushiftRight, Nat.shiftRight_eq_div_pow, Int.fdiv_eq_ediv_of_nonneg _ (Int.pow_nonneg (by omega))]
  rw [Int.natCast_ediv, Int.natCast_pow]; rfl
theorem iand_I (a : BitVec 16) : (iand .u16 (toI a) 1 == 1) = a.getLsbD 0 := by
  unfold iand
  rw [show IntKind.u16.bits = 16 by rfl, ofInt_toI, show BitVec.ofInt 16 1 = 1#16 by rfl, wrap16]
  have e : (a &&& 1#16).toNat = a.toNat % 2 := by
    rw [BitVec.toNat_and]
    exact Nat.and_one_is_mod _
  rw [e, BitVec.getLsbD, Nat.testBit_zero]
  have : a.toNat % 2 = 0 ∨ a.toNat % 2 = 1 := by omega
  rcases this with h | h <;> rw [h] <;> rfl
def tB (a : BitVec 16) : BitVec 16 := bif a.getLsbD 0 then (a >>> 1) ^^^ 33800#16 else a >>> 1
def rep : Nat → BitVec 16 → BitVec 16
  | 0, a => a
  | n + 1, a => tB (rep n a)
def sB (s : BitVec 16) (c : Int) : BitVec 16 := rep 8 (s ^^^ BitVec.ofInt 16 c)
def crcV (l : List Int) : BitVec 16 := l.foldl sB 0#16
def crcL (l : List Int) : List Int := [toI (crcV l) % 256, toI (crcV l) / 256]
theorem crcL_len (l : List Int) : (crcL l).length = 2 := rfl
theorem crc_l2 (a : BitVec 16) (k : Nat) (h : k < 8) : F_checksum_Extend_l2 (toI a, (k : Int)) = some (Sum.inl (toI (tB a), ((k + 1 : Nat) : Int))) := by
  unfold F_checksum_Extend_l2 F_checksum_Extend_j3
  dsimp only
  rw [decT (show (k : Int) < 8 by omega), iand_I, wk k (by omega)]
  simp only [cond_true]
  have e1 : ishr .u16 (toI a) 1 = toI (a >>> 1) := ishr_I a 1 (by omega)
  have e2 : ixor .u16 (toI (a >>> 1)) 33800 = toI ((a >>> 1) ^^^ 33800#16) := ixor_I (a >>> 1) 33800#16
  rw [e1, e2]
  unfold tB
  cases a.getLsbD 0 <;> rfl
theorem crc_8 (a : BitVec 16) : loopO F_checksum_Extend_l2 (toI a, 0) = some (toI (rep 8 a)) :=
  loop_run (step := F_checksum_Extend_l2) (S := fun k => (toI (rep k a), (k : Int))) 8 (r := toI (rep 8 a)) (fun k hk => crc_l2 (rep k a) k hk) rfl
theorem foldl_snoc {α β : Type} (f : β → α → β) (s : β) {l : List α} {k : Nat} {x : α} (h : l[k]? = some x) : (l.take (k + 1)).foldl f s = f ((l.take k).foldl f s) x := by
  rw [take_snoc h, List.foldl_append]; rfl
theorem crc_l1 {l : List Int} (h : okB l) (hl : l.length ≤ 140737488355328) (s : BitVec 16) (k : Nat) (hk : k < l.length) : F_checksum_Extend_l1 l (toI ((l.take k).foldl sB s), (k : Int)) = some (Sum.inl (toI ((l.take (k + 1)).foldl sB s), ((k + 1 : Nat) : Int))) := by
  unfold F_checksum_Extend_l1
  dsimp only
  have hb := h.get hk
  have e : IntKind.wrap .u16 l[k] = toI (BitVec.ofInt 16 l[k]) := by rw [toI_ofInt hb, wrap16]; omega
  rw [decT (show (k : Int) < (l.length : Int) by omega), idx_lt hk, wk k (by omega), foldl_snoc sB s (List.getElem?_eq_getElem hk)]
  simp only [cond_true, Option.bind_some]
  rw [e, ixor_I, crc_8]
  rfl
theorem crc_extend {l : List Int} (h : okB l) (hl : l.length ≤ 140737488355328) (s : BitVec 16) : F_checksum_Extend (toI s) l = some (toI (l.foldl sB s)) := by
  unfold F_checksum_Extend
  have := loop_run (step := F_checksum_Extend_l1 l) (S := fun k => (toI ((l.take k).foldl sB s), (k : Int))) l.length (r := toI (l.foldl sB s)) (fun k hk => crc_l1 h hl s k hk) (by
    unfold F_checksum_Extend_l1
    dsimp only
    rw [decF (show ¬ (l.length : Int) < (l.length : Int) by omega), List.take_length]
    rfl)
  rw [show ((toI s, 0) : Int × Int) = (toI ((l.take 0).foldl sB s), ((0 : Nat) : Int)) by rfl, this]
  rfl
theorem crc_prog {l : List Int} (h : okB l) (hl : l.length ≤ 140737488355328) : F_checksum_CRC l = some (toI (crcV l)) := by
  unfold F_checksum_CRC
  rw [show F_checksum_Extend 0 l = some (toI (crcV l)) from crc_extend h hl 0#16]
  rfl
theorem lo_hi (v : BitVec 16) : IntKind.wrap .u8 (toI v) = toI v % 256 ∧ IntKind.wrap .u8 (ishr .u16 (toI v) 8) = toI v / 256 := by
  refine ⟨wrap8 _, ?_⟩
  have e : ishr .u16 (toI v) 8 = toI v / 256 := by
    unfold ishr
    rw [show min (8 : Int).toNat IntKind.u16.bits = 8 by rfl]
    exact Int.fdiv_eq_ediv_of_nonneg _ (by omega)
  have := toI_bd v
  rw [e, wrap8]
  omega
theorem crc_append {l : List Int} (h : okB l) (hl : l.length ≤ 140737488355320) : F_checksum_Append l = some (l ++ crcL l) := by
  unfold F_checksum_Append
  obtain ⟨e1, e2⟩ := lo_hi (crcV l)
  rw [crc_prog h (by omega), Option.bind_some, wi (by omega) (by omega), e1, e2]
  have e3 : mkO 1 0 ((l.length : Int) + 2) = some 0 := by
    unfold mkO
    rw [if_pos ⟨by omega, by omega, by omega, by omega⟩]; rfl
  rw [e3]
  simp only [Option.bind_some, Cut.app, List.replicate_zero]
  rw [appO_some (by simp; omega) (by simp; omega), Option.bind_some, List.nil_append, appO_some (by simp; omega) (by simp; omega)]
  rfl
/-- is it a body with its check behind it? -/
theorem crc_check {l : List Int} {x y : Int} (h : okB l) (hl : l.length ≤ 140737488355320) : F_checksum_Check (l ++ [x, y]) = some (decide ([x, y] = crcL l)) := by
  unfold F_checksum_Check
  obtain ⟨e1, e2⟩ := lo_hi (crcV l)
  have e0 : IntKind.wrap .i64 (((l ++ [x, y]).length : Int) - 2) = (l.length : Int) := by
    rw [show (l ++ [x, y]).length = l.length + 2 by simp, wi (by omega) (by omega)]; omega
  have i1 : idx (l ++ [x, y]) (l.length : Int) = some x := by
    rw [idx_lt (by simp)]; simp
  have i2 : idx (l ++ [x, y]) ((l.length + 1 : Nat) : Int) = some y := by
    rw [idx_lt (by simp)]; simp
  rw [e0, decF (show ¬ (l.length : Int) < 0 by omega), subO_some (by omega) (by omega) (by simp; omega), wk _ (by omega), i1, i2]
  simp only [cond_false, Option.bind_some, Int.toNat_natCast, Int.toNat_zero, List.drop_zero, List.take_left]
  rw [crc_prog h (by omega), Option.bind_some, e1, e2]
  unfold crcL
  by_cases hx : x = toI (crcV l) % 256
  · by_cases hy : y = toI (crcV l) / 256
    · rw [← hx, ← hy]; simp
    · rw [← hx]; simp [hy]
  · rw [show (x == toI (crcV l) % 256) = false by simp [hx]]
    simp [hx]

/-- the whole encoding -/
def bodyL (f : S_Frame) : List Int := hdL f ++ f.MIC
def encL (f : S_Frame) : List Int := bodyL f ++ crcL (bodyL f)
theorem flg_bd (b : Bool) {n : Int} (h : 0 ≤ n) : 0 ≤ flg b n ∧ flg b n ≤ n := by cases b <;> simp [flg] <;> omega
theorem hd3_ok {f : S_Frame} (h : GoodF f) : okB (hd3 f) := by
  obtain ⟨md, ms⟩ := good_modes h
  have h1 := flg_bd f.AckRequest (n := 32) (by omega)
  have h2 := flg_bd f.Pending (n := 16) (by omega)
  have h3 := flg_bd f.Secure (n := 8) (by omega)
  have hk := h.kind
  refine okB_cons (by omega) (okB_cons (by omega) (okB_one h.seq))
theorem hdL_ok {f : S_Frame} (h : GoodF f) : okB (hdL f) := by
  unfold hdL
  refine (((hd3_ok h).append ?_).append ?_).append h.pay
  · unfold adrs
    split
    · exact okB_nil
    · exact ((beB_ok _ _).append (adrL_ok _)).append (adrL_ok _)
  · unfold secs
    cases hs : f.Secure
    · exact okB_nil
    · obtain ⟨_, _, k0, k1, _⟩ := h.sec hs
      exact (beB_ok _ _).append (okB_one ⟨k0, k1⟩)
theorem bodyL_ok {f : S_Frame} (h : GoodF f) : okB (bodyL f) := (hdL_ok h).append h.mic
theorem bodyL_len {f : S_Frame} (h : GoodF f) : 3 ≤ (bodyL f).length ∧ (bodyL f).length ≤ 125 := by
  have := h.size
  unfold bodyL
  rw [List.length_append]
  have h3 : 3 ≤ (hdL f).length := by
    unfold hdL
    simp only [List.length_append, hd3_len]; omega
  omega
theorem encL_len {f : S_Frame} : (encL f).length = (bodyL f).length + 2 := by
  unfold encL
  rw [List.length_append, crcL_len]
/-- the program's Encode -/
theorem f_encode {f : S_Frame} (h : GoodF f) : F_frame_Encode f = some (encL f, 0) := by
  unfold F_frame_Encode
  have hb := bodyL_len h
  have hl : (hdL f ++ f.MIC).length ≤ 125 := hb.2
  rw [f_valid h]
  simp only [Option.bind_some, cond_true, Cut.app]
  rw [f_header h, Option.bind_some, appO_some (by rw [List.length_append] at hl; omega) (by rw [List.length_append] at hl; omega), Option.bind_some, show F_checksum_Append (hdL f ++ f.MIC) = some (bodyL f ++ crcL (bodyL f)) from crc_append (bodyL_ok h) (by omega)]
  rfl

theorem r_flag (b : Bool) (n : Int) : F_ref05_flag b n = some (flg b n) := by cases b <;> rfl
theorem r_adr (l : List Int) {a : S_Addr} (h : AdrOk a) (hl : l.length ≤ 1000) : F_ref05_addr_G0 l a = some (l ++ adrL a) := by
  unfold F_ref05_addr_G0 adrL
  rcases h with h | h
  · rw [h.1, wu (x := a.Short) (by omega) (by omega)]
    simp only [BEq.rfl, cond_true, if_true]
    rw [rc2 l a.Short (by omega), Option.bind_some, decT (by simp [beB_len])]; rfl
  · rw [h.1]
    rw [show ((3 : Int) == 2) = false by rfl, show ((3 : Int) == 3) = true by rfl, if_neg (show ¬ (3 : Int) = 2 by omega)]
    simp only [cond_false, cond_true]
    rw [rc8 l a.EUI (by omega), Option.bind_some, decT (by simp [beB_len])]; rfl
theorem r_byte0 (k : Int) (a p s : Bool) (h : k = 1 ∨ k = 2 ∨ k = 3) : IntKind.wrap .u8 (IntKind.wrap .i64 ((IntKind.wrap .i64 ((IntKind.wrap .i64 ((IntKind.wrap .i64 (64 * k)) + flg a 32)) + flg p 16)) + flg s 8)) = 64 * k + flg a 32 + flg p 16 + flg s 8 := by
  rcases h with rfl | rfl | rfl <;> cases a <;> cases p <;> cases s <;> decide
theorem r_byte1 (k s : Int) (h : k = 0 ∨ k = 2 ∨ k = 3) (h' : s = 0 ∨ s = 2 ∨ s = 3) : IntKind.wrap .u8 (IntKind.wrap .i64 ((IntKind.wrap .i64 (64 * k)) + (IntKind.wrap .i64 (16 * s)))) = 64 * k + 16 * s := by
  rcases h with rfl | rfl | rfl <;> rcases h' with rfl | rfl | rfl <;> decide
theorem r_j1 {f : S_Frame} (h : GoodF f) (l : List Int) (hl : l.length ≤ 100) : F_ref05_header_j1 f l = some (l ++ secs f ++ f.Payload) := by
  have hp := (good_pay h).1
  unfold F_ref05_header_j1 F_ref05_header_j2 secs
  cases hs : f.Secure
  · simp only [cond_false, Cut.app, List.append_nil]
    rw [appO_some (by omega) (by omega)]; rfl
  · obtain ⟨c0, c1, k0, k1, _⟩ := h.sec hs
    simp only [cond_true, Cut.app]
    rw [wu (x := f.Counter) c0 (by omega), rc4 l f.Counter (by omega), Option.bind_some, appO_some (by simp only [List.length_append, beB_len, List.length_singleton]; omega) (by simp only [List.length_append, beB_len, List.length_singleton]; omega), Option.bind_some, appO_some (by simp only [List.length_append, beB_len, List.length_singleton]; omega) (by simp only [List.length_append, beB_len, List.length_singleton]; omega), Option.bind_some, List.append_assoc l]
theorem r_header {f : S_Frame} (h : GoodF f) : F_ref05_header f = some (hdL f) := by
  unfold F_ref05_header
  obtain ⟨md, ms⟩ := good_modes h
  rw [r_flag, r_flag, r_flag]
  simp only [Option.bind_some]
  rw [r_byte0 _ _ _ _ h.kind, r_byte1 _ _ md ms]
  by_cases hk : f.Kind = 2
  · rw [show (f.Kind != 2) = false by simp [hk]]
    simp only [cond_false]
    rw [r_j1 h _ (by simp)]
    unfold hdL adrs hd3
    rw [if_pos hk, List.append_nil]
  · obtain ⟨d, s, _, _, p0, p1⟩ := h.adr hk
    have l1 := adrL_le f.Dst
    have l2 := adrL_le f.Src
    rw [show (f.Kind != 2) = true by simp [hk]]
    simp only [cond_true]
    rw [wu (x := f.Pan) p0 (by omega), rc2 _ f.Pan (by simp), Option.bind_some, r_adr _ d (by simp [beB_len]), Option.bind_some, r_adr _ s (by simp only [List.length_append, List.length_cons, List.length_nil, beB_len]; omega), Option.bind_some, r_j1 h _ (by simp only [List.length_append, List.length_cons, List.length_nil, beB_len]; omega)]
    unfold hdL adrs hd3
    rw [if_neg hk]
    simp only [List.append_assoc]
theorem r_avalid {a : S_Addr} (h : AdrOk a) : F_ref04_Valid a = some true := by
  unfold F_ref04_Valid
  rcases h with h | h
  · rw [h.1, h.2.1]; rfl
  · rw [h.1, h.2.1]; rfl
theorem r_some {a : S_Addr} (h : AdrOk a) : F_ref04_Some a = some true := by
  unfold F_ref04_Some
  rw [r_avalid h]
  rcases h with h | h
  · rw [h.1]; rfl
  · rw [h.1]; rfl
theorem r_abc {a : S_Addr} (h : AdrOk a) (hb : ¬ bcast a) : F_ref04_IsBroadcast a = some false := by
  unfold F_ref04_IsBroadcast
  rw [r_avalid h]
  simp only [Option.bind_some, cond_true]
  rcases h with h | h
  · rw [h.1]
    have : a.Short ≠ 65535 := fun e => hb ⟨h.1, e⟩
    simp [this]
  · rw [h.1]; rfl
theorem r_one {a : S_Addr} (h : AdrOk a) (hb : ¬ bcast a) : F_ref04_One a = some true := by
  unfold F_ref04_One
  rw [r_some h, r_abc h hb]
  rfl
theorem r_len {f : S_Frame} (h : GoodF f) : IntKind.wrap .i64 ((IntKind.wrap .i64 (((hdL f).length : Int) + (f.MIC.length : Int))) + 2) = ((hdL f).length : Int) + f.MIC.length + 2 := by
  have := h.size
  rw [wi (x := ((hdL f).length : Int) + (f.MIC.length : Int)) (by omega) (by omega), wi (by omega) (by omega)]
theorem r_valid {f : S_Frame} (h : GoodF f) : F_ref05_Valid f = some true := by
  unfold F_ref05_Valid
  by_cases hk : f.Kind = 2
  · have e := h.ack hk
    rw [e]
    rfl
  · obtain ⟨d, s, nb, na, _⟩ := h.adr hk
    have hv : F_ref05_Valid_j1 f true = some true := by
      have hl : decide (((hdL f).length : Int) + f.MIC.length + 2 ≤ 127) = true := by
        have := h.size
        exact decT (by omega)
      unfold F_ref05_Valid_j1
      rw [r_some d, r_one s nb, r_header h]
      simp only [Option.bind_some, cond_true, r_len h, hl]
      cases ha : f.AckRequest
      · cases hs : f.Secure
        · obtain ⟨c, k, m⟩ := h.nos hs
          rw [c, k, m]
          rfl
        · obtain ⟨_, _, _, _, m⟩ := h.sec hs
          rw [m]
          rfl
      · rw [r_abc d (na ha)]
        cases hs : f.Secure
        · obtain ⟨c, k, m⟩ := h.nos hs
          rw [c, k, m]
          rfl
        · obtain ⟨_, _, _, _, m⟩ := h.sec hs
          rw [m]
          rfl
    rw [show (f.Kind == 2) = false by simp [hk]]
    rcases h.kind with e | e | e
    · rw [show (f.Kind == 1) = true by simp [e]]
      exact hv
    · exact absurd e hk
    · rw [show (f.Kind == 1) = false by simp [e], show (f.Kind == 3) = true by simp [e]]
      exact hv
theorem r_size {f : S_Frame} (h : GoodF f) : F_ref05_Size f = some (((hdL f).length : Int) + f.MIC.length + 2) := by
  unfold F_ref05_Size
  rw [r_valid h, r_header h]
  simp only [Option.bind_some, cond_true]
  rw [r_len h]
theorem r_room {f : S_Frame} (h : GoodF f) (hk : f.Kind ≠ 2) : F_ref05_Room f = some (127 - (((hdL f).length : Int) + f.MIC.length + 2)) := by
  unfold F_ref05_Room
  have := h.size
  rw [r_valid h, r_size h, show (f.Kind == 2) = false by simp [hk]]
  simp only [Option.bind_some, cond_true, cond_false]
  rw [wi (by omega) (by omega)]
theorem good_ack (s : Int) (p : Bool) (hs : 0 ≤ s ∧ s ≤ 255) : GoodF (S_Frame.mk 2 false p false s 0 (S_Addr.mk 0 0 0) (S_Addr.mk 0 0 0) 0 0 [] []) where
  kind := Or.inr (Or.inl rfl)
  seq := hs
  ack := fun _ => rfl
  adr := fun e => absurd rfl e
  sec := fun e => by cases e
  nos := fun _ => ⟨rfl, rfl, rfl⟩
  pay := okB_nil
  mic := okB_nil
  size := by
    show (5 : Nat) ≤ 127
    omega
end
section
open Go.RowKit

structure TapeOk (t : S_multihopmade_Tape) : Prop where
  at0 : 0 ≤ t.at_
  at1 : t.at_ ≤ t.l.length
  len : t.l.length ≤ 400
theorem new_spec (l : List Int) : ∃ t, F_made_New l = some t ∧ TapeOk t := by
  unfold F_made_New F_made_New_j1
  by_cases h : (l.length : Int) > 400
  · rw [decT h, subO_some (by omega) (by omega) (by omega)]
    exact ⟨_, rfl, by simp, by simp, by simp; omega⟩
  · rw [decF h]
    exact ⟨_, rfl, by simp, by simp, by simp; omega⟩
theorem rem_spec (x n : Int) (h1 : 1 ≤ n) (h2 : n ≤ 4611686018427387904) : -4611686018427387904 < Int.tmod x n ∧ Int.tmod x n < n ∧ -n < Int.tmod x n := by
  have a := Int.tmod_lt_of_pos x (show 0 < n by omega)
  have b := Int.lt_tmod_of_pos x (show 0 < n by omega)
  omega
theorem next_spec {t : S_multihopmade_Tape} (h : TapeOk t) (n : Int) (h1 : 1 ≤ n) (h2 : n ≤ 4611686018427387904) : ∃ v t', F_made_Tape_Next t n = some (v, t') ∧ 0 ≤ v ∧ v < n ∧ TapeOk t' := by
  unfold F_made_Tape_Next F_made_Tape_Next_j1
  have a0 := h.at0
  have a1 := h.at1
  have a2 := h.len
  by_cases hc : t.at_ ≥ (t.l.length : Int)
  · rw [decT hc]
    exact ⟨0, t, rfl, by omega, by omega, h⟩
  · rw [decF hc, idx_int a0 (by omega)]
    simp only [cond_false, Option.bind_some, show decide (n ≠ 0) = true by simp; omega, cond_true]
    obtain ⟨r1, r2, r3⟩ := rem_spec (t.l[t.at_.toNat]'(by omega)) n h1 h2
    generalize Int.tmod (t.l[t.at_.toNat]'(by omega)) n = q at *
    have ew : IntKind.wrap .i64 (t.at_ + 1) = t.at_ + 1 := wi (by omega) (by omega)
    have hok : TapeOk ⟨t.l, t.at_ + 1⟩ := ⟨by dsimp only; omega, by dsimp only; omega, h.len⟩
    rw [ew]
    by_cases hq : q < 0
    · rw [decT hq, wi (by omega) (by omega)]
      exact ⟨q + n, _, rfl, by omega, by omega, hok⟩
    · rw [decF hq]
      exact ⟨q, _, rfl, by omega, by omega, hok⟩
end
section
open Go.RowKit

theorem bool_spec {t : S_multihopmade_Tape} (h : TapeOk t) (n : Int) (h1 : 1 ≤ n) (h2 : n ≤ 4611686018427387904) : ∃ v t', F_made_Tape_Bool t n = some (v, t') ∧ TapeOk t' := by
  unfold F_made_Tape_Bool
  obtain ⟨v, t', e, _, _, k⟩ := next_spec h n h1 h2
  rw [e]
  exact ⟨_, _, rfl, k⟩
end
section
open Go.RowKit

theorem bytes_spec {t : S_multihopmade_Tape} (h : TapeOk t) (n : Nat) (hn : n ≤ 1000000) : ∃ l t', F_made_Tape_Bytes t n = some (l, t') ∧ okB l ∧ l.length ≤ n ∧ TapeOk t' := by
  unfold F_made_Tape_Bytes
  rw [show IntKind.wrap .i64 ((n : Int) + 1) = ((n + 1 : Nat) : Int) by rw [wi (by omega) (by omega)]; rfl]
  obtain ⟨v, t1, e1, h0, h1, k1⟩ := next_spec h ((n + 1 : Nat) : Int) (by omega) (by omega)
  rw [e1, Option.bind_some]
  have e2 : mkO 1 v v = some v.toNat := by
    unfold mkO
    rw [if_pos ⟨by omega, by omega, by omega, by omega⟩]
  dsimp only
  rw [e2, Option.bind_some]
  obtain ⟨r, hr, q⟩ := loop_inv (step := F_made_Tape_Bytes_l1) (fun s => 0 ≤ s.1 ∧ s.1 ≤ v ∧ TapeOk s.2.1 ∧ okB s.2.2 ∧ s.2.2.length = v.toNat) (fun r => TapeOk r.1 ∧ okB r.2 ∧ r.2.length = v.toNat) (fun s => (v - s.1).toNat) (by
    rintro ⟨i, t2, l⟩ ⟨a0, a1, a2, a3, a4⟩
    dsimp only at a0 a1 a2 a3 a4
    unfold F_made_Tape_Bytes_l1
    dsimp only
    by_cases hi : i < (l.length : Int)
    · left
      obtain ⟨w, t3, e3, b0, b1, k3⟩ := next_spec a2 256 (by omega) (by omega)
      rw [decT hi, e3]
      simp only [cond_true, Option.bind_some, Cut.app, Nat.zero_add]
      rw [idx_int a0 hi, Option.bind_some, List.getElem?_eq_getElem (by omega), Option.bind_some, wi (by omega) (by omega), wu8 (by omega) (by omega)]
      refine ⟨_, rfl, ⟨by dsimp only; omega, by dsimp only; omega, k3, a3.set _ (by omega), by simp only [List.length_set]; exact a4⟩, by dsimp only; omega⟩
    · right
      rw [decF hi]
      exact ⟨_, rfl, a2, a3, a4⟩) (0, t1, List.replicate v.toNat 0) ⟨by dsimp only; omega, h0, k1, fun z hz => by rw [(List.mem_replicate.1 hz).2]; omega, by simp⟩
  rw [hr, Option.bind_some]
  exact ⟨_, _, rfl, q.2.1, by rw [q.2.2]; omega, q.1⟩
end
section
open Go.RowKit

theorem fill_spec {t : S_multihopmade_Tape} (h : TapeOk t) (n : Nat) (hn : n ≤ 1000000) : ∃ l t', F_made_Tape_Fill t n = some (l, t') ∧ okB l ∧ l.length = n ∧ TapeOk t' := by
  unfold F_made_Tape_Fill
  obtain ⟨v1, t1, e1, _, _, k1⟩ := next_spec h 256 (by omega) (by omega)
  obtain ⟨v2, t2, e2, _, _, k2⟩ := next_spec k1 256 (by omega) (by omega)
  obtain ⟨v3, t3, e3, _, _, k3⟩ := next_spec k2 256 (by omega) (by omega)
  have em : mkO 1 (n : Int) (n : Int) = some n := by
    unfold mkO
    rw [if_pos ⟨by omega, by omega, by omega, by omega⟩, Int.toNat_natCast]
  simp only [e1, e2, e3, em, Option.bind_some]
  obtain ⟨r, hr, q⟩ := loop_inv (step := F_made_Tape_Fill_l1 n (v1, t1) (v2, t2) (v3, t3)) (fun s => 0 ≤ s.1 ∧ s.1 ≤ n ∧ okB s.2 ∧ s.2.length = n) (fun r => okB r ∧ r.length = n) (fun s => ((n : Int) - s.1).toNat) (by
    rintro ⟨i, l⟩ ⟨a0, a1, a3, a4⟩
    dsimp only at a0 a1 a3 a4
    unfold F_made_Tape_Fill_l1
    dsimp only
    by_cases hi : i < (n : Int)
    · left
      have m0 := Int.tmod_nonneg 5 a0
      have m1 := Int.tmod_lt_of_pos i (show (0 : Int) < 5 by omega)
      rw [decT hi, decT (show (0 : Int) ≤ Int.tmod i 5 ∧ Int.tmod i 5 < 5 from ⟨m0, m1⟩)]
      simp only [cond_true, Cut.app, Nat.zero_add]
      rw [idx_int a0 (by omega), Option.bind_some, List.getElem?_eq_getElem (by omega), Option.bind_some, wi (by omega) (by omega)]
      refine ⟨_, rfl, ⟨by dsimp only; omega, by dsimp only; omega, a3.set _ (wrap8_bd _), by simp only [List.length_set]; exact a4⟩, by dsimp only; omega⟩
    · right
      rw [decF hi]
      exact ⟨_, rfl, a3, a4⟩) (0, List.replicate n 0) ⟨by dsimp only; omega, by dsimp only; omega, fun z hz => by rw [(List.mem_replicate.1 hz).2]; omega, by simp⟩
  rw [hr, Option.bind_some]
  exact ⟨_, _, rfl, q.1, q.2, k3⟩
theorem word_spec {t : S_multihopmade_Tape} (h : TapeOk t) : ∃ v t', F_made_Tape_Word t = some (v, t') ∧ TapeOk t' := by
  unfold F_made_Tape_Word
  obtain ⟨v1, t1, e1, _, _, k1⟩ := next_spec h 65536 (by omega) (by omega)
  obtain ⟨v2, t2, e2, _, _, k2⟩ := next_spec k1 5 (by omega) (by omega)
  simp only [e1, e2, Option.bind_some]
  cases v2 == 0
  · cases v2 == 1
    · cases v2 == 2
      · cases v2 == 3
        · exact ⟨_, _, rfl, k2⟩
        · exact ⟨_, _, rfl, k2⟩
      · exact ⟨_, _, rfl, k2⟩
    · exact ⟨_, _, rfl, k2⟩
  · exact ⟨_, _, rfl, k2⟩
end
section
open Go.RowKit

theorem device_spec {t : S_multihopmade_Tape} (h : TapeOk t) : ∃ a t', F_made_Tape_Device t = some (a, t') ∧ AdrOk a ∧ ¬ bcast a ∧ TapeOk t' := by
  unfold F_made_Tape_Device
  obtain ⟨v1, t1, e1, a0, a1, k1⟩ := next_spec h 5 (by omega) (by omega)
  obtain ⟨v2, t2, e2, k2⟩ := bool_spec k1 2 (by omega) (by omega)
  simp only [e1, e2, Option.bind_some]
  cases v2
  · refine ⟨_, _, rfl, Or.inl ⟨rfl, rfl, ?_⟩, ?_, k2⟩
    · dsimp only
      rw [wrap16]; omega
    · rintro ⟨_, e⟩
      dsimp only at e
      rw [wrap16] at e
      omega
  · refine ⟨_, _, rfl, Or.inr ⟨rfl, rfl, ?_⟩, ?_, k2⟩
    · dsimp only
      rw [wrap64]; omega
    · rintro ⟨e, _⟩
      dsimp only at e
      omega
theorem hd_le (f : S_Frame) : (hdL f).length ≤ 26 + f.Payload.length := by
  have h1 := adrs_le f
  have h2 := secs_le f
  unfold hdL
  simp only [List.length_append, hd3_len]
  omega
theorem kind_ok {v : Int} (h0 : 0 ≤ v) (h1 : v < 2) : IntKind.wrap .i64 (1 + (IntKind.wrap .i64 (2 * v))) = 1 ∨ IntKind.wrap .i64 (1 + (IntKind.wrap .i64 (2 * v))) = 3 := by
  rw [wi (x := 2 * v) (by omega) (by omega), wi (by omega) (by omega)]
  omega
/-- a plain frame -/
theorem good_plain {k : Int} (hk : k = 1 ∨ k = 3) {a p : Bool} {s n : Int} {d c : S_Addr} {l : List Int} (hs : 0 ≤ s ∧ s ≤ 255) (hn : 0 ≤ n ∧ n ≤ 65535) (hd : AdrOk d) (hc : AdrOk c) (hb : ¬ bcast c) (ha : a = true → ¬ bcast d) (hl : okB l) (hz : l.length ≤ 60) : GoodF (S_Frame.mk k a p false s n d c 0 0 l []) where
  kind := by dsimp only; omega
  seq := hs
  ack := fun e => by dsimp only at e; omega
  adr := fun _ => ⟨hd, hc, hb, ha, hn⟩
  sec := fun e => by cases e
  nos := fun _ => ⟨rfl, rfl, rfl⟩
  pay := hl
  mic := okB_nil
  size := by
    have := hd_le (S_Frame.mk k a p false s n d c 0 0 l [])
    dsimp only at this
    dsimp only [List.length_nil]
    omega
theorem frame_spec {t : S_multihopmade_Tape} (h : TapeOk t) (n : Nat) (hn : n ≤ 60) : ∃ f t', F_made_Tape_Frame t n = some (f, t') ∧ GoodF f ∧ f.Kind ≠ 2 ∧ f.Secure = false ∧ f.Payload.length ≤ n ∧ TapeOk t' := by
  unfold F_made_Tape_Frame F_made_Tape_Frame_j1
  obtain ⟨v1, t1, e1, a0, a1, k1⟩ := next_spec h 2 (by omega) (by omega)
  obtain ⟨v2, t2, e2, k2⟩ := bool_spec k1 2 (by omega) (by omega)
  obtain ⟨v3, t3, e3, k3⟩ := bool_spec k2 4 (by omega) (by omega)
  obtain ⟨v4, t4, e4, b0, b1, k4⟩ := next_spec k3 256 (by omega) (by omega)
  obtain ⟨v5, t5, e5, c0, c1, k5⟩ := next_spec k4 3 (by omega) (by omega)
  obtain ⟨v6, t6, e6, d6, n6, k6⟩ := device_spec k5
  obtain ⟨v7, t7, e7, d7, n7, k7⟩ := device_spec k6
  obtain ⟨v8, t8, e8, o8, l8, k8⟩ := bytes_spec k7 n (by omega)
  obtain ⟨v9, t9, e9, k9⟩ := bool_spec k8 5 (by omega) (by omega)
  simp only [e1, e2, e3, e4, e5, e6, e7, e8, e9, Option.bind_some]
  have hk := kind_ok a0 a1
  have hp : 0 ≤ IntKind.wrap .u16 v5 ∧ IntKind.wrap .u16 v5 ≤ 65535 := by rw [wrap16]; omega
  have hne : IntKind.wrap .i64 (1 + (IntKind.wrap .i64 (2 * v1))) ≠ 2 := by omega
  cases v9
  · exact ⟨_, _, rfl, good_plain hk (wrap8_bd _) hp d6 d7 n7 (fun _ => n6) o8 (by omega), hne, rfl, l8, k9⟩
  · exact ⟨_, _, rfl, good_plain hk (wrap8_bd _) hp (Or.inl ⟨rfl, rfl, by dsimp only; omega, by dsimp only; omega⟩) d7 n7 (fun e => by cases e) o8 (by omega), hne, rfl, l8, k9⟩
theorem good_secure {f : S_Frame} (h : GoodF f) (hk : f.Kind ≠ 2) (hp : f.Payload.length ≤ 60) {c k : Int} {m : List Int} (hc : 0 ≤ c ∧ c ≤ 4294967295) (hy : 0 ≤ k ∧ k ≤ 255) (hm : okB m) (hl : m.length = 4) : GoodF (S_Frame.mk f.Kind f.AckRequest f.Pending true f.Seq f.Pan f.Dst f.Src c k f.Payload m) where
  kind := h.kind
  seq := h.seq
  ack := fun e => absurd e hk
  adr := fun _ => h.adr hk
  sec := fun _ => ⟨hc.1, hc.2, hy.1, hy.2, hl⟩
  nos := fun e => by cases e
  pay := h.pay
  mic := hm
  size := by
    have := hd_le (S_Frame.mk f.Kind f.AckRequest f.Pending true f.Seq f.Pan f.Dst f.Src c k f.Payload m)
    dsimp only at this ⊢
    omega
/-- another payload -/
theorem hd_pay {f : S_Frame} (l : List Int) : (hdL (S_Frame.mk f.Kind f.AckRequest f.Pending f.Secure f.Seq f.Pan f.Dst f.Src f.Counter f.Key l f.MIC)).length + f.Payload.length = (hdL f).length + l.length := by
  unfold hdL
  simp only [List.length_append]
  have e1 : (hd3 (S_Frame.mk f.Kind f.AckRequest f.Pending f.Secure f.Seq f.Pan f.Dst f.Src f.Counter f.Key l f.MIC)) = hd3 f := rfl
  have e2 : (adrs (S_Frame.mk f.Kind f.AckRequest f.Pending f.Secure f.Seq f.Pan f.Dst f.Src f.Counter f.Key l f.MIC)) = adrs f := rfl
  have e3 : (secs (S_Frame.mk f.Kind f.AckRequest f.Pending f.Secure f.Seq f.Pan f.Dst f.Src f.Counter f.Key l f.MIC)) = secs f := rfl
  rw [e1, e2, e3]
  omega
theorem good_pay' {f : S_Frame} (h : GoodF f) (hk : f.Kind ≠ 2) {l : List Int} (hl : okB l) (hz : (hdL f).length + f.MIC.length + 2 + l.length ≤ 127 + f.Payload.length) : GoodF (S_Frame.mk f.Kind f.AckRequest f.Pending f.Secure f.Seq f.Pan f.Dst f.Src f.Counter f.Key l f.MIC) where
  kind := h.kind
  seq := h.seq
  ack := fun e => absurd e hk
  adr := fun _ => h.adr hk
  sec := h.sec
  nos := h.nos
  pay := hl
  mic := h.mic
  size := by
    have := hd_pay (f := f) l
    dsimp only
    omega
theorem any_spec {t : S_multihopmade_Tape} (h : TapeOk t) : ∃ f t', F_made_Tape_AnyFrame t = some (f, t') ∧ GoodF f ∧ TapeOk t' := by
  unfold F_made_Tape_AnyFrame F_made_Tape_AnyFrame_j1
  obtain ⟨f, t1, e1, g1, hk, hs, hl, k1⟩ := frame_spec h 20 (by omega)
  have e1' : F_made_Tape_Frame t 20 = some (f, t1) := e1
  obtain ⟨v2, t2, e2, a0, a1, k2⟩ := next_spec k1 4 (by omega) (by omega)
  simp only [e1', e2, Option.bind_some]
  by_cases c0 : v2 = 0
  · obtain ⟨v3, t3, e3, k3⟩ := bool_spec k2 2 (by omega) (by omega)
    simp only [c0, BEq.rfl, cond_true, e3, Option.bind_some]
    exact ⟨_, _, rfl, good_ack _ _ g1.seq, k3⟩
  rw [show (v2 == 0) = false by simp [c0]]
  simp only [cond_false]
  by_cases c1 : v2 = 1
  · obtain ⟨v3, t3, e3, k3⟩ := word_spec k2
    obtain ⟨v4, t4, e4, _, _, k4⟩ := next_spec k3 3 (by omega) (by omega)
    obtain ⟨v5, t5, e5, o5, l5, k5⟩ := fill_spec k4 4 (by omega)
    have e5' : F_made_Tape_Fill t4 4 = some (v5, t5) := e5
    simp only [c1, BEq.rfl, cond_true, e3, e4, e5', Option.bind_some]
    exact ⟨_, _, rfl, good_secure g1 hk (by omega) (by rw [wrap32]; omega) (wrap8_bd _) o5 l5, k5⟩
  rw [show (v2 == 1) = false by simp [c1]]
  simp only [cond_false]
  by_cases c2 : v2 = 2
  · obtain ⟨v3, t3, e3, b0, b1, k3⟩ := next_spec k2 3 (by omega) (by omega)
    have hz := g1.size
    have hrm := r_room g1 hk
    have hp := (good_pay g1).1
    generalize hr : 127 - (((hdL f).length : Int) + f.MIC.length + 2) = r at hrm
    have er : IntKind.wrap .i64 (1 + r) = 1 + r := wi (by omega) (by omega)
    have m1 := Int.tmod_lt_of_pos v3 (show 0 < 1 + r by omega)
    have m0 := Int.tmod_nonneg (1 + r) b0
    generalize hq : Int.tmod v3 (1 + r) = q at m0 m1
    have ew : IntKind.wrap .i64 ((IntKind.wrap .i64 (r + (f.Payload.length : Int))) - q) = ((r + f.Payload.length - q).toNat : Int) := by
      rw [wi (x := r + (f.Payload.length : Int)) (by omega) (by omega), wi (by omega) (by omega)]
      omega
    obtain ⟨v5, t5, e5, o5, l5, k5⟩ := fill_spec k3 (r + f.Payload.length - q).toNat (by omega)
    simp only [c2, BEq.rfl, cond_true, e3, hrm, er, hq, ew, e5, Option.bind_some, decT (show 1 + r ≠ 0 by omega)]
    exact ⟨_, _, rfl, good_pay' g1 hk o5 (by omega), k5⟩
  · rw [show (v2 == 2) = false by simp [c2]]
    exact ⟨_, _, rfl, g1, k2⟩
end
section
open Go.RowKit

theorem ior_comm (x y : Int) : ior .u64 x y = ior .u64 y x := by unfold ior; rw [BitVec.or_comm]
theorem be_step {v c : Int} (h0 : 0 ≤ v) (h1 : v < 72057594037927936) (c0 : 0 ≤ c) (c1 : c ≤ 255) : ior .u64 (ishl .u64 v 8) (IntKind.wrap .u64 c) = v * 256 + c := by
  have e : (2 : Int) ^ (8 : Int).toNat = 2 ^ 8 := rfl
  have e2 : (256 : Int) = 2 ^ 8 := rfl
  rw [ishl_eq (by omega) (by omega), wu c0 (by omega), e, Int.emod_eq_of_lt (Int.mul_nonneg h0 (by decide)) (by rw [← e2]; omega), ior_comm, ior_add 8 c0 (by omega) h0 (by rw [← e2]; omega)]
  omega
theorem be_fold (l : List Int) (h : okB l) (h8 : l.length ≤ 8) (k : Nat) (hk : k < l.length) : ior .u64 (ishl .u64 (beN (l.take k)) 8) (IntKind.wrap .u64 l[k]) = beN (l.take (k + 1)) := by
  have hb := beN_bd (h.take k)
  have hl : (l.take k).length = k := by rw [List.length_take]; omega
  have hp : (256 : Int) ^ k ≤ 72057594037927936 := by
    have : k ≤ 7 := by omega
    rcases k with _ | _ | _ | _ | _ | _ | _ | _ | k
    all_goals first | decide | omega
  rw [hl] at hb
  have hx := h.get hk
  rw [be_step hb.1 (by omega) hx.1 hx.2, take_snoc (List.getElem?_eq_getElem hk), beN_snoc]
theorem beN_beB (v : Int) (n : Nat) : beN (beB v n) = v % 256 ^ n := by
  induction n generalizing v with
  | zero => simp [beB, beN, Int.emod_one]
  | succ n ih =>
    have e : beB v (n + 1) = beB (v / 256) n ++ [v % 256] := by
      apply List.ext_getElem?
      intro i
      rcases Nat.lt_trichotomy i n with hi | hi | hi
      · rw [beB_get (by omega), List.getElem?_append_left (by rw [beB_len]; exact hi), beB_get hi]
        congr 2
        rw [show n + 1 - 1 - i = (n - 1 - i) + 1 by omega, Nat.mul_add, Int.pow_add]
        rw [Int.mul_comm, ← Int.ediv_ediv_of_nonneg (by decide)]
        rfl
      · subst hi
        rw [beB_get (by omega), List.getElem?_append_right (by rw [beB_len]; exact Nat.le_refl _), beB_len]
        simp
      · rw [List.getElem?_eq_none (by rw [beB_len]; omega), List.getElem?_eq_none (by simp [beB_len]; omega)]
    rw [e, beN_snoc, ih, Int.pow_succ]
    have h1 := Int.emod_add_mul_ediv v 256
    have h2 := Int.emod_add_mul_ediv (v / 256) (256 ^ n)
    have hp : (0 : Int) < 256 ^ n := Int.pow_pos (by decide)
    have h3 := Int.emod_nonneg (v / 256) (Int.ne_of_gt hp)
    have h4 := Int.emod_lt_of_pos (v / 256) hp
    have h5 := Int.emod_nonneg v (show (256 : Int) ≠ 0 by decide)
    have h6 := Int.emod_lt_of_pos v (show (0 : Int) < 256 by decide)
    have h7 : v = (v / 256 % 256 ^ n * 256 + v % 256) + (256 ^ n * 256) * (v / 256 / 256 ^ n) := by
      have : 256 * (256 ^ n * (v / 256 / 256 ^ n)) = (256 ^ n * 256) * (v / 256 / 256 ^ n) := by
        rw [← Int.mul_assoc, Int.mul_comm (256 : Int) (256 ^ n)]
      omega
    have h8 : (0 : Int) ≤ v / 256 % 256 ^ n * 256 + v % 256 := by omega
    have h9 : v / 256 % 256 ^ n * 256 + v % 256 < 256 ^ n * 256 := by omega
    conv => rhs; rw [h7]
    rw [Int.add_mul_emod_self_left, Int.emod_eq_of_lt h8 h9]
theorem uint_loop {l : List Int} (h : okB l) (h8 : l.length ≤ 8) : loopO (F_octets_Uint_l1 l) (0, 0) = some (beN l) := by
  have hl := loop_run (step := F_octets_Uint_l1 l) (S := fun k => (beN (l.take k), (k : Int))) l.length (r := beN l) (fun k hk => by
    unfold F_octets_Uint_l1
    dsimp only
    rw [decT (show (k : Int) < (l.length : Int) by omega), idx_lt hk]
    simp only [cond_true, Option.bind_some]
    rw [be_fold l h h8 k hk, wk k (by omega)]) (by
    unfold F_octets_Uint_l1
    dsimp only
    rw [decF (show ¬ (l.length : Int) < (l.length : Int) by omega)]
    simp only [cond_false, List.take_length])
  exact hl
/-- octets.Uint within the list -/
theorem uint_some {b : List Int} (h : okB b) (hb : b.length ≤ 1000000000000) (i n : Nat) (h1 : 1 ≤ n) (h8 : n ≤ 8) (hi : i + n ≤ b.length) : F_octets_Uint b i n = some (beN ((b.drop i).take n), true) := by
  unfold F_octets_Uint
  rw [decF (show ¬ (n : Int) < 1 by omega), decF (show ¬ (n : Int) > 8 by omega), decF (show ¬ (i : Int) < 0 by omega), wi (by omega) (by omega), decF (show ¬ (i : Int) > (b.length : Int) - (n : Int) by omega), wi (by omega) (by omega), subO_some (by omega) (by omega) (by omega)]
  simp only [cond_false, Option.bind_some]
  rw [show (b.take ((i : Int) + (n : Int)).toNat).drop (i : Int).toNat = (b.drop i).take n by rw [show ((i : Int) + (n : Int)).toNat = i + n by omega, Int.toNat_natCast, List.drop_take, Nat.add_sub_cancel_left]]
  rw [uint_loop ((h.drop i).take n) (by rw [List.length_take]; omega)]
  rfl
end
section
open Go.RowKit

theorem rd_app {x l : List Int} (bad : Bool) (n : Int) (hx : n = (x.length : Int)) (h1 : 1 ≤ x.length) (h8 : x.length ≤ 8) (ho : okB (x ++ l)) (hl : l.length ≤ 1000) : F_frame_reader_next (S_frame_reader.mk (x ++ l) bad) n = some (beN x, S_frame_reader.mk l bad) := by
  subst hx
  unfold F_frame_reader_next
  have e := uint_some ho (by rw [List.length_append]; omega) 0 x.length h1 h8 (by rw [List.length_append]; omega)
  have e0 : ((0 : Nat) : Int) = 0 := rfl
  rw [e0, List.drop_zero, List.take_left] at e
  dsimp only
  rw [e]
  simp only [Option.bind_some, cond_true]
  rw [subO_some (by omega) (by rw [List.length_append]; omega) (by omega)]
  simp only [Option.bind_some, Int.toNat_natCast, List.take_length]
  rw [List.drop_left]
theorem beN_one (x : Int) : beN [x] = x := by simp [beN]
theorem beN_eq {v : Int} {n : Nat} (h0 : 0 ≤ v) (h1 : v < 256 ^ n) : beN (beB v n) = v := by rw [beN_beB, Int.emod_eq_of_lt h0 h1]
theorem b0_kind (k : Int) (a p s : Bool) (h : k = 1 ∨ k = 2 ∨ k = 3) : IntKind.wrap .i64 (ishr .u8 (IntKind.wrap .u8 (64 * k + flg a 32 + flg p 16 + flg s 8)) 6) = k := by
  rcases h with rfl | rfl | rfl <;> cases a <;> cases p <;> cases s <;> decide
theorem b0_a (k : Int) (a p s : Bool) (h : k = 1 ∨ k = 2 ∨ k = 3) : ((iand .u8 (IntKind.wrap .u8 (64 * k + flg a 32 + flg p 16 + flg s 8)) 32) != 0) = a := by
  rcases h with rfl | rfl | rfl <;> cases a <;> cases p <;> cases s <;> decide
theorem b0_p (k : Int) (a p s : Bool) (h : k = 1 ∨ k = 2 ∨ k = 3) : ((iand .u8 (IntKind.wrap .u8 (64 * k + flg a 32 + flg p 16 + flg s 8)) 16) != 0) = p := by
  rcases h with rfl | rfl | rfl <;> cases a <;> cases p <;> cases s <;> decide
theorem b0_s (k : Int) (a p s : Bool) (h : k = 1 ∨ k = 2 ∨ k = 3) : ((iand .u8 (IntKind.wrap .u8 (64 * k + flg a 32 + flg p 16 + flg s 8)) 8) != 0) = s := by
  rcases h with rfl | rfl | rfl <;> cases a <;> cases p <;> cases s <;> decide
theorem b1_d (k s : Int) (h : k = 0 ∨ k = 2 ∨ k = 3) (h' : s = 0 ∨ s = 2 ∨ s = 3) : IntKind.wrap .i64 (iand .u8 (ishr .u8 (IntKind.wrap .u8 (64 * k + 16 * s)) 6) 3) = k := by
  rcases h with rfl | rfl | rfl <;> rcases h' with rfl | rfl | rfl <;> decide
theorem b1_s (k s : Int) (h : k = 0 ∨ k = 2 ∨ k = 3) (h' : s = 0 ∨ s = 2 ∨ s = 3) : IntKind.wrap .i64 (iand .u8 (ishr .u8 (IntKind.wrap .u8 (64 * k + 16 * s)) 4) 3) = s := by
  rcases h with rfl | rfl | rfl <;> rcases h' with rfl | rfl | rfl <;> decide
theorem rd_adr {a : S_Addr} (h : AdrOk a) {l : List Int} (bad : Bool) (ho : okB l) (hl : l.length ≤ 1000) : F_frame_reader_addr (S_frame_reader.mk (adrL a ++ l) bad) a.Mode = some (a, S_frame_reader.mk l bad) := by
  unfold F_frame_reader_addr F_frame_reader_addr_j1
  obtain ⟨m, s, e⟩ := a
  unfold adrL
  rcases h with ⟨h1, h2, h3, h4⟩ | ⟨h1, h2, h3, h4⟩
  · dsimp only at h1 h2 h3 h4 ⊢
    subst h1 h2
    have e2' := rd_app (x := beB s 2) (l := l) bad 2 (by rw [beB_len]; rfl) (by rw [beB_len]; omega) (by rw [beB_len]; omega) ((beB_ok _ _).append ho) hl
    rw [if_pos rfl, e2', beN_eq h3 (show s < 256 ^ 2 by omega)]
    simp only [BEq.rfl, cond_true, Option.bind_some]
    rw [wrap16, Int.emod_eq_of_lt h3 (by omega)]
  · dsimp only at h1 h2 h3 h4 ⊢
    subst h1 h2
    have e2' := rd_app (x := beB e 8) (l := l) bad 8 (by rw [beB_len]; rfl) (by rw [beB_len]; omega) (by rw [beB_len]; omega) ((beB_ok _ _).append ho) hl
    rw [if_neg (show ¬ (3 : Int) = 2 by omega), e2', beN_eq h3 (show e < 256 ^ 8 by omega), show ((3 : Int) == 2) = false by rfl, show ((3 : Int) == 3) = true by rfl]
    rfl
/-- from the place behind the addresses on -/
theorem parse_j3 {g : S_Frame} {P M : List Int} {bad : Bool} (hP : P.length ≤ 127) (hM : M.length ≤ 127) : F_frame_parse_j3 (S_frame_reader.mk (P ++ M) bad, g) (P.length : Int) = some (S_Frame.mk g.Kind g.AckRequest g.Pending g.Secure g.Seq g.Pan g.Dst g.Src g.Counter g.Key P M, true) := by
  unfold F_frame_parse_j3
  dsimp only
  rw [subO_some (by omega) (by omega) (by rw [List.length_append]; omega), Option.bind_some]
  simp only [Int.toNat_natCast, Int.toNat_zero, List.drop_zero, Cut.app, List.take_left]
  rw [appO_some (by simp; omega) (by simp; omega), Option.bind_some, subO_some (by omega) (by rw [List.length_append]; omega) (by omega), Option.bind_some]
  simp only [Int.toNat_natCast, List.take_length, List.drop_left, List.nil_append]
  rw [appO_some (by simp; omega) (by simp; omega)]
  rfl
theorem parse_j1 {f g : S_Frame} (h : GoodF f) (e1 : g.Secure = f.Secure) (e2 : g.Counter = 0) (e3 : g.Key = 0) : F_frame_parse_j1 (S_frame_reader.mk (secs f ++ (f.Payload ++ f.MIC)) false, g) = some (S_Frame.mk g.Kind g.AckRequest g.Pending g.Secure g.Seq g.Pan g.Dst g.Src f.Counter f.Key f.Payload f.MIC, true) := by
  obtain ⟨hP, hM⟩ := good_pay h
  have hpm : okB (f.Payload ++ f.MIC) := h.pay.append h.mic
  have hlen : (f.Payload ++ f.MIC).length ≤ 300 := by rw [List.length_append]; omega
  unfold F_frame_parse_j1 F_frame_parse_j2 secs
  dsimp only
  rw [e1]
  cases hs : f.Secure
  · obtain ⟨c, k, m⟩ := h.nos hs
    simp only [cond_false, List.nil_append]
    have e1' : g.Secure = false := e1.trans hs
    have := parse_j3 (g := g) (P := f.Payload) (M := []) (bad := false) hP (by simp)
    rw [List.append_nil] at this
    rw [m, List.append_nil, this, e1', e2, e3, c, k]
  · obtain ⟨c0, c1, k0, k1, m⟩ := h.sec hs
    simp only [cond_true]
    have e4 := rd_app (x := beB f.Counter 4) (l := [f.Key] ++ (f.Payload ++ f.MIC)) false 4 (by rw [beB_len]; rfl) (by rw [beB_len]; omega) (by rw [beB_len]; omega) ((beB_ok _ _).append ((okB_one ⟨k0, k1⟩).append hpm)) (by rw [List.length_append, List.length_singleton]; omega)
    rw [← List.append_assoc] at e4
    have e5 := rd_app (x := [f.Key]) (l := f.Payload ++ f.MIC) false 1 rfl (by simp) (by simp) ((okB_one ⟨k0, k1⟩).append hpm) (by omega)
    rw [e4, beN_eq c0 (show f.Counter < 256 ^ 4 by omega), Option.bind_some]
    dsimp only
    rw [e5, beN_one, Option.bind_some]
    simp only [cond_false]
    have el : IntKind.wrap .i64 (((f.Payload ++ f.MIC).length : Int) - 4) = (f.Payload.length : Int) := by
      rw [List.length_append, wi (by omega) (by omega)]; omega
    rw [el, decF (show ¬ (f.Payload.length : Int) < 0 by omega)]
    simp only [cond_false]
    rw [parse_j3 hP hM, wrap32, Int.emod_eq_of_lt c0 (by omega), wu8 k0 (by omega)]
theorem f_parse {f : S_Frame} (h : GoodF f) : F_frame_parse (bodyL f) = some (f, true) := by
  obtain ⟨md, ms⟩ := good_modes h
  obtain ⟨hP, hM⟩ := good_pay h
  have hpm : okB (f.Payload ++ f.MIC) := h.pay.append h.mic
  have hS : okB (secs f) := by
    unfold secs
    cases hs : f.Secure
    · exact okB_nil
    · obtain ⟨_, _, k0, k1, _⟩ := h.sec hs
      exact (beB_ok _ _).append (okB_one ⟨k0, k1⟩)
  have hA : okB (adrs f) := by
    unfold adrs
    split
    · exact okB_nil
    · exact ((beB_ok _ _).append (adrL_ok _)).append (adrL_ok _)
  have hs5 := secs_le f
  have ha18 := adrs_le f
  have h3 := hd3_ok h
  have eb : bodyL f = [64 * f.Kind + flg f.AckRequest 32 + flg f.Pending 16 + flg f.Secure 8] ++ ([64 * f.Dst.Mode + 16 * f.Src.Mode] ++ ([f.Seq] ++ (adrs f ++ (secs f ++ (f.Payload ++ f.MIC))))) := by
    unfold bodyL hdL hd3
    simp only [List.append_assoc, List.cons_append, List.nil_append]
  have o4 : okB (secs f ++ (f.Payload ++ f.MIC)) := hS.append hpm
  have o3 : okB (adrs f ++ (secs f ++ (f.Payload ++ f.MIC))) := hA.append o4
  have o2 : okB ([f.Seq] ++ (adrs f ++ (secs f ++ (f.Payload ++ f.MIC)))) := (okB_one (h3 _ (by simp [hd3]))).append o3
  have o1 : okB ([64 * f.Dst.Mode + 16 * f.Src.Mode] ++ ([f.Seq] ++ (adrs f ++ (secs f ++ (f.Payload ++ f.MIC))))) := (okB_one (h3 _ (by simp [hd3]))).append o2
  have o0 : okB ([64 * f.Kind + flg f.AckRequest 32 + flg f.Pending 16 + flg f.Secure 8] ++ ([64 * f.Dst.Mode + 16 * f.Src.Mode] ++ ([f.Seq] ++ (adrs f ++ (secs f ++ (f.Payload ++ f.MIC)))))) := (okB_one (h3 _ (by simp [hd3]))).append o1
  have r0 := rd_app false 1 rfl (by simp) (by simp) o0 (by simp only [List.length_append, List.length_singleton]; omega)
  rw [← eb] at r0
  have r1 := rd_app false 1 rfl (by simp) (by simp) o1 (by simp only [List.length_append, List.length_singleton]; omega)
  have r2 := rd_app false 1 rfl (by simp) (by simp) o2 (by simp only [List.length_append]; omega)
  unfold F_frame_parse
  simp only [r0, r1, r2, Option.bind_some, beN_one, b0_kind _ _ _ _ h.kind, b0_a _ _ _ _ h.kind, b0_p _ _ _ _ h.kind, b0_s _ _ _ _ h.kind, b1_d _ _ md ms, b1_s _ _ md ms]
  rw [wu8 h.seq.1 (by have := h.seq.2; omega)]
  by_cases hk : f.Kind = 2
  · have e := h.ack hk
    rw [show (f.Kind != 2) = false by simp [hk]]
    have ea : adrs f = [] := by unfold adrs; rw [if_pos hk]
    simp only [cond_false, ea, List.nil_append]
    refine (parse_j1 h ?_ ?_ ?_).trans ?_
    · rfl
    · rfl
    · rfl
    · rw [e]
      rfl
  · obtain ⟨d, s, nb, na, p0, p1⟩ := h.adr hk
    rw [show (f.Kind != 2) = true by simp [hk]]
    have ea : adrs f ++ (secs f ++ (f.Payload ++ f.MIC)) = beB f.Pan 2 ++ (adrL f.Dst ++ (adrL f.Src ++ (secs f ++ (f.Payload ++ f.MIC)))) := by
      unfold adrs; rw [if_neg hk]; simp only [List.append_assoc]
    have l1 := adrL_le f.Dst
    have l2 := adrL_le f.Src
    have q1 : okB (adrL f.Src ++ (secs f ++ (f.Payload ++ f.MIC))) := (adrL_ok _).append o4
    have q2 : okB (adrL f.Dst ++ (adrL f.Src ++ (secs f ++ (f.Payload ++ f.MIC)))) := (adrL_ok _).append q1
    have s0 := rd_app (x := beB f.Pan 2) false 2 (by rw [beB_len]; rfl) (by rw [beB_len]; omega) (by rw [beB_len]; omega) ((beB_ok _ _).append q2) (by simp only [List.length_append]; omega)
    have s1 := rd_adr d false q1 (by simp only [List.length_append]; omega)
    have s2 := rd_adr s false o4 (by simp only [List.length_append]; omega)
    simp only [cond_true, ea, s0, s1, s2, Option.bind_some]
    refine (parse_j1 h ?_ ?_ ?_).trans ?_
    · rfl
    · rfl
    · rfl
    · dsimp only
      rw [beN_eq p0 (show f.Pan < 256 ^ 2 by omega), wrap16, Int.emod_eq_of_lt p0 (by omega)]
theorem f_decode {f : S_Frame} (h : GoodF f) : F_frame_Decode (encL f) = some (f, 0) := by
  have hb := bodyL_len h
  have hl := encL_len (f := f)
  unfold F_frame_Decode
  rw [decF (show ¬ ((encL f).length : Int) > 127 by omega), decF (show ¬ ((encL f).length : Int) < 5 by omega)]
  have ec : F_checksum_Check (encL f) = some true := by
    have := crc_check (l := bodyL f) (x := toI (crcV (bodyL f)) % 256) (y := toI (crcV (bodyL f)) / 256) (bodyL_ok h) (by omega)
    rw [show decide ([toI (crcV (bodyL f)) % 256, toI (crcV (bodyL f)) / 256] = crcL (bodyL f)) = true from decide_eq_true rfl] at this
    exact this
  simp only [cond_false, ec, Option.bind_some, cond_true]
  rw [wi (by omega) (by omega), subO_some (by omega) (by omega) (by omega)]
  have et : ((encL f).take ((((encL f).length : Int) - 2).toNat)).drop (0 : Int).toNat = bodyL f := by
    rw [Int.toNat_zero, List.drop_zero]
    unfold encL
    exact List.take_left' (by rw [List.length_append, crcL_len]; omega)
  simp only [Option.bind_some]
  rw [et, f_parse h]
  simp only [Option.bind_some, cond_true]
  rw [f_encode h]
  simp only [Option.bind_some]
  unfold F_bytes_Equal
  simp [Cut.app]
theorem addr_refl (a : S_Addr) : S_Addr.eqb a a = true := by
  unfold S_Addr.eqb
  simp
theorem enc_ack (s : Int) (p : Bool) : (encL (S_Frame.mk 2 false p false s 0 (S_Addr.mk 0 0 0) (S_Addr.mk 0 0 0) 0 0 [] [])).length = 5 := rfl
theorem known_true : F_law05_known = some true := by
  unfold F_law05_known
  have g := good_ack 7 false (by omega)
  rw [f_encode g, Option.bind_some]
  dsimp only
  rw [f_decode g, Option.bind_some, enc_ack]
  rfl
end
section
open Go.RowKit

theorem same_refl (a : List Int) (ha : a.length ≤ 1000000000000) : F_ref01_Same a a = some true := by
  unfold F_ref01_Same
  rw [show ((a.length : Int) != (a.length : Int)) = false by simp]
  simp only [cond_false]
  have hl := loop_run (step := F_ref01_Same_l1 a a) (S := fun k => (k : Int)) a.length (r := Sum.inl ()) (fun k hk => by
    unfold F_ref01_Same_l1
    rw [decT (show (k : Int) < (a.length : Int) by omega), idx_lt hk, wk k (by omega)]
    simp) (by
    unfold F_ref01_Same_l1
    rw [decF (show ¬ (a.length : Int) < (a.length : Int) by omega)]
    rfl)
  simp only [Int.natCast_zero] at hl
  rw [hl]
  rfl
end
section
open Go.RowKit

theorem fsame_refl {f : S_Frame} (h : GoodF f) : F_ref05_Same f f = some true := by
  obtain ⟨hP, hM⟩ := good_pay h
  unfold F_ref05_Same
  rw [addr_refl, addr_refl, same_refl _ (by omega), same_refl _ (by omega)]
  simp
end
section
open Go.RowKit

structure AdrWf (a : S_Addr) : Prop where
  short : 0 ≤ a.Short ∧ a.Short ≤ 65535
  eui : 0 ≤ a.EUI ∧ a.EUI ≤ 18446744073709551615
instance (a : S_Addr) : Decidable (AdrOk a) := by unfold AdrOk; infer_instance
instance (a : S_Addr) : Decidable (bcast a) := by unfold bcast; infer_instance
structure WfF (f : S_Frame) : Prop where
  seq : 0 ≤ f.Seq ∧ f.Seq ≤ 255
  pan : 0 ≤ f.Pan ∧ f.Pan ≤ 65535
  dst : AdrWf f.Dst
  src : AdrWf f.Src
  cnt : 0 ≤ f.Counter ∧ f.Counter ≤ 4294967295
  key : 0 ≤ f.Key ∧ f.Key ≤ 255
  pay : okB f.Payload
  payl : f.Payload.length ≤ 140737488351232
  mic : okB f.MIC
  micl : f.MIC.length ≤ 140737488351232
/-- what the place of a frame allows: the length may be counted, the header may be built -/
structure HdOk (f : S_Frame) : Prop where
  wf : WfF f
  kind : f.Kind = 1 ∨ f.Kind = 3
  dst : AdrOk f.Dst
  src : AdrOk f.Src
theorem HdOk.k2 {f : S_Frame} (h : HdOk f) : f.Kind ≠ 2 := by have := h.kind; omega
end
section
open Go.RowKit

theorem f_header_j1 {f : S_Frame} (h : GoodF f) : F_frame_Header_j1 f = some (hdL f) := by
  have e := f_header h
  unfold F_frame_Header at e
  rw [f_valid h] at e
  exact e
end
section
open Go.RowKit

theorem appR (a : List Int) (v n : Int) : F_octets_Append_R a v n = F_octets_Append a v n := rfl
theorem adrR (a : List Int) (b : S_Addr) : F_frame_appendAddr_R a b = F_frame_appendAddr a b := by
  unfold F_frame_appendAddr_R F_frame_appendAddr
  simp only [appR]
theorem hdr3R (f : S_Frame) (l : List Int) : F_frame_Header_R_j3 f l = F_frame_Header_j3 f l := by
  unfold F_frame_Header_R_j3 F_frame_Header_j3
  simp only [List.take_length]
theorem hdr2R (f : S_Frame) (l : List Int) : F_frame_Header_R_j2 f l = F_frame_Header_j2 f l := by
  unfold F_frame_Header_R_j2 F_frame_Header_j2
  simp only [List.take_length, appR, hdr3R]
theorem hdr1R (f : S_Frame) : F_frame_Header_R_j1 f = F_frame_Header_j1 f := by
  unfold F_frame_Header_R_j1 F_frame_Header_j1
  simp only [List.take_length, appR, adrR, hdr2R]
theorem hdrR (f : S_Frame) : F_frame_Header_R f = F_frame_Header f := by
  unfold F_frame_Header_R F_frame_Header
  simp only [hdr1R]
theorem sumR (l : List Int) : F_checksum_Append_R l = F_checksum_Append l := by
  unfold F_checksum_Append_R F_checksum_Append
  simp only [List.take_length]
theorem encR (f : S_Frame) : F_frame_Encode_R f = F_frame_Encode f := by
  unfold F_frame_Encode_R F_frame_Encode
  simp only [sumR]
theorem parseR (l : List Int) : F_frame_parse_R l = F_frame_parse l := rfl
theorem decR (l : List Int) : F_frame_Decode_R l = F_frame_Decode l := by
  unfold F_frame_Decode_R F_frame_Decode
  simp only [encR, parseR]
theorem inc_loop1 (l : List Int) (hl : l.length ≤ 1000000) : ∃ r, loopO F_law05_FrameFresh_l1 (0, l) = some r := by
  obtain ⟨r, e, _⟩ := loop_inv (step := F_law05_FrameFresh_l1) (fun s => 0 ≤ s.1 ∧ s.2.length = l.length) (fun _ => True) (fun s => (l.length - s.1).toNat) (fun s ⟨a, b⟩ => by
    unfold F_law05_FrameFresh_l1
    by_cases h : s.1 < (s.2.length : Int)
    · left
      have h2 : s.1.toNat < s.2.length := by omega
      rw [decT h, cond_true]
      simp only [Cut.app]
      rw [idx_int a h, Option.bind_some, Nat.zero_add, List.getElem?_eq_getElem h2]
      simp only [Option.bind_some]
      rw [wi (x := s.1 + 1) (by omega) (by omega)]
      exact ⟨_, rfl, ⟨by dsimp only; omega, by simp [b]⟩, by dsimp only; omega⟩
    · right
      rw [decF h]
      exact ⟨_, rfl, trivial⟩) (0, l) ⟨by dsimp only; omega, rfl⟩
  exact ⟨r, e⟩
theorem inc_loop2 (l : List Int) (hl : l.length ≤ 1000000) : ∃ r, loopO F_law05_FrameFresh_l2 (0, l) = some r := by
  obtain ⟨r, e, _⟩ := loop_inv (step := F_law05_FrameFresh_l2) (fun s => 0 ≤ s.1 ∧ s.2.length = l.length) (fun _ => True) (fun s => (l.length - s.1).toNat) (fun s ⟨a, b⟩ => by
    unfold F_law05_FrameFresh_l2
    by_cases h : s.1 < (s.2.length : Int)
    · left
      have h2 : s.1.toNat < s.2.length := by omega
      rw [decT h, cond_true]
      simp only [Cut.app]
      rw [idx_int a h, Option.bind_some, Nat.zero_add, List.getElem?_eq_getElem h2]
      simp only [Option.bind_some]
      rw [wi (x := s.1 + 1) (by omega) (by omega)]
      exact ⟨_, rfl, ⟨by dsimp only; omega, by simp [b]⟩, by dsimp only; omega⟩
    · right
      rw [decF h]
      exact ⟨_, rfl, trivial⟩) (0, l) ⟨by dsimp only; omega, rfl⟩
  exact ⟨r, e⟩
theorem inc_loop3 (l : List Int) (hl : l.length ≤ 1000000) : ∃ r, loopO F_law05_FrameFresh_l3 (0, l) = some r := by
  obtain ⟨r, e, _⟩ := loop_inv (step := F_law05_FrameFresh_l3) (fun s => 0 ≤ s.1 ∧ s.2.length = l.length) (fun _ => True) (fun s => (l.length - s.1).toNat) (fun s ⟨a, b⟩ => by
    unfold F_law05_FrameFresh_l3
    by_cases h : s.1 < (s.2.length : Int)
    · left
      have h2 : s.1.toNat < s.2.length := by omega
      rw [decT h, cond_true]
      simp only [Cut.app]
      rw [idx_int a h, Option.bind_some, Nat.zero_add, List.getElem?_eq_getElem h2]
      simp only [Option.bind_some]
      rw [wi (x := s.1 + 1) (by omega) (by omega)]
      exact ⟨_, rfl, ⟨by dsimp only; omega, by simp [b]⟩, by dsimp only; omega⟩
    · right
      rw [decF h]
      exact ⟨_, rfl, trivial⟩) (0, l) ⟨by dsimp only; omega, rfl⟩
  exact ⟨r, e⟩
theorem inc_loop4 (l : List Int) (hl : l.length ≤ 1000000) : ∃ r, loopO F_law05_FrameFresh_l4 (0, l) = some r := by
  obtain ⟨r, e, _⟩ := loop_inv (step := F_law05_FrameFresh_l4) (fun s => 0 ≤ s.1 ∧ s.2.length = l.length) (fun _ => True) (fun s => (l.length - s.1).toNat) (fun s ⟨a, b⟩ => by
    unfold F_law05_FrameFresh_l4
    by_cases h : s.1 < (s.2.length : Int)
    · left
      have h2 : s.1.toNat < s.2.length := by omega
      rw [decT h, cond_true]
      simp only [Cut.app]
      rw [idx_int a h, Option.bind_some, Nat.zero_add, List.getElem?_eq_getElem h2]
      simp only [Option.bind_some]
      rw [wi (x := s.1 + 1) (by omega) (by omega)]
      exact ⟨_, rfl, ⟨by dsimp only; omega, by simp [b]⟩, by dsimp only; omega⟩
    · right
      rw [decF h]
      exact ⟨_, rfl, trivial⟩) (0, l) ⟨by dsimp only; omega, rfl⟩
  exact ⟨r, e⟩
theorem fresh_law (t : List Int) : F_law05_FrameFresh t = some true := by
  unfold F_law05_FrameFresh
  obtain ⟨k, e0, ht⟩ := new_spec t
  obtain ⟨f, t1, e1, g, _⟩ := any_spec ht
  have hp := (good_pay g).1
  have hm := (good_pay g).2
  have hb := bodyL_len g
  have hl := encL_len (f := f)
  have hh : F_frame_Header f = some (hdL f) := by
    unfold F_frame_Header
    rw [f_valid g, Option.bind_some, cond_true]
    exact f_header_j1 g
  have hz := g.size
  rw [e0, Option.bind_some, e1, Option.bind_some]
  simp only [Cut.app]
  rw [appO_some (by simp; omega) (by simp; omega), Option.bind_some, appO_some (by simp; omega) (by simp; omega), Option.bind_some, hdrR, hh, Option.bind_some, encR, f_encode g, Option.bind_some]
  dsimp only
  rw [appO_some (by simp; omega) (by simp; omega), Option.bind_some, decR, f_decode g, Option.bind_some]
  dsimp only
  obtain ⟨r1, l1⟩ := inc_loop1 (hdL f) (by omega)
  obtain ⟨r2, l2⟩ := inc_loop2 f.Payload (by omega)
  obtain ⟨r3, l3⟩ := inc_loop3 f.MIC (by omega)
  obtain ⟨r4, l4⟩ := inc_loop4 (encL f) (by omega)
  rw [l1, Option.bind_some, l2, Option.bind_some, l3, Option.bind_some, List.nil_append, same_refl _ (by omega), Option.bind_some, l4, Option.bind_some, known_true, Option.bind_some, cond_true, cond_true, List.nil_append, List.nil_append, fsame_refl g]
  rfl
end
end Go.Proofs.Ytohfnlkjdjmipaa
