/-
  ReportsCollect: the parts in which a list is sent give the list again, in whatever order they arrive. Proved for all tapes and sizes.
-/
import Derived.Test.YtcjoflgnifafiaaKRC3
namespace Go.Proofs.Ytcjoflgnifafiaa
section
open Go.RowKit
attribute [local irreducible] TS go TD goD

/-- multihop/management.EncodeReports -/
noncomputable def F_management_EncodeReports_l1 (a0 : List S_Diagnostic) (a1 : Int) (s4 : (List Int) × Int) : Option (((List Int) × Int) ⊕ (((List Int)) ⊕ ((List Int) × Int × Int))) :=
  bif (decide (s4.2 < (List.length a0 : Int))) then
    (idx a0 s4.2).bind fun e8 =>
    bif (decide ((IntKind.wrap .i64 (13 + (List.length e8.Data : Int))) > (IntKind.wrap .i64 (a1 - (List.length s4.1 : Int))))) then
      some (Sum.inr (Sum.inr (s4.1, s4.2, 0)))
    else
      (F_octets_Append s4.1 e8.Node 8).bind fun v10 =>
      (F_octets_Append v10 (IntKind.wrap .u64 e8.Number) 4).bind fun v11 =>
      (appO 1 v11 (Cut.app .whole ([IntKind.wrap .u8 (List.length e8.Data : Int)] : List Int))).bind fun l12 =>
      (appO 1 l12 (Cut.app .whole e8.Data)).bind fun l13 =>
      some (Sum.inl (l13, IntKind.wrap .i64 (s4.2 + 1)))
  else
    some (Sum.inr (Sum.inl s4.1))
noncomputable def F_management_EncodeReports (a0 : List S_Diagnostic) (a1 : Int) : Option ((List Int) × Int × Int) :=
  (F_management_ValidReports a0).bind fun v1 =>
  bif v1 then
    bif (decide (a1 < 0)) then
      some ((([] : List Int), 0, 2))
    else
      (loopO (F_management_EncodeReports_l1 a0 a1) (([] : List Int), 0)).bind (Sum.elim (fun b5 =>
        some ((b5, (List.length a0 : Int), 0))
      ) (fun w14 => some w14))
  else
    some ((([] : List Int), 0, 1))
set_option maxRecDepth 100000 in
set_option maxHeartbeats 40000000 in
theorem okT_management_EncodeReports (a0 : List S_Diagnostic) (a1 : Int) (r : (List Int) × Int × Int) (h : F_management_EncodeReports a0 a1 = some r) : Con Try.prog 42 [.c (eS 3 S_Diagnostic.cs (a0)), .c (.lit (.int .i64 (a1)))] [] (.tup [(false, [.slc 1 900002 (List.length r.1) (List.map (ecI .u8) r.1)]), (false, [.lit (.int .i64 (r.2.1))]), (false, [.lit (.int .i64 (r.2.2))])]) [(900000, .spare 5 1 (List.length r.1))] := by
  unfold F_management_EncodeReports at h
  refine con_of [] [(900000, [])] 57 Try.func42 rfl rfl (by kernel_rfl) (fun K => ?_)
  refine TS_go 10 ?_
  replace h := bindO h
  obtain ⟨v1, hv1, h⟩ := h
  refine TS_call [] (ok_management_ValidReports a0 v1 hv1) (by kernel_rfl) (by kernel_rfl) ?_
  refine TS_go 2 ?_
  replace h := condO h
  rcases h with ⟨hb2, h⟩ | ⟨hb2, h⟩
  · subst hb2
    refine TS_F (by kernel_rfl) rfl ?_
    refine TS_go 7 ?_
    replace h := condO h
    rcases h with ⟨hb3, h⟩ | ⟨hb3, h⟩
    · refine TS_know 14 (b := true) hb3 (by kernel_rfl) (by kernel_rfl) ?_
      refine TS_T (by kernel_rfl) rfl ?_
      refine TS_go 6 ?_
      refine TS_nilT 4 600000 5 1 (by kernel_rfl) ?_
      refine TS_fitU ⟨[(4, []), (5, []), (6, [])], [(600000, (900000, []))]⟩ (by kernel_rfl) ?_
      refine TS_go 2 ?_
      have ret := Option.some.inj h
      subst ret
      exact TS_ret (by kernel_rfl) (by kernel_rfl) (by kernel_rfl)
    · refine TS_know 14 (b := false) hb3 (by kernel_rfl) (by kernel_rfl) ?_
      refine TS_F (by kernel_rfl) rfl ?_
      refine TS_go 13 ?_
      refine TS_nilT 7 600000 5 1 (by kernel_rfl) ?_
      refine TS_cut ⟨[(0, []), (1, []), (7, []), (15, []), (16, []), (17, [])], [(600000, (600000, []))]⟩ (.mk [.code (codeAt [1, 1, 1, 1, 0, 1, 0] (bodyOf Try.f42)), .blk 0, .code (codeAt [1, 1, 1, 1, 1] (bodyOf Try.f42))] .normal ⟨[(0, .c (.slc 3 0 (List.length a0) (List.map S_Diagnostic.cs a0))), (1, .c (.lit (.int .i64 (a1)))), (7, .c (.slc 1 600002 (List.length ([] : List Int)) (List.map (ecI .u8) ([] : List Int)))), (15, .c (.slc 3 0 (List.length a0) (List.map S_Diagnostic.cs a0))), (16, .c (.lit (.int .i64 ((List.length a0 : Int))))), (17, .c (.lit (.int .i64 (0))))], [(600000, .spare 5 1 (List.length ([] : List Int)))]⟩) (by kernel_rfl) (by kernel_rfl) ?_
      replace h := bindO h
      obtain ⟨y6, hl1, hK1⟩ := h
      refine TS_loopB (F_management_EncodeReports_l1 a0 a1) ⟨[(0, []), (1, []), (7, []), (15, []), (16, []), (17, [])], [(600000, (600000, []))]⟩ (fun (s4 : (List Int) × Int) => [(7, .c (.slc 1 600002 (List.length s4.1) (List.map (ecI .u8) s4.1))), (17, .c (.lit (.int .i64 (s4.2))))]) (fun (s4 : (List Int) × Int) => [(600000, .spare 5 1 (List.length s4.1))]) (([] : List Int), 0) y6 (.exit 0) (fun (b : (List Int)) => (Sum.inl b : ((List Int)) ⊕ ((List Int) × Int × Int))) ⟨[(0, []), (7, [])], [(600000, (600000, []))]⟩ (fun (b5 : (List Int)) => [(7, .c (.slc 1 600002 (List.length b5) (List.map (ecI .u8) b5)))]) (fun (b5 : (List Int)) => [(600000, .spare 5 1 (List.length b5))]) hl1 (by kernel_rfl) (by kernel_rfl) ?_ ?_
      · intro s4 x h hy1
        unfold F_management_EncodeReports_l1 at h
        refine TS_go 5 ?_
        replace h := condO h
        rcases h with ⟨hb7, h⟩ | ⟨hb7, h⟩
        · refine TS_know 18 (b := true) hb7 (by kernel_rfl) (by kernel_rfl) ?_
          refine TS_T (by kernel_rfl) rfl ?_
          refine TS_go 6 ?_
          replace h := bindO h
          obtain ⟨e8, he8, h⟩ := h
          refine TS_idx S_Diagnostic.cs he8 (by kernel_rfl) (by kernel_rfl) ?_
          refine TS_go 18 ?_
          replace h := condO h
          rcases h with ⟨hb9, h⟩ | ⟨hb9, h⟩
          · refine TS_know 30 (b := true) hb9 (by kernel_rfl) (by kernel_rfl) ?_
            refine TS_T (by kernel_rfl) rfl ?_
            refine TS_go 8 ?_
            refine TS_fitU ⟨[(4, []), (5, []), (6, [])], [(600000, (900000, []))]⟩ (by kernel_rfl) ?_
            refine TS_go 4 ?_
            have ret := Option.some.inj h
            subst ret
            have hy1q := hy1 _ rfl
            subst hy1q
            replace h := (elimR hK1)
            refine TS_retB rfl (by kernel_rfl) ?_
            refine TS_go 2 ?_
            have ret := Option.some.inj h
            subst ret
            exact TS_ret (by kernel_rfl) (by kernel_rfl) (by kernel_rfl)
          · refine TS_know 30 (b := false) hb9 (by kernel_rfl) (by kernel_rfl) ?_
            refine TS_F (by kernel_rfl) rfl ?_
            refine TS_go 6 ?_
            replace h := bindO h
            obtain ⟨v10, hv10, h⟩ := h
            refine TS_con [[2]] [(36, 900000)] none (okT_octets_Append s4.1 e8.Node 8 v10 hv10) (by kernel_rfl) (by kernel_rfl) (by kernel_rfl) ?_
            refine TS_go 8 ?_
            replace h := bindO h
            obtain ⟨v11, hv11, h⟩ := h
            refine TS_con [[2]] [(41, 900000)] none (okT_octets_Append v10 (IntKind.wrap .u64 e8.Number) 4 v11 hv11) (by kernel_rfl) (by kernel_rfl) (by kernel_rfl) ?_
            refine TS_go 9 ?_
            refine TS_litNT 47 5 1 (ecI .u8) [] ([IntKind.wrap .u8 (List.length e8.Data : Int)] : List Int) (by kernel_rfl) (by kernel_rfl) ?_
            replace h := bindO h
            obtain ⟨l12, hl12, h⟩ := h
            refine TS_appT (d := 41) (e := 5) (sz := 1) (N := List.length v11) (ecI .u8) (fun _ => by kernel_rfl) (l1 := v11) (l2 := ([IntKind.wrap .u8 (List.length e8.Data : Int)] : List Int)) (c := .whole) hl12 (by kernel_rfl) (by kernel_rfl) ?_
            refine TS_go 6 ?_
            replace h := bindO h
            obtain ⟨_l13, hl13, h⟩ := h
            refine TS_appT (d := 41) (e := 5) (sz := 1) (N := List.length l12) (ecI .u8) (fun _ => by kernel_rfl) (l1 := l12) (l2 := e8.Data) (c := .whole) hl13 (by kernel_rfl) (by kernel_rfl) ?_
            refine TS_go 7 ?_
            have ret := Option.some.inj h
            subst ret
            exact TS_againB _ ⟨[(0, []), (1, []), (7, []), (15, []), (16, []), (17, [])], [(41, (600000, []))]⟩ rfl (by kernel_rfl) (by kernel_rfl)
        · refine TS_know 18 (b := false) hb7 (by kernel_rfl) (by kernel_rfl) ?_
          refine TS_F (by kernel_rfl) rfl ?_
          refine TS_go 2 ?_
          have ret := Option.some.inj h
          subst ret
          exact TS_brkB s4.1 ⟨[(0, []), (7, [])], [(600000, (600000, []))]⟩ rfl (by kernel_rfl) (by kernel_rfl) (by kernel_rfl)
      · intro b5 hb
        subst y6
        have h := elimL hK1
        refine TS_go 10 ?_
        refine TS_fitU ⟨[(4, []), (5, []), (6, [])], [(600000, (900000, []))]⟩ (by kernel_rfl) ?_
        refine TS_go 1 ?_
        have ret := Option.some.inj h
        subst ret
        exact TS_ret (by kernel_rfl) (by kernel_rfl) (by kernel_rfl)
  · subst hb2
    refine TS_T (by kernel_rfl) rfl ?_
    refine TS_go 6 ?_
    refine TS_nilT 4 600000 5 1 (by kernel_rfl) ?_
    refine TS_fitU ⟨[(4, []), (5, []), (6, [])], [(600000, (900000, []))]⟩ (by kernel_rfl) ?_
    refine TS_go 2 ?_
    have ret := Option.some.inj h
    subst ret
    exact TS_ret (by kernel_rfl) (by kernel_rfl) (by kernel_rfl)
/-- multihop/management.ends -/
noncomputable def F_management_ends_l1  (s1 : (List Int)) : Option (((List Int)) ⊕ ((Unit) ⊕ (Bool))) :=
  bif (decide ((List.length s1 : Int) > 0)) then
    bif (decide ((List.length s1 : Int) < 13)) then
      some (Sum.inr (Sum.inr true))
    else
      (idx s1 12).bind fun e6 =>
      bif (decide ((List.length s1 : Int) < (IntKind.wrap .i64 (13 + (IntKind.wrap .i64 e6))))) then
        some (Sum.inr (Sum.inr true))
      else
        (subO s1 (IntKind.wrap .i64 (13 + (IntKind.wrap .i64 e6))) (List.length s1 : Int)).bind fun l8 =>
        some (Sum.inl l8)
  else
    some (Sum.inr (Sum.inl ()))
noncomputable def F_management_ends (a0 : List Int) : Option (Bool) :=
  (loopO (F_management_ends_l1) a0).bind (Sum.elim (fun b2 =>
    some (false)
  ) (fun w9 => some w9))
set_option maxRecDepth 100000 in
set_option maxHeartbeats 40000000 in
theorem ok_management_ends (a0 : List Int) (r : Bool) (h : F_management_ends a0 = some r) : Con Try.prog 66 [.c (eS 1 (ecI .u8) (a0))] [] (.c (.lit (.bool (r)))) [] := by
  unfold F_management_ends at h
  refine con_of [] [] 22 Try.func66 rfl rfl (by kernel_rfl) (fun K => ?_)
  refine TS_go 6 ?_
  refine TS_cut ⟨[(0, [])], []⟩ (.mk [.code (codeAt [1, 0, 0] (bodyOf Try.f66)), .blk 0, .code (codeAt [1, 1] (bodyOf Try.f66))] .normal ⟨[(0, .c (.slc 1 0 (List.length a0) (List.map (ecI .u8) a0)))], []⟩) (by kernel_rfl) (by kernel_rfl) ?_
  replace h := bindO h
  obtain ⟨y3, hl1, hK1⟩ := h
  refine TS_loopB (F_management_ends_l1) ⟨[(0, [])], []⟩ (fun (s1 : (List Int)) => [(0, .c (eS 1 (ecI .u8) (s1)))]) (fun (s1 : (List Int)) => []) a0 y3 (.exit 0) (fun (b : Unit) => (Sum.inl b : (Unit) ⊕ (Bool))) ⟨[], []⟩ (fun (b2 : Unit) => []) (fun (b2 : Unit) => []) hl1 (by kernel_rfl) (by kernel_rfl) ?_ ?_
  · intro s1 x h hy1
    unfold F_management_ends_l1 at h
    refine TS_go 7 ?_
    replace h := condO h
    rcases h with ⟨hb4, h⟩ | ⟨hb4, h⟩
    · refine TS_know 6 (b := true) hb4 (by kernel_rfl) (by kernel_rfl) ?_
      refine TS_T (by kernel_rfl) rfl ?_
      refine TS_go 9 ?_
      replace h := condO h
      rcases h with ⟨hb5, h⟩ | ⟨hb5, h⟩
      · refine TS_know 9 (b := true) hb5 (by kernel_rfl) (by kernel_rfl) ?_
        refine TS_T (by kernel_rfl) rfl ?_
        refine TS_go 7 ?_
        have ret := Option.some.inj h
        subst ret
        have hy1q := hy1 _ rfl
        subst hy1q
        replace h := (elimR hK1)
        refine TS_retB rfl (by kernel_rfl) ?_
        refine TS_go 2 ?_
        have ret := Option.some.inj h
        subst ret
        exact TS_ret (by kernel_rfl) (by kernel_rfl) (by kernel_rfl)
      · refine TS_know 9 (b := false) hb5 (by kernel_rfl) (by kernel_rfl) ?_
        refine TS_F (by kernel_rfl) rfl ?_
        refine TS_go 4 ?_
        replace h := bindO h
        obtain ⟨_e6, he6, h⟩ := h
        refine TS_idx (ecI .u8) he6 (by kernel_rfl) (by kernel_rfl) ?_
        refine TS_go 13 ?_
        replace h := condO h
        rcases h with ⟨hb7, h⟩ | ⟨hb7, h⟩
        · refine TS_know 18 (b := true) hb7 (by kernel_rfl) (by kernel_rfl) ?_
          refine TS_T (by kernel_rfl) rfl ?_
          refine TS_go 7 ?_
          have ret := Option.some.inj h
          subst ret
          have hy1q := hy1 _ rfl
          subst hy1q
          replace h := (elimR hK1)
          refine TS_retB rfl (by kernel_rfl) ?_
          refine TS_go 2 ?_
          have ret := Option.some.inj h
          subst ret
          exact TS_ret (by kernel_rfl) (by kernel_rfl) (by kernel_rfl)
        · refine TS_know 18 (b := false) hb7 (by kernel_rfl) (by kernel_rfl) ?_
          refine TS_F (by kernel_rfl) rfl ?_
          refine TS_go 4 ?_
          replace h := bindO h
          obtain ⟨_l8, hl8, h⟩ := h
          refine TS_sub (ecI .u8) 1 hl8 (by kernel_rfl) (by kernel_rfl) ?_
          refine TS_go 3 ?_
          have ret := Option.some.inj h
          subst ret
          exact TS_againB _ ⟨[(0, [])], []⟩ rfl (by kernel_rfl) (by kernel_rfl)
    · refine TS_know 6 (b := false) hb4 (by kernel_rfl) (by kernel_rfl) ?_
      refine TS_F (by kernel_rfl) rfl ?_
      refine TS_go 2 ?_
      have ret := Option.some.inj h
      subst ret
      exact TS_brkB () ⟨[], []⟩ rfl (by kernel_rfl) (by kernel_rfl) (by kernel_rfl)
  · intro b2 hb
    subst y3
    have h := elimL hK1
    refine TS_go 6 ?_
    have ret := Option.some.inj h
    subst ret
    exact TS_ret (by kernel_rfl) (by kernel_rfl) (by kernel_rfl)

/-- multihop/management.DecodeReports -/
noncomputable def F_management_DecodeReports_l1  (s3 : (List Int) × (List S_Diagnostic)) : Option (((List Int) × (List S_Diagnostic)) ⊕ (((List S_Diagnostic)) ⊕ ((List S_Diagnostic) × Int))) :=
  bif (decide ((List.length s3.1 : Int) > 0)) then
    bif (decide ((List.length s3.2 : Int) ≥ 64)) then
      some (Sum.inr (Sum.inr (([] : List S_Diagnostic), 5)))
    else
      (F_octets_Uint s3.1 0 8).bind fun v8 =>
      (F_octets_Uint s3.1 8 4).bind fun v9 =>
      (idx s3.1 12).bind fun e10 =>
      (subO s3.1 13 (IntKind.wrap .i64 (13 + (IntKind.wrap .i64 e10)))).bind fun l11 =>
      (appO 1 ([] : List Int) (Cut.app .whole l11)).bind fun l12 =>
      (appO 40 s3.2 (Cut.app .whole ([(S_Diagnostic.mk v8.1 (IntKind.wrap .i64 v9.1) l12)] : List S_Diagnostic))).bind fun l13 =>
      (subO s3.1 (IntKind.wrap .i64 (13 + (IntKind.wrap .i64 e10))) (List.length s3.1 : Int)).bind fun l14 =>
      some (Sum.inl (l14, l13))
  else
    some (Sum.inr (Sum.inl s3.2))
noncomputable def F_management_DecodeReports (a0 : List Int) : Option ((List S_Diagnostic) × Int) :=
  (F_management_ends a0).bind fun v1 =>
  bif v1 then
    some ((([] : List S_Diagnostic), 4))
  else
    (loopO (F_management_DecodeReports_l1) (a0, ([] : List S_Diagnostic))).bind (Sum.elim (fun b4 =>
      (F_management_ValidReports b4).bind fun v16 =>
      bif v16 then
        some ((b4, 0))
      else
        some ((([] : List S_Diagnostic), 5))
    ) (fun w15 => some w15))
set_option maxRecDepth 100000 in
set_option maxHeartbeats 40000000 in
theorem okT_management_DecodeReports (a0 : List Int) (r : (List S_Diagnostic) × Int) (h : F_management_DecodeReports a0 = some r) : Con Try.prog 45 [.c (eS 1 (ecI .u8) (a0))] [] (.tup [(false, [.slc 3 900002 (List.length r.1) (List.map S_Diagnostic.cs r.1)]), (false, [.lit (.int .i64 (r.2))])]) [(900000, .spare 56 3 (List.length r.1))] := by
  unfold F_management_DecodeReports at h
  refine con_of [] [(900000, [])] 53 Try.func45 rfl rfl (by kernel_rfl) (fun K => ?_)
  refine TS_go 9 ?_
  replace h := bindO h
  obtain ⟨v1, hv1, h⟩ := h
  refine TS_call [] (ok_management_ends a0 v1 hv1) (by kernel_rfl) (by kernel_rfl) ?_
  refine TS_go 1 ?_
  replace h := condO h
  rcases h with ⟨hb2, h⟩ | ⟨hb2, h⟩
  · subst hb2
    refine TS_T (by kernel_rfl) rfl ?_
    refine TS_go 5 ?_
    refine TS_nilT 2 600000 56 3 (by kernel_rfl) ?_
    refine TS_fitU ⟨[(2, []), (3, [])], [(600000, (900000, []))]⟩ (by kernel_rfl) ?_
    refine TS_go 2 ?_
    have ret := Option.some.inj h
    subst ret
    exact TS_ret (by kernel_rfl) (by kernel_rfl) (by kernel_rfl)
  · subst hb2
    refine TS_F (by kernel_rfl) rfl ?_
    refine TS_go 7 ?_
    refine TS_nilT 4 600000 56 3 (by kernel_rfl) ?_
    refine TS_cut ⟨[(0, []), (4, [])], [(600000, (600000, []))]⟩ (.mk [.code (codeAt [1, 1, 1, 0, 0] (bodyOf Try.f45)), .blk 0, .code (codeAt [1, 1, 1, 1] (bodyOf Try.f45))] .normal ⟨[(0, .c (.slc 1 0 (List.length a0) (List.map (ecI .u8) a0))), (4, .c (.slc 3 600002 (List.length ([] : List S_Diagnostic)) (List.map S_Diagnostic.cs ([] : List S_Diagnostic))))], [(600000, .spare 56 3 (List.length ([] : List S_Diagnostic)))]⟩) (by kernel_rfl) (by kernel_rfl) ?_
    replace h := bindO h
    obtain ⟨y5, hl1, hK1⟩ := h
    refine TS_loopB (F_management_DecodeReports_l1) ⟨[(0, []), (4, [])], [(600000, (600000, []))]⟩ (fun (s3 : (List Int) × (List S_Diagnostic)) => [(0, .c (eS 1 (ecI .u8) (s3.1))), (4, .c (.slc 3 600002 (List.length s3.2) (List.map S_Diagnostic.cs s3.2)))]) (fun (s3 : (List Int) × (List S_Diagnostic)) => [(600000, .spare 56 3 (List.length s3.2))]) (a0, ([] : List S_Diagnostic)) y5 (.exit 0) (fun (b : (List S_Diagnostic)) => (Sum.inl b : ((List S_Diagnostic)) ⊕ ((List S_Diagnostic) × Int))) ⟨[(4, [])], [(600000, (600000, []))]⟩ (fun (b4 : (List S_Diagnostic)) => [(4, .c (.slc 3 600002 (List.length b4) (List.map S_Diagnostic.cs b4)))]) (fun (b4 : (List S_Diagnostic)) => [(600000, .spare 56 3 (List.length b4))]) hl1 (by kernel_rfl) (by kernel_rfl) ?_ ?_
    · intro s3 x h hy1
      unfold F_management_DecodeReports_l1 at h
      refine TS_go 7 ?_
      replace h := condO h
      rcases h with ⟨hb6, h⟩ | ⟨hb6, h⟩
      · refine TS_know 15 (b := true) hb6 (by kernel_rfl) (by kernel_rfl) ?_
        refine TS_T (by kernel_rfl) rfl ?_
        refine TS_go 9 ?_
        replace h := condO h
        rcases h with ⟨hb7, h⟩ | ⟨hb7, h⟩
        · refine TS_know 18 (b := true) hb7 (by kernel_rfl) (by kernel_rfl) ?_
          refine TS_T (by kernel_rfl) rfl ?_
          refine TS_go 5 ?_
          refine TS_nilT 2 600001 56 3 (by kernel_rfl) ?_
          refine TS_fitU ⟨[(2, []), (3, [])], [(600001, (900000, []))]⟩ (by kernel_rfl) ?_
          refine TS_go 3 ?_
          have ret := Option.some.inj h
          subst ret
          have hy1q := hy1 _ rfl
          subst hy1q
          replace h := (elimR hK1)
          refine TS_retB rfl (by kernel_rfl) ?_
          refine TS_go 2 ?_
          have ret := Option.some.inj h
          subst ret
          exact TS_ret (by kernel_rfl) (by kernel_rfl) (by kernel_rfl)
        · refine TS_know 18 (b := false) hb7 (by kernel_rfl) (by kernel_rfl) ?_
          refine TS_F (by kernel_rfl) rfl ?_
          refine TS_go 4 ?_
          replace h := bindO h
          obtain ⟨v8, hv8, h⟩ := h
          refine TS_call [] (ok_octets_Uint s3.1 0 8 v8 hv8) (by kernel_rfl) (by kernel_rfl) ?_
          refine TS_go 9 ?_
          replace h := bindO h
          obtain ⟨v9, hv9, h⟩ := h
          refine TS_call [] (ok_octets_Uint s3.1 8 4 v9 hv9) (by kernel_rfl) (by kernel_rfl) ?_
          refine TS_go 9 ?_
          replace h := bindO h
          obtain ⟨_e10, he10, h⟩ := h
          refine TS_idx (ecI .u8) he10 (by kernel_rfl) (by kernel_rfl) ?_
          refine TS_go 9 ?_
          replace h := bindO h
          obtain ⟨l11, hl11, h⟩ := h
          refine TS_sub (ecI .u8) 1 hl11 (by kernel_rfl) (by kernel_rfl) ?_
          replace h := bindO h
          obtain ⟨l12, hl12, h⟩ := h
          refine TS_appNT 37 5 1 (ecI .u8) (fun _ => by kernel_rfl) (l2 := l11) .whole hl12 (by kernel_rfl) (by kernel_rfl) ?_
          refine TS_go 10 ?_
          refine TS_litNT 44 56 3 S_Diagnostic.cs [0, 0, 2] ([(S_Diagnostic.mk v8.1 (IntKind.wrap .i64 v9.1) l12)] : List S_Diagnostic) (by kernel_rfl) (by kernel_rfl) ?_
          replace h := bindO h
          obtain ⟨_l13, hl13, h⟩ := h
          refine TS_appT (d := 600000) (e := 56) (sz := 3) (N := List.length s3.2) S_Diagnostic.cs (fun _ => by kernel_rfl) (l1 := s3.2) (l2 := ([(S_Diagnostic.mk v8.1 (IntKind.wrap .i64 v9.1) l12)] : List S_Diagnostic)) (c := .whole) hl13 (by kernel_rfl) (by kernel_rfl) ?_
          refine TS_go 5 ?_
          replace h := bindO h
          obtain ⟨_l14, hl14, h⟩ := h
          refine TS_sub (ecI .u8) 1 hl14 (by kernel_rfl) (by kernel_rfl) ?_
          refine TS_go 3 ?_
          have ret := Option.some.inj h
          subst ret
          exact TS_againB _ ⟨[(0, []), (4, [])], [(600000, (600000, []))]⟩ rfl (by kernel_rfl) (by kernel_rfl)
      · refine TS_know 15 (b := false) hb6 (by kernel_rfl) (by kernel_rfl) ?_
        refine TS_F (by kernel_rfl) rfl ?_
        refine TS_go 2 ?_
        have ret := Option.some.inj h
        subst ret
        exact TS_brkB s3.2 ⟨[(4, [])], [(600000, (600000, []))]⟩ rfl (by kernel_rfl) (by kernel_rfl) (by kernel_rfl)
    · intro b4 hb
      subst y5
      have h := elimL hK1
      refine TS_go 5 ?_
      replace h := bindO h
      obtain ⟨v16, hv16, h⟩ := h
      refine TS_call [[4]] (ok_management_ValidReports b4 v16 hv16) (by kernel_rfl) (by kernel_rfl) ?_
      refine TS_go 2 ?_
      replace h := condO h
      rcases h with ⟨hb17, h⟩ | ⟨hb17, h⟩
      · subst hb17
        refine TS_F (by kernel_rfl) rfl ?_
        refine TS_go 7 ?_
        refine TS_fitU ⟨[(2, []), (3, [])], [(600000, (900000, []))]⟩ (by kernel_rfl) ?_
        refine TS_go 1 ?_
        have ret := Option.some.inj h
        subst ret
        exact TS_ret (by kernel_rfl) (by kernel_rfl) (by kernel_rfl)
      · subst hb17
        refine TS_T (by kernel_rfl) rfl ?_
        refine TS_go 5 ?_
        refine TS_nilT 2 600001 56 3 (by kernel_rfl) ?_
        refine TS_fitU ⟨[(2, []), (3, [])], [(600001, (900000, []))]⟩ (by kernel_rfl) ?_
        refine TS_go 2 ?_
        have ret := Option.some.inj h
        subst ret
        exact TS_ret (by kernel_rfl) (by kernel_rfl) (by kernel_rfl)
/-- multihop/multihoplaw39.ReportsCollect -/
noncomputable def F_law39_ReportsCollect_l1 (v3 : Int) (s4 : (List S_Diagnostic) × (List (List Int))) : Option (((List S_Diagnostic) × (List (List Int))) ⊕ (((List (List Int))) ⊕ (Bool))) :=
  bif (decide ((List.length s4.1 : Int) > 0)) then
    (F_management_EncodeReports s4.1 (IntKind.wrap .i64 (20 + v3))).bind fun v8 =>
    bif (v8.2.2 != 0) then
      some (Sum.inr (Sum.inr false))
    else
      bif (decide (v8.2.1 < 1)) then
        some (Sum.inr (Sum.inr false))
      else
        bif (decide ((List.length v8.1 : Int) > (IntKind.wrap .i64 (20 + v3)))) then
          some (Sum.inr (Sum.inr false))
        else
          (appO 24 (List.take (List.length s4.2) s4.2) (Cut.app .whole ([v8.1] : List (List Int)))).bind fun l12 =>
          (subO s4.1 v8.2.1 (List.length s4.1 : Int)).bind fun l13 =>
          some (Sum.inl (l13, l12))
  else
    some (Sum.inr (Sum.inl s4.2))
noncomputable def F_law39_ReportsCollect_j3 (v24 : (List S_Diagnostic) × Int) (v19 : Int × S_multihopmade_Tape) (v26 : (List (List Int))) : Option (((List S_Diagnostic) × S_multihopmade_Tape × (List (List Int))) ⊕ (((List S_Diagnostic)) ⊕ (Bool))) :=
  some (Sum.inl (v24.1, v19.2, v26))
noncomputable def F_law39_ReportsCollect_l2  (s15 : (List S_Diagnostic) × S_multihopmade_Tape × (List (List Int))) : Option (((List S_Diagnostic) × S_multihopmade_Tape × (List (List Int))) ⊕ (((List S_Diagnostic)) ⊕ (Bool))) :=
  bif (decide ((List.length s15.2.2 : Int) > 0)) then
    (F_made_Tape_Next s15.2.1 (List.length s15.2.2 : Int)).bind fun v19 =>
    (idx (Cut.app .whole s15.2.2) v19.1).bind fun _e20 =>
    (s15.2.2[(0 + Int.toNat v19.1)]?).bind fun e21 =>
    (F_management_DecodeReports e21).bind fun v22 =>
    bif (v22.2 != 0) then
      some (Sum.inr (Sum.inr false))
    else
      (F_management_Merge s15.1 v22.1).bind fun v24 =>
      bif (v24.2 != 0) then
        some (Sum.inr (Sum.inr false))
      else
        bif decide ((0 : Int) ≤ v19.1 ∧ v19.1 ≤ (IntKind.wrap .i64 (v19.1 + 1)) ∧ (IntKind.wrap .i64 (v19.1 + 1)) ≤ (List.length s15.2.2 : Int) ∧ (List.length s15.2.2 : Int) ≤ (List.length s15.2.2 : Int)) then
          bif (v19.1 == (IntKind.wrap .i64 (v19.1 + 1))) then
            (F_law39_ReportsCollect_j3 v24 v19) s15.2.2
          else
            bif decide ((0 : Int) ≤ 0 ∧ 0 ≤ v19.1 ∧ v19.1 ≤ (List.length s15.2.2 : Int)) then
              bif decide ((0 : Int) ≤ (IntKind.wrap .i64 (v19.1 + 1)) ∧ (IntKind.wrap .i64 (v19.1 + 1)) ≤ (List.length s15.2.2 : Int) ∧ (List.length s15.2.2 : Int) ≤ (List.length s15.2.2 : Int)) then
                bif decide ((Int.toNat v19.1) + List.length (Cut.app (.part (Int.toNat (IntKind.wrap .i64 (v19.1 + 1))) (Int.toNat (List.length s15.2.2 : Int) - Int.toNat (IntKind.wrap .i64 (v19.1 + 1)))) s15.2.2) ≤ List.length s15.2.2) then
                  bif decide ((0 : Int) ≤ (((Int.toNat v19.1) + List.length (Cut.app (.part (Int.toNat (IntKind.wrap .i64 (v19.1 + 1))) (Int.toNat (List.length s15.2.2 : Int) - Int.toNat (IntKind.wrap .i64 (v19.1 + 1)))) s15.2.2)) : Int) ∧ (((Int.toNat v19.1) + List.length (Cut.app (.part (Int.toNat (IntKind.wrap .i64 (v19.1 + 1))) (Int.toNat (List.length s15.2.2 : Int) - Int.toNat (IntKind.wrap .i64 (v19.1 + 1)))) s15.2.2)) : Int) ≤ (List.length s15.2.2 : Int) ∧ (List.length s15.2.2 : Int) ≤ (List.length (List.take (Int.toNat v19.1) s15.2.2 ++ (Cut.app (.part (Int.toNat (IntKind.wrap .i64 (v19.1 + 1))) (Int.toNat (List.length s15.2.2 : Int) - Int.toNat (IntKind.wrap .i64 (v19.1 + 1)))) s15.2.2) ++ List.drop ((Int.toNat v19.1) + List.length (Cut.app (.part (Int.toNat (IntKind.wrap .i64 (v19.1 + 1))) (Int.toNat (List.length s15.2.2 : Int) - Int.toNat (IntKind.wrap .i64 (v19.1 + 1)))) s15.2.2)) s15.2.2) : Int)) then
                    (F_law39_ReportsCollect_j3 v24 v19) (List.take ((Int.toNat v19.1) + List.length (Cut.app (.part (Int.toNat (IntKind.wrap .i64 (v19.1 + 1))) (Int.toNat (List.length s15.2.2 : Int) - Int.toNat (IntKind.wrap .i64 (v19.1 + 1)))) s15.2.2)) (clrL (List.take (Int.toNat v19.1) s15.2.2 ++ (Cut.app (.part (Int.toNat (IntKind.wrap .i64 (v19.1 + 1))) (Int.toNat (List.length s15.2.2 : Int) - Int.toNat (IntKind.wrap .i64 (v19.1 + 1)))) s15.2.2) ++ List.drop ((Int.toNat v19.1) + List.length (Cut.app (.part (Int.toNat (IntKind.wrap .i64 (v19.1 + 1))) (Int.toNat (List.length s15.2.2 : Int) - Int.toNat (IntKind.wrap .i64 (v19.1 + 1)))) s15.2.2)) s15.2.2) (Int.toNat (((Int.toNat v19.1) + List.length (Cut.app (.part (Int.toNat (IntKind.wrap .i64 (v19.1 + 1))) (Int.toNat (List.length s15.2.2 : Int) - Int.toNat (IntKind.wrap .i64 (v19.1 + 1)))) s15.2.2)) : Int)) (List.length (Cut.app (.part (Int.toNat (((Int.toNat v19.1) + List.length (Cut.app (.part (Int.toNat (IntKind.wrap .i64 (v19.1 + 1))) (Int.toNat (List.length s15.2.2 : Int) - Int.toNat (IntKind.wrap .i64 (v19.1 + 1)))) s15.2.2)) : Int)) (Int.toNat (List.length s15.2.2 : Int) - Int.toNat (((Int.toNat v19.1) + List.length (Cut.app (.part (Int.toNat (IntKind.wrap .i64 (v19.1 + 1))) (Int.toNat (List.length s15.2.2 : Int) - Int.toNat (IntKind.wrap .i64 (v19.1 + 1)))) s15.2.2)) : Int))) (List.take (Int.toNat v19.1) s15.2.2 ++ (Cut.app (.part (Int.toNat (IntKind.wrap .i64 (v19.1 + 1))) (Int.toNat (List.length s15.2.2 : Int) - Int.toNat (IntKind.wrap .i64 (v19.1 + 1)))) s15.2.2) ++ List.drop ((Int.toNat v19.1) + List.length (Cut.app (.part (Int.toNat (IntKind.wrap .i64 (v19.1 + 1))) (Int.toNat (List.length s15.2.2 : Int) - Int.toNat (IntKind.wrap .i64 (v19.1 + 1)))) s15.2.2)) s15.2.2))) (([] : List Int) : List Int)))
                  else none
                else none
              else none
            else none
        else none
  else
    some (Sum.inr (Sum.inl s15.1))
noncomputable def F_law39_ReportsCollect (a0 : List Int) (a1 : Int) : Option (Bool) :=
  (F_made_New a0).bind fun v1 =>
  (F_world_Reports v1).bind fun v2 =>
  (F_made_Mod a1 60).bind fun v3 =>
  (loopO (F_law39_ReportsCollect_l1 v3) (v2.1, ([] : List (List Int)))).bind (Sum.elim (fun b5 =>
    (loopO (F_law39_ReportsCollect_l2) (([] : List S_Diagnostic), v2.2, b5)).bind (Sum.elim (fun b16 =>
      (F_world_SameReports b16 v2.1).bind fun v35 =>
      bif v35 then
        (F_law39_known ).bind fun v37 =>
        some (v37)
      else
        some (false)
    ) (fun w34 => some w34))
  ) (fun w14 => some w14))
set_option maxRecDepth 100000 in
set_option maxHeartbeats 40000000 in
theorem ok_law39_ReportsCollect (a0 : List Int) (a1 : Int) (r : Bool) (h : F_law39_ReportsCollect a0 a1 = some r) : Con Try.prog 10 [.c (eS 1 (ecI .i64) (a0)), .c (.lit (.int .i64 (a1)))] [] (.c (.lit (.bool (r)))) [] := by
  unfold F_law39_ReportsCollect at h
  refine con_of [] [] 89 Try.func10 rfl rfl (by kernel_rfl) (fun K => ?_)
  refine TS_go 7 ?_
  replace h := bindO h
  obtain ⟨v1, hv1, h⟩ := h
  refine TS_con [] [(17, 10)] none (ok_made_New a0 v1 hv1) (by kernel_rfl) (by kernel_rfl) (by kernel_rfl) ?_
  refine TS_go 5 ?_
  replace h := bindO h
  obtain ⟨v2, hv2, h⟩ := h
  refine TS_con [] [(19, 900000)] (some (17, 0)) (okT_world_Reports v1 v2 hv2) (by kernel_rfl) (by kernel_rfl) (by kernel_rfl) ?_
  refine TS_go 5 ?_
  replace h := bindO h
  obtain ⟨v3, hv3, h⟩ := h
  refine TS_call [] (ok_made_Mod a1 60 v3 hv3) (by kernel_rfl) (by kernel_rfl) ?_
  refine TS_go 14 ?_
  refine TS_nilR 7 600000 27 1 (by kernel_rfl) ?_
  refine TS_cut ⟨[(1, []), (5, []), (6, []), (7, []), (8, [])], [(17, (17, [])), (19, (19, [])), (600000, (600000, []))]⟩ (.mk [.code (codeAt [1, 1, 1, 1, 1, 1, 0, 0] (bodyOf Try.f10)), .blk 0, .code (codeAt [1, 1, 1, 1, 1, 1, 1] (bodyOf Try.f10))] .normal ⟨[(1, .c (.lit (.int .i64 (IntKind.wrap .i64 (20 + v3))))), (5, .c (.box 17 0)), (6, .c (.slc 3 21 (List.length v2.1) (List.map S_Diagnostic.cs v2.1))), (7, .c (.own 600000)), (8, .c (.slc 3 21 (List.length v2.1) (List.map S_Diagnostic.cs v2.1)))], [(17, .box [.slc 1 0 (List.length v2.2.l) (List.map (ecI .i64) v2.2.l), .lit (.int .i64 (v2.2.at_))]), (19, .spare 56 3 (List.length v2.1)), (600000, .row 27 1 (List.length ([] : List (List Int))) (List.map (ecS 1 (ecI .u8)) ([] : List (List Int))))]⟩) (by kernel_rfl) (by kernel_rfl) ?_
  replace h := bindO h
  obtain ⟨y6, hl1, hK1⟩ := h
  refine TS_loopB (F_law39_ReportsCollect_l1 v3) ⟨[(1, []), (5, []), (6, []), (7, []), (8, [4])], [(17, (17, [])), (19, (19, [])), (600000, (600000, []))]⟩ (fun (s4 : (List S_Diagnostic) × (List (List Int))) => [(1, .c (.lit (.int .i64 (IntKind.wrap .i64 (20 + v3))))), (5, .c (.box 17 0)), (6, .c (.slc 3 21 (List.length v2.1) (List.map S_Diagnostic.cs v2.1))), (7, .c (.own 600000)), (8, .c (eS 3 S_Diagnostic.cs (s4.1)))]) (fun (s4 : (List S_Diagnostic) × (List (List Int))) => [(17, .box [.slc 1 0 (List.length v2.2.l) (List.map (ecI .i64) v2.2.l), .lit (.int .i64 (v2.2.at_))]), (600000, .row 27 1 (List.length s4.2) (List.map (ecS 1 (ecI .u8)) s4.2)), (19, .spare 56 3 (List.length v2.1))]) (v2.1, ([] : List (List Int))) y6 (.exit 0) (fun (b : (List (List Int))) => (Sum.inl b : ((List (List Int))) ⊕ (Bool))) ⟨[(5, []), (6, []), (7, [])], [(17, (17, [])), (19, (19, [])), (600000, (600000, []))]⟩ (fun (b5 : (List (List Int))) => [(5, .c (.box 17 0)), (6, .c (.slc 3 21 (List.length v2.1) (List.map S_Diagnostic.cs v2.1))), (7, .c (.own 600000))]) (fun (b5 : (List (List Int))) => [(17, .box [.slc 1 0 (List.length v2.2.l) (List.map (ecI .i64) v2.2.l), .lit (.int .i64 (v2.2.at_))]), (600000, .row 27 1 (List.length b5) (List.map (ecS 1 (ecI .u8)) b5)), (19, .spare 56 3 (List.length v2.1))]) hl1 (by kernel_rfl) (by kernel_rfl) ?_ ?_
  · intro s4 x h hy1
    unfold F_law39_ReportsCollect_l1 at h
    refine TS_go 7 ?_
    replace h := condO h
    rcases h with ⟨hb7, h⟩ | ⟨hb7, h⟩
    · refine TS_know 26 (b := true) hb7 (by kernel_rfl) (by kernel_rfl) ?_
      refine TS_T (by kernel_rfl) rfl ?_
      refine TS_go 6 ?_
      replace h := bindO h
      obtain ⟨v8, hv8, h⟩ := h
      refine TS_con [] [(30, 900000)] none (okT_management_EncodeReports s4.1 (IntKind.wrap .i64 (20 + v3)) v8 hv8) (by kernel_rfl) (by kernel_rfl) (by kernel_rfl) ?_
      refine TS_go 14 ?_
      replace h := condO h
      rcases h with ⟨hb9, h⟩ | ⟨hb9, h⟩
      · refine TS_know 35 (b := true) hb9 (by kernel_rfl) (by kernel_rfl) ?_
        refine TS_know 36 (b := true) hb9 (by kernel_rfl) (by kernel_rfl) ?_
        refine TS_go 10 ?_
        refine TS_T (by kernel_rfl) rfl ?_
        refine TS_go 7 ?_
        have ret := Option.some.inj h
        subst ret
        have hy1q := hy1 _ rfl
        subst hy1q
        replace h := (elimR hK1)
        refine TS_retB rfl (by kernel_rfl) ?_
        refine TS_go 2 ?_
        have ret := Option.some.inj h
        subst ret
        exact TS_ret (by kernel_rfl) (by kernel_rfl) (by kernel_rfl)
      · refine TS_know 35 (b := false) hb9 (by kernel_rfl) (by kernel_rfl) ?_
        refine TS_know 36 (b := false) hb9 (by kernel_rfl) (by kernel_rfl) ?_
        refine TS_go 4 ?_
        replace h := condO h
        rcases h with ⟨hb10, h⟩ | ⟨hb10, h⟩
        · refine TS_know 38 (b := true) hb10 (by kernel_rfl) (by kernel_rfl) ?_
          refine TS_know 39 (b := true) hb10 (by kernel_rfl) (by kernel_rfl) ?_
          refine TS_know 40 (b := true) hb10 (by kernel_rfl) (by kernel_rfl) ?_
          refine TS_go 6 ?_
          refine TS_T (by kernel_rfl) rfl ?_
          refine TS_go 7 ?_
          have ret := Option.some.inj h
          subst ret
          have hy1q := hy1 _ rfl
          subst hy1q
          replace h := (elimR hK1)
          refine TS_retB rfl (by kernel_rfl) ?_
          refine TS_go 2 ?_
          have ret := Option.some.inj h
          subst ret
          exact TS_ret (by kernel_rfl) (by kernel_rfl) (by kernel_rfl)
        · refine TS_know 38 (b := false) hb10 (by kernel_rfl) (by kernel_rfl) ?_
          refine TS_know 39 (b := false) hb10 (by kernel_rfl) (by kernel_rfl) ?_
          refine TS_know 40 (b := false) hb10 (by kernel_rfl) (by kernel_rfl) ?_
          refine TS_go 6 ?_
          replace h := condO h
          rcases h with ⟨hb11, h⟩ | ⟨hb11, h⟩
          · refine TS_know 44 (b := true) hb11 (by kernel_rfl) (by kernel_rfl) ?_
            refine TS_know 45 (b := true) hb11 (by kernel_rfl) (by kernel_rfl) ?_
            refine TS_T (by kernel_rfl) rfl ?_
            refine TS_go 7 ?_
            have ret := Option.some.inj h
            subst ret
            have hy1q := hy1 _ rfl
            subst hy1q
            replace h := (elimR hK1)
            refine TS_retB rfl (by kernel_rfl) ?_
            refine TS_go 2 ?_
            have ret := Option.some.inj h
            subst ret
            exact TS_ret (by kernel_rfl) (by kernel_rfl) (by kernel_rfl)
          · refine TS_know 44 (b := false) hb11 (by kernel_rfl) (by kernel_rfl) ?_
            refine TS_know 45 (b := false) hb11 (by kernel_rfl) (by kernel_rfl) ?_
            refine TS_F (by kernel_rfl) rfl ?_
            refine TS_go 1 ?_
            refine TS_draw (by kernel_rfl) ?_
            refine TD_go 2 ?_
            refine TD_litNT 48 27 1 (ecS 1 (ecI .u8)) [2] ([v8.1] : List (List Int)) (by kernel_rfl) (by kernel_rfl) ?_
            replace h := bindO h
            obtain ⟨_l12, hl12, h⟩ := h
            refine TD_appR (d := 600000) (e := 27) (sz := 1) (N := List.length s4.2) (m := (List.length s4.2)) (ecS 1 (ecI .u8)) (fun _ => by kernel_rfl) (l1 := s4.2) (l2 := ([v8.1] : List (List Int))) (c := .whole) hl12 (by kernel_rfl) (by kernel_rfl) ?_
            refine TD_go 2 ?_
            replace h := bindO h
            obtain ⟨_l13, hl13, h⟩ := h
            refine TD_sub S_Diagnostic.cs 3 hl13 (by kernel_rfl) (by kernel_rfl) ?_
            refine TD_go 2 ?_
            refine TD_end (by kernel_rfl) ?_
            refine TS_go 1 ?_
            have ret := Option.some.inj h
            subst ret
            exact TS_againB _ ⟨[(1, []), (5, []), (6, []), (7, []), (8, [])], [(17, (17, [])), (19, (19, [])), (600000, (600000, []))]⟩ rfl (by kernel_rfl) (by kernel_rfl)
    · refine TS_know 26 (b := false) hb7 (by kernel_rfl) (by kernel_rfl) ?_
      refine TS_F (by kernel_rfl) rfl ?_
      refine TS_go 2 ?_
      have ret := Option.some.inj h
      subst ret
      exact TS_brkB s4.2 ⟨[(5, []), (6, []), (7, [])], [(17, (17, [])), (19, (19, [])), (600000, (600000, []))]⟩ rfl (by kernel_rfl) (by kernel_rfl) (by kernel_rfl)
  · intro b5 hb
    subst y6
    have h := elimL hK1
    refine TS_go 7 ?_
    refine TS_cut ⟨[(5, []), (6, []), (7, []), (12, [])], [(17, (17, [])), (19, (19, [])), (600000, (600000, []))]⟩ (.mk [.code (codeAt [1, 1, 1, 1, 1, 1, 1, 1, 0, 0] (bodyOf Try.f10)), .blk 2, .code (codeAt [1, 1, 1, 1, 1, 1, 1, 1, 1] (bodyOf Try.f10))] .normal ⟨[(5, .c (.box 17 0)), (6, .c (.slc 3 21 (List.length v2.1) (List.map S_Diagnostic.cs v2.1))), (7, .c (.own 600000)), (12, .c (.lit (.slice none 0 0)))], [(17, .box [.slc 1 0 (List.length v2.2.l) (List.map (ecI .i64) v2.2.l), .lit (.int .i64 (v2.2.at_))]), (19, .spare 56 3 (List.length v2.1)), (600000, .row 27 1 (List.length b5) (List.map (ecS 1 (ecI .u8)) b5))]⟩) (by kernel_rfl) (by kernel_rfl) ?_
    replace h := bindO h
    obtain ⟨y17, hl2, hK2⟩ := h
    refine TS_loopB (F_law39_ReportsCollect_l2) ⟨[(5, []), (6, []), (7, []), (12, [4])], [(17, (17, [])), (19, (19, [])), (600000, (600000, []))]⟩ (fun (s15 : (List S_Diagnostic) × S_multihopmade_Tape × (List (List Int))) => [(5, .c (.box 17 0)), (6, .c (.slc 3 21 (List.length v2.1) (List.map S_Diagnostic.cs v2.1))), (7, .c (.own 600000)), (12, .c (eS 3 S_Diagnostic.cs (s15.1)))]) (fun (s15 : (List S_Diagnostic) × S_multihopmade_Tape × (List (List Int))) => [(17, .box (S_multihopmade_Tape.cs s15.2.1)), (600000, .row 27 1 (List.length s15.2.2) (List.map (ecS 1 (ecI .u8)) s15.2.2)), (19, .spare 56 3 (List.length v2.1))]) (([] : List S_Diagnostic), v2.2, b5) y17 (.exit 2) (fun (b : (List S_Diagnostic)) => (Sum.inl b : ((List S_Diagnostic)) ⊕ (Bool))) ⟨[(6, []), (12, [4])], [(19, (19, []))]⟩ (fun (b16 : (List S_Diagnostic)) => [(6, .c (.slc 3 21 (List.length v2.1) (List.map S_Diagnostic.cs v2.1))), (12, .c (eS 3 S_Diagnostic.cs (b16)))]) (fun (b16 : (List S_Diagnostic)) => [(19, .spare 56 3 (List.length v2.1))]) hl2 (by kernel_rfl) (by kernel_rfl) ?_ ?_
    · intro s15 x h hy2
      unfold F_law39_ReportsCollect_l2 at h
      refine TS_go 7 ?_
      replace h := condO h
      rcases h with ⟨hb18, h⟩ | ⟨hb18, h⟩
      · refine TS_know 55 (b := true) hb18 (by kernel_rfl) (by kernel_rfl) ?_
        refine TS_T (by kernel_rfl) rfl ?_
        refine TS_go 7 ?_
        replace h := bindO h
        obtain ⟨v19, hv19, h⟩ := h
        refine TS_con [] [] (some (17, 0)) (ok_made_Tape_Next s15.2.1 (List.length s15.2.2 : Int) v19 hv19) (by kernel_rfl) (by kernel_rfl) (by kernel_rfl) ?_
        refine TS_go 6 ?_
        replace h := bindO h
        obtain ⟨_e20, he20, h⟩ := h
        refine TS_idxR 600000 1 0 (ecS 1 (ecI .u8)) .whole he20 (by kernel_rfl) (by kernel_rfl) ?_
        replace h := bindO h
        obtain ⟨e21, he21, h⟩ := h
        refine TS_ldE 27 (0 + Int.toNat v19.1) 0 (ecS 1 (ecI .u8)) (v := .c (.slc 1 0 (List.length e21) (List.map (ecI .u8) e21))) he21 (by kernel_rfl) (by kernel_rfl) (by kernel_rfl) ?_
        replace h := bindO h
        obtain ⟨v22, hv22, h⟩ := h
        refine TS_con [] [(65, 900000)] none (okT_management_DecodeReports e21 v22 hv22) (by kernel_rfl) (by kernel_rfl) (by kernel_rfl) ?_
        refine TS_go 12 ?_
        replace h := condO h
        rcases h with ⟨hb23, h⟩ | ⟨hb23, h⟩
        · refine TS_know 69 (b := true) hb23 (by kernel_rfl) (by kernel_rfl) ?_
          refine TS_T (by kernel_rfl) rfl ?_
          refine TS_go 7 ?_
          have ret := Option.some.inj h
          subst ret
          have hy2q := hy2 _ rfl
          subst hy2q
          replace h := (elimR hK2)
          refine TS_retB rfl (by kernel_rfl) ?_
          refine TS_go 2 ?_
          have ret := Option.some.inj h
          subst ret
          exact TS_ret (by kernel_rfl) (by kernel_rfl) (by kernel_rfl)
        · refine TS_know 69 (b := false) hb23 (by kernel_rfl) (by kernel_rfl) ?_
          refine TS_F (by kernel_rfl) rfl ?_
          refine TS_go 5 ?_
          replace h := bindO h
          obtain ⟨v24, hv24, h⟩ := h
          refine TS_call [[], [4]] (ok_management_Merge s15.1 v22.1 v24 hv24) (by kernel_rfl) (by kernel_rfl) ?_
          refine TS_go 12 ?_
          replace h := condO h
          rcases h with ⟨hb25, h⟩ | ⟨hb25, h⟩
          · refine TS_know 77 (b := true) hb25 (by kernel_rfl) (by kernel_rfl) ?_
            refine TS_T (by kernel_rfl) rfl ?_
            refine TS_go 7 ?_
            have ret := Option.some.inj h
            subst ret
            have hy2q := hy2 _ rfl
            subst hy2q
            replace h := (elimR hK2)
            refine TS_retB rfl (by kernel_rfl) ?_
            refine TS_go 2 ?_
            have ret := Option.some.inj h
            subst ret
            exact TS_ret (by kernel_rfl) (by kernel_rfl) (by kernel_rfl)
          · refine TS_know 77 (b := false) hb25 (by kernel_rfl) (by kernel_rfl) ?_
            refine TS_F (by kernel_rfl) rfl ?_
            refine TS_go 6 ?_
            refine TS_cut ⟨[(5, []), (6, []), (12, []), (78, []), (79, []), (81, [])], [(17, (17, [])), (19, (19, [])), (600000, (600000, []))]⟩ (.mk [opsFr (codeAt [1, 1, 1, 1, 1, 1, 1, 1, 0, 0, 0, 1, 0, 1, 1, 1, 1, 1] (bodyOf Try.f10)) 4, .blk 3] .normal ⟨[(5, .c (.box 17 0)), (6, .c (.slc 3 21 (List.length v2.1) (List.map S_Diagnostic.cs v2.1))), (12, .c (.slc 3 0 (List.length v24.1) (List.map S_Diagnostic.cs v24.1))), (78, .c (.own 600000)), (79, .c (.lit (.int .i64 (v19.1)))), (81, .c (.lit (.int .i64 (IntKind.wrap .i64 (v19.1 + 1)))))], [(17, .box [.slc 1 0 (List.length v19.2.l) (List.map (ecI .i64) v19.2.l), .lit (.int .i64 (v19.2.at_))]), (19, .spare 56 3 (List.length v2.1)), (600000, .row 27 1 (List.length s15.2.2) (List.map (ecS 1 (ecI .u8)) s15.2.2))]⟩) (by kernel_rfl) (by kernel_rfl) ?_
            refine TS_bump 2000 (by kernel_rfl) ?_
            refine TS_inlJ 33 Try.func47 rfl rfl ⟨[(5, []), (6, []), (12, [])], [(2017, (2017, [])), (2019, (2019, []))]⟩ (fun (v26 : (List (List Int))) => [(5, .c (.box 2017 0)), (6, .c (.slc 3 2021 (List.length v2.1) (List.map S_Diagnostic.cs v2.1))), (12, .c (.slc 3 0 (List.length v24.1) (List.map S_Diagnostic.cs v24.1))), (82, .c (.own 602001))]) (fun (v26 : (List (List Int))) => [(2017, .box [.slc 1 0 (List.length v19.2.l) (List.map (ecI .i64) v19.2.l), .lit (.int .i64 (v19.2.at_))]), (602001, .row 27 1 (List.length v26) (List.map (ecS 1 (ecI .u8)) v26)), (2019, .spare 56 3 (List.length v2.1))]) (F_law39_ReportsCollect_j3 v24 v19) x (by kernel_rfl) ?_ (fun K33 => ?_)
            · clear h
              intro v26 h
              unfold F_law39_ReportsCollect_j3 at h
              refine TS_go 3 ?_
              have ret := Option.some.inj h
              subst ret
              exact TS_againB _ ⟨[(5, []), (6, []), (7, []), (12, [])], [(2017, (17, [])), (2019, (19, [])), (602001, (600000, []))]⟩ rfl (by kernel_rfl) (by kernel_rfl)
            · refine TS_go 11 ?_
              replace h := chkO h
              obtain ⟨hc27, h⟩ := h
              refine TS_slM 602000 1 (List.length s15.2.2) (a := v19.1) (b := IntKind.wrap .i64 (v19.1 + 1)) (m := (List.length s15.2.2 : Int)) hc27 (by kernel_rfl) (by kernel_rfl) ?_
              refine TS_go 8 ?_
              replace h := condO h
              rcases h with ⟨hb28, h⟩ | ⟨hb28, h⟩
              · refine TS_know 16 (b := true) hb28 (by kernel_rfl) (by kernel_rfl) ?_
                refine TS_T (by kernel_rfl) rfl ?_
                refine TS_go 7 ?_
                exact TS_inlM s15.2.2 ⟨[(5, []), (6, []), (12, []), (82, [])], [(2017, (2017, [])), (2019, (2019, [])), (602000, (602001, []))]⟩ h (by kernel_rfl) (by kernel_rfl) (by kernel_rfl)
              · refine TS_know 16 (b := false) hb28 (by kernel_rfl) (by kernel_rfl) ?_
                refine TS_F (by kernel_rfl) rfl ?_
                refine TS_go 8 ?_
                refine TS_draw (by kernel_rfl) ?_
                refine TD_go 2 ?_
                replace h := chkO h
                obtain ⟨hc29, h⟩ := h
                refine TD_slRow 602000 1 (List.length s15.2.2) (a := 0) (b := v19.1) hc29 rfl (by kernel_rfl) (by kernel_rfl) ?_
                refine TD_go 2 ?_
                replace h := chkO h
                obtain ⟨hc30, h⟩ := h
                refine TD_slSub 602000 1 (List.length s15.2.2) (a := IntKind.wrap .i64 (v19.1 + 1)) (b := (List.length s15.2.2 : Int)) hc30 (by kernel_rfl) (by kernel_rfl) ?_
                replace h := chkO h
                obtain ⟨hc31, h⟩ := h
                refine TD_appP 602000 27 1 24 (List.length s15.2.2) (Int.toNat v19.1) (ecS 1 (ecI .u8)) (fun _ => by kernel_rfl) (l1 := s15.2.2) (l2 := s15.2.2) (.part (Int.toNat (IntKind.wrap .i64 (v19.1 + 1))) (Int.toNat (List.length s15.2.2 : Int) - Int.toNat (IntKind.wrap .i64 (v19.1 + 1)))) hc31 (by kernel_rfl) (by kernel_rfl) ?_
                refine TD_go 1 ?_
                refine TD_end (by kernel_rfl) ?_
                refine TS_go 6 ?_
                replace h := chkO h
                obtain ⟨hc32, h⟩ := h
                refine TS_slPSub 602000 1 (List.length (List.take (Int.toNat v19.1) s15.2.2 ++ (Cut.app (.part (Int.toNat (IntKind.wrap .i64 (v19.1 + 1))) (Int.toNat (List.length s15.2.2 : Int) - Int.toNat (IntKind.wrap .i64 (v19.1 + 1)))) s15.2.2) ++ List.drop ((Int.toNat v19.1) + List.length (Cut.app (.part (Int.toNat (IntKind.wrap .i64 (v19.1 + 1))) (Int.toNat (List.length s15.2.2 : Int) - Int.toNat (IntKind.wrap .i64 (v19.1 + 1)))) s15.2.2)) s15.2.2)) (a := (((Int.toNat v19.1) + List.length (Cut.app (.part (Int.toNat (IntKind.wrap .i64 (v19.1 + 1))) (Int.toNat (List.length s15.2.2 : Int) - Int.toNat (IntKind.wrap .i64 (v19.1 + 1)))) s15.2.2)) : Int)) (b := (List.length s15.2.2 : Int)) hc32 (by kernel_rfl) (by kernel_rfl) ?_
                refine TS_clr 602000 27 1 (List.length (List.take (Int.toNat v19.1) s15.2.2 ++ (Cut.app (.part (Int.toNat (IntKind.wrap .i64 (v19.1 + 1))) (Int.toNat (List.length s15.2.2 : Int) - Int.toNat (IntKind.wrap .i64 (v19.1 + 1)))) s15.2.2) ++ List.drop ((Int.toNat v19.1) + List.length (Cut.app (.part (Int.toNat (IntKind.wrap .i64 (v19.1 + 1))) (Int.toNat (List.length s15.2.2 : Int) - Int.toNat (IntKind.wrap .i64 (v19.1 + 1)))) s15.2.2)) s15.2.2)) (Int.toNat (((Int.toNat v19.1) + List.length (Cut.app (.part (Int.toNat (IntKind.wrap .i64 (v19.1 + 1))) (Int.toNat (List.length s15.2.2 : Int) - Int.toNat (IntKind.wrap .i64 (v19.1 + 1)))) s15.2.2)) : Int)) (ecS 1 (ecI .u8)) (([] : List Int) : List Int) [2] (cs := [.lit (.slice none 0 0)]) (l := (List.take (Int.toNat v19.1) s15.2.2 ++ (Cut.app (.part (Int.toNat (IntKind.wrap .i64 (v19.1 + 1))) (Int.toNat (List.length s15.2.2 : Int) - Int.toNat (IntKind.wrap .i64 (v19.1 + 1)))) s15.2.2) ++ List.drop ((Int.toNat v19.1) + List.length (Cut.app (.part (Int.toNat (IntKind.wrap .i64 (v19.1 + 1))) (Int.toNat (List.length s15.2.2 : Int) - Int.toNat (IntKind.wrap .i64 (v19.1 + 1)))) s15.2.2)) s15.2.2)) (.part (Int.toNat (((Int.toNat v19.1) + List.length (Cut.app (.part (Int.toNat (IntKind.wrap .i64 (v19.1 + 1))) (Int.toNat (List.length s15.2.2 : Int) - Int.toNat (IntKind.wrap .i64 (v19.1 + 1)))) s15.2.2)) : Int)) (Int.toNat (List.length s15.2.2 : Int) - Int.toNat (((Int.toNat v19.1) + List.length (Cut.app (.part (Int.toNat (IntKind.wrap .i64 (v19.1 + 1))) (Int.toNat (List.length s15.2.2 : Int) - Int.toNat (IntKind.wrap .i64 (v19.1 + 1)))) s15.2.2)) : Int))) (by kernel_rfl) (by kernel_rfl) (by kernel_rfl) ?_
                refine TS_go 6 ?_
                refine TS_trunc 6 (d := 602000) (m := ((Int.toNat v19.1) + List.length (Cut.app (.part (Int.toNat (IntKind.wrap .i64 (v19.1 + 1))) (Int.toNat (List.length s15.2.2 : Int) - Int.toNat (IntKind.wrap .i64 (v19.1 + 1)))) s15.2.2))) (e := 27) (sz := 1) (N := List.length (clrL (List.take (Int.toNat v19.1) s15.2.2 ++ (Cut.app (.part (Int.toNat (IntKind.wrap .i64 (v19.1 + 1))) (Int.toNat (List.length s15.2.2 : Int) - Int.toNat (IntKind.wrap .i64 (v19.1 + 1)))) s15.2.2) ++ List.drop ((Int.toNat v19.1) + List.length (Cut.app (.part (Int.toNat (IntKind.wrap .i64 (v19.1 + 1))) (Int.toNat (List.length s15.2.2 : Int) - Int.toNat (IntKind.wrap .i64 (v19.1 + 1)))) s15.2.2)) s15.2.2) (Int.toNat (((Int.toNat v19.1) + List.length (Cut.app (.part (Int.toNat (IntKind.wrap .i64 (v19.1 + 1))) (Int.toNat (List.length s15.2.2 : Int) - Int.toNat (IntKind.wrap .i64 (v19.1 + 1)))) s15.2.2)) : Int)) (List.length (Cut.app (.part (Int.toNat (((Int.toNat v19.1) + List.length (Cut.app (.part (Int.toNat (IntKind.wrap .i64 (v19.1 + 1))) (Int.toNat (List.length s15.2.2 : Int) - Int.toNat (IntKind.wrap .i64 (v19.1 + 1)))) s15.2.2)) : Int)) (Int.toNat (List.length s15.2.2 : Int) - Int.toNat (((Int.toNat v19.1) + List.length (Cut.app (.part (Int.toNat (IntKind.wrap .i64 (v19.1 + 1))) (Int.toNat (List.length s15.2.2 : Int) - Int.toNat (IntKind.wrap .i64 (v19.1 + 1)))) s15.2.2)) : Int))) (List.take (Int.toNat v19.1) s15.2.2 ++ (Cut.app (.part (Int.toNat (IntKind.wrap .i64 (v19.1 + 1))) (Int.toNat (List.length s15.2.2 : Int) - Int.toNat (IntKind.wrap .i64 (v19.1 + 1)))) s15.2.2) ++ List.drop ((Int.toNat v19.1) + List.length (Cut.app (.part (Int.toNat (IntKind.wrap .i64 (v19.1 + 1))) (Int.toNat (List.length s15.2.2 : Int) - Int.toNat (IntKind.wrap .i64 (v19.1 + 1)))) s15.2.2)) s15.2.2))) (([] : List Int) : List Int))) (xs := List.map (ecS 1 (ecI .u8)) (clrL (List.take (Int.toNat v19.1) s15.2.2 ++ (Cut.app (.part (Int.toNat (IntKind.wrap .i64 (v19.1 + 1))) (Int.toNat (List.length s15.2.2 : Int) - Int.toNat (IntKind.wrap .i64 (v19.1 + 1)))) s15.2.2) ++ List.drop ((Int.toNat v19.1) + List.length (Cut.app (.part (Int.toNat (IntKind.wrap .i64 (v19.1 + 1))) (Int.toNat (List.length s15.2.2 : Int) - Int.toNat (IntKind.wrap .i64 (v19.1 + 1)))) s15.2.2)) s15.2.2) (Int.toNat (((Int.toNat v19.1) + List.length (Cut.app (.part (Int.toNat (IntKind.wrap .i64 (v19.1 + 1))) (Int.toNat (List.length s15.2.2 : Int) - Int.toNat (IntKind.wrap .i64 (v19.1 + 1)))) s15.2.2)) : Int)) (List.length (Cut.app (.part (Int.toNat (((Int.toNat v19.1) + List.length (Cut.app (.part (Int.toNat (IntKind.wrap .i64 (v19.1 + 1))) (Int.toNat (List.length s15.2.2 : Int) - Int.toNat (IntKind.wrap .i64 (v19.1 + 1)))) s15.2.2)) : Int)) (Int.toNat (List.length s15.2.2 : Int) - Int.toNat (((Int.toNat v19.1) + List.length (Cut.app (.part (Int.toNat (IntKind.wrap .i64 (v19.1 + 1))) (Int.toNat (List.length s15.2.2 : Int) - Int.toNat (IntKind.wrap .i64 (v19.1 + 1)))) s15.2.2)) : Int))) (List.take (Int.toNat v19.1) s15.2.2 ++ (Cut.app (.part (Int.toNat (IntKind.wrap .i64 (v19.1 + 1))) (Int.toNat (List.length s15.2.2 : Int) - Int.toNat (IntKind.wrap .i64 (v19.1 + 1)))) s15.2.2) ++ List.drop ((Int.toNat v19.1) + List.length (Cut.app (.part (Int.toNat (IntKind.wrap .i64 (v19.1 + 1))) (Int.toNat (List.length s15.2.2 : Int) - Int.toNat (IntKind.wrap .i64 (v19.1 + 1)))) s15.2.2)) s15.2.2))) (([] : List Int) : List Int))) (List.length (List.take ((Int.toNat v19.1) + List.length (Cut.app (.part (Int.toNat (IntKind.wrap .i64 (v19.1 + 1))) (Int.toNat (List.length s15.2.2 : Int) - Int.toNat (IntKind.wrap .i64 (v19.1 + 1)))) s15.2.2)) (clrL (List.take (Int.toNat v19.1) s15.2.2 ++ (Cut.app (.part (Int.toNat (IntKind.wrap .i64 (v19.1 + 1))) (Int.toNat (List.length s15.2.2 : Int) - Int.toNat (IntKind.wrap .i64 (v19.1 + 1)))) s15.2.2) ++ List.drop ((Int.toNat v19.1) + List.length (Cut.app (.part (Int.toNat (IntKind.wrap .i64 (v19.1 + 1))) (Int.toNat (List.length s15.2.2 : Int) - Int.toNat (IntKind.wrap .i64 (v19.1 + 1)))) s15.2.2)) s15.2.2) (Int.toNat (((Int.toNat v19.1) + List.length (Cut.app (.part (Int.toNat (IntKind.wrap .i64 (v19.1 + 1))) (Int.toNat (List.length s15.2.2 : Int) - Int.toNat (IntKind.wrap .i64 (v19.1 + 1)))) s15.2.2)) : Int)) (List.length (Cut.app (.part (Int.toNat (((Int.toNat v19.1) + List.length (Cut.app (.part (Int.toNat (IntKind.wrap .i64 (v19.1 + 1))) (Int.toNat (List.length s15.2.2 : Int) - Int.toNat (IntKind.wrap .i64 (v19.1 + 1)))) s15.2.2)) : Int)) (Int.toNat (List.length s15.2.2 : Int) - Int.toNat (((Int.toNat v19.1) + List.length (Cut.app (.part (Int.toNat (IntKind.wrap .i64 (v19.1 + 1))) (Int.toNat (List.length s15.2.2 : Int) - Int.toNat (IntKind.wrap .i64 (v19.1 + 1)))) s15.2.2)) : Int))) (List.take (Int.toNat v19.1) s15.2.2 ++ (Cut.app (.part (Int.toNat (IntKind.wrap .i64 (v19.1 + 1))) (Int.toNat (List.length s15.2.2 : Int) - Int.toNat (IntKind.wrap .i64 (v19.1 + 1)))) s15.2.2) ++ List.drop ((Int.toNat v19.1) + List.length (Cut.app (.part (Int.toNat (IntKind.wrap .i64 (v19.1 + 1))) (Int.toNat (List.length s15.2.2 : Int) - Int.toNat (IntKind.wrap .i64 (v19.1 + 1)))) s15.2.2)) s15.2.2))) (([] : List Int) : List Int)))) (List.map (ecS 1 (ecI .u8)) (List.take ((Int.toNat v19.1) + List.length (Cut.app (.part (Int.toNat (IntKind.wrap .i64 (v19.1 + 1))) (Int.toNat (List.length s15.2.2 : Int) - Int.toNat (IntKind.wrap .i64 (v19.1 + 1)))) s15.2.2)) (clrL (List.take (Int.toNat v19.1) s15.2.2 ++ (Cut.app (.part (Int.toNat (IntKind.wrap .i64 (v19.1 + 1))) (Int.toNat (List.length s15.2.2 : Int) - Int.toNat (IntKind.wrap .i64 (v19.1 + 1)))) s15.2.2) ++ List.drop ((Int.toNat v19.1) + List.length (Cut.app (.part (Int.toNat (IntKind.wrap .i64 (v19.1 + 1))) (Int.toNat (List.length s15.2.2 : Int) - Int.toNat (IntKind.wrap .i64 (v19.1 + 1)))) s15.2.2)) s15.2.2) (Int.toNat (((Int.toNat v19.1) + List.length (Cut.app (.part (Int.toNat (IntKind.wrap .i64 (v19.1 + 1))) (Int.toNat (List.length s15.2.2 : Int) - Int.toNat (IntKind.wrap .i64 (v19.1 + 1)))) s15.2.2)) : Int)) (List.length (Cut.app (.part (Int.toNat (((Int.toNat v19.1) + List.length (Cut.app (.part (Int.toNat (IntKind.wrap .i64 (v19.1 + 1))) (Int.toNat (List.length s15.2.2 : Int) - Int.toNat (IntKind.wrap .i64 (v19.1 + 1)))) s15.2.2)) : Int)) (Int.toNat (List.length s15.2.2 : Int) - Int.toNat (((Int.toNat v19.1) + List.length (Cut.app (.part (Int.toNat (IntKind.wrap .i64 (v19.1 + 1))) (Int.toNat (List.length s15.2.2 : Int) - Int.toNat (IntKind.wrap .i64 (v19.1 + 1)))) s15.2.2)) : Int))) (List.take (Int.toNat v19.1) s15.2.2 ++ (Cut.app (.part (Int.toNat (IntKind.wrap .i64 (v19.1 + 1))) (Int.toNat (List.length s15.2.2 : Int) - Int.toNat (IntKind.wrap .i64 (v19.1 + 1)))) s15.2.2) ++ List.drop ((Int.toNat v19.1) + List.length (Cut.app (.part (Int.toNat (IntKind.wrap .i64 (v19.1 + 1))) (Int.toNat (List.length s15.2.2 : Int) - Int.toNat (IntKind.wrap .i64 (v19.1 + 1)))) s15.2.2)) s15.2.2))) (([] : List Int) : List Int)))) List.map_take.symm (List.length_map _) (by kernel_rfl) (by kernel_rfl) ?_
                refine TS_go 1 ?_
                exact TS_inlM (List.take ((Int.toNat v19.1) + List.length (Cut.app (.part (Int.toNat (IntKind.wrap .i64 (v19.1 + 1))) (Int.toNat (List.length s15.2.2 : Int) - Int.toNat (IntKind.wrap .i64 (v19.1 + 1)))) s15.2.2)) (clrL (List.take (Int.toNat v19.1) s15.2.2 ++ (Cut.app (.part (Int.toNat (IntKind.wrap .i64 (v19.1 + 1))) (Int.toNat (List.length s15.2.2 : Int) - Int.toNat (IntKind.wrap .i64 (v19.1 + 1)))) s15.2.2) ++ List.drop ((Int.toNat v19.1) + List.length (Cut.app (.part (Int.toNat (IntKind.wrap .i64 (v19.1 + 1))) (Int.toNat (List.length s15.2.2 : Int) - Int.toNat (IntKind.wrap .i64 (v19.1 + 1)))) s15.2.2)) s15.2.2) (Int.toNat (((Int.toNat v19.1) + List.length (Cut.app (.part (Int.toNat (IntKind.wrap .i64 (v19.1 + 1))) (Int.toNat (List.length s15.2.2 : Int) - Int.toNat (IntKind.wrap .i64 (v19.1 + 1)))) s15.2.2)) : Int)) (List.length (Cut.app (.part (Int.toNat (((Int.toNat v19.1) + List.length (Cut.app (.part (Int.toNat (IntKind.wrap .i64 (v19.1 + 1))) (Int.toNat (List.length s15.2.2 : Int) - Int.toNat (IntKind.wrap .i64 (v19.1 + 1)))) s15.2.2)) : Int)) (Int.toNat (List.length s15.2.2 : Int) - Int.toNat (((Int.toNat v19.1) + List.length (Cut.app (.part (Int.toNat (IntKind.wrap .i64 (v19.1 + 1))) (Int.toNat (List.length s15.2.2 : Int) - Int.toNat (IntKind.wrap .i64 (v19.1 + 1)))) s15.2.2)) : Int))) (List.take (Int.toNat v19.1) s15.2.2 ++ (Cut.app (.part (Int.toNat (IntKind.wrap .i64 (v19.1 + 1))) (Int.toNat (List.length s15.2.2 : Int) - Int.toNat (IntKind.wrap .i64 (v19.1 + 1)))) s15.2.2) ++ List.drop ((Int.toNat v19.1) + List.length (Cut.app (.part (Int.toNat (IntKind.wrap .i64 (v19.1 + 1))) (Int.toNat (List.length s15.2.2 : Int) - Int.toNat (IntKind.wrap .i64 (v19.1 + 1)))) s15.2.2)) s15.2.2))) (([] : List Int) : List Int))) ⟨[(5, []), (6, []), (12, []), (82, [])], [(2017, (2017, [])), (2019, (2019, [])), (602000, (602001, []))]⟩ h (by kernel_rfl) (by kernel_rfl) (by kernel_rfl)
      · refine TS_know 55 (b := false) hb18 (by kernel_rfl) (by kernel_rfl) ?_
        refine TS_F (by kernel_rfl) rfl ?_
        refine TS_go 2 ?_
        have ret := Option.some.inj h
        subst ret
        exact TS_brkB s15.1 ⟨[(6, []), (12, [])], [(19, (19, []))]⟩ rfl (by kernel_rfl) (by kernel_rfl) (by kernel_rfl)
    · intro b16 hb
      subst y17
      have h := elimL hK2
      refine TS_go 5 ?_
      replace h := bindO h
      obtain ⟨v35, hv35, h⟩ := h
      refine TS_call [[], [4]] (ok_world_SameReports b16 v2.1 v35 hv35) (by kernel_rfl) (by kernel_rfl) ?_
      refine TS_go 1 ?_
      replace h := condO h
      rcases h with ⟨hb36, h⟩ | ⟨hb36, h⟩
      · subst hb36
        replace h := bindO h
        obtain ⟨v37, hv37, h⟩ := h
        refine TS_call [] (ok_law39_known  v37 hv37) (by kernel_rfl) (by kernel_rfl) ?_
        refine TS_go 4 ?_
        have ret := Option.some.inj h
        subst ret
        exact TS_ret (by kernel_rfl) (by kernel_rfl) (by kernel_rfl)
      · subst hb36
        refine TS_go 5 ?_
        have ret := Option.some.inj h
        subst ret
        exact TS_ret (by kernel_rfl) (by kernel_rfl) (by kernel_rfl)
end
section
open Go.RowKit

theorem beqF {α : Type} [BEq α] [LawfulBEq α] {a b : α} (h : ¬ a = b) : (a == b) = false := by simpa using h
theorem decT {p : Prop} [Decidable p] (h : p) : decide p = true := by simpa using h
theorem decF {p : Prop} [Decidable p] (h : ¬ p) : decide p = false := by simpa using h
theorem wi {x : Int} (h0 : -9223372036854775808 ≤ x) (h1 : x ≤ 9223372036854775807) : IntKind.wrap .i64 x = x := by
  simp [IntKind.wrap, IntKind.bits, IntKind.signed]
  omega
theorem wu {x : Int} (h0 : 0 ≤ x) (h1 : x < 18446744073709551616) : IntKind.wrap .u64 x = x := by
  simp [IntKind.wrap, IntKind.bits, IntKind.signed]
  omega
theorem wu8 {x : Int} (h0 : 0 ≤ x) (h1 : x < 256) : IntKind.wrap .u8 x = x := by
  simp [IntKind.wrap, IntKind.bits, IntKind.signed]
  omega
theorem wk (k : Nat) (h : k < 9223372036854775807) : IntKind.wrap .i64 ((k : Int) + 1) = ((k + 1 : Nat) : Int) := by
  rw [wi (by omega) (by omega)]; rfl
theorem wrap8 (x : Int) : IntKind.wrap .u8 x = x % 256 := by
  simp [IntKind.wrap, IntKind.bits, IntKind.signed]
theorem wrap64 (x : Int) : IntKind.wrap .u64 x = x % 18446744073709551616 := by
  simp [IntKind.wrap, IntKind.bits, IntKind.signed]
section
variable {σ ρ : Type} {step : σ → Option (σ ⊕ ρ)}
theorem loop_done {s : σ} {r : ρ} (h : step s = some (.inr r)) : loopO step s = some r := by rw [loopO_eq, h]
theorem loop_next {s s' : σ} (h : step s = some (.inl s')) : loopO step s = loopO step s' := by rw [loopO_eq, h]
/-- a loop that keeps I and ends with Q -/
theorem loop_inv (I : σ → Prop) (Q : ρ → Prop) (m : σ → Nat) (hs : ∀ s, I s → (∃ s', step s = some (.inl s') ∧ I s' ∧ m s' < m s) ∨ (∃ r, step s = some (.inr r) ∧ Q r)) (s : σ) (h : I s) : ∃ r, loopO step s = some r ∧ Q r := by
  induction hn : m s using Nat.strongRecOn generalizing s with
  | ind n ih =>
    subst hn
    rcases hs s h with ⟨s', h1, h2, h3⟩ | ⟨r, h1, h2⟩
    · obtain ⟨r, hr, hq⟩ := ih (m s') h3 s' h2 rfl
      exact ⟨r, by rw [loop_next h1]; exact hr, hq⟩
    · exact ⟨r, loop_done h1, h2⟩
/-- a loop whose states are known -/
theorem loop_to (S : Nat → σ) (n : Nat) (h : ∀ k, k < n → step (S k) = some (.inl (S (k + 1)))) : loopO step (S 0) = loopO step (S n) := by
  induction n with
  | zero => rfl
  | succ n ih => rw [ih (fun k hk => h k (by omega)), loop_next (h n (by omega))]
theorem loop_run (S : Nat → σ) (n : Nat) {r : ρ} (h : ∀ k, k < n → step (S k) = some (.inl (S (k + 1)))) (he : step (S n) = some (.inr r)) : loopO step (S 0) = some r := by
  rw [loop_to S n h, loop_done he]
/-- a loop that is left at the first place where p fails -/
theorem loop_first (S : Nat → σ) (n : Nat) (p : Nat → Bool) (out : Nat → ρ) {re : ρ} (h1 : ∀ k, k < n → p k = true → step (S k) = some (.inl (S (k + 1)))) (h2 : ∀ k, k < n → p k = false → step (S k) = some (.inr (out k))) (h3 : step (S n) = some (.inr re)) :
    (∃ k, k < n ∧ p k = false ∧ (∀ j, j < k → p j = true) ∧ loopO step (S 0) = some (out k)) ∨ ((∀ k, k < n → p k = true) ∧ loopO step (S 0) = some re) := by
  by_cases hx : ∀ k, k < n → p k = true
  · exact .inr ⟨hx, loop_run S n (fun k hk => h1 k hk (hx k hk)) h3⟩
  · have hx' : ∃ k, k < n ∧ p k = false := by
      apply Classical.byContradiction
      intro hno
      apply hx
      intro k hk
      cases hpk : p k with
      | true => rfl
      | false => exact absurd ⟨k, hk, hpk⟩ hno
    have : ∃ k, (k < n ∧ p k = false) ∧ ∀ j, j < k → ¬ (j < n ∧ p j = false) := by
      obtain ⟨k, hk⟩ := hx'
      induction k using Nat.strongRecOn with
      | ind k ih =>
        by_cases hj : ∃ j, j < k ∧ j < n ∧ p j = false
        · obtain ⟨j, hj1, hj2⟩ := hj; exact ih j hj1 hj2
        · exact ⟨k, hk, fun j hjk hh => hj ⟨j, hjk, hh⟩⟩
    obtain ⟨k, ⟨hk, hpk⟩, hmin⟩ := this
    have hall : ∀ j, j < k → p j = true := by
      intro j hj
      cases hpj : p j with
      | true => rfl
      | false => exact absurd ⟨by omega, hpj⟩ (hmin j hj)
    refine .inl ⟨k, hk, hpk, hall, ?_⟩
    rw [loop_to S k (fun j hj => h1 j (by omega) (hall j hj)), loop_done (h2 k hk hpk)]
/-- a loop that answers whether p holds everywhere -/
theorem loop_all (S : Nat → σ) (n : Nat) (p : Nat → Bool) {rt rf : ρ} (h1 : ∀ k, k < n → p k = true → step (S k) = some (.inl (S (k + 1)))) (h2 : ∀ k, k < n → p k = false → step (S k) = some (.inr rf)) (h3 : step (S n) = some (.inr rt)) :
    loopO step (S 0) = some (if ∀ k, k < n → p k = true then rt else rf) := by
  rcases loop_first S n p (fun _ => rf) h1 h2 h3 with ⟨k, hk, hpk, _, h⟩ | ⟨ha, h⟩
  · rw [h, if_neg]
    intro hh
    rw [hh k hk] at hpk
    cases hpk
  · rw [h, if_pos ha]
end
theorem idx_nat {α : Type} (l : List α) (k : Nat) : idx l (k : Int) = l[k]? := by simp [idx]
theorem idx_lt {α : Type} {l : List α} {k : Nat} (h : k < l.length) : idx l (k : Int) = some l[k] := by rw [idx_nat]; exact List.getElem?_eq_getElem h
theorem idx_int {α : Type} {l : List α} {i : Int} (h0 : 0 ≤ i) (h1 : i < l.length) : idx l i = some (l[i.toNat]'(by omega)) := by
  unfold idx; rw [if_pos h0]; exact List.getElem?_eq_getElem _
theorem appO_some {α : Type} {by_ : Nat} {l1 l2 : List α} (h : (l1.length + l2.length) * by_ ≤ 140737488355328) (h' : l1.length + l2.length ≤ 140737488355328) : appO by_ l1 l2 = some (l1 ++ l2) := by
  unfold appO; rw [if_pos ⟨h, h'⟩]
theorem subO_some {α : Type} {l : List α} {a b : Int} (h0 : 0 ≤ a) (h1 : a ≤ b) (h2 : b ≤ l.length) : subO l a b = some ((l.take b.toNat).drop a.toNat) := by
  unfold subO; rw [if_pos ⟨h0, h1, h2⟩]

theorem arrEq_iff {n : Nat} {a b : List Int} : arrEq n a b = true ↔ ∀ i, i < n → a.getD i 0 = b.getD i 0 := by
  unfold arrEq
  have : ∀ l : List Nat, (l.foldr (fun i r => (a.getD i 0 == b.getD i 0) && r) true) = true ↔ ∀ i ∈ l, a.getD i 0 = b.getD i 0 := by
    intro l
    induction l with
    | nil => simp
    | cons x l ih => simp only [List.foldr_cons, Bool.and_eq_true, beq_iff_eq, ih, List.mem_cons, forall_eq_or_imp]
  rw [this]
  simp
theorem arrEq_eq {n : Nat} {a b : List Int} (ha : a.length = n) (hb : b.length = n) : arrEq n a b = decide (a = b) := by
  rw [Bool.eq_iff_iff, arrEq_iff, decide_eq_true_iff]
  constructor
  · intro h
    apply List.ext_getElem (by omega)
    intro i h1 h2
    have := h i (by omega)
    simpa [List.getD_eq_getElem?_getD, List.getElem?_eq_getElem h1, List.getElem?_eq_getElem h2] using this
  · rintro rfl _ _; rfl
theorem setA_set {n : Nat} {l : List Int} {i : Nat} {v : Int} (h : l.length = n) : setA n l i v = l.set i v := by
  apply List.ext_getElem?
  intro j
  unfold setA
  rcases Nat.lt_or_ge j n with hj | hj
  · rw [List.getElem?_map, List.getElem?_range hj, List.getElem?_set]
    by_cases hij : i = j
    · subst hij; simp; omega
    · simp [hij, Ne.symm hij, List.getD_eq_getElem?_getD, List.getElem?_eq_getElem (show j < l.length by omega)]
  · rw [List.getElem?_eq_none (by simpa using hj), List.getElem?_eq_none (by simp; omega)]
def lexC : List Int → List Int → Int
  | [], [] => 0
  | [], _ :: _ => -1
  | _ :: _, [] => 1
  | a :: s, b :: t => if a < b then -1 else if b < a then 1 else lexC s t
theorem lexC_self : ∀ a : List Int, lexC a a = 0
  | [] => rfl
  | x :: l => by simp [lexC, lexC_self l]
theorem lexC_zero : ∀ {a b : List Int}, lexC a b = 0 → a = b
  | [], [], _ => rfl
  | [], _ :: _, h => by simp [lexC] at h
  | _ :: _, [], h => by simp [lexC] at h
  | a :: s, b :: t, h => by
    simp only [lexC] at h
    split at h
    · cases h
    · split at h
      · cases h
      · have := lexC_zero h
        subst this
        congr 1
        omega
theorem lexC_swap : ∀ a b : List Int, lexC b a = - lexC a b
  | [], [] => rfl
  | [], _ :: _ => rfl
  | _ :: _, [] => rfl
  | a :: s, b :: t => by
    simp only [lexC]
    by_cases h : a < b
    · rw [if_pos h, if_neg (by omega), if_pos h]; rfl
    · rw [if_neg h]
      by_cases h2 : b < a
      · rw [if_pos h2, if_pos h2, if_neg h]
      · rw [if_neg h2, if_neg h2, if_neg h, lexC_swap s t]
theorem lexC_cases : ∀ a b : List Int, lexC a b = -1 ∨ lexC a b = 0 ∨ lexC a b = 1
  | [], [] => .inr (.inl rfl)
  | [], _ :: _ => .inl rfl
  | _ :: _, [] => .inr (.inr rfl)
  | a :: s, b :: t => by
    simp only [lexC]
    split
    · exact .inl rfl
    · split
      · exact .inr (.inr rfl)
      · exact lexC_cases s t
theorem lexC_trans : ∀ {a b c : List Int}, lexC a b < 0 → lexC b c < 0 → lexC a c < 0
  | [], _, [], h, k => by
    rename_i b
    cases b with
    | nil => simp [lexC] at h
    | cons x l => simp [lexC] at k
  | [], _, _ :: _, _, _ => by simp [lexC]
  | _ :: _, [], _, h, _ => by simp [lexC] at h
  | _ :: _, _ :: _, [], _, k => by simp [lexC] at k
  | a :: s, b :: t, c :: u, h, k => by
    simp only [lexC] at *
    split at h
    · split at k
      · rw [if_pos (by omega)]; omega
      · split at k
        · cases k
        · rw [if_pos (by omega)]; omega
    · split at h
      · cases h
      · split at k
        · rw [if_pos (by omega)]; omega
        · split at k
          · cases k
          · rw [if_neg (by omega), if_neg (by omega)]
            exact lexC_trans h k
theorem cmpB_lex : ∀ {a b : List Int}, (∀ z ∈ a, 0 ≤ z ∧ z ≤ 255) → (∀ z ∈ b, 0 ≤ z ∧ z ≤ 255) → cmpB a b = lexC a b
  | [], [], _, _ => rfl
  | [], _ :: _, _, _ => rfl
  | _ :: _, [], _, _ => rfl
  | a :: s, b :: t, ha, hb => by
    have ih := cmpB_lex (a := s) (b := t) (fun z hz => ha z (by simp [hz])) (fun z hz => hb z (by simp [hz]))
    have h1 := ha a (by simp)
    have h2 := hb b (by simp)
    have e1 : (a.toNat.toUInt8).toNat = a.toNat := by simp [Nat.toUInt8]; omega
    have e2 : (b.toNat.toUInt8).toNat = b.toNat := by simp [Nat.toUInt8]; omega
    unfold cmpB u8L at *
    simp only [List.map_cons, Go.Lib.compareBytes, lexC, UInt8.lt_iff_toNat_lt, e1, e2, ih]
    by_cases q : a < b
    · rw [if_pos (by omega), if_pos q]
    · rw [if_neg (by omega), if_neg q]
      by_cases q2 : b < a
      · rw [if_pos (by omega), if_pos q2]
      · rw [if_neg (by omega), if_neg q2]
theorem getD_get {l : List Int} {i : Nat} (h : i < l.length) : l.getD i 0 = l[i] := by simp [List.getD_eq_getElem?_getD, List.getElem?_eq_getElem h]
theorem getD_mem {p : Int → Prop} {l : List Int} (h : ∀ z ∈ l, p z) (h0 : p 0) (i : Nat) : p (l.getD i 0) := by
  rcases Nat.lt_or_ge i l.length with hi | hi
  · rw [getD_get hi]; exact h _ (List.getElem_mem hi)
  · rw [List.getD_eq_getElem?_getD, List.getElem?_eq_none hi]; exact h0
end
section
open Go.ChangeShapes Go.WideShapes Go.ChangeAt Go.RowKit

theorem own : ownKnob Try.prog.godebug = none := by kernel_rfl
theorem laidOut : laidOutB Try.prog = true := by kernel_rfl

/-- the arguments read as before -/
theorem trodAll_below {H : Type} {enc : TypeId × Value → H} {P : Program} (hl : laidOutB P = true) {W W' : World} (hb : Below W.heap.size W W') :
    ∀ {ts : List TypeId} {vs : List Value} {ds : List (DataW H)} {ps : List MemPlace}, ts.all (fun t => P.readableRec t && decide (t < P.types.size)) = true →
      DataW.TrodAll enc P W 0 (fun _ => true) true ts vs ds ps → DataW.TrodAll enc P W' 0 (fun b => decide (b < W.heap.size)) true ts vs ds ps
  | [], _, _, _, _, h => by
    obtain ⟨rfl, rfl, rfl⟩ := trodAll_nil h
    exact trodAll_mk0
  | t :: ts, vs, ds, ps, hr, h => by
    obtain ⟨v, vs', d, ds', p, q, rfl, rfl, rfl, h1, h2⟩ := trodAll_cons h
    simp only [List.all_cons, Bool.and_eq_true, decide_eq_true_eq] at hr
    have lt : ∀ x ∈ p, x.block < W.heap.size := by obtain ⟨m, hm⟩ := h1; exact DataW.trod_lt m _ _ _ hm
    exact trodAll_cons_mk (Below.trod hl hr.1.1 hr.1.2 h1 hb lt) (trodAll_below hl hb hr.2 h2)

/-- the reader that sees all -/
def rdAll (w : World) : Rd := fun b o => w.cell? ⟨b, o, none⟩
def env0 : Env := ⟨fun _ => (0, 0), fun _ => (.slice none 0 0, .slice none 0 0)⟩
theorem vrel_lit (rd : Rd) (g : Env) (v : Value) : VRel rd g v (.c (.lit v)) := IRel.lit v
def ArgsOk (rd : Rd) (g : Env) : List Value → List SV → Prop
  | [], [] => True
  | u :: us, x :: xs => VRel rd g u x ∧ ArgsOk rd g us xs
  | _, _ => False
theorem ArgsOk.get {rd : Rd} {g : Env} : ∀ {us : List Value} {xs : List SV}, ArgsOk rd g us xs → us.length = xs.length ∧ ∀ (i : Nat) (x : SV), xs[i]? = some x → ∃ u, us[i]? = some u ∧ VRel rd g u x
  | [], [], _ => ⟨rfl, fun i x h => by simp at h⟩
  | u :: us, y :: xs, h => by
    obtain ⟨h1, h2⟩ := h
    obtain ⟨k1, k2⟩ := h2.get
    refine ⟨by simp [k1], fun i x hx => ?_⟩
    rcases i with _ | i
    · cases hx; exact ⟨u, rfl, h1⟩
    · exact k2 i x (by simpa using hx)
/-- a law that is true -/
theorem con_true {P : Program} {f : FuncId} {args : List SV} (h : Con P f args [] (.c (.lit (.bool true))) []) {W : World} {us : List Value} (ha : ArgsOk (rdAll W) env0 us args) :
    Calls P f us.toArray W fun e w' => e = .returned (.bool true) ∧ Ext W w' := by
  obtain ⟨h1, h2⟩ := ha.get
  have nol : ∀ d (x : Res), look ([] : Hp) d = some x → False := fun d x hx => by simp [look] at hx
  have noin : ∀ g b o, ¬ InFoot g ([] : Hp) b o := by rintro g b o ⟨d, r, hd, _⟩; exact nol _ _ hd
  refine (h (rdAll W) env0 W us.toArray (fun b o v hv => hv) (by simpa using h1) (fun i x hx => by simpa using h2 i x hx) (fun d x hx => (nol d x hx).elim) (fun d d' r r' b o _ hd => (nol _ _ hd).elim) (fun b o hx => (noin _ _ _ hx).elim)).mono ?_
  rintro e w' ⟨u, g', rfl, hk, _, _, _, _, hu⟩
  have hE : Ext W w' := (hk.weak (fun b o x => noin _ _ _ x)).ext
  refine ⟨?_, hE⟩
  have := (hu (rdAll w') (by
    intro b o v hv
    obtain ⟨g, rfl⟩ := hE
    have hb := World.block_lt_of_cell? _ _ hv
    unfold rdAll
    rw [cell_plus _ _ _ _ _ hb]
    exact hv) (fun b o u _ _ hc => hc)).1
  cases this
  rfl
def wfI (k : IntKind) (n : Int) : Prop := (Lit.int k n).wf = true
def wfA (k : IntKind) (n : Nat) (l : List Int) : Prop := l.length = n ∧ ∀ z ∈ l, wfI k z
def Seg (rd : Rd) (cs : List Value) (off n : Nat) (l : List SC) : Prop := l.length = n ∧ ∀ (j : Nat) (y : SC), l[j]? = some y → ∃ u, cs[off + j]? = some u ∧ IRel rd u y
theorem Seg.append {rd : Rd} {cs : List Value} {off n m : Nat} {l l' : List SC} (h : Seg rd cs off n l) (k : Seg rd cs (off + n) m l') : Seg rd cs off (n + m) (l ++ l') := by
  refine ⟨by rw [List.length_append, h.1, k.1], fun j y hy => ?_⟩
  by_cases hj : j < l.length
  · rw [List.getElem?_append_left hj] at hy
    exact h.2 j y hy
  · rw [List.getElem?_append_right (by omega)] at hy
    obtain ⟨u, h1, h2⟩ := k.2 _ y hy
    have h3 := h.1
    refine ⟨u, ?_, h2⟩
    rw [← h1]
    congr 1
    omega

/-- a value of the type t is the shadow of an α -/
def Opens (P : Program) (t : TypeId) {α : Type} (f : α → List SC) (wf : α → Prop) : Prop :=
  ∀ (H : Type) (enc : TypeId × Value → H) (W : World) (fuel : Nat) (cs : List Value) (x : DataW H × List MemPlace), DataW.trod enc P W 0 (fun _ => true) true fuel t cs = some x → ∃ a : α, Seg (rdAll W) cs 0 cs.length (f a) ∧ wf a

theorem opens_int {P : Program} {t : TypeId} {k : IntKind} (ht : P.underlying t = some (.int k)) : Opens P t (ecI k) (wfI k) := by
  intro H enc W fuel cs x h
  obtain ⟨n, rfl, _, hw⟩ := DataW.trod_int ht h
  refine ⟨n, ⟨rfl, fun j y hy => ?_⟩, hw⟩
  rcases j with _ | j
  · simp only [ecI, List.getElem?_cons_zero, Option.some.injEq] at hy
    subst hy
    exact ⟨_, rfl, .lit _⟩
  · simp [ecI] at hy
end
section
open Go.RowKit

def okB (l : List Int) : Prop := ∀ z ∈ l, 0 ≤ z ∧ z ≤ 255
theorem okB_nil : okB [] := fun z h => by simp at h
theorem okB.append {a b : List Int} (ha : okB a) (hb : okB b) : okB (a ++ b) := fun z h => (List.mem_append.1 h).elim (ha z) (hb z)
theorem okB.get {l : List Int} (h : okB l) {i : Nat} (hi : i < l.length) : 0 ≤ l[i] ∧ l[i] ≤ 255 := h _ (List.getElem_mem hi)
theorem okB.take {l : List Int} (h : okB l) (n : Nat) : okB (l.take n) := fun z hz => h z (List.mem_of_mem_take hz)
theorem okB.drop {l : List Int} (h : okB l) (n : Nat) : okB (l.drop n) := fun z hz => h z (List.mem_of_mem_drop hz)
theorem okB.set {l : List Int} (h : okB l) (n : Nat) {v : Int} (hv : 0 ≤ v ∧ v ≤ 255) : okB (l.set n v) := fun z hz => (List.mem_or_eq_of_mem_set hz).elim (h z) (fun e => e ▸ hv)
theorem okB.getD {l : List Int} (h : okB l) (n : Nat) : 0 ≤ l.getD n 0 ∧ l.getD n 0 ≤ 255 := getD_mem (p := fun z => 0 ≤ z ∧ z ≤ 255) h (by omega) n
theorem okB_one {v : Int} (h : 0 ≤ v ∧ v ≤ 255) : okB [v] := fun z hz => by rw [List.mem_singleton.1 hz]; exact h
theorem u8_inj {a b : Int} (ha : 0 ≤ a ∧ a ≤ 255) (hb : 0 ≤ b ∧ b ≤ 255) (h : a.toNat.toUInt8 = b.toNat.toUInt8) : a = b := by
  have e1 : (a.toNat.toUInt8).toNat = a.toNat := by simp [Nat.toUInt8]; omega
  have e2 : (b.toNat.toUInt8).toNat = b.toNat := by simp [Nat.toUInt8]; omega
  rw [h] at e1
  omega
theorem u8L_inj : ∀ {a b : List Int}, okB a → okB b → u8L a = u8L b → a = b
  | [], [], _, _, _ => rfl
  | [], _ :: _, _, _, h => by simp [u8L] at h
  | _ :: _, [], _, _, h => by simp [u8L] at h
  | x :: s, y :: t, ha, hb, h => by
    simp only [u8L, List.map_cons, List.cons.injEq] at h
    rw [u8_inj (ha x (by simp)) (hb y (by simp)) h.1, u8L_inj (fun z hz => ha z (by simp [hz])) (fun z hz => hb z (by simp [hz])) h.2]
theorem u8L_beq {a b : List Int} (ha : okB a) (hb : okB b) : (u8L a == u8L b) = decide (a = b) := by
  by_cases h : a = b
  · subst h; simp
  · rw [decF h]
    exact beqF (fun q => h (u8L_inj ha hb q))
theorem i8L_ok (l : List UInt8) : okB (i8L l) := fun z hz => by
  obtain ⟨b, _, rfl⟩ := List.mem_map.1 hz
  have := b.toNat_lt
  omega
theorem i8L_length (l : List UInt8) : (i8L l).length = l.length := by simp [i8L]

theorem ishr_eq {x y : Int} (h0 : 0 ≤ y) (h1 : y < 64) : ishr .u64 x y = x / 2 ^ y.toNat := by
  unfold ishr
  rw [show min y.toNat IntKind.u64.bits = y.toNat by simp [IntKind.bits]; omega]
  exact Int.fdiv_eq_ediv_of_nonneg _ (Int.pow_nonneg (by omega))
theorem ishl_eq {x y : Int} (h0 : 0 ≤ y) (h1 : y < 64) : ishl .u64 x y = (x * 2 ^ y.toNat) % 18446744073709551616 := by
  unfold ishl
  rw [show min y.toNat IntKind.u64.bits = y.toNat by simp [IntKind.bits]; omega, wrap64]
theorem byte_eq {v : Int} {j : Int} (h0 : 0 ≤ j) (h1 : j < 64) : IntKind.wrap .u8 (ishr .u64 v j) = v / 2 ^ j.toNat % 256 := by
  rw [ishr_eq h0 h1, wrap8]
theorem ior_add {x y : Int} (i : Nat) (h0 : 0 ≤ x) (h1 : x < 2 ^ i) (h2 : 0 ≤ y) (h3 : x + y * 2 ^ i < 18446744073709551616) : ior .u64 x (y * 2 ^ i) = x + y * 2 ^ i := by
  obtain ⟨a, rfl⟩ := Int.eq_ofNat_of_zero_le h0
  obtain ⟨b, rfl⟩ := Int.eq_ofNat_of_zero_le h2
  have hp : ((b : Int) * 2 ^ i) = ((b * 2 ^ i : Nat) : Int) := by rw [Int.natCast_mul, Int.natCast_pow]; rfl
  have ha : a < 2 ^ i := by
    have e : ((2 : Int) ^ i) = ((2 ^ i : Nat) : Int) := by rw [Int.natCast_pow]; rfl
    rw [e] at h1
    omega
  rw [hp] at h3 ⊢
  have h3' : a + b * 2 ^ i < 18446744073709551616 := by omega
  unfold ior
  have e1 : (BitVec.ofInt IntKind.u64.bits (a : Int)).toNat = a := by
    rw [BitVec.toNat_ofInt]
    simp only [IntKind.bits]
    omega
  have e2 : (BitVec.ofInt IntKind.u64.bits ((b * 2 ^ i : Nat) : Int)).toNat = b * 2 ^ i := by
    rw [BitVec.toNat_ofInt]
    simp only [IntKind.bits]
    omega
  rw [BitVec.toNat_or, e1, e2, Nat.or_comm, show b * 2 ^ i ||| a = 2 ^ i * b + a by rw [Nat.two_pow_add_eq_or_of_lt ha, Nat.mul_comm]]
  rw [wrap64, Nat.mul_comm]
  omega

def beB (v : Int) (n : Nat) : List Int := (List.range n).map fun i => v / 2 ^ (8 * (n - 1 - i)) % 256
def leB (v : Int) (n : Nat) : List Int := (List.range n).map fun i => v / 2 ^ (8 * i) % 256
theorem beB_len (v : Int) (n : Nat) : (beB v n).length = n := by simp [beB]
theorem leB_len (v : Int) (n : Nat) : (leB v n).length = n := by simp [leB]
theorem beB_ok (v : Int) (n : Nat) : okB (beB v n) := fun z hz => by
  obtain ⟨i, _, rfl⟩ := List.mem_map.1 hz
  omega
theorem leB_ok (v : Int) (n : Nat) : okB (leB v n) := fun z hz => by
  obtain ⟨i, _, rfl⟩ := List.mem_map.1 hz
  omega
theorem beB_get {v : Int} {n i : Nat} (h : i < n) : (beB v n)[i]? = some (v / 2 ^ (8 * (n - 1 - i)) % 256) := by
  unfold beB
  rw [List.getElem?_map, List.getElem?_range h]; rfl
theorem leB_get {v : Int} {n i : Nat} (h : i < n) : (leB v n)[i]? = some (v / 2 ^ (8 * i) % 256) := by
  unfold leB
  rw [List.getElem?_map, List.getElem?_range h]; rfl
theorem take_snoc {α : Type} {l : List α} {k : Nat} {x : α} (h : l[k]? = some x) : l.take (k + 1) = l.take k ++ [x] := by
  rw [List.take_add_one, h]; rfl
theorem set_mid {α : Type} (a b : List α) (x y : α) {k : Nat} (h : k = a.length) : (a ++ x :: b).set k y = a ++ y :: b := by
  subst h
  rw [List.set_append_right _ _ (Nat.le_refl _), Nat.sub_self]
  rfl

/-- the number of bytes, the greatest first -/
def beN : List Int → Int := fun l => l.foldl (fun v c => v * 256 + c) 0
/-- the number of bytes, the least first -/
def leN : List Int → Int
  | [] => 0
  | x :: l => x + 256 * leN l
theorem leN_bd : ∀ {l : List Int}, okB l → 0 ≤ leN l ∧ leN l < 256 ^ l.length
  | [], _ => by simp [leN]
  | x :: l, h => by
    have h1 := h x (by simp)
    have h2 := leN_bd (l := l) (fun z hz => h z (by simp [hz]))
    simp only [leN, List.length_cons, Int.pow_succ]
    omega
theorem leN_append : ∀ (a b : List Int), leN (a ++ b) = leN a + 256 ^ a.length * leN b
  | [], b => by simp [leN]
  | x :: a, b => by
    simp only [List.cons_append, leN, leN_append a b, List.length_cons, Int.pow_succ]
    have e : (256 : Int) ^ a.length * 256 * leN b = 256 * (256 ^ a.length * leN b) := by
      rw [Int.mul_comm ((256 : Int) ^ a.length) 256, Int.mul_assoc]
    rw [e]
    omega
theorem beN_snoc (l : List Int) (x : Int) : beN (l ++ [x]) = beN l * 256 + x := by simp [beN]
theorem beN_aux : ∀ (l : List Int) (v : Int), okB l → 0 ≤ v → 0 ≤ l.foldl (fun v c => v * 256 + c) v ∧ l.foldl (fun v c => v * 256 + c) v < (v + 1) * 256 ^ l.length
  | [], v, _, h => by simp; omega
  | x :: l, v, h, hv => by
    have h1 := h x (by simp)
    obtain ⟨a, b⟩ := beN_aux l (v * 256 + x) (fun z hz => h z (by simp [hz])) (by omega)
    refine ⟨a, Int.lt_of_lt_of_le b ?_⟩
    have e : (v + 1) * (256 : Int) ^ (x :: l).length = (v + 1) * 256 * 256 ^ l.length := by
      rw [List.length_cons, Int.pow_succ, Int.mul_comm ((256 : Int) ^ l.length) 256, Int.mul_assoc]
    rw [e]
    exact Int.mul_le_mul_of_nonneg_right (by omega) (Int.pow_nonneg (by omega))
theorem beN_bd {l : List Int} (h : okB l) : 0 ≤ beN l ∧ beN l < 256 ^ l.length := by
  have := beN_aux l 0 h (by omega)
  simpa [beN] using this
theorem pow256 {m : Nat} (h : m ≤ 8) : (256 : Int) ^ m ≤ 18446744073709551616 := by
  rcases m with _ | _ | _ | _ | _ | _ | _ | _ | _ | m
  all_goals first | decide | omega
end
section
open Go.RowKit

theorem octets_append_n (a : List Int) (v : Int) (n : Nat) (hn : n ≤ 8) (ha : a.length ≤ 140737488355320) : F_octets_Append_j1 a v n = some (a ++ beB v n) := by
  unfold F_octets_Append_j1
  have e1 : IntKind.wrap .i64 ((a.length : Int) + (n : Int)) = ((a.length + n : Nat) : Int) := by rw [wi (by omega) (by omega)]; rfl
  rw [e1]
  have e2 : mkO 1 ((a.length + n : Nat) : Int) ((a.length + n : Nat) : Int) = some (a.length + n) := by
    unfold mkO
    rw [if_pos ⟨by omega, by omega, by omega, by omega⟩, Int.toNat_natCast]
  rw [e2, Option.bind_some]
  have e3 : cpL (List.replicate (a.length + n) (0 : Int)) 0 (List.length (Cut.app .whole (List.replicate (a.length + n) (0 : Int)))) (Cut.app .whole a) = a ++ (beB v n).take 0 ++ List.replicate (n - 0) 0 := by
    unfold cpL
    simp only [Cut.app, List.length_replicate, List.take_zero, List.nil_append, List.append_nil, Nat.zero_add, Nat.sub_zero]
    rw [show min a.length (a.length + n) = a.length by omega, List.take_length, List.drop_replicate, show a.length + n - a.length = n by omega]
  rw [e3]
  have hl := loop_run (step := F_octets_Append_l2 n a v) (S := fun k => ((k : Int), a ++ (beB v n).take k ++ List.replicate (n - k) 0)) n (r := a ++ beB v n) (fun k hk => by
    unfold F_octets_Append_l2
    dsimp only
    have w1 : IntKind.wrap .i64 ((n : Int) - 1) = (n : Int) - 1 := wi (by omega) (by omega)
    have w2 : IntKind.wrap .i64 ((n : Int) - 1 - (k : Int)) = ((n - 1 - k : Nat) : Int) := by rw [wi (by omega) (by omega)]; omega
    have w3 : IntKind.wrap .i64 (8 * ((n - 1 - k : Nat) : Int)) = ((8 * (n - 1 - k) : Nat) : Int) := by rw [wi (by omega) (by omega)]; omega
    have w4 : IntKind.wrap .i64 ((a.length : Int) + (k : Int)) = ((a.length + k : Nat) : Int) := by rw [wi (by omega) (by omega)]; rfl
    have hlen : (a ++ (beB v n).take k ++ List.replicate (n - k) (0 : Int)).length = a.length + n := by
      simp only [List.length_append, List.length_take, beB_len, List.length_replicate]; omega
    rw [decT (show (k : Int) < (n : Int) by omega), w1, w2, w3, w4, decT (show (0 : Int) ≤ ((8 * (n - 1 - k) : Nat) : Int) by omega)]
    simp only [cond_true, Cut.app, Nat.zero_add, Int.toNat_natCast]
    rw [idx_lt (by omega), Option.bind_some, List.getElem?_eq_getElem (by omega), Option.bind_some, wk k (by omega), byte_eq (by omega) (by omega), Int.toNat_natCast]
    congr 3
    obtain ⟨m, hm⟩ : ∃ m, n - k = m + 1 := ⟨n - k - 1, by omega⟩
    rw [hm, List.replicate_succ, set_mid _ _ _ _ (by simp only [List.length_append, List.length_take, beB_len]; omega), take_snoc (beB_get hk), show n - (k + 1) = m by omega]
    simp) (by
    unfold F_octets_Append_l2
    dsimp only
    rw [decF (show ¬ (n : Int) < (n : Int) by omega)]
    simp only [cond_false]
    rw [List.take_of_length_le (by rw [beB_len]; exact Nat.le_refl _), Nat.sub_self]
    simp)
  simp only [Int.natCast_zero] at hl
  rw [hl]
  rfl
/-- octets.Append -/
theorem octets_append (a : List Int) (v : Int) (n : Nat) (hn : n ≤ 8) (ha : a.length ≤ 140737488355320) : F_octets_Append a v n = some (a ++ beB v n) := by
  unfold F_octets_Append
  rw [decF (show ¬ (n : Int) < 0 by omega), decF (show ¬ (n : Int) > 8 by omega)]
  exact octets_append_n a v n hn ha
end
section
open Go.RowKit

theorem little_spec {l : List Int} (h : okB l) (h8 : l.length ≤ 8) : F_siphash_little l = some (leN l) := by
  unfold F_siphash_little
  have hl := loop_run (step := F_siphash_little_l1 l) (S := fun k => (leN (l.take k), (k : Int))) l.length (r := leN l) (fun k hk => by
    unfold F_siphash_little_l1
    dsimp only
    have w1 : IntKind.wrap .i64 (8 * (k : Int)) = ((8 * k : Nat) : Int) := by rw [wi (by omega) (by omega)]; omega
    have hx := h.get hk
    have hb := leN_bd (h.take k)
    rw [List.length_take, Nat.min_eq_left (by omega)] at hb
    have hb2 := leN_bd (h.take (k + 1))
    have ht : l.take (k + 1) = l.take k ++ [l[k]] := take_snoc (List.getElem?_eq_getElem hk)
    have hlk : (l.take (k + 1)).length = k + 1 := by rw [List.length_take]; omega
    have e256 : (256 : Int) ^ k = 2 ^ (8 * k) := by rw [Int.pow_mul]; rfl
    have hlt := pow256 (show k + 1 ≤ 8 by omega)
    rw [hlk] at hb2
    rw [ht, leN_append, List.length_take, Nat.min_eq_left (show k ≤ l.length by omega)] at hb2 ⊢
    simp only [leN, Int.mul_zero, Int.add_zero] at hb2 ⊢
    have hx64 : IntKind.wrap .u64 l[k] = l[k] := wu hx.1 (by omega)
    rw [decT (show (k : Int) < (l.length : Int) by omega), w1, decT (show (0 : Int) ≤ ((8 * k : Nat) : Int) by omega), idx_lt hk]
    simp only [cond_true, Option.bind_some]
    rw [wk k (by omega), hx64, ishl_eq (by omega) (by omega), Int.toNat_natCast]
    rw [e256] at hb hb2 ⊢
    have hpos : (0 : Int) ≤ l[k] * 2 ^ (8 * k) := Int.mul_nonneg hx.1 (Int.pow_nonneg (by omega))
    rw [Int.mul_comm (2 ^ (8 * k)) l[k]] at hb2 ⊢
    rw [Int.emod_eq_of_lt hpos (by omega), ior_add (8 * k) hb.1 hb.2 hx.1 (by omega)]) (by
    unfold F_siphash_little_l1
    dsimp only
    rw [decF (show ¬ (l.length : Int) < (l.length : Int) by omega)]
    simp only [cond_false, List.take_length])
  simp only [Int.natCast_zero, List.take_zero, leN] at hl
  rw [hl]
  rfl
def rotS (x : Int) (n m : Int) : Int := ior .u64 (ishl .u64 x n) (ishr .u64 x m)
theorem rotL (x : Int) : F_math_bits_RotateLeft64 x 13 = some (rotS x 13 51) ∧ F_math_bits_RotateLeft64 x 32 = some (rotS x 32 32) ∧ F_math_bits_RotateLeft64 x 16 = some (rotS x 16 48) ∧ F_math_bits_RotateLeft64 x 21 = some (rotS x 21 43) ∧ F_math_bits_RotateLeft64 x 17 = some (rotS x 17 47) := ⟨rfl, rfl, rfl, rfl, rfl⟩
theorem rotR (x : Int) : F_ref03_rot x 13 = some (rotS x 13 51) ∧ F_ref03_rot x 32 = some (rotS x 32 32) ∧ F_ref03_rot x 16 = some (rotS x 16 48) ∧ F_ref03_rot x 21 = some (rotS x 21 43) ∧ F_ref03_rot x 17 = some (rotS x 17 47) := ⟨rfl, rfl, rfl, rfl, rfl⟩
abbrev SS := S_multihopref03_state
noncomputable def roundS (s : SS) : SS := (F_ref03_state_round s).getD s
theorem round_spec (s : SS) : F_ref03_state_round s = some (roundS s) := by
  unfold roundS
  unfold F_ref03_state_round
  simp only [rotR, Option.bind_some, Option.getD_some]
def toL (s : SS) : List Int := [s.a, s.b, s.c, s.d]
theorem rounds_step (n : Int) (i : Int) (s : SS) : F_siphash_state_rounds_l1 n (i, toL s) = if i < n then some (.inl (IntKind.wrap .i64 (i + 1), toL (roundS s))) else some (.inr (toL s)) := by
  have h := round_spec s
  unfold F_ref03_state_round at h
  simp only [rotR, Option.bind_some, Option.some.injEq] at h
  rw [← h]
  unfold F_siphash_state_rounds_l1 toL
  simp only [rotL, Option.bind_some, List.getD_cons_zero, List.getD_cons_succ]
  by_cases hi : i < n
  · rw [decT hi, if_pos hi]; rfl
  · rw [decF hi, if_neg hi]; rfl
noncomputable def roundsS (s : SS) : Nat → SS
  | 0 => s
  | n + 1 => roundS (roundsS s n)
theorem rounds_spec (s : SS) (n : Nat) (hn : n ≤ 100) : F_siphash_state_rounds (toL s) n = some (toL (roundsS s n)) := by
  unfold F_siphash_state_rounds
  have hl := loop_run (step := F_siphash_state_rounds_l1 n) (S := fun k => ((k : Int), toL (roundsS s k))) n (r := toL (roundsS s n)) (fun k hk => by
    rw [rounds_step, if_pos (by omega), wk k (by omega)]; rfl) (by rw [rounds_step, if_neg (by omega)])
  simp only [Int.natCast_zero, roundsS] at hl
  rw [hl]
  rfl
noncomputable def mixS (s : SS) (m : Int) : SS := let t := roundS (roundS ⟨s.a, s.b, s.c, ixor .u64 s.d m⟩); ⟨ixor .u64 t.a m, t.b, t.c, t.d⟩
theorem mix_spec (s : SS) (m : Int) : F_siphash_state_mix (toL s) m = some (toL (mixS s m)) := by
  unfold F_siphash_state_mix
  have h := rounds_spec ⟨s.a, s.b, s.c, ixor .u64 s.d m⟩ 2 (by omega)
  simp only [toL, List.getD_cons_zero, List.getD_cons_succ] at h ⊢
  rw [show ((2 : Nat) : Int) = 2 from rfl] at h
  rw [h]
  rfl
def wordAt (b : List Int) (k : Nat) : List Int := (b.drop (8 * k)).take 8
noncomputable def wordsS (s : SS) (b : List Int) : Nat → SS
  | 0 => s
  | k + 1 => mixS (wordsS s b k) (leN (wordAt b k))
noncomputable def sumS (k b : List Int) : Int :=
  let k0 := leN (k.take 8); let k1 := leN (k.drop 8)
  let s := wordsS ⟨ixor .u64 k0 8317987319222330741, ixor .u64 k1 7237128888997146477, ixor .u64 k0 7816392313619706465, ixor .u64 k1 8387220255154660723⟩ b (b.length / 8)
  let t := mixS s (leN (b.drop (8 * (b.length / 8))) + (b.length % 256 : Nat) * 72057594037927936)
  let u := roundsS ⟨t.a, t.b, ixor .u64 t.c 255, t.d⟩ 4
  ixor .u64 (ixor .u64 (ixor .u64 u.a u.b) u.c) u.d
theorem key_lo {k : List Int} (h : k.length = 16) : arrL 8 k = k.take 8 := by
  apply List.ext_getElem?
  intro i
  unfold arrL
  rw [List.getElem?_take]
  rcases Nat.lt_or_ge i 8 with hi | hi
  · rw [if_pos hi, List.getElem?_map, List.getElem?_range hi, List.getElem?_eq_getElem (by omega)]
    simp [List.getD_eq_getElem?_getD, List.getElem?_eq_getElem (show i < k.length by omega)]
  · rw [if_neg (by omega), List.getElem?_eq_none (by simpa using hi)]
theorem key_hi {k : List Int} (h : k.length = 16) : ([k.getD 8 0, k.getD 9 0, k.getD 10 0, k.getD 11 0, k.getD 12 0, k.getD 13 0, k.getD 14 0, k.getD 15 0] : List Int) = k.drop 8 := by
  apply List.ext_getElem (by simp; omega)
  intro i h1 h2
  simp only [List.length_cons, List.length_nil] at h1
  rw [List.getElem_drop]
  have e : ∀ j, (hj : j < k.length) → k.getD j 0 = k[j] := fun j hj => getD_get hj
  rcases i with _ | _ | _ | _ | _ | _ | _ | _ | i
  all_goals first | omega | (simp only [List.getElem_cons_zero, List.getElem_cons_succ]; rw [e _ (by omega)])
theorem wordAt_ok {b : List Int} (h : okB b) (k : Nat) : okB (wordAt b k) := (h.drop _).take _
theorem wordAt_len (b : List Int) (k : Nat) : (wordAt b k).length ≤ 8 := by simp [wordAt]; omega
theorem last_bd {b : List Int} (h : okB b) : 0 ≤ leN (b.drop (8 * (b.length / 8))) ∧ leN (b.drop (8 * (b.length / 8))) < 72057594037927936 := by
  have h1 := leN_bd (h.drop (8 * (b.length / 8)))
  have h2 : (b.drop (8 * (b.length / 8))).length ≤ 7 := by simp; omega
  have h3 : (256 : Int) ^ (b.drop (8 * (b.length / 8))).length ≤ 72057594037927936 := by
    generalize (b.drop (8 * (b.length / 8))).length = m at h2
    rcases m with _ | _ | _ | _ | _ | _ | _ | _ | m
    all_goals first | decide | omega
  omega
theorem iquo8 {n : Nat} (h : n ≤ 9000000000000000000) : iquo .i64 (n : Int) 8 = ((n / 8 : Nat) : Int) := by
  unfold iquo
  rw [Int.tdiv_eq_ediv_of_nonneg (by omega), wi (by omega) (by omega)]
  omega
theorem prog_sum {k b : List Int} (hk : k.length = 16) (ok : okB k) (ob : okB b) (hb : b.length ≤ 4000000000000000000) : F_siphash_Sum k b = some (sumS k b) := by
  unfold F_siphash_Sum
  rw [key_lo hk, key_hi hk, little_spec (ok.take 8) (by simp; omega), Option.bind_some, little_spec (ok.drop 8) (by simp; omega), Option.bind_some]
  generalize hs0 : (S_multihopref03_state.mk (ixor .u64 (leN (k.take 8)) 8317987319222330741) (ixor .u64 (leN (k.drop 8)) 7237128888997146477) (ixor .u64 (leN (k.take 8)) 7816392313619706465) (ixor .u64 (leN (k.drop 8)) 8387220255154660723)) = s0
  have hL : ([ixor .u64 (leN (k.take 8)) 8317987319222330741, ixor .u64 (leN (k.drop 8)) 7237128888997146477, ixor .u64 (leN (k.take 8)) 7816392313619706465, ixor .u64 (leN (k.drop 8)) 8387220255154660723] : List Int) = toL s0 := by rw [← hs0]; rfl
  rw [hL]
  have hl := loop_run (step := F_siphash_Sum_l1 b) (S := fun j => ((j : Int), toL (wordsS s0 b j))) (b.length / 8) (r := toL (wordsS s0 b (b.length / 8))) (fun j hj => by
    unfold F_siphash_Sum_l1
    dsimp only
    have w1 : IntKind.wrap .i64 (8 * (j : Int)) = ((8 * j : Nat) : Int) := by rw [wi (by omega) (by omega)]; omega
    have w2 : IntKind.wrap .i64 (((8 * j : Nat) : Int) + 8) = ((8 * j + 8 : Nat) : Int) := by rw [wi (by omega) (by omega)]; omega
    rw [iquo8 (by omega), decT (show (j : Int) < ((b.length / 8 : Nat) : Int) by omega), w1, w2, subO_some (by omega) (by omega) (by omega)]
    simp only [cond_true, Option.bind_some, Int.toNat_natCast]
    rw [show (b.take (8 * j + 8)).drop (8 * j) = wordAt b j by rw [wordAt, List.drop_take]; congr 1; omega, little_spec (wordAt_ok ob j) (wordAt_len b j), Option.bind_some, mix_spec, Option.bind_some, wk j (by omega)]
    rfl) (by
    unfold F_siphash_Sum_l1
    dsimp only
    rw [iquo8 (by omega), decF (show ¬ ((b.length / 8 : Nat) : Int) < ((b.length / 8 : Nat) : Int) by omega)]
    simp only [cond_false])
  simp only [Int.natCast_zero, wordsS] at hl
  rw [hl, Option.bind_some, iquo8 (by omega), wi (by omega) (by omega), show (8 : Int) * ((b.length / 8 : Nat) : Int) = ((8 * (b.length / 8) : Nat) : Int) by omega, subO_some (by omega) (by omega) (by omega), Option.bind_some]
  simp only [Int.toNat_natCast, List.take_length]
  have hbd := last_bd ob
  rw [little_spec (ob.drop _) (by simp; omega), Option.bind_some]
  have hor : ior .u64 (leN (b.drop (8 * (b.length / 8)))) (ishl .u64 (IntKind.wrap .u64 (b.length : Int)) 56) = leN (b.drop (8 * (b.length / 8))) + (b.length % 256 : Nat) * 72057594037927936 := by
    rw [ishl_eq (by omega) (by omega), wu (by omega) (by omega)]
    have e : (2 : Int) ^ (56 : Int).toNat = 72057594037927936 := by decide
    have e2 : (72057594037927936 : Int) = 2 ^ 56 := by decide
    rw [e, show (b.length : Int) * 72057594037927936 % 18446744073709551616 = ((b.length % 256 : Nat) : Int) * 72057594037927936 by omega, e2]
    exact ior_add 56 hbd.1 (by omega) (by omega) (by rw [← e2]; omega)
  rw [hor, mix_spec, Option.bind_some]
  have hr := rounds_spec (S_multihopref03_state.mk (mixS (wordsS s0 b (b.length / 8)) (leN (b.drop (8 * (b.length / 8))) + (b.length % 256 : Nat) * 72057594037927936)).a (mixS (wordsS s0 b (b.length / 8)) (leN (b.drop (8 * (b.length / 8))) + (b.length % 256 : Nat) * 72057594037927936)).b (ixor .u64 (mixS (wordsS s0 b (b.length / 8)) (leN (b.drop (8 * (b.length / 8))) + (b.length % 256 : Nat) * 72057594037927936)).c 255) (mixS (wordsS s0 b (b.length / 8)) (leN (b.drop (8 * (b.length / 8))) + (b.length % 256 : Nat) * 72057594037927936)).d) 4 (by omega)
  simp only [toL, List.getD_cons_zero, List.getD_cons_succ] at hr ⊢
  rw [show ((4 : Nat) : Int) = 4 from rfl] at hr
  rw [hr, Option.bind_some]
  simp only [List.getD_cons_zero, List.getD_cons_succ, sumS, hs0]
theorem prog_tag {k b : List Int} (hk : k.length = 16) (ok : okB k) (ob : okB b) (hb : b.length ≤ 4000000000000000000) (n : Nat) (h1 : 1 ≤ n) (h8 : n ≤ 8) : F_siphash_Tag k b n = some (leB (sumS k b) n, true) := by
  unfold F_siphash_Tag
  rw [decF (show ¬ (n : Int) < 1 by omega), decF (show ¬ (n : Int) > 8 by omega), prog_sum hk ok ob hb]
  simp only [cond_false, Option.bind_some]
  have e2 : mkO 1 (n : Int) (n : Int) = some n := by
    unfold mkO
    rw [if_pos ⟨by omega, by omega, by omega, by omega⟩, Int.toNat_natCast]
  rw [e2, Option.bind_some]
  have hl := loop_run (step := F_siphash_Tag_l1 n (sumS k b)) (S := fun j => ((j : Int), (leB (sumS k b) n).take j ++ List.replicate (n - j) 0)) n (r := leB (sumS k b) n) (fun j hj => by
    unfold F_siphash_Tag_l1
    dsimp only
    have w1 : IntKind.wrap .i64 (8 * (j : Int)) = ((8 * j : Nat) : Int) := by rw [wi (by omega) (by omega)]; omega
    have hlen : ((leB (sumS k b) n).take j ++ List.replicate (n - j) (0 : Int)).length = n := by
      simp only [List.length_append, List.length_take, leB_len, List.length_replicate]; omega
    rw [decT (show (j : Int) < (n : Int) by omega), w1, decT (show (0 : Int) ≤ ((8 * j : Nat) : Int) by omega)]
    simp only [cond_true, Cut.app, Nat.zero_add, Int.toNat_natCast]
    rw [idx_lt (by omega), Option.bind_some, List.getElem?_eq_getElem (by omega), Option.bind_some, wk j (by omega), byte_eq (by omega) (by omega), Int.toNat_natCast]
    congr 3
    obtain ⟨m, hm⟩ : ∃ m, n - j = m + 1 := ⟨n - j - 1, by omega⟩
    rw [hm, List.replicate_succ, set_mid _ _ _ _ (by simp only [List.length_take, leB_len]; omega), take_snoc (leB_get hj), show n - (j + 1) = m by omega]
    simp) (by
    unfold F_siphash_Tag_l1
    dsimp only
    rw [decF (show ¬ (n : Int) < (n : Int) by omega)]
    simp only [cond_false]
    rw [List.take_of_length_le (by rw [leB_len]; exact Nat.le_refl _), Nat.sub_self]
    simp)
  simp only [Int.natCast_zero, List.take_zero, List.nil_append, Nat.sub_zero] at hl
  rw [hl]
  rfl
end
section
open Go.RowKit

noncomputable def derData (lab : List UInt8) (n : Int) (i : Int) : List Int := i8L lab ++ [0] ++ beB n 8 ++ [i]
noncomputable def deriveS (k : List Int) (lab : List UInt8) (n : Int) : List Int := leB (sumS k (derData lab n 0)) 8 ++ leB (sumS k (derData lab n 1)) 8
theorem deriveS_len (k : List Int) (lab : List UInt8) (n : Int) : (deriveS k lab n).length = 16 := by simp [deriveS, leB_len]
theorem deriveS_ok (k : List Int) (lab : List UInt8) (n : Int) : okB (deriveS k lab n) := (leB_ok _ _).append (leB_ok _ _)
theorem derData_ok (lab : List UInt8) (n : Int) {i : Int} (h : 0 ≤ i ∧ i ≤ 255) : okB (derData lab n i) := (((i8L_ok lab).append (okB_one (by omega))).append (beB_ok n 8)).append (okB_one h)
theorem derData_len (lab : List UInt8) (n i : Int) : (derData lab n i).length = lab.length + 10 := by simp [derData, i8L_length, beB_len]
theorem setA_mid {P : List Int} {v : Int} {m n : Nat} (h : P.length + (m + 1) = n) : setA n (P ++ List.replicate (m + 1) 0) P.length v = P ++ [v] ++ List.replicate m 0 := by
  rw [setA_set (by simp; omega), List.replicate_succ, set_mid _ _ _ _ rfl]
  simp
theorem der_prog_inner (c : Nat) (hc : c ≤ 1) (P q : List Int) (hP : P.length = 8 * c) (m : Nat) (hm : 8 * c + 8 + m = 16) (v : Int) : loopO (F_siphash_Derive_l2 ((c : Int), q) v) (0, P ++ List.replicate (8 + m) 0) = some (P ++ leB v 8 ++ List.replicate m 0) := by
  have hl := loop_run (step := F_siphash_Derive_l2 ((c : Int), q) v) (S := fun j => ((j : Int), P ++ (leB v 8).take j ++ List.replicate (8 - j + m) 0)) 8 (r := P ++ leB v 8 ++ List.replicate m 0) (fun j hj => by
    unfold F_siphash_Derive_l2
    dsimp only
    have w1 : IntKind.wrap .i64 (8 * (j : Int)) = ((8 * j : Nat) : Int) := by rw [wi (by omega) (by omega)]; omega
    have w2 : IntKind.wrap .i64 (8 * (c : Int)) = ((8 * c : Nat) : Int) := by rw [wi (by omega) (by omega)]; omega
    have w3 : IntKind.wrap .i64 (((8 * c : Nat) : Int) + (j : Int)) = ((8 * c + j : Nat) : Int) := by rw [wi (by omega) (by omega)]; omega
    rw [decT (show (j : Int) < 8 by omega), w1, w2, w3, decT (show (0 : Int) ≤ ((8 * j : Nat) : Int) by omega), decT (show (0 : Int) ≤ ((8 * c + j : Nat) : Int) ∧ ((8 * c + j : Nat) : Int) < (16 : Int) by omega)]
    simp only [cond_true, Int.toNat_natCast]
    rw [byte_eq (by omega) (by omega), Int.toNat_natCast, wk j (by omega)]
    congr 3
    have hl8 : (P ++ (leB v 8).take j).length = 8 * c + j := by simp only [List.length_append, List.length_take, leB_len]; omega
    rw [show 8 - j + m = (8 - (j + 1) + m) + 1 by omega, ← hl8, setA_mid (by rw [hl8]; omega), take_snoc (leB_get hj)]
    simp) (by
    unfold F_siphash_Derive_l2
    dsimp only
    rw [decF (show ¬ ((8 : Nat) : Int) < 8 by omega)]
    simp only [cond_false]
    rw [List.take_of_length_le (by rw [leB_len]; exact Nat.le_refl _), Nat.sub_self, Nat.zero_add])
  simp only [Int.natCast_zero, List.take_zero, List.append_nil, Nat.sub_zero] at hl
  exact hl
theorem beB_1 {v : Int} (h : 0 ≤ v) (h2 : v ≤ 255) : beB v 1 = [v] := by
  simp [beB]; omega
theorem prog_derive {k : List Int} (hk : k.length = 16) (ok : okB k) (lab : List UInt8) (hlab : lab.length ≤ 140737488351232) (n : Int) : F_siphash_Derive k lab n = some (deriveS k lab n) := by
  unfold F_siphash_Derive
  rw [decT (show lab.length ≤ maxLen by unfold maxLen; omega)]
  simp only [cond_true]
  have a1 := octets_append (i8L lab) 0 1 (by omega) (by rw [i8L_length]; omega)
  rw [show ((1 : Nat) : Int) = 1 from rfl] at a1
  rw [a1, Option.bind_some, beB_1 (by omega) (by omega)]
  have a2 := octets_append (i8L lab ++ [0]) n 8 (by omega) (by simp [i8L_length]; omega)
  rw [show ((8 : Nat) : Int) = 8 from rfl] at a2
  rw [a2, Option.bind_some]
  have step : ∀ (c : Nat) (_ : c ≤ 1) (P : List Int) (_ : P.length = 8 * c) (m : Nat) (_ : 8 * c + 8 + m = 16), F_siphash_Derive_l1 (i8L lab ++ [0] ++ beB n 8) k ((c : Int), P ++ List.replicate (8 + m) 0) = some (.inl (((c + 1 : Nat) : Int), P ++ leB (sumS k (derData lab n c)) 8 ++ List.replicate m 0)) := by
    intro c hc P hP m hm
    unfold F_siphash_Derive_l1
    dsimp only
    rw [decT (show (c : Int) < 2 by omega), wu (by omega) (by omega)]
    have a3 := octets_append (i8L lab ++ [0] ++ beB n 8) c 1 (by omega) (by simp [i8L_length, beB_len]; omega)
    rw [show ((1 : Nat) : Int) = 1 from rfl, beB_1 (by omega) (by omega)] at a3
    simp only [cond_true]
    rw [a3, Option.bind_some, show i8L lab ++ [0] ++ beB n 8 ++ [(c : Int)] = derData lab n c from rfl, prog_sum hk ok (derData_ok lab n (i := (c : Int)) (by omega)) (by rw [derData_len]; omega), Option.bind_some]
    rw [der_prog_inner c hc P _ hP m hm, Option.bind_some, wk c (by omega)]
  have s0 := step 0 (by omega) [] rfl 8 (by omega)
  have s1 := step 1 (by omega) (leB (sumS k (derData lab n 0)) 8) (by rw [leB_len]) 0 (by omega)
  have h0 : loopO (F_siphash_Derive_l1 (i8L lab ++ [0] ++ beB n 8) k) (0, [0, 0, 0, 0, 0, 0, 0, 0, 0, 0, 0, 0, 0, 0, 0, 0]) = some (deriveS k lab n) := by
    rw [loop_next (s' := (((0 + 1 : Nat) : Int), leB (sumS k (derData lab n 0)) 8 ++ List.replicate 8 0)) (by rw [show ([0, 0, 0, 0, 0, 0, 0, 0, 0, 0, 0, 0, 0, 0, 0, 0] : List Int) = [] ++ List.replicate (8 + 8) 0 from rfl]; exact s0), loop_next s1, loop_done]
    unfold F_siphash_Derive_l1
    dsimp only
    rw [decF (by omega)]
    simp [deriveS]
  rw [h0]
  rfl
end
section
open Go.RowKit

def labS : List UInt8 := [115, 101, 116, 116, 105, 110, 103, 115]
noncomputable def tagS (k : List Int) (v : Int) (d : List Int) : List Int := leB (sumS (deriveS k labS (IntKind.wrap .u64 v)) (beB (IntKind.wrap .u64 v) 4 ++ d)) 8
theorem tagS_len (k : List Int) (v : Int) (d : List Int) : (tagS k v d).length = 8 := leB_len _ _
theorem tagS_ok (k : List Int) (v : Int) (d : List Int) : okB (tagS k v d) := leB_ok _ _
theorem cpA_full {m : Nat} {l l2 : List Int} (h : l2.length = m) : cpA m l l2 = l2 := by
  apply List.ext_getElem?
  intro i
  rcases Nat.lt_or_ge i m with hi | hi
  · unfold cpA
    rw [List.getElem?_map, List.getElem?_range hi]
    simp only [Option.map_some]
    rw [if_pos (by omega), List.getElem?_eq_getElem (by omega), getD_get (by omega)]
  · rw [List.getElem?_eq_none (by simp [cpA]; omega), List.getElem?_eq_none (by omega)]
theorem prog_mtag {k : List Int} (hk : k.length = 16) (ok : okB k) (v : Int) {d : List Int} (od : okB d) (hd : d.length ≤ 100000000000) : F_management_tag k v d = some (tagS k v d) := by
  unfold F_management_tag
  rw [show ([115, 101, 116, 116, 105, 110, 103, 115] : List UInt8) = labS from rfl, prog_derive hk ok labS (by decide), Option.bind_some]
  have a2 := octets_append [] (IntKind.wrap .u64 v) 4 (by omega) (by simp)
  rw [show ((4 : Nat) : Int) = 4 from rfl, List.nil_append] at a2
  rw [a2, Option.bind_some]
  simp only [Cut.app]
  rw [appO_some (by simp [beB_len]; omega) (by simp [beB_len]; omega), Option.bind_some]
  have a3 := prog_tag (deriveS_len k labS (IntKind.wrap .u64 v)) (deriveS_ok _ _ _) ((beB_ok (IntKind.wrap .u64 v) 4).append od) (by simp [beB_len]; omega) 8 (by omega) (by omega)
  rw [show ((8 : Nat) : Int) = 8 from rfl] at a3
  rw [a3, Option.bind_some, cpA_full (leB_len _ _)]
  rfl
structure wfS (s : S_Settings) : Prop where
  data : okB s.Data
  tag : okB s.Tag
  len : s.Tag.length = 8
  small : s.Data.length ≤ 100000000000
noncomputable def validS (s : S_Settings) : Bool := (F_ref39_Valid s).getD false
theorem ref_valid (s : S_Settings) : F_ref39_Valid s = some (validS s) := by
  unfold validS
  unfold F_ref39_Valid
  grind
theorem prog_valid (s : S_Settings) : F_management_Valid s = some (validS s) := by
  have h := ref_valid s
  rw [← h]
  unfold F_management_Valid F_ref39_Valid F_management_validNumber F_management_noTag
  grind
noncomputable def checkS (k : List Int) (s : S_Settings) : Bool := validS s && (s.Version != 0) && arrEq 8 s.Tag (tagS k s.Version s.Data)
theorem prog_check {k : List Int} (hk : k.length = 16) (ok : okB k) {s : S_Settings} (h : wfS s) : F_management_Check k s = some (checkS k s) := by
  unfold F_management_Check checkS
  rw [prog_valid, Option.bind_some, prog_mtag hk ok s.Version h.data h.small]
  grind
theorem copy_nil {d : List Int} (hd : d.length ≤ 100000000000) : appO 1 ([] : List Int) (Cut.app .whole d) = some d := by
  simp only [Cut.app]
  rw [appO_some (by simp; omega) (by simp; omega), List.nil_append]
def emptyS : S_Settings := ⟨0, [], [0, 0, 0, 0, 0, 0, 0, 0]⟩
noncomputable def signS (k : List Int) (v : Int) (d : List Int) : S_Settings × Int := if v < 1 ∨ v > 1073741824 then (emptyS, 2) else if d.length > 64 then (emptyS, 3) else (⟨v, d, tagS k v d⟩, 0)
theorem prog_sign {k : List Int} (hk : k.length = 16) (ok : okB k) (v : Int) {d : List Int} (od : okB d) (hd : d.length ≤ 100000000000) : F_management_Sign k v d = some (signS k v d) := by
  unfold F_management_Sign signS
  rw [prog_mtag hk ok v od hd]
  simp only [copy_nil hd, Option.bind_some]
  unfold emptyS
  grind
noncomputable def takeS (own : S_Settings) (k : List Int) (s : S_Settings) : S_Settings × Int := if validS own = false ∨ validS s = false then (emptyS, 1) else if s.Version ≤ own.Version then (emptyS, 16) else if checkS k s then (s, 0) else (emptyS, 12)
theorem prog_take (own : S_Settings) {k : List Int} (hk : k.length = 16) (ok : okB k) {s : S_Settings} (h : wfS s) : F_management_Take own k s = some (takeS own k s) := by
  obtain ⟨v, d, g⟩ := s
  unfold F_management_Take takeS
  rw [prog_valid, prog_valid, prog_check hk ok h]
  simp only [copy_nil h.small, Option.bind_some]
  unfold emptyS
  grind
end
section
open Go.RowKit

structure TapeOk (t : S_multihopmade_Tape) : Prop where
  at0 : 0 ≤ t.at_
  at1 : t.at_ ≤ t.l.length
  len : t.l.length ≤ 400
theorem new_spec (l : List Int) : ∃ t, F_made_New l = some t ∧ TapeOk t := by
  unfold F_made_New F_made_New_j1
  by_cases h : (l.length : Int) > 400
  · rw [decT h, subO_some (by omega) (by omega) (by omega)]
    exact ⟨_, rfl, by simp, by simp, by simp; omega⟩
  · rw [decF h]
    exact ⟨_, rfl, by simp, by simp, by simp; omega⟩
theorem rem_spec (x n : Int) (h1 : 1 ≤ n) (h2 : n ≤ 4611686018427387904) : -4611686018427387904 < Int.tmod x n ∧ Int.tmod x n < n ∧ -n < Int.tmod x n := by
  have a := Int.tmod_lt_of_pos x (show 0 < n by omega)
  have b := Int.lt_tmod_of_pos x (show 0 < n by omega)
  omega
theorem next_spec {t : S_multihopmade_Tape} (h : TapeOk t) (n : Int) (h1 : 1 ≤ n) (h2 : n ≤ 4611686018427387904) : ∃ v t', F_made_Tape_Next t n = some (v, t') ∧ 0 ≤ v ∧ v < n ∧ TapeOk t' := by
  unfold F_made_Tape_Next F_made_Tape_Next_j1
  have a0 := h.at0
  have a1 := h.at1
  have a2 := h.len
  by_cases hc : t.at_ ≥ (t.l.length : Int)
  · rw [decT hc]
    exact ⟨0, t, rfl, by omega, by omega, h⟩
  · rw [decF hc, idx_int a0 (by omega)]
    simp only [cond_false, Option.bind_some, show decide (n ≠ 0) = true by simp; omega, cond_true]
    obtain ⟨r1, r2, r3⟩ := rem_spec (t.l[t.at_.toNat]'(by omega)) n h1 h2
    generalize Int.tmod (t.l[t.at_.toNat]'(by omega)) n = q at *
    have ew : IntKind.wrap .i64 (t.at_ + 1) = t.at_ + 1 := wi (by omega) (by omega)
    have hok : TapeOk ⟨t.l, t.at_ + 1⟩ := ⟨by dsimp only; omega, by dsimp only; omega, h.len⟩
    rw [ew]
    by_cases hq : q < 0
    · rw [decT hq, wi (by omega) (by omega)]
      exact ⟨q + n, _, rfl, by omega, by omega, hok⟩
    · rw [decF hq]
      exact ⟨q, _, rfl, by omega, by omega, hok⟩
end
section
open Go.RowKit

theorem bytes_spec {t : S_multihopmade_Tape} (h : TapeOk t) (n : Nat) (hn : n ≤ 1000000) : ∃ l t', F_made_Tape_Bytes t n = some (l, t') ∧ okB l ∧ l.length ≤ n ∧ TapeOk t' := by
  unfold F_made_Tape_Bytes
  rw [show IntKind.wrap .i64 ((n : Int) + 1) = ((n + 1 : Nat) : Int) by rw [wi (by omega) (by omega)]; rfl]
  obtain ⟨v, t1, e1, h0, h1, k1⟩ := next_spec h ((n + 1 : Nat) : Int) (by omega) (by omega)
  rw [e1, Option.bind_some]
  have e2 : mkO 1 v v = some v.toNat := by
    unfold mkO
    rw [if_pos ⟨by omega, by omega, by omega, by omega⟩]
  dsimp only
  rw [e2, Option.bind_some]
  obtain ⟨r, hr, q⟩ := loop_inv (step := F_made_Tape_Bytes_l1) (fun s => 0 ≤ s.1 ∧ s.1 ≤ v ∧ TapeOk s.2.1 ∧ okB s.2.2 ∧ s.2.2.length = v.toNat) (fun r => TapeOk r.1 ∧ okB r.2 ∧ r.2.length = v.toNat) (fun s => (v - s.1).toNat) (by
    rintro ⟨i, t2, l⟩ ⟨a0, a1, a2, a3, a4⟩
    dsimp only at a0 a1 a2 a3 a4
    unfold F_made_Tape_Bytes_l1
    dsimp only
    by_cases hi : i < (l.length : Int)
    · left
      obtain ⟨w, t3, e3, b0, b1, k3⟩ := next_spec a2 256 (by omega) (by omega)
      rw [decT hi, e3]
      simp only [cond_true, Option.bind_some, Cut.app, Nat.zero_add]
      rw [idx_int a0 hi, Option.bind_some, List.getElem?_eq_getElem (by omega), Option.bind_some, wi (by omega) (by omega), wu8 (by omega) (by omega)]
      refine ⟨_, rfl, ⟨by dsimp only; omega, by dsimp only; omega, k3, a3.set _ (by omega), by simp only [List.length_set]; exact a4⟩, by dsimp only; omega⟩
    · right
      rw [decF hi]
      exact ⟨_, rfl, a2, a3, a4⟩) (0, t1, List.replicate v.toNat 0) ⟨by dsimp only; omega, h0, k1, fun z hz => by rw [(List.mem_replicate.1 hz).2]; omega, by simp⟩
  rw [hr, Option.bind_some]
  exact ⟨_, _, rfl, q.2.1, by rw [q.2.2]; omega, q.1⟩
end
section
open Go.RowKit
theorem mod_spec (x n : Int) (h1 : 1 ≤ n) (h2 : n ≤ 4611686018427387904) : ∃ v, F_made_Mod x n = some v ∧ 0 ≤ v ∧ v < n := by
  unfold F_made_Mod F_made_Mod_j1
  obtain ⟨r1, r2, r3⟩ := rem_spec x n h1 h2
  generalize Int.tmod x n = q at *
  rw [show decide (n ≠ 0) = true by simp; omega]
  by_cases hq : q < 0
  · rw [decT hq, wi (by omega) (by omega)]
    exact ⟨q + n, rfl, by omega, by omega⟩
  · rw [decF hq]
    exact ⟨q, rfl, by omega, by omega⟩
end
section
open Go.RowKit

theorem keyOk {z : Int} (h : 0 ≤ z ∧ z ≤ 255) : okB [z, 0, 0, 0, 0, 0, 0, 0, 0, 0, 0, 0, 0, 0, 0, 0] := fun y hy => by simp at hy; omega
theorem report4 : F_management_Report ([] : List S_Diagnostic) (S_Diagnostic.mk 4 5 ([] : List Int)) = some ([S_Diagnostic.mk 4 5 []], 0) := by
  unfold F_management_Report F_management_Report_j1 F_management_ValidReports F_management_union F_management_validNumber
  have e1 : loopO (F_management_ValidReports_l1 []) (0, 0) = some (.inl ()) := loop_done rfl
  have e2 : loopO F_management_union_l1 (([] : List S_Diagnostic), [S_Diagnostic.mk 4 5 []], ([] : List S_Diagnostic)) = some [S_Diagnostic.mk 4 5 []] := by
    rw [loop_next (s' := (([] : List S_Diagnostic), [], [S_Diagnostic.mk 4 5 []])) rfl]
    exact loop_done rfl
  simp only [List.length_nil, Int.natCast_zero, e1, e2]
  rfl
theorem sign_ok {k : List Int} {v : Int} {d : List Int} (h1 : 1 ≤ v) (h2 : v ≤ 1073741824) (h3 : d.length ≤ 64) : signS k v d = (⟨v, d, tagS k v d⟩, 0) := by
  unfold signS
  rw [if_neg (by omega), if_neg (by omega)]
theorem valid_of {s : S_Settings} (h1 : 1 ≤ s.Version) (h2 : s.Version ≤ 1073741824) (h3 : s.Data.length ≤ 64) : validS s = true := by
  have h := ref_valid s
  unfold F_ref39_Valid at h
  grind
theorem check_signed {k : List Int} {v : Int} {d : List Int} (h1 : 1 ≤ v) (h2 : v ≤ 1073741824) (h3 : d.length ≤ 64) : checkS k ⟨v, d, tagS k v d⟩ = true := by
  unfold checkS
  rw [valid_of h1 h2 h3, arrEq_eq (tagS_len _ _ _) (tagS_len _ _ _)]
  simp
  omega
theorem known_true : F_law39_known = some true := by
  unfold F_law39_known
  have hk : ([1, 0, 0, 0, 0, 0, 0, 0, 0, 0, 0, 0, 0, 0, 0, 0] : List Int).length = 16 := rfl
  have ok := keyOk (z := 1) (by omega)
  have o7 : okB [7] := okB_one (by omega)
  rw [prog_sign hk ok 3 o7 (by simp), sign_ok (by omega) (by omega) (by simp), Option.bind_some]
  generalize ht : tagS [1, 0, 0, 0, 0, 0, 0, 0, 0, 0, 0, 0, 0, 0, 0, 0] 3 [7] = t
  have hw : wfS ⟨3, [7], t⟩ := by rw [← ht]; exact ⟨o7, tagS_ok _ _ _, tagS_len _ _ _, by simp⟩
  have hc : checkS [1, 0, 0, 0, 0, 0, 0, 0, 0, 0, 0, 0, 0, 0, 0, 0] ⟨3, [7], t⟩ = true := by rw [← ht]; exact check_signed (by omega) (by omega) (by simp)
  have v1 : validS (S_Settings.mk 3 [7] t) = true := valid_of (by simp) (by simp) (by simp)
  have v0 : validS (S_Settings.mk 0 ([] : List Int) [0, 0, 0, 0, 0, 0, 0, 0]) = true := by
    have h := ref_valid (S_Settings.mk 0 ([] : List Int) [0, 0, 0, 0, 0, 0, 0, 0])
    have e : F_ref39_Valid (S_Settings.mk 0 ([] : List Int) [0, 0, 0, 0, 0, 0, 0, 0]) = some true := rfl
    rw [e] at h
    exact (Option.some.inj h).symm
  dsimp only
  rw [prog_take _ hk ok hw, Option.bind_some]
  have e1 : takeS (S_Settings.mk 0 ([] : List Int) [0, 0, 0, 0, 0, 0, 0, 0]) [1, 0, 0, 0, 0, 0, 0, 0, 0, 0, 0, 0, 0, 0, 0, 0] ⟨3, [7], t⟩ = (⟨3, [7], t⟩, 0) := by
    unfold takeS
    rw [v0, v1, hc]; simp
  rw [e1]
  dsimp only
  rw [prog_take _ hk ok hw, Option.bind_some]
  have e2 : takeS ⟨3, [7], t⟩ [1, 0, 0, 0, 0, 0, 0, 0, 0, 0, 0, 0, 0, 0, 0, 0] ⟨3, [7], t⟩ = (emptyS, 16) := by
    unfold takeS
    rw [v1]; simp
  rw [e2, report4, Option.bind_some, prog_check hk ok hw, hc]
  rfl
end
section
open Go.RowKit

abbrev DR := S_Diagnostic
structure wfRc (d : DR) : Prop where
  node : 0 ≤ d.Node
  data : okB d.Data
def pAt (l : List DR) (k : Nat) : Bool := match l[k]? with
  | some d => (d.Node != 0) && decide (d.Data.length ≤ 64) && decide (0 ≤ d.Number ∧ d.Number ≤ 1073741824) && (match k with
    | 0 => true
    | j + 1 => match l[j]? with
      | some e => decide (e.Node < d.Node)
      | none => true)
  | none => true
def validR (l : List DR) : Bool := decide (l.length ≤ 64) && decide (∀ k, k < l.length → pAt l k = true)
def lastOf (l : List DR) : Nat → Int
  | 0 => 0
  | k + 1 => match l[k]? with
    | some e => e.Node
    | none => 0
theorem prog_validR {l : List DR} (h : ∀ d ∈ l, wfRc d) : F_management_ValidReports l = some (validR l) := by
  unfold F_management_ValidReports validR
  by_cases hl : l.length > 64
  · rw [decT (show (l.length : Int) > 64 by omega), decF (show ¬ l.length ≤ 64 by omega)]; rfl
  rw [decF (show ¬ (l.length : Int) > 64 by omega), decT (show l.length ≤ 64 by omega)]
  have hl' := loop_all (step := F_management_ValidReports_l1 l) (S := fun k => (lastOf l k, (k : Int))) l.length (pAt l) (rt := .inl ()) (rf := .inr false) (fun k hk hp => by
    unfold F_management_ValidReports_l1 F_management_validNumber
    dsimp only
    rw [decT (show (k : Int) < (l.length : Int) by omega), idx_lt hk, wk k (by omega)]
    unfold pAt at hp
    rw [List.getElem?_eq_getElem hk] at hp
    have hn := (h _ (List.getElem_mem hk)).node
    rcases k with _ | k
    · simp only [lastOf, List.getElem?_eq_getElem hk]
      grind
    · have hk2 : k < l.length := by omega
      have hn2 := (h _ (List.getElem_mem hk2)).node
      simp only [lastOf, List.getElem?_eq_getElem hk, List.getElem?_eq_getElem hk2] at hp ⊢
      grind) (fun k hk hp => by
    unfold F_management_ValidReports_l1 F_management_validNumber
    dsimp only
    rw [decT (show (k : Int) < (l.length : Int) by omega), idx_lt hk]
    unfold pAt at hp
    rw [List.getElem?_eq_getElem hk] at hp
    have hn := (h _ (List.getElem_mem hk)).node
    rcases k with _ | k
    · simp only [lastOf]
      grind
    · have hk2 : k < l.length := by omega
      have hn2 := (h _ (List.getElem_mem hk2)).node
      simp only [lastOf, List.getElem?_eq_getElem hk2] at hp ⊢
      grind) (by
    unfold F_management_ValidReports_l1
    dsimp only
    rw [decF (show ¬ (l.length : Int) < (l.length : Int) by omega)]
    rfl)
  simp only [lastOf, Int.natCast_zero] at hl'
  simp only [cond_false, Bool.true_and]
  rw [hl', Option.bind_some]
  by_cases hp : ∀ k, k < l.length → pAt l k = true
  · rw [if_pos hp, decT hp]; rfl
  · rw [if_neg hp, decF hp]; rfl
theorem ref_validR {l : List DR} : F_ref39_ValidReports l = some (validR l) := by
  unfold F_ref39_ValidReports validR
  by_cases hl : l.length > 64
  · rw [decT (show (l.length : Int) > 64 by omega), decF (show ¬ l.length ≤ 64 by omega)]; rfl
  rw [decF (show ¬ (l.length : Int) > 64 by omega), decT (show l.length ≤ 64 by omega)]
  have hl' := loop_all (step := F_ref39_ValidReports_l1 l) (S := fun k => (k : Int)) l.length (pAt l) (rt := .inl ()) (rf := .inr false) (fun k hk hp => by
    unfold F_ref39_ValidReports_l1 F_ref39_validReport
    rw [decT (show (k : Int) < (l.length : Int) by omega), idx_lt hk, wk k (by omega)]
    unfold pAt at hp
    rw [List.getElem?_eq_getElem hk] at hp
    rcases k with _ | k
    · grind
    · have hk2 : k < l.length := by omega
      rw [wi (by omega) (by omega), show ((k + 1 : Nat) : Int) - 1 = (k : Int) by omega, idx_lt hk2]
      simp only [List.getElem?_eq_getElem hk2] at hp ⊢
      grind) (fun k hk hp => by
    unfold F_ref39_ValidReports_l1 F_ref39_validReport
    rw [decT (show (k : Int) < (l.length : Int) by omega), idx_lt hk]
    unfold pAt at hp
    rw [List.getElem?_eq_getElem hk] at hp
    rcases k with _ | k
    · grind
    · have hk2 : k < l.length := by omega
      rw [wi (x := ((k + 1 : Nat) : Int) - 1) (by omega) (by omega), show ((k + 1 : Nat) : Int) - 1 = (k : Int) by omega, idx_lt hk2]
      simp only [List.getElem?_eq_getElem hk2] at hp ⊢
      grind) (by
    unfold F_ref39_ValidReports_l1
    rw [decF (show ¬ (l.length : Int) < (l.length : Int) by omega)]
    rfl)
  simp only [Int.natCast_zero] at hl'
  simp only [cond_false, Bool.true_and]
  rw [hl', Option.bind_some]
  by_cases hp : ∀ k, k < l.length → pAt l k = true
  · rw [if_pos hp, decT hp]; rfl
  · rw [if_neg hp, decF hp]; rfl

structure okD (d : DR) : Prop where
  node : d.Node ≠ 0
  len : d.Data.length ≤ 64
  num0 : 0 ≤ d.Number
  num1 : d.Number ≤ 1073741824
structure ValidR (l : List DR) : Prop where
  len : l.length ≤ 64
  ok : ∀ d ∈ l, okD d
  ord : l.Pairwise fun a b => a.Node < b.Node
theorem pAt_iff {l : List DR} {k : Nat} (hk : k < l.length) : pAt l k = true ↔ okD l[k] ∧ (∀ _ : k ≠ 0, (l[k - 1]'(by omega)).Node < l[k].Node) := by
  unfold pAt
  rw [List.getElem?_eq_getElem hk]
  constructor
  · intro h
    rcases k with _ | k
    · simp only [Bool.and_eq_true, bne_iff_ne, decide_eq_true_eq] at h
      exact ⟨⟨h.1.1.1, h.1.1.2, h.1.2.1, h.1.2.2⟩, fun h0 => absurd rfl h0⟩
    · simp only [List.getElem?_eq_getElem (show k < l.length by omega), Bool.and_eq_true, bne_iff_ne, decide_eq_true_eq] at h
      exact ⟨⟨h.1.1.1, h.1.1.2, h.1.2.1, h.1.2.2⟩, fun _ => h.2⟩
  · rintro ⟨⟨a, b, c, d⟩, e⟩
    rcases k with _ | k
    · simp [a, b, c, d]
    · have := e (by omega)
      simp only [Nat.add_sub_cancel] at this
      simp only [List.getElem?_eq_getElem (show k < l.length by omega)]
      simp [a, b, c, d, this]
theorem validR_iff {l : List DR} : validR l = true ↔ ValidR l := by
  unfold validR
  simp only [Bool.and_eq_true, decide_eq_true_eq]
  constructor
  · rintro ⟨h1, h2⟩
    have h3 := fun k (hk : k < l.length) => (pAt_iff hk).1 (h2 k hk)
    refine ⟨h1, fun d hd => ?_, ?_⟩
    · obtain ⟨i, hi, rfl⟩ := List.getElem_of_mem hd
      exact (h3 i hi).1
    · rw [List.pairwise_iff_getElem]
      intro i j hi hj hij
      have : ∀ m (hm : i + 1 + m < l.length), l[i].Node < l[i + 1 + m].Node := by
        intro m
        induction m with
        | zero => intro hm; exact (h3 (i + 1) hm).2 (by omega)
        | succ m ih =>
          intro hm
          have a := ih (by omega)
          have b := (h3 (i + 1 + (m + 1)) hm).2 (by omega)
          have e : i + 1 + (m + 1) - 1 = i + 1 + m := by omega
          simp only [e] at b
          omega
      have := this (j - (i + 1)) (by omega)
      have e : i + 1 + (j - (i + 1)) = j := by omega
      simpa [e] using this
  · rintro ⟨h1, h2, h3⟩
    refine ⟨h1, fun k hk => (pAt_iff hk).2 ⟨h2 _ (List.getElem_mem hk), fun h0 => ?_⟩⟩
    rw [List.pairwise_iff_getElem] at h3
    exact h3 (k - 1) k (by omega) hk (by omega)

def betterB (a b : DR) : Bool := decide (a.Number > b.Number ∨ a.Number = b.Number ∧ lexC a.Data b.Data > 0)
theorem bytesLess_lex : ∀ {a b : List Int}, okB a → okB b → Go.Op.bytesLess (u8L a) (u8L b) = decide (lexC a b < 0)
  | [], [], _, _ => by simp [u8L, Go.Op.bytesLess, lexC]
  | [], _ :: _, _, _ => by simp [u8L, Go.Op.bytesLess, lexC]
  | _ :: _, [], _, _ => by simp [u8L, Go.Op.bytesLess, lexC]
  | x :: s, y :: t, ha, hb => by
    have hx := ha x (by simp)
    have hy := hb y (by simp)
    have ih := bytesLess_lex (a := s) (b := t) (fun z hz => ha z (by simp [hz])) (fun z hz => hb z (by simp [hz]))
    have e1 : (x.toNat.toUInt8).toNat = x.toNat := by simp [Nat.toUInt8]; omega
    have e2 : (y.toNat.toUInt8).toNat = y.toNat := by simp [Nat.toUInt8]; omega
    unfold u8L at ih ⊢
    simp only [List.map_cons, Go.Op.bytesLess, ih]
    by_cases h1 : x < y
    · have : x.toNat.toUInt8 < y.toNat.toUInt8 := by rw [UInt8.lt_iff_toNat_lt, e1, e2]; omega
      rw [show lexC (x :: s) (y :: t) = -1 by simp [lexC, h1]]
      simp [this]
    · have h1' : ¬ x.toNat.toUInt8 < y.toNat.toUInt8 := by rw [UInt8.lt_iff_toNat_lt, e1, e2]; omega
      by_cases h2 : y < x
      · rw [show lexC (x :: s) (y :: t) = 1 by simp [lexC, h1, h2]]
        have : ¬ x.toNat.toUInt8 = y.toNat.toUInt8 := fun q => by have := u8_inj hx hy q; omega
        simp [h1', this]
      · rw [show lexC (x :: s) (y :: t) = lexC s t by simp [lexC, h1, h2]]
        have : x = y := by omega
        subst this
        simp
theorem prog_better {a b : DR} (ha : okB a.Data) (hb : okB b.Data) : F_management_better a b = some (betterB a b) := by
  unfold F_management_better F_cmp_Compare_int F_cmp_isNaN_int F_bytes_Compare F_cmp_Or_int betterB
  simp only [Cut.app, bne_self_eq_false, Option.bind_some, cond_false]
  rw [cmpB_lex ha hb]
  have hc := lexC_cases a.Data b.Data
  generalize lexC a.Data b.Data = c at *
  have key : ∀ x : Int, loopO (F_cmp_Or_int_l1 [x, c]) 0 = some (if x ≠ 0 then .inr x else if c ≠ 0 then .inr c else .inl ()) := by
    intro x
    by_cases hx : x = 0
    · subst hx
      rw [loop_next (s' := 1) (by rfl)]
      by_cases h2 : c = 0
      · subst h2
        rw [loop_next (s' := 2) (by rfl)]
        exact loop_done rfl
      · have hb2 : (c != 0) = true := by simpa using h2
        rw [loop_done (r := .inr c) (by unfold F_cmp_Or_int_l1; simp [idx, hb2])]
        simp [h2]
    · have hb2 : (x != 0) = true := by simpa using hx
      rw [loop_done (r := .inr x) (by unfold F_cmp_Or_int_l1; simp [idx, hb2])]
      simp [hx]
  by_cases h1 : a.Number < b.Number
  · rw [decT h1]
    simp only [cond_true, Option.bind_some]
    rw [key]
    simp
    omega
  · rw [decF h1]
    by_cases h2 : a.Number > b.Number
    · rw [decT h2]
      simp only [cond_true, cond_false, Option.bind_some]
      rw [key]
      simp [h2]
    · rw [decF h2]
      simp only [cond_false, Option.bind_some]
      rw [key]
      have : a.Number = b.Number := by omega
      rcases hc with rfl | rfl | rfl <;> simp [this]
theorem ref_better {a b : DR} (ha : okB a.Data) (hb : okB b.Data) : F_ref39_Better a b = some (betterB a b) := by
  unfold F_ref39_Better betterB
  simp only [Cut.app]
  rw [bytesLess_lex ha hb, u8L_beq ha hb]
  have hz : a.Data = b.Data ↔ lexC a.Data b.Data = 0 := ⟨fun h => by rw [h]; exact lexC_self _, lexC_zero⟩
  by_cases h1 : a.Number > b.Number
  · rw [decT h1]; simp [h1]
  · rw [decF h1]
    by_cases h2 : a.Number = b.Number
    · rw [h2]
      simp only [beq_self_eq_true, cond_true, cond_false]
      congr 1
      rw [Bool.eq_iff_iff]
      simp [hz]
      omega
    · rw [beqF h2]
      simp only [cond_false]
      congr 1
      rw [eq_comm, decide_eq_false_iff_not]
      omega

def unionS : List DR → List DR → List DR
  | [], b => b
  | a, [] => a
  | x :: s, y :: t => if x.Node < y.Node then x :: unionS s (y :: t) else if y.Node < x.Node then y :: unionS (x :: s) t else (if betterB y x then y else x) :: unionS s t
termination_by a b => a.length + b.length
theorem unionS_nil (a : List DR) : unionS a [] = a := by cases a <;> simp [unionS]
theorem nil_unionS (a : List DR) : unionS [] a = a := by simp [unionS]
theorem unionS_mem (a b : List DR) : ∀ d ∈ unionS a b, d ∈ a ∨ d ∈ b := by
  fun_induction unionS a b with
  | case1 b => intro d hd; exact .inr hd
  | case2 a h => intro d hd; exact .inl hd
  | case3 x s y t h ih =>
    intro d hd
    rcases List.mem_cons.1 hd with rfl | hd
    · simp
    · rcases ih d hd with h | h
      · simp [h]
      · exact .inr h
  | case4 x s y t h h2 ih =>
    intro d hd
    rcases List.mem_cons.1 hd with rfl | hd
    · simp
    · rcases ih d hd with h | h
      · exact .inl h
      · simp [h]
  | case5 x s y t h h2 ih =>
    intro d hd
    rcases List.mem_cons.1 hd with rfl | hd
    · split <;> simp
    · rcases ih d hd with h | h
      · simp [h]
      · simp [h]
abbrev Ord (l : List DR) : Prop := l.Pairwise fun a b => a.Node < b.Node
theorem unionS_ord (a b : List DR) (ha : Ord a) (hb : Ord b) : Ord (unionS a b) := by
  fun_induction unionS a b with
  | case1 b => exact hb
  | case2 a h => exact ha
  | case3 x s y t h ih =>
    refine List.pairwise_cons.2 ⟨fun d hd => ?_, ih (List.pairwise_cons.1 ha).2 hb⟩
    rcases unionS_mem _ _ d hd with h1 | h1
    · exact (List.pairwise_cons.1 ha).1 d h1
    · rcases List.mem_cons.1 h1 with rfl | h1
      · exact h
      · have := (List.pairwise_cons.1 hb).1 d h1; omega
  | case4 x s y t h h2 ih =>
    refine List.pairwise_cons.2 ⟨fun d hd => ?_, ih ha (List.pairwise_cons.1 hb).2⟩
    rcases unionS_mem _ _ d hd with h1 | h1
    · rcases List.mem_cons.1 h1 with rfl | h1
      · exact h2
      · have := (List.pairwise_cons.1 ha).1 d h1; omega
    · exact (List.pairwise_cons.1 hb).1 d h1
  | case5 x s y t h h2 ih =>
    have e : x.Node = y.Node := by omega
    refine List.pairwise_cons.2 ⟨fun d hd => ?_, ih (List.pairwise_cons.1 ha).2 (List.pairwise_cons.1 hb).2⟩
    have hn : (if betterB y x then y else x).Node = x.Node := by split <;> omega
    rw [hn]
    rcases unionS_mem _ _ d hd with h1 | h1
    · exact (List.pairwise_cons.1 ha).1 d h1
    · have := (List.pairwise_cons.1 hb).1 d h1; omega
structure smallR (l : List DR) : Prop where
  len : l.length ≤ 64
  data : ∀ d ∈ l, okB d.Data ∧ d.Data.length ≤ 64
theorem clone_spec {d : DR} (h : d.Data.length ≤ 64) : F_management_clone d = some d := by
  unfold F_management_clone
  rw [copy_nil (by omega)]
  rfl
theorem copy_spec {d : DR} (h : d.Data.length ≤ 64) : F_ref39_copyReport d = some d := by
  unfold F_ref39_copyReport
  rw [copy_nil (by omega)]
  rfl
theorem sub1 {x : DR} {s : List DR} : subO (x :: s) 1 ((x :: s).length : Int) = some s := by
  rw [subO_some (by omega) (by simp; omega) (by omega), Int.toNat_natCast, List.take_length]
  rfl
theorem app1 {l : List DR} {d : DR} (h : l.length ≤ 1000) : appO 40 l (Cut.app .whole [d]) = some (l ++ [d]) := by
  simp only [Cut.app]
  rw [appO_some (by simp; omega) (by simp; omega)]
theorem prog_union {a b : List DR} (ha : smallR a) (hb : smallR b) : F_management_union a b = some (unionS a b) := by
  unfold F_management_union
  obtain ⟨r, hr, q⟩ := loop_inv (step := F_management_union_l1) (fun s => s.2.2 ++ unionS s.1 s.2.1 = unionS a b ∧ s.2.2.length + s.1.length + s.2.1.length ≤ 128 ∧ (∀ d ∈ s.1, okB d.Data ∧ d.Data.length ≤ 64) ∧ ∀ d ∈ s.2.1, okB d.Data ∧ d.Data.length ≤ 64) (fun r => r = unionS a b) (fun s => s.1.length + s.2.1.length) (by
    rintro ⟨s, t, out⟩ ⟨h1, h2, h3, h4⟩
    dsimp only at h1 h2 h3 h4
    unfold F_management_union_l1 F_management_union_j2 F_management_union_j3
    dsimp only
    cases s with
    | nil =>
      cases t with
      | nil =>
        right
        refine ⟨out, by simp, ?_⟩
        rw [unionS_nil, List.append_nil] at h1
        exact h1
      | cons y t =>
        left
        refine ⟨([], t, out ++ [y]), ?_, ⟨?_, ?_, h3, fun d hd => h4 d (by simp [hd])⟩, ?_⟩
        · rw [decF (show ¬ (([] : List DR).length : Int) > 0 by simp), decT (show ((y :: t).length : Int) > 0 by simp only [List.length_cons]; omega)]
          have e0 : (((y :: t).length : Int) == 0) = false := beqF (by simp; omega)
          simp only [cond_true, cond_false, e0]
          simp only [List.length_nil, Int.natCast_zero, beq_self_eq_true, cond_true, idx, Int.le_refl, if_true, Int.toNat_zero, List.getElem?_cons_zero, Option.bind_some]
          rw [clone_spec (h4 y (by simp)).2, Option.bind_some, app1 (by simp at h2; omega), Option.bind_some, sub1]
          rfl
        · dsimp only; rw [nil_unionS] at h1 ⊢; simpa using h1
        · simp only [List.length_append, List.length_cons, List.length_nil] at *; omega
        · simp
    | cons x s =>
      left
      have hx := h3 x (by simp)
      rw [decT (show ((x :: s).length : Int) > 0 by simp only [List.length_cons]; omega)]
      have ix : idx (x :: s) 0 = some x := rfl
      have e0 : (((x :: s).length : Int) == 0) = false := beqF (by simp; omega)
      simp only [cond_true, ix, Option.bind_some, e0]
      cases t with
      | nil =>
        simp only [List.length_nil, Int.natCast_zero, beq_self_eq_true, cond_true]
        refine ⟨(s, [], out ++ [x]), ?_, ⟨?_, ?_, fun d hd => h3 d (by simp [hd]), h4⟩, ?_⟩
        · rw [clone_spec hx.2, Option.bind_some, app1 (by simp at h2; omega), Option.bind_some, sub1]
          rfl
        · dsimp only; rw [unionS_nil] at h1 ⊢; simpa using h1
        · simp only [List.length_append, List.length_cons, List.length_nil] at *; omega
        · simp
      | cons y t =>
        have hy := h4 y (by simp)
        have iy : idx (y :: t) 0 = some y := rfl
        have e1 : (((y :: t).length : Int) == 0) = false := beqF (by simp; omega)
        simp only [iy, e1, Option.bind_some, cond_false]
        have hlen : out.length ≤ 1000 := by simp at h2; omega
        by_cases c1 : x.Node < y.Node
        · rw [decT c1]
          refine ⟨(s, y :: t, out ++ [x]), ?_, ⟨?_, ?_, fun d hd => h3 d (by simp [hd]), h4⟩, ?_⟩
          · simp only [cond_true]
            rw [clone_spec hx.2, Option.bind_some, app1 hlen, Option.bind_some, sub1]
            rfl
          · dsimp only; rw [unionS, if_pos c1] at h1; simpa using h1
          · simp only [List.length_append, List.length_cons, List.length_nil] at *; omega
          · simp only [List.length_cons]; omega
        · rw [decF c1]
          by_cases c2 : y.Node < x.Node
          · rw [decT c2]
            refine ⟨(x :: s, t, out ++ [y]), ?_, ⟨?_, ?_, h3, fun d hd => h4 d (by simp [hd])⟩, ?_⟩
            · simp only [cond_true, cond_false]
              rw [clone_spec hy.2, Option.bind_some, app1 hlen, Option.bind_some, sub1]
              rfl
            · dsimp only; rw [unionS, if_neg c1, if_pos c2] at h1; simpa using h1
            · simp only [List.length_append, List.length_cons, List.length_nil] at *; omega
            · simp
          · rw [decF c2]
            refine ⟨(s, t, out ++ [if betterB y x then y else x]), ?_, ⟨?_, ?_, fun d hd => h3 d (by simp [hd]), fun d hd => h4 d (by simp [hd])⟩, ?_⟩
            · simp only [cond_false]
              rw [prog_better hy.1 hx.1, Option.bind_some]
              cases betterB y x with
              | true =>
                simp only [cond_true, if_true]
                rw [clone_spec hy.2, Option.bind_some, app1 hlen, Option.bind_some, sub1, Option.bind_some, sub1]
                rfl
              | false =>
                simp only [cond_false, Bool.false_eq_true, if_false]
                rw [clone_spec hx.2, Option.bind_some, app1 hlen, Option.bind_some, sub1, Option.bind_some, sub1]
                rfl
            · dsimp only; rw [unionS, if_neg c1, if_neg c2] at h1; simpa using h1
            · simp only [List.length_append, List.length_cons, List.length_nil] at *; omega
            · simp only [List.length_cons]; omega) (a, b, []) ⟨by simp, by have := ha.len; have := hb.len; simp; omega, ha.data, hb.data⟩
  rw [hr, q]
  rfl
end
section
open Go.RowKit

theorem drop_get {α : Type} {l : List α} {i : Nat} (h : i < l.length) : l.drop i = l[i] :: l.drop (i + 1) := List.drop_eq_getElem_cons h
theorem ref_union {a b : List DR} (ha : smallR a) (hb : smallR b) : loopO (F_ref39_Merge_l1 a b) (([] : List DR), 0, 0) = some (unionS a b) := by
  have hla := ha.len
  have hlb := hb.len
  obtain ⟨r, hr, q⟩ := loop_inv (step := F_ref39_Merge_l1 a b) (fun s => ∃ i k : Nat, s.2.1 = i ∧ s.2.2 = k ∧ i ≤ a.length ∧ k ≤ b.length ∧ s.1 ++ unionS (a.drop i) (b.drop k) = unionS a b ∧ s.1.length ≤ i + k) (fun r => r = unionS a b) (fun s => (a.length - s.2.1).toNat + (b.length - s.2.2).toNat) (by
    rintro ⟨out, i', k'⟩ ⟨i, k, rfl, rfl, hi, hk, h1, h2⟩
    dsimp only at h1 h2
    unfold F_ref39_Merge_l1 F_ref39_Merge_j2 F_ref39_Merge_j3
    dsimp only
    have hlen : out.length ≤ 1000 := by omega
    rcases Nat.lt_or_ge i a.length with ci | ci
    · have hx := ha.data _ (List.getElem_mem ci)
      rw [drop_get ci] at h1
      rw [decT (show (i : Int) < (a.length : Int) by omega), idx_lt ci]
      have e0 : ((i : Int) == (a.length : Int)) = false := beqF (by omega)
      simp only [cond_true, Option.bind_some, e0]
      rcases Nat.lt_or_ge k b.length with ck | ck
      · have hy := hb.data _ (List.getElem_mem ck)
        rw [drop_get ck] at h1
        have e1 : ((k : Int) == (b.length : Int)) = false := beqF (by omega)
        rw [idx_lt ck]
        simp only [cond_false, Option.bind_some, e1]
        left
        by_cases c1 : a[i].Node < b[k].Node
        · rw [decT c1]
          rw [unionS, if_pos c1, ← drop_get ck] at h1
          refine ⟨(out ++ [a[i]], ((i + 1 : Nat) : Int), (k : Int)), ?_, ⟨i + 1, k, rfl, rfl, by omega, by omega, by simpa using h1, by simp; omega⟩, by dsimp only; omega⟩
          simp only [cond_true]
          rw [copy_spec hx.2, Option.bind_some, app1 hlen, Option.bind_some, wk i (by omega)]
        · rw [decF c1]
          by_cases c2 : b[k].Node < a[i].Node
          · rw [decT c2]
            rw [unionS, if_neg c1, if_pos c2, ← drop_get ci] at h1
            refine ⟨(out ++ [b[k]], (i : Int), ((k + 1 : Nat) : Int)), ?_, ⟨i, k + 1, rfl, rfl, by omega, by omega, by simpa using h1, by simp; omega⟩, by dsimp only; omega⟩
            simp only [cond_true, cond_false]
            rw [copy_spec hy.2, Option.bind_some, app1 hlen, Option.bind_some, wk k (by omega)]
          · rw [decF c2]
            rw [unionS, if_neg c1, if_neg c2] at h1
            refine ⟨(out ++ [if betterB b[k] a[i] then b[k] else a[i]], ((i + 1 : Nat) : Int), ((k + 1 : Nat) : Int)), ?_, ⟨i + 1, k + 1, rfl, rfl, by omega, by omega, by simpa using h1, by simp; omega⟩, by dsimp only; omega⟩
            simp only [cond_false]
            rw [ref_better hy.1 hx.1, Option.bind_some, wk i (by omega), wk k (by omega)]
            cases betterB b[k] a[i] with
            | true =>
              simp only [cond_true, if_true]
              rw [copy_spec hy.2, Option.bind_some, app1 hlen]
              rfl
            | false =>
              simp only [cond_false, Bool.false_eq_true, if_false]
              rw [copy_spec hx.2, Option.bind_some, app1 hlen]
              rfl
      · obtain rfl : k = b.length := by omega
        left
        rw [List.drop_length, unionS_nil] at h1
        refine ⟨(out ++ [a[i]], ((i + 1 : Nat) : Int), (b.length : Int)), ?_, ⟨i + 1, b.length, rfl, rfl, by omega, by omega, by rw [List.drop_length, unionS_nil]; simpa using h1, by simp; omega⟩, by dsimp only; omega⟩
        simp only [beq_self_eq_true, cond_true]
        rw [copy_spec hx.2, Option.bind_some, app1 hlen, Option.bind_some, wk i (by omega)]
    · obtain rfl : i = a.length := by omega
      rw [List.drop_length, nil_unionS] at h1
      rw [decF (show ¬ (a.length : Int) < (a.length : Int) by omega)]
      simp only [cond_false]
      rcases Nat.lt_or_ge k b.length with ck | ck
      · have hy := hb.data _ (List.getElem_mem ck)
        left
        rw [drop_get ck] at h1
        have e1 : ((k : Int) == (b.length : Int)) = false := beqF (by omega)
        refine ⟨(out ++ [b[k]], (a.length : Int), ((k + 1 : Nat) : Int)), ?_, ⟨a.length, k + 1, rfl, rfl, by omega, by omega, by rw [List.drop_length, nil_unionS]; simpa using h1, by simp; omega⟩, by dsimp only; omega⟩
        rw [decT (show (k : Int) < (b.length : Int) by omega), idx_lt ck, e1]
        simp only [cond_true, cond_false, beq_self_eq_true, Option.bind_some]
        rw [copy_spec hy.2, Option.bind_some, app1 hlen, Option.bind_some, wk k (by omega)]
      · right
        obtain rfl : k = b.length := by omega
        rw [List.drop_length, List.append_nil] at h1
        rw [decF (show ¬ (b.length : Int) < (b.length : Int) by omega)]
        exact ⟨out, rfl, h1⟩) (([] : List DR), 0, 0) ⟨0, 0, rfl, rfl, by omega, by omega, by simp, by simp⟩
  rw [hr, q]
structure wfL' (l : List DR) : Prop where
  node : ∀ d ∈ l, 0 ≤ d.Node
  data : ∀ d ∈ l, okB d.Data
theorem wfL'.r {l : List DR} (h : wfL' l) : ∀ d ∈ l, wfRc d := fun d hd => ⟨h.node d hd, h.data d hd⟩
theorem small_of {l : List DR} (h : wfL' l) (hv : validR l = true) : smallR l := by
  have hv := validR_iff.1 hv
  exact ⟨hv.len, fun d hd => ⟨h.data d hd, (hv.ok d hd).len⟩⟩
def mergeS (a b : List DR) : List DR × Int := if validR a = false ∨ validR b = false then ([], 1) else if (unionS a b).length > 64 then ([], 10) else (unionS a b, 0)
theorem prog_merge {a b : List DR} (ha : wfL' a) (hb : wfL' b) : F_management_Merge a b = some (mergeS a b) := by
  unfold F_management_Merge F_management_Merge_j1 mergeS
  rw [prog_validR ha.r, prog_validR hb.r]
  simp only [Option.bind_some]
  cases hva : validR a with
  | false => simp
  | true =>
    cases hvb : validR b with
    | false => simp
    | true =>
      simp only [cond_true, Bool.true_eq_false, or_self, if_false]
      rw [prog_union (small_of ha hva) (small_of hb hvb), Option.bind_some]
      by_cases c : (unionS a b).length > 64
      · rw [decT (show ((unionS a b).length : Int) > 64 by omega), if_pos c]; rfl
      · rw [decF (show ¬ ((unionS a b).length : Int) > 64 by omega), if_neg c]; rfl
theorem ref_merge {a b : List DR} (ha : wfL' a) (hb : wfL' b) : F_ref39_Merge a b = some (mergeS a b) := by
  unfold F_ref39_Merge mergeS
  rw [ref_validR, ref_validR]
  simp only [Option.bind_some]
  cases hva : validR a with
  | false => simp
  | true =>
    cases hvb : validR b with
    | false => simp
    | true =>
      simp only [cond_true, Bool.true_eq_false, or_self, if_false]
      rw [ref_union (small_of ha hva) (small_of hb hvb), Option.bind_some]
      by_cases c : (unionS a b).length > 64
      · rw [decT (show ((unionS a b).length : Int) > 64 by omega), if_pos c]; rfl
      · rw [decF (show ¬ ((unionS a b).length : Int) > 64 by omega), if_neg c]; rfl
def okDB (d : DR) : Bool := (d.Node != 0) && decide (d.Data.length ≤ 64)
def reportS (l : List DR) (d : DR) : List DR × Int := if validR l = false ∨ okDB d = false then ([], 1) else if d.Number < 0 ∨ d.Number > 1073741824 then ([], 2) else if (unionS l [d]).length > 64 then ([], 10) else (unionS l [d], 0)
theorem single_valid {d : DR} (h : okDB d = true) (h1 : ¬ (d.Number < 0 ∨ d.Number > 1073741824)) : validR [d] = true := by
  simp only [okDB, Bool.and_eq_true, bne_iff_ne, decide_eq_true_eq] at h
  exact validR_iff.2 ⟨by simp, fun e he => by rw [List.mem_singleton.1 he]; exact ⟨h.1, h.2, by omega, by omega⟩, by simp⟩
theorem ref_report {l : List DR} {d : DR} (hl : wfL' l) (hn : 0 ≤ d.Node) (hd : okB d.Data) : F_ref39_Report l d = some (reportS l d) := by
  unfold F_ref39_Report F_ref39_validReport reportS
  rw [ref_validR, Option.bind_some]
  cases hv : validR l with
  | false => simp
  | true =>
    simp only [cond_true]
    have hw : wfL' [d] := ⟨fun e he => by rw [List.mem_singleton.1 he]; exact hn, fun e he => by rw [List.mem_singleton.1 he]; exact hd⟩
    rw [ref_merge hl hw]
    cases ho : okDB d with
    | false =>
      unfold okDB at ho
      grind
    | true =>
      by_cases c : d.Number < 0 ∨ d.Number > 1073741824
      · unfold okDB at ho
        grind
      · unfold mergeS
        rw [hv, single_valid ho c]
        unfold okDB at ho
        grind
theorem same_report (d : DR) : F_world_sameReport d d = some true := by
  unfold F_world_sameReport F_bytes_Equal
  simp
theorem same_reports (l : List DR) (hl : l.length ≤ 1000000) : F_world_SameReports l l = some true := by
  unfold F_world_SameReports F_slices_EqualFunc_api_Diagnostic_api_Diagnostic_api_Diagnostic_api_Diagnostic_F572
  have hl' := loop_run (step := F_slices_EqualFunc_api_Diagnostic_api_Diagnostic_api_Diagnostic_api_Diagnostic_F572_l1 l l) (S := fun k => (k : Int)) l.length (r := .inl ()) (fun k hk => by
    unfold F_slices_EqualFunc_api_Diagnostic_api_Diagnostic_api_Diagnostic_api_Diagnostic_F572_l1
    rw [decT (show (k : Int) < (l.length : Int) by omega), idx_lt hk, wk k (by omega)]
    simp only [cond_true, Option.bind_some]
    rw [same_report]
    rfl) (by
    unfold F_slices_EqualFunc_api_Diagnostic_api_Diagnostic_api_Diagnostic_api_Diagnostic_F572_l1
    rw [decF (by omega)]
    rfl)
  simp only [Int.natCast_zero] at hl'
  simp only [bne_self_eq_false, cond_false]
  rw [hl']
  rfl
end
section
open Go.RowKit

def cmpD (a b : DR) : Int := if a.Number < b.Number then -1 else if b.Number < a.Number then 1 else lexC a.Data b.Data
theorem better_cmp (a b : DR) : betterB a b = decide (cmpD a b > 0) := by
  unfold betterB cmpD
  by_cases h1 : a.Number < b.Number
  · rw [if_pos h1, decide_eq_decide]; omega
  · by_cases h2 : b.Number < a.Number
    · rw [if_neg h1, if_pos h2, decide_eq_decide]; omega
    · rw [if_neg h1, if_neg h2, decide_eq_decide]; omega
theorem cmpD_swap (a b : DR) : cmpD b a = - cmpD a b := by
  unfold cmpD
  rw [lexC_swap a.Data b.Data]
  split <;> split <;> first | omega | simp_all
theorem cmpD_zero {a b : DR} (h : cmpD a b = 0) (hn : a.Node = b.Node) : a = b := by
  unfold cmpD at h
  split at h
  · cases h
  · split at h
    · cases h
    · obtain ⟨an, am, ad⟩ := a
      obtain ⟨bn, bm, bd⟩ := b
      have := lexC_zero h
      simp only at *
      subst this hn
      congr 1
      omega
theorem lexC_trans_le {a b c : List Int} (h : lexC a b ≤ 0) (k : lexC b c ≤ 0) : lexC a c ≤ 0 := by
  rcases Int.lt_or_eq_of_le h with h1 | h1
  · rcases Int.lt_or_eq_of_le k with k1 | k1
    · exact Int.le_of_lt (lexC_trans h1 k1)
    · rw [← lexC_zero k1]; exact h
  · rw [lexC_zero h1]; exact k
theorem cmpD_trans_le {a b c : DR} (h : cmpD a b ≤ 0) (k : cmpD b c ≤ 0) : cmpD a c ≤ 0 := by
  unfold cmpD at *
  split at h
  · split at k
    · rw [if_pos (by omega)]; omega
    · split at k
      · omega
      · rw [if_pos (by omega)]; omega
  · split at h
    · omega
    · split at k
      · rw [if_pos (by omega)]; omega
      · split at k
        · omega
        · rw [if_neg (by omega), if_neg (by omega)]
          exact lexC_trans_le h k
def maxD (x y : DR) : DR := if betterB y x then y else x
theorem maxD_comm {x y : DR} (h : x.Node = y.Node) : maxD x y = maxD y x := by
  unfold maxD
  rw [better_cmp, better_cmp]
  have := cmpD_swap x y
  by_cases h1 : cmpD y x > 0
  · rw [decT h1, decF (by omega)]; rfl
  · rw [decF h1]
    by_cases h2 : cmpD x y > 0
    · rw [decT h2]; rfl
    · rw [decF h2]
      simp only [Bool.false_eq_true, if_false]
      exact cmpD_zero (by omega) h
theorem maxD_assoc (x y z : DR) : maxD (maxD x y) z = maxD x (maxD y z) := by
  unfold maxD
  have a1 := cmpD_swap x y
  have a2 := cmpD_swap y z
  have a3 := cmpD_swap x z
  by_cases h1 : betterB y x = true
  · rw [if_pos h1]
    by_cases h2 : betterB z y = true
    · rw [if_pos h2]
      have : betterB z x = true := by
        rw [better_cmp, decide_eq_true_eq] at *
        apply Classical.byContradiction
        intro q
        have := cmpD_trans_le (a := y) (b := z) (c := x) (by omega) (by omega)
        omega
      rw [if_pos this]
    · rw [if_neg h2, if_pos h1]
  · rw [if_neg h1]
    by_cases h2 : betterB z y = true
    · rw [if_pos h2]
    · rw [if_neg h2, if_neg h1]
      have : ¬ betterB z x = true := by
        rw [better_cmp, decide_eq_true_eq] at *
        have := cmpD_trans_le (a := z) (b := y) (c := x) (by omega) (by omega)
        omega
      rw [if_neg this]
def bestO : Option DR → Option DR → Option DR
  | none, y => y
  | x, none => x
  | some x, some y => some (maxD x y)
theorem bestO_none (x : Option DR) : bestO x none = x := by cases x <;> rfl
theorem bestO_assoc (x y z : Option DR) : bestO (bestO x y) z = bestO x (bestO y z) := by
  cases x <;> cases y <;> cases z <;> simp [bestO, maxD_assoc]
def getN (l : List DR) (n : Int) : Option DR := l.find? fun d => d.Node == n
theorem getN_cons (x : DR) (l : List DR) (n : Int) : getN (x :: l) n = if x.Node = n then some x else getN l n := by
  unfold getN
  rw [List.find?_cons]
  by_cases h : x.Node = n
  · rw [if_pos h, h]; simp
  · rw [if_neg h, beqF h]
theorem getN_none {l : List DR} {n : Int} (h : ∀ d ∈ l, d.Node ≠ n) : getN l n = none := by
  unfold getN
  rw [List.find?_eq_none]
  intro d hd
  simpa using h d hd
theorem getN_node {l : List DR} {n : Int} {d : DR} (h : getN l n = some d) : d.Node = n := by
  unfold getN at h
  simpa using List.find?_some h
theorem getN_union (a b : List DR) (ha : Ord a) (hb : Ord b) (n : Int) : getN (unionS a b) n = bestO (getN a n) (getN b n) := by
  fun_induction unionS a b with
  | case1 b => rfl
  | case2 a h => rw [show getN [] n = none from rfl, bestO_none]
  | case3 x s y t h ih =>
    have hy := List.pairwise_cons.1 hb
    rw [getN_cons, ih (List.pairwise_cons.1 ha).2 hb, getN_cons x s]
    by_cases c : x.Node = n
    · rw [if_pos c, if_pos c, getN_none (l := y :: t) (fun d hd => by
        rcases List.mem_cons.1 hd with rfl | hd
        · omega
        · have := hy.1 d hd; omega)]
      rfl
    · rw [if_neg c, if_neg c]
  | case4 x s y t h h2 ih =>
    have hx := List.pairwise_cons.1 ha
    rw [getN_cons, ih ha (List.pairwise_cons.1 hb).2, getN_cons y t]
    by_cases c : y.Node = n
    · rw [if_pos c, if_pos c, getN_none (l := x :: s) (fun d hd => by
        rcases List.mem_cons.1 hd with rfl | hd
        · omega
        · have := hx.1 d hd; omega)]
      rfl
    · rw [if_neg c, if_neg c]
  | case5 x s y t h h2 ih =>
    have e : x.Node = y.Node := by omega
    rw [getN_cons, ih (List.pairwise_cons.1 ha).2 (List.pairwise_cons.1 hb).2, getN_cons x s, getN_cons y t]
    have hn : (if betterB y x then y else x).Node = x.Node := by split <;> omega
    rw [hn, ← e]
    by_cases c : x.Node = n
    · rw [if_pos c, if_pos c, if_pos c]; rfl
    · rw [if_neg c, if_neg c, if_neg c]
theorem ord_ext : ∀ {a b : List DR}, Ord a → Ord b → (∀ n, getN a n = getN b n) → a = b
  | [], [], _, _, _ => rfl
  | [], y :: t, _, _, h => by have := h y.Node; rw [getN_cons, if_pos rfl] at this; cases this
  | x :: s, [], _, _, h => by have := h x.Node; rw [getN_cons, if_pos rfl] at this; cases this
  | x :: s, y :: t, ha, hb, h => by
    have hx := List.pairwise_cons.1 ha
    have hy := List.pairwise_cons.1 hb
    have h1 := h x.Node
    have h2 := h y.Node
    rw [getN_cons, if_pos rfl, getN_cons] at h1
    rw [getN_cons, getN_cons, if_pos rfl] at h2
    have hxy : x = y := by
      split at h1
      · cases h1; rfl
      · rename_i c1
        split at h2
        · cases h2; rfl
        · rename_i c2
          have m1 := List.mem_of_find?_eq_some h1.symm
          have m2 := List.mem_of_find?_eq_some h2
          have := hy.1 x m1
          have := hx.1 y m2
          omega
    subst hxy
    congr 1
    refine ord_ext hx.2 hy.2 (fun n => ?_)
    have := h n
    rw [getN_cons, getN_cons] at this
    by_cases c : x.Node = n
    · rw [getN_none (fun d hd => by have := hx.1 d hd; omega), getN_none (fun d hd => by have := hy.1 d hd; omega)]
    · rw [if_neg c, if_neg c] at this
      exact this
theorem unionS_comm {a b : List DR} (ha : Ord a) (hb : Ord b) : unionS a b = unionS b a := by
  refine ord_ext (unionS_ord a b ha hb) (unionS_ord b a hb ha) (fun n => ?_)
  rw [getN_union a b ha hb, getN_union b a hb ha]
  cases h1 : getN a n with
  | none => rw [bestO_none]; rfl
  | some x =>
    cases h2 : getN b n with
    | none => rfl
    | some y =>
      have e1 := getN_node h1
      have e2 := getN_node h2
      simp only [bestO]
      rw [maxD_comm (by omega)]
theorem unionS_assoc {a b c : List DR} (ha : Ord a) (hb : Ord b) (hc : Ord c) : unionS (unionS a b) c = unionS a (unionS b c) := by
  refine ord_ext (unionS_ord _ _ (unionS_ord a b ha hb) hc) (unionS_ord _ _ ha (unionS_ord b c hb hc)) (fun n => ?_)
  rw [getN_union _ _ (unionS_ord a b ha hb) hc, getN_union a b ha hb, getN_union _ _ ha (unionS_ord b c hb hc), getN_union b c hb hc, bestO_assoc]
structure MadeR (l : List DR) : Prop where
  valid : ValidR l
  node : ∀ d ∈ l, 1 ≤ d.Node ∧ d.Node ≤ 5
  data : ∀ d ∈ l, okB d.Data
theorem MadeR.wf {l : List DR} (h : MadeR l) : wfL' l := ⟨fun d hd => by have := (h.node d hd).1; omega, h.data⟩
theorem ord_len : ∀ {l : List DR} {lo hi : Int}, Ord l → (∀ d ∈ l, lo < d.Node ∧ d.Node ≤ hi) → (l.length : Int) ≤ max 0 (hi - lo)
  | [], _, _, _, _ => by simp; omega
  | x :: l, lo, hi, ho, h => by
    have hx := h x (by simp)
    have := ord_len (lo := x.Node) (hi := hi) (List.pairwise_cons.1 ho).2 (fun d hd => ⟨(List.pairwise_cons.1 ho).1 d hd, (h d (by simp [hd])).2⟩)
    simp only [List.length_cons]
    omega
theorem MadeR.len {l : List DR} (h : MadeR l) : l.length ≤ 5 := by
  have := ord_len (lo := 0) (hi := 5) h.valid.ord (fun d hd => by have := h.node d hd; omega)
  omega
theorem MadeR.union {a b : List DR} (ha : MadeR a) (hb : MadeR b) : MadeR (unionS a b) := by
  have hm := unionS_mem a b
  have ho := unionS_ord a b ha.valid.ord hb.valid.ord
  have hn : ∀ d ∈ unionS a b, 1 ≤ d.Node ∧ d.Node ≤ 5 := fun d hd => (hm d hd).elim (ha.node d) (hb.node d)
  have hl := ord_len (lo := 0) (hi := 5) ho (fun d hd => by have := hn d hd; omega)
  exact ⟨⟨by omega, fun d hd => (hm d hd).elim (ha.valid.ok d) (hb.valid.ok d), ho⟩, hn, fun d hd => (hm d hd).elim (ha.data d) (hb.data d)⟩
theorem MadeR.merge {a b : List DR} (ha : MadeR a) (hb : MadeR b) : mergeS a b = (unionS a b, 0) := by
  unfold mergeS
  rw [validR_iff.2 ha.valid, validR_iff.2 hb.valid]
  have := (ha.union hb).len
  rw [if_neg (by simp), if_neg (by omega)]
theorem eui_spec {t : S_multihopmade_Tape} (h : TapeOk t) : ∃ v t', F_world_EUI t = some (v, t') ∧ 1 ≤ v ∧ v ≤ 5 ∧ TapeOk t' := by
  unfold F_world_EUI
  obtain ⟨v, t', e, h0, h1, k⟩ := next_spec h 5 (by omega) (by omega)
  rw [e, Option.bind_some]
  dsimp only
  rw [wi (by omega) (by omega), wu (by omega) (by omega)]
  exact ⟨_, _, rfl, by omega, by omega, k⟩
end
section
open Go.ChangeShapes Go.WideShapes Go.ChangeAt Go.RowKit

def Wt (P : Program) (t : TypeId) {H : Type} (d : DataW H) : Prop := ∀ n ∈ d.weights P t, n ≤ reachBytes
def OpensR (P : Program) (t : TypeId) {α : Type} (f : α → List SC) (wf : α → Prop) : Prop :=
  ∀ (H : Type) (enc : TypeId × Value → H) (W : World) (fuel : Nat) (cs : List Value) (x : DataW H × List MemPlace), DataW.trod enc P W 0 (fun _ => true) true fuel t cs = some x → Wt P t x.1 → ∃ a : α, Seg (rdAll W) cs 0 cs.length (f a) ∧ wf a
theorem Opens.r {P : Program} {t : TypeId} {α : Type} {f : α → List SC} {wf : α → Prop} (h : Opens P t f wf) : OpensR P t f wf := fun H enc W fuel cs x h1 _ => h H enc W fuel cs x h1
def wfR {α : Type} (p : α → Prop) (l : List α) : Prop := l.length ≤ 140737488351232 ∧ ∀ z ∈ l, p z
theorem mem_weightsAll {H : Type} {P : Program} {e : TypeId} : ∀ {l : List (DataW H)} {d : DataW H}, d ∈ l → ∀ n ∈ d.weights P e, n ∈ DataW.weightsAll P e l
  | x :: l, d, h, n, hn => by
    simp only [DataW.weightsAll, List.mem_append]
    rcases List.mem_cons.1 h with rfl | h
    · exact Or.inl hn
    · exact Or.inr (mem_weightsAll h n hn)
theorem wt_of {H : Type} {P : Program} {ts : List TypeId} {ds : List (DataW H)} (h : (DataW.weightsEach P ts ds).all (· ≤ reachBytes) = true) {j : Nat} {t : TypeId} {d : DataW H} (ht : ts[j]? = some t) (hd : ds[j]? = some d) : Wt P t d := fun n hn => by
  have := List.all_eq_true.1 h _ (DataW.weights_mem_each ht hd n hn)
  simpa using this
theorem opens_sliceR {P : Program} {t e : TypeId} {sz : Nat} (ht : P.underlying t = some (.slice e)) (hsz : P.cellsOf e = sz) {α : Type} {f : α → List SC} {wf : α → Prop} (hop : OpensR P e f wf) (hlen : ∀ a, (f a).length = sz) (hpos : decide (0 < sz) = true) (hby : decide (0 < P.bytesOf e) = true) : OpensR P t (ecS sz f) (wfR wf) := by
  intro H enc W fuel cs x h hw
  have hb := of_decide_eq_true hby
  have hp := of_decide_eq_true hpos
  rcases DataW.trod_slice ht h with ⟨rfl, _⟩ | ⟨a, len, cap, elems, rest, m, _, rfl, rfl, _, hlc, hcm, hel, hg, _⟩
  · refine ⟨[], ⟨rfl, fun j y hy => ?_⟩, by simp, fun z hz => absurd hz (by simp)⟩
    rcases j with _ | j
    · simp only [ecS, List.map_nil, List.getElem?_cons_zero, Option.some.injEq] at hy
      subst hy
      exact ⟨_, rfl, .nil _ _ _ (by decide)⟩
    · simp [ecS] at hy
  · have e0 : DataW.weights P t (.slice (elems.map (·.1)) (rest.map (·.1)) : DataW H) = (((elems.map (·.1)).length + (rest.map (·.1)).length) * P.bytesOf e :: (DataW.weightsAll P e (elems.map (·.1)) ++ DataW.weightsAll P e (rest.map (·.1)))) := by simp [DataW.weights, ht]
    have hlen' : len ≤ 140737488351232 := by
      have h2 := hw (((elems.map (·.1)).length + (rest.map (·.1)).length) * P.bytesOf e) (by rw [e0]; exact List.mem_cons_self)
      have h3 : len * 1 ≤ ((elems.map (·.1)).length + (rest.map (·.1)).length) * P.bytesOf e := Nat.mul_le_mul (by rw [List.length_map, hel]; omega) hb
      have h4 : reachBytes = 140737488351232 := rfl
      omega
    have key : ∀ i, i < len → ∃ (us : List Value) (b : α), W.cells? 0 (a.add (i * sz)) sz = some us ∧ Seg (rdAll W) us 0 us.length (f b) ∧ wf b := by
      intro i hi
      have h1 := hg i hi
      rw [hsz] at h1
      obtain ⟨y, hy⟩ : ∃ y, elems[i]? = some y := ⟨_, List.getElem?_eq_getElem (by omega)⟩
      rw [hy] at h1
      obtain ⟨us, k1, k2⟩ := Option.bind_eq_some_iff.1 h1
      obtain ⟨b, k3, k4⟩ := hop H enc W m us y k2 (fun n hn => hw n (by
        rw [e0]
        exact List.mem_cons_of_mem _ (List.mem_append_left _ (mem_weightsAll (d := y.1) (List.mem_map.2 ⟨y, List.mem_of_getElem? hy, rfl⟩) n hn))))
      exact ⟨us, b, k1, k3, k4⟩
    have key2 : ∃ l : List α, l.length = len ∧ ∀ i b, l[i]? = some b → wf b ∧ ∃ us, W.cells? 0 (a.add (i * sz)) sz = some us ∧ Seg (rdAll W) us 0 us.length (f b) := by
      have : ∀ q, q ≤ len → ∃ l : List α, l.length = q ∧ ∀ i b, l[i]? = some b → wf b ∧ ∃ us, W.cells? 0 (a.add (i * sz)) sz = some us ∧ Seg (rdAll W) us 0 us.length (f b) := by
        intro q
        induction q with
        | zero => exact fun _ => ⟨[], rfl, fun i b hb => by simp at hb⟩
        | succ q ih =>
          intro hq
          obtain ⟨l, hl, hall⟩ := ih (by omega)
          obtain ⟨us, b, k1, k2, k3⟩ := key q (by omega)
          refine ⟨l ++ [b], by simp [hl], fun i c hc => ?_⟩
          by_cases hi : i < l.length
          · rw [List.getElem?_append_left hi] at hc
            exact hall i c hc
          · rw [List.getElem?_append_right (by omega)] at hc
            have hi0 : i - l.length = 0 := by
              have := (List.getElem?_eq_some_iff.1 hc).1
              simp at this
              omega
            rw [hi0] at hc
            cases hc
            have : i = q := by omega
            subst this
            exact ⟨k3, us, k1, k2⟩
      exact this len (Nat.le_refl _)
    obtain ⟨l, hl, hall⟩ := key2
    refine ⟨l, ⟨rfl, fun j y hy => ?_⟩, by omega, fun z hz => ?_⟩
    · rcases j with _ | j
      · simp only [ecS, List.getElem?_cons_zero, Option.some.injEq] at hy
        subst hy
        refine ⟨_, rfl, ?_⟩
        rw [hl]
        by_cases hz : len = 0
        · subst hz
          have : l = [] := List.eq_nil_of_length_eq_zero hl
          subst this
          exact .nil _ _ _ hcm
        · obtain ⟨b0, hb0⟩ : ∃ b, l[0]? = some b := ⟨_, List.getElem?_eq_getElem (by omega)⟩
          obtain ⟨_, us0, k0, _⟩ := hall 0 b0 hb0
          obtain ⟨hlen0, _, hc0⟩ := World.cells?_some k0
          have hcell0 := hc0 0 (by omega)
          obtain ⟨bl, off, spot⟩ := a
          have hspot : spot = none := by
            obtain ⟨z, hz0⟩ : ∃ z, us0[0]? = some z := ⟨_, List.getElem?_eq_getElem (by omega)⟩
            rw [hz0] at hcell0
            simpa [Addr.add] using World.cell?_spot hcell0
          subst hspot
          have cellAt : ∀ i b, l[i]? = some b → ∀ j y, (f b)[j]? = some y → ∃ u, W.cell? ⟨bl, off + i * sz + j, none⟩ = some u ∧ IRel (rdAll W) u y := by
            intro i b hb j y hy
            obtain ⟨_, us, k1, k2⟩ := hall i b hb
            obtain ⟨hlen1, _, hc1⟩ := World.cells?_some k1
            obtain ⟨u, q1, q2⟩ := k2.2 j y hy
            rw [Nat.zero_add] at q1
            have hj : j < sz := by have := (List.getElem?_eq_some_iff.1 hy).1; rw [hlen b] at this; exact this
            have := hc1 j (by omega)
            rw [q1] at this
            refine ⟨u, ?_, q2⟩
            rw [Addr.add_mid, Addr.add_mid] at this
            exact this
          refine .slc bl off len cap sz (l.map f) (fun i j => (W.cell? ⟨bl, off + i * sz + j, none⟩).getD (.bool false)) (by simp [hl]) hlc hcm ?_ ?_ ?_
          · intro x hx
            obtain ⟨b, _, rfl⟩ := List.mem_map.1 hx
            exact hlen b
          · intro i x j y hx hy
            rw [List.getElem?_map] at hx
            obtain ⟨b, hb, rfl⟩ := Option.map_eq_some_iff.1 hx
            obtain ⟨u, q1, _⟩ := cellAt i b hb j y hy
            simp only [rdAll, q1, Option.getD_some]
          · intro i x j y hx hy
            rw [List.getElem?_map] at hx
            obtain ⟨b, hb, rfl⟩ := Option.map_eq_some_iff.1 hx
            obtain ⟨u, q1, q2⟩ := cellAt i b hb j y hy
            simp only [q1, Option.getD_some]
            exact q2
      · simp [ecS] at hy
    · obtain ⟨i, hi⟩ := List.getElem?_of_mem hz
      exact (hall i z hi).1

/-- a single cell as an argument -/
theorem open_cellR {P : Program} {t : TypeId} {H : Type} {enc : TypeId × Value → H} {W : World} {v : Value} {d : DataW H} {p : List MemPlace} {α : Type} {f : α → List SC} {wf : α → Prop} {c : α → SC} (hop : OpensR P t f wf) (hc : ∀ a, f a = [c a]) (hv : v.cells = #[v]) (h : DataW.Trod enc P W 0 (fun _ => true) true t v d p) (hw : Wt P t d) : ∃ a, VRel (rdAll W) env0 v (.c (c a)) ∧ wf a := by
  obtain ⟨fuel, hf⟩ := h
  obtain ⟨a, hs, hw2⟩ := hop H enc W fuel _ _ hf hw
  rw [hv] at hs
  refine ⟨a, ?_, hw2⟩
  obtain ⟨u, k1, k2⟩ := hs.2 0 (c a) (by rw [hc]; rfl)
  simp at k1
  subst k1
  exact k2.c
/-- a slice as an argument -/
theorem open_slcR {P : Program} {t e : TypeId} {H : Type} {enc : TypeId × Value → H} {W : World} {v : Value} {d : DataW H} {p : List MemPlace} {r : Reach} {b0 : Nat} {α : Type} {sz : Nat} {f : α → List SC} {wf : List α → Prop} (hop : OpensR P t (ecS sz f) wf) (ht : P.underlying t = some (.slice e))
    (hv : Value.okWide P W r b0 t v) (h : DataW.Trod enc P W 0 (fun _ => true) true t v d p) (hw : Wt P t d) : ∃ a, VRel (rdAll W) env0 v (.c (eS sz f a)) ∧ wf a := by
  obtain ⟨a0, len, cap, rfl⟩ := okWide_slice ht hv
  exact open_cellR hop (fun a => rfl) rfl h hw
end
section
open Go.ChangeShapes Go.WideShapes Go.ChangeAt Go.RowKit

def S_Settings.wf (x : S_Settings) : Prop := wfI .i64 x.Version ∧ wfR (wfI .u8) x.Data ∧ wfA .u8 8 x.Tag
def S_Diagnostic.wf (x : S_Diagnostic) : Prop := wfI .u64 x.Node ∧ wfI .i64 x.Number ∧ wfR (wfI .u8) x.Data
end
section
open Go.RowKit

theorem valid_len {l : List DR} (h : validR l = true) : l.length ≤ 64 := (validR_iff.1 h).len
end
section
open Go.RowKit

theorem ior_comm (x y : Int) : ior .u64 x y = ior .u64 y x := by unfold ior; rw [BitVec.or_comm]
theorem be_step {v c : Int} (h0 : 0 ≤ v) (h1 : v < 72057594037927936) (c0 : 0 ≤ c) (c1 : c ≤ 255) : ior .u64 (ishl .u64 v 8) (IntKind.wrap .u64 c) = v * 256 + c := by
  have e : (2 : Int) ^ (8 : Int).toNat = 2 ^ 8 := rfl
  have e2 : (256 : Int) = 2 ^ 8 := rfl
  rw [ishl_eq (by omega) (by omega), wu c0 (by omega), e, Int.emod_eq_of_lt (Int.mul_nonneg h0 (by decide)) (by rw [← e2]; omega), ior_comm, ior_add 8 c0 (by omega) h0 (by rw [← e2]; omega)]
  omega
theorem be_fold (l : List Int) (h : okB l) (h8 : l.length ≤ 8) (k : Nat) (hk : k < l.length) : ior .u64 (ishl .u64 (beN (l.take k)) 8) (IntKind.wrap .u64 l[k]) = beN (l.take (k + 1)) := by
  have hb := beN_bd (h.take k)
  have hl : (l.take k).length = k := by rw [List.length_take]; omega
  have hp : (256 : Int) ^ k ≤ 72057594037927936 := by
    have : k ≤ 7 := by omega
    rcases k with _ | _ | _ | _ | _ | _ | _ | _ | k
    all_goals first | decide | omega
  rw [hl] at hb
  have hx := h.get hk
  rw [be_step hb.1 (by omega) hx.1 hx.2, take_snoc (List.getElem?_eq_getElem hk), beN_snoc]
theorem beN_beB (v : Int) (n : Nat) : beN (beB v n) = v % 256 ^ n := by
  induction n generalizing v with
  | zero => simp [beB, beN, Int.emod_one]
  | succ n ih =>
    have e : beB v (n + 1) = beB (v / 256) n ++ [v % 256] := by
      apply List.ext_getElem?
      intro i
      rcases Nat.lt_trichotomy i n with hi | hi | hi
      · rw [beB_get (by omega), List.getElem?_append_left (by rw [beB_len]; exact hi), beB_get hi]
        congr 2
        rw [show n + 1 - 1 - i = (n - 1 - i) + 1 by omega, Nat.mul_add, Int.pow_add]
        rw [Int.mul_comm, ← Int.ediv_ediv_of_nonneg (by decide)]
        rfl
      · subst hi
        rw [beB_get (by omega), List.getElem?_append_right (by rw [beB_len]; exact Nat.le_refl _), beB_len]
        simp
      · rw [List.getElem?_eq_none (by rw [beB_len]; omega), List.getElem?_eq_none (by simp [beB_len]; omega)]
    rw [e, beN_snoc, ih, Int.pow_succ]
    have h1 := Int.emod_add_mul_ediv v 256
    have h2 := Int.emod_add_mul_ediv (v / 256) (256 ^ n)
    have hp : (0 : Int) < 256 ^ n := Int.pow_pos (by decide)
    have h3 := Int.emod_nonneg (v / 256) (Int.ne_of_gt hp)
    have h4 := Int.emod_lt_of_pos (v / 256) hp
    have h5 := Int.emod_nonneg v (show (256 : Int) ≠ 0 by decide)
    have h6 := Int.emod_lt_of_pos v (show (0 : Int) < 256 by decide)
    have h7 : v = (v / 256 % 256 ^ n * 256 + v % 256) + (256 ^ n * 256) * (v / 256 / 256 ^ n) := by
      have : 256 * (256 ^ n * (v / 256 / 256 ^ n)) = (256 ^ n * 256) * (v / 256 / 256 ^ n) := by
        rw [← Int.mul_assoc, Int.mul_comm (256 : Int) (256 ^ n)]
      omega
    have h8 : (0 : Int) ≤ v / 256 % 256 ^ n * 256 + v % 256 := by omega
    have h9 : v / 256 % 256 ^ n * 256 + v % 256 < 256 ^ n * 256 := by omega
    conv => rhs; rw [h7]
    rw [Int.add_mul_emod_self_left, Int.emod_eq_of_lt h8 h9]
theorem uint_loop {l : List Int} (h : okB l) (h8 : l.length ≤ 8) : loopO (F_octets_Uint_l1 l) (0, 0) = some (beN l) := by
  have hl := loop_run (step := F_octets_Uint_l1 l) (S := fun k => (beN (l.take k), (k : Int))) l.length (r := beN l) (fun k hk => by
    unfold F_octets_Uint_l1
    dsimp only
    rw [decT (show (k : Int) < (l.length : Int) by omega), idx_lt hk]
    simp only [cond_true, Option.bind_some]
    rw [be_fold l h h8 k hk, wk k (by omega)]) (by
    unfold F_octets_Uint_l1
    dsimp only
    rw [decF (show ¬ (l.length : Int) < (l.length : Int) by omega)]
    simp only [cond_false, List.take_length])
  exact hl
/-- octets.Uint within the list -/
theorem uint_some {b : List Int} (h : okB b) (hb : b.length ≤ 1000000000000) (i n : Nat) (h1 : 1 ≤ n) (h8 : n ≤ 8) (hi : i + n ≤ b.length) : F_octets_Uint b i n = some (beN ((b.drop i).take n), true) := by
  unfold F_octets_Uint
  rw [decF (show ¬ (n : Int) < 1 by omega), decF (show ¬ (n : Int) > 8 by omega), decF (show ¬ (i : Int) < 0 by omega), wi (by omega) (by omega), decF (show ¬ (i : Int) > (b.length : Int) - (n : Int) by omega), wi (by omega) (by omega), subO_some (by omega) (by omega) (by omega)]
  simp only [cond_false, Option.bind_some]
  rw [show (b.take ((i : Int) + (n : Int)).toNat).drop (i : Int).toNat = (b.drop i).take n by rw [show ((i : Int) + (n : Int)).toNat = i + n by omega, Int.toNat_natCast, List.drop_take, Nat.add_sub_cancel_left]]
  rw [uint_loop ((h.drop i).take n) (by rw [List.length_take]; omega)]
  rfl
end
section
open Go.RowKit

theorem beN4 {b : List Int} (h : okB b) : 0 ≤ beN (b.take 4) ∧ beN (b.take 4) < 4294967296 := by
  have hb := beN_bd (h.take 4)
  have hl : (b.take 4).length ≤ 4 := by rw [List.length_take]; omega
  have : (256 : Int) ^ (b.take 4).length ≤ 4294967296 := by
    generalize (b.take 4).length = m at hl
    rcases m with _ | _ | _ | _ | _ | m
    all_goals first | decide | omega
  omega
end
section
open Go.RowKit

def recB (d : DR) : List Int := beB d.Node 8 ++ beB (IntKind.wrap .u64 d.Number) 4 ++ [(d.Data.length : Int)] ++ d.Data
theorem recB_len (d : DR) : (recB d).length = 13 + d.Data.length := by simp [recB, beB_len]; omega
theorem recB_ok {d : DR} (h : okB d.Data) (hl : d.Data.length ≤ 64) : okB (recB d) := (((beB_ok _ _).append (beB_ok _ _)).append (okB_one (by omega))).append h
def recN (b : List Int) : Nat := 13 + (b.getD 12 0).toNat
def recOf (b : List Int) : DR := ⟨beN (b.take 8), beN ((b.drop 8).take 4), (b.drop 13).take (recN b - 13)⟩
def parseR : Nat → List Int → Option (List DR)
  | 0, _ => some []
  | f + 1, b => if b.length = 0 then some [] else if b.length < 13 then none else if b.length < recN b then none else (parseR f (b.drop (recN b))).map (recOf b :: ·)
theorem i12 {b : List Int} (h : okB b) (hl : 13 ≤ b.length) : idx b 12 = some (b.getD 12 0) ∧ 0 ≤ b.getD 12 0 ∧ b.getD 12 0 ≤ 255 := by
  have := h.getD 12
  refine ⟨?_, this⟩
  have e := idx_lt (l := b) (k := 12) (by omega)
  rw [show ((12 : Nat) : Int) = 12 from rfl] at e
  rw [e, getD_get (by omega)]
theorem ends_spec : ∀ (f : Nat) {b : List Int}, okB b → b.length ≤ 100000 → b.length ≤ f → loopO F_management_ends_l1 b = some (if (parseR f b).isNone then .inr true else .inl ())
  | 0, b, _, _, hf => by
    have : b = [] := List.eq_nil_of_length_eq_zero (by omega)
    subst this
    exact loop_done rfl
  | f + 1, b, h, hb, hf => by
    unfold parseR
    by_cases c0 : b.length = 0
    · have : b = [] := List.eq_nil_of_length_eq_zero c0
      subst this
      exact loop_done rfl
    rw [if_neg c0]
    by_cases c1 : b.length < 13
    · rw [if_pos c1]
      refine loop_done ?_
      unfold F_management_ends_l1
      rw [decT (show (b.length : Int) > 0 by omega), decT (show (b.length : Int) < 13 by omega)]
      rfl
    rw [if_neg c1]
    obtain ⟨e1, e2, e3⟩ := i12 h (by omega)
    have en : IntKind.wrap .i64 (13 + IntKind.wrap .i64 (b.getD 12 0)) = (recN b : Int) := by rw [wi (x := b.getD 12 0) (by omega) (by omega), wi (by omega) (by omega)]; unfold recN; omega
    have hstep : F_management_ends_l1 b = if b.length < recN b then some (.inr (.inr true)) else some (.inl (b.drop (recN b))) := by
      unfold F_management_ends_l1
      rw [decT (show (b.length : Int) > 0 by omega), decF (show ¬ (b.length : Int) < 13 by omega), e1]
      simp only [cond_true, cond_false, Option.bind_some]
      rw [en]
      by_cases c2 : b.length < recN b
      · rw [decT (by omega), if_pos c2]; rfl
      · rw [decF (by omega), if_neg c2, subO_some (by omega) (by omega) (by omega)]
        simp
    by_cases c2 : b.length < recN b
    · rw [if_pos c2] at hstep ⊢
      exact loop_done hstep
    · rw [if_neg c2] at hstep ⊢
      have hr : 13 ≤ recN b := by unfold recN; omega
      rw [loop_next hstep, ends_spec f (h.drop _) (by rw [List.length_drop]; omega) (by rw [List.length_drop]; omega)]
      simp
structure okRec (b : List Int) : Prop where
  ok : okB b
  len : 13 ≤ b.length
  fits : recN b ≤ b.length
  small : b.length ≤ 100000
theorem num4 {b : List Int} (h : okB b) : 0 ≤ beN ((b.drop 8).take 4) ∧ beN ((b.drop 8).take 4) < 4294967296 := beN4 (h.drop 8)
theorem recOf_wf {b : List Int} (h : okB b) : wfRc (recOf b) := ⟨(beN_bd (h.take 8)).1, (h.drop 13).take _⟩
theorem prog_dstep {b : List Int} (h : okRec b) {l : List DR} (hl : l.length < 64) : F_management_DecodeReports_l1 (b, l) = some (.inl (b.drop (recN b), l ++ [recOf b])) := by
  unfold F_management_DecodeReports_l1
  have h1 := h.len
  have h2 := h.fits
  have h3 := h.small
  obtain ⟨e1, e2, e3⟩ := i12 h.ok (by omega)
  have en : IntKind.wrap .i64 (13 + IntKind.wrap .i64 (b.getD 12 0)) = (recN b : Int) := by rw [wi (x := b.getD 12 0) (by omega) (by omega), wi (by omega) (by omega)]; unfold recN; omega
  have hr : 13 ≤ recN b := by unfold recN; omega
  dsimp only
  rw [decT (show (b.length : Int) > 0 by omega), decF (show ¬ (l.length : Int) ≥ 64 by omega)]
  simp only [cond_true, cond_false]
  have g1 := uint_some h.ok (by omega) 0 8 (by omega) (by omega) (by omega)
  have g2 := uint_some h.ok (by omega) 8 4 (by omega) (by omega) (by omega)
  rw [show ((8 : Nat) : Int) = 8 from rfl, show ((0 : Nat) : Int) = 0 from rfl, List.drop_zero] at g1
  rw [show ((8 : Nat) : Int) = 8 from rfl, show ((4 : Nat) : Int) = 4 from rfl] at g2
  have n4 := num4 h.ok
  rw [g1, g2, e1]
  simp only [Option.bind_some]
  rw [en, subO_some (by omega) (by omega) (by omega), Option.bind_some, copy_nil (by simp; omega), Option.bind_some, wi (x := beN ((b.drop 8).take 4)) (by omega) (by omega)]
  simp only [Cut.app]
  rw [appO_some (by simp; omega) (by simp; omega), Option.bind_some, subO_some (by omega) (by omega) (by omega), Option.bind_some]
  simp only [Int.toNat_natCast, List.take_length]
  have ed : (b.take (recN b)).drop (13 : Int).toNat = (b.drop 13).take (recN b - 13) := by rw [List.drop_take]; rfl
  rw [ed]
  rfl
theorem prog_dloop : ∀ (f : Nat) {b : List Int} {l m : List DR}, okB b → b.length ≤ 100000 → b.length ≤ f → l.length ≤ 64 → parseR f b = some m → loopO F_management_DecodeReports_l1 (b, l) = some (if (l ++ m).length > 64 then .inr ([], 5) else .inl (l ++ m))
  | 0, b, l, m, _, _, hf, hl, hm => by
    have : b = [] := List.eq_nil_of_length_eq_zero (by omega)
    subst this
    cases hm
    rw [List.append_nil, if_neg (by omega)]
    exact loop_done rfl
  | f + 1, b, l, m, h, hb, hf, hl, hm => by
    unfold parseR at hm
    by_cases c0 : b.length = 0
    · have : b = [] := List.eq_nil_of_length_eq_zero c0
      subst this
      rw [if_pos c0] at hm
      cases hm
      rw [List.append_nil, if_neg (by omega)]
      exact loop_done rfl
    rw [if_neg c0] at hm
    by_cases c1 : b.length < 13
    · rw [if_pos c1] at hm; cases hm
    rw [if_neg c1] at hm
    by_cases c2 : b.length < recN b
    · rw [if_pos c2] at hm; cases hm
    rw [if_neg c2] at hm
    obtain ⟨m', hm', rfl⟩ := Option.map_eq_some_iff.1 hm
    by_cases c3 : l.length = 64
    · rw [if_pos (by simp; omega)]
      refine loop_done ?_
      unfold F_management_DecodeReports_l1
      dsimp only
      rw [decT (show (b.length : Int) > 0 by omega), decT (show (l.length : Int) ≥ 64 by omega)]
      rfl
    · have hr : 13 ≤ recN b := by unfold recN; omega
      rw [loop_next (prog_dstep ⟨h, by omega, by omega, hb⟩ (by omega)), prog_dloop f (h.drop _) (by rw [List.length_drop]; omega) (by rw [List.length_drop]; omega) (by simp; omega) hm']
      simp
theorem parse_wf : ∀ (f : Nat) {b : List Int} {m : List DR}, okB b → parseR f b = some m → wfL' m
  | 0, b, m, _, hm => by cases hm; exact ⟨by simp, by simp⟩
  | f + 1, b, m, h, hm => by
    unfold parseR at hm
    split at hm
    · cases hm; exact ⟨by simp, by simp⟩
    · split at hm
      · cases hm
      · split at hm
        · cases hm
        · obtain ⟨m', hm', rfl⟩ := Option.map_eq_some_iff.1 hm
          have ih := parse_wf f (h.drop _) hm'
          have hr := recOf_wf h
          refine ⟨fun d hd => ?_, fun d hd => ?_⟩
          · rcases List.mem_cons.1 hd with rfl | hd
            · exact hr.node
            · exact ih.node d hd
          · rcases List.mem_cons.1 hd with rfl | hd
            · exact hr.data
            · exact ih.data d hd
def decR (b : List Int) : List DR × Int := match parseR b.length b with
  | none => ([], 4)
  | some m => if validR m then (m, 0) else ([], 5)
theorem prog_decR {b : List Int} (h : okB b) (hb : b.length ≤ 100000) : F_management_DecodeReports b = some (decR b) := by
  unfold F_management_DecodeReports F_management_ends decR
  rw [ends_spec b.length h hb (Nat.le_refl _)]
  cases hp : parseR b.length b with
  | none => rfl
  | some m =>
    simp only [Option.isNone_some, Bool.false_eq_true, if_false, Option.bind_some, Sum.elim_inl, cond_false]
    rw [prog_dloop b.length h hb (Nat.le_refl _) (by simp) hp]
    simp only [List.nil_append]
    by_cases c : m.length > 64
    · have : validR m = false := by
        cases hv : validR m with
        | false => rfl
        | true => have := valid_len hv; omega
      rw [if_pos c, this]; rfl
    · rw [if_neg c]
      simp only [Option.bind_some, Sum.elim_inl]
      rw [prog_validR (parse_wf _ h hp).r, Option.bind_some]
      cases validR m <;> rfl
end
section
open Go.RowKit

def flatB : List DR → List Int
  | [] => []
  | d :: l => recB d ++ flatB l
theorem flatB_snoc (l : List DR) (d : DR) : flatB (l ++ [d]) = flatB l ++ recB d := by
  induction l with
  | nil => simp [flatB]
  | cons x l ih => simp [flatB, ih]
theorem flatB_ok : ∀ {l : List DR}, (∀ d ∈ l, okB d.Data ∧ d.Data.length ≤ 64) → okB (flatB l)
  | [], _ => okB_nil
  | d :: l, h => (recB_ok (h d (by simp)).1 (h d (by simp)).2).append (flatB_ok fun x hx => h x (by simp [hx]))
theorem flatB_len : ∀ {l : List DR}, (∀ d ∈ l, okB d.Data ∧ d.Data.length ≤ 64) → (flatB l).length ≤ 77 * l.length
  | [], _ => by simp [flatB]
  | d :: l, h => by
    have h1 := (h d (by simp)).2
    have h2 := flatB_len (l := l) fun x hx => h x (by simp [hx])
    simp only [flatB, List.length_append, recB_len, List.length_cons]
    omega
theorem enc_step {l : List DR} (hs : smallR l) {size : Int} (h0 : 0 ≤ size) (h1 : size ≤ 9223372036854775807) {i : Nat} (hi : i < l.length) {out : List Int} (hl : out.length ≤ 77 * i) :
    F_management_EncodeReports_l1 l size (out, (i : Int)) = if (out.length : Int) + 13 + l[i].Data.length ≤ size then some (.inl (out ++ recB l[i], ((i + 1 : Nat) : Int))) else some (.inr (.inr (out, (i : Int), 0))) := by
  have h64 := hs.len
  obtain ⟨od, hd⟩ := hs.data _ (List.getElem_mem hi)
  unfold F_management_EncodeReports_l1
  dsimp only
  rw [decT (show (i : Int) < (l.length : Int) by omega), idx_lt hi]
  simp only [cond_true, Option.bind_some]
  rw [wi (x := 13 + (l[i].Data.length : Int)) (by omega) (by omega), wi (x := size - (out.length : Int)) (by omega) (by omega)]
  by_cases c : (out.length : Int) + 13 + (l[i].Data.length : Int) ≤ size
  · rw [decF (show ¬ 13 + (l[i].Data.length : Int) > size - (out.length : Int) by omega), if_pos c]
    simp only [cond_false]
    have p1 := octets_append out l[i].Node 8 (by omega) (by omega)
    have p2 := octets_append (out ++ beB l[i].Node 8) (IntKind.wrap .u64 l[i].Number) 4 (by omega) (by simp [beB_len]; omega)
    rw [show ((8 : Nat) : Int) = 8 from rfl] at p1
    rw [show ((4 : Nat) : Int) = 4 from rfl] at p2
    rw [p1, Option.bind_some, p2, Option.bind_some]
    simp only [Cut.app]
    rw [wu8 (by omega) (by omega), appO_some (by simp [beB_len]; omega) (by simp [beB_len]; omega), Option.bind_some, appO_some (by simp [beB_len]; omega) (by simp [beB_len]; omega), Option.bind_some, wk i (by omega)]
    simp [recB]
  · rw [decT (show 13 + (l[i].Data.length : Int) > size - (out.length : Int) by omega), if_neg c]; rfl
theorem enc_flat {l : List DR} (hs : smallR l) {size : Int} (h0 : 0 ≤ size) (h1 : size ≤ 9223372036854775807) : ∀ (m i : Nat), m + i = l.length → ((flatB (l.take i)).length : Int) ≤ size →
    ∃ n : Nat, i ≤ n ∧ n ≤ l.length ∧ ((flatB (l.take n)).length : Int) ≤ size ∧ (∀ hi : i < l.length, ((flatB (l.take i)).length : Int) + 13 + l[i].Data.length ≤ size → i < n) ∧ loopO (F_management_EncodeReports_l1 l size) (flatB (l.take i), (i : Int)) = some (if n = l.length then .inl (flatB (l.take n)) else .inr (flatB (l.take n), (n : Int), 0))
  | 0, i, hm, hb => by
    obtain rfl : i = l.length := by omega
    refine ⟨l.length, Nat.le_refl _, Nat.le_refl _, hb, fun hi => absurd hi (by omega), ?_⟩
    rw [if_pos rfl]
    refine loop_done ?_
    unfold F_management_EncodeReports_l1
    dsimp only
    rw [decF (by omega)]
    rfl
  | m + 1, i, hm, hb => by
    have hi : i < l.length := by omega
    have hl : (flatB (l.take i)).length ≤ 77 * i := by
      have := flatB_len (l := l.take i) fun d hd => hs.data d (List.mem_of_mem_take hd)
      rw [List.length_take] at this
      omega
    have e := enc_step hs h0 h1 hi hl
    by_cases c : ((flatB (l.take i)).length : Int) + 13 + l[i].Data.length ≤ size
    · rw [if_pos c] at e
      have et : flatB (l.take i) ++ recB l[i] = flatB (l.take (i + 1)) := by rw [take_snoc (List.getElem?_eq_getElem hi), flatB_snoc]
      rw [et] at e
      obtain ⟨n, q1, q2, q3, _, q5⟩ := enc_flat hs h0 h1 m (i + 1) (by omega) (by rw [← et, List.length_append, recB_len]; omega)
      exact ⟨n, by omega, q2, q3, fun _ _ => by omega, by rw [loop_next e]; exact q5⟩
    · rw [if_neg c] at e
      refine ⟨i, Nat.le_refl _, by omega, hb, fun _ h => absurd h c, ?_⟩
      rw [if_neg (by omega)]
      exact loop_done e
/-- lists that are made, with short data -/
structure ShortR (l : List DR) : Prop where
  made : MadeR l
  data : ∀ d ∈ l, d.Data.length ≤ 6
theorem ShortR.small {l : List DR} (h : ShortR l) : smallR l := ⟨by have := h.made.len; omega, fun d hd => ⟨h.made.data d hd, by have := h.data d hd; omega⟩⟩
theorem ShortR.sub {l m : List DR} (h : ShortR l) (hs : m.Sublist l) : ShortR m :=
  ⟨⟨⟨by have := h.made.len; have := hs.length_le; omega, fun d hd => h.made.valid.ok d (hs.subset hd), h.made.valid.ord.sublist hs⟩, fun d hd => h.made.node d (hs.subset hd), fun d hd => h.made.data d (hs.subset hd)⟩, fun d hd => h.data d (hs.subset hd)⟩
theorem enc_part {l : List DR} (h : ShortR l) (hne : l ≠ []) {size : Int} (h0 : 20 ≤ size) (h1 : size ≤ 1000) : ∃ n : Nat, 1 ≤ n ∧ n ≤ l.length ∧ F_management_EncodeReports l size = some (flatB (l.take n), (n : Int), 0) ∧ ((flatB (l.take n)).length : Int) ≤ size := by
  have hpos : 0 < l.length := List.length_pos_iff.2 hne
  have hd := h.data _ (List.getElem_mem hpos)
  obtain ⟨n, q1, q2, q3, q4, q5⟩ := enc_flat h.small (size := size) (by omega) (by omega) l.length 0 (by omega) (by simp [flatB]; omega)
  refine ⟨n, q4 hpos (by simp [flatB]; omega), q2, ?_, q3⟩
  unfold F_management_EncodeReports
  rw [prog_validR h.made.wf.r, validR_iff.2 h.made.valid, Option.bind_some, cond_true, decF (show ¬ size < 0 by omega), cond_false]
  have e0 : loopO (F_management_EncodeReports_l1 l size) (([] : List Int), 0) = _ := q5
  rw [e0, Option.bind_some]
  by_cases c : n = l.length
  · rw [if_pos c, c]
    rfl
  · rw [if_neg c]
    rfl
theorem recOf_app {d : DR} (hn : 1 ≤ d.Node ∧ d.Node ≤ 5) (h0 : 0 ≤ d.Number ∧ d.Number ≤ 1073741824) (hl : d.Data.length ≤ 64) (r : List Int) : recN (recB d ++ r) = (recB d).length ∧ recOf (recB d ++ r) = d := by
  have e12 : (recB d ++ r).getD 12 0 = (d.Data.length : Int) := by
    rw [List.getD_eq_getElem?_getD]
    have : (recB d ++ r)[12]? = some (d.Data.length : Int) := by
      unfold recB
      rw [List.append_assoc, List.append_assoc, List.append_assoc, ← List.append_assoc (beB d.Node 8), List.getElem?_append_right (by simp [beB_len])]
      simp [beB_len]
    rw [this]
    rfl
  have eN : recN (recB d ++ r) = (recB d).length := by
    unfold recN
    rw [e12, recB_len]
    omega
  refine ⟨eN, ?_⟩
  unfold recOf
  rw [eN, recB_len]
  have t8 : (recB d ++ r).take 8 = beB d.Node 8 := by
    unfold recB
    rw [List.append_assoc, List.append_assoc, List.append_assoc, List.take_append_of_le_length (by rw [beB_len]; exact Nat.le_refl _), List.take_of_length_le (by rw [beB_len]; exact Nat.le_refl _)]
  have d8 : ((recB d ++ r).drop 8).take 4 = beB (IntKind.wrap .u64 d.Number) 4 := by
    unfold recB
    rw [List.append_assoc, List.append_assoc, List.append_assoc, List.drop_append_of_le_length (by rw [beB_len]; exact Nat.le_refl _), List.drop_of_length_le (by rw [beB_len]; exact Nat.le_refl _), List.nil_append, List.take_append_of_le_length (by rw [beB_len]; exact Nat.le_refl _), List.take_of_length_le (by rw [beB_len]; exact Nat.le_refl _)]
  have d13 : ((recB d ++ r).drop 13).take (13 + d.Data.length - 13) = d.Data := by
    have e : recB d ++ r = (beB d.Node 8 ++ beB (IntKind.wrap .u64 d.Number) 4 ++ [(d.Data.length : Int)]) ++ (d.Data ++ r) := by simp [recB]
    rw [e, List.drop_append_of_le_length (by simp [beB_len]), List.drop_of_length_le (by simp [beB_len]), List.nil_append, show 13 + d.Data.length - 13 = d.Data.length by omega, List.take_append_of_le_length (Nat.le_refl _), List.take_length]
  rw [t8, d8, d13, beN_beB, beN_beB, wu (x := d.Number) (by omega) (by omega), Int.emod_eq_of_lt (by omega) (by have : (256 : Int) ^ 8 = 18446744073709551616 := by decide
                                                                                                                omega), Int.emod_eq_of_lt (by omega) (by have : (256 : Int) ^ 4 = 4294967296 := by decide
                                                                                                                                                         omega)]
theorem parse_flat : ∀ (f : Nat) {l : List DR}, (∀ d ∈ l, (1 ≤ d.Node ∧ d.Node ≤ 5) ∧ (0 ≤ d.Number ∧ d.Number ≤ 1073741824) ∧ d.Data.length ≤ 64) → (flatB l).length ≤ f → parseR f (flatB l) = some l
  | 0, [], _, _ => rfl
  | f + 1, [], _, _ => rfl
  | 0, d :: l, _, hf => by
    simp only [flatB, List.length_append, recB_len] at hf
    omega
  | f + 1, d :: l, h, hf => by
    obtain ⟨h1, h2, h3⟩ := h d (by simp)
    obtain ⟨eN, eR⟩ := recOf_app h1 h2 h3 (flatB l)
    have hl := recB_len d
    simp only [flatB, List.length_append] at hf
    unfold parseR flatB
    rw [if_neg (by rw [List.length_append]; omega), if_neg (by rw [List.length_append]; omega), eN, if_neg (by rw [List.length_append]; omega), eR, List.drop_append_of_le_length (Nat.le_refl _), List.drop_length, List.nil_append, parse_flat f (fun x hx => h x (by simp [hx])) (by omega)]
    rfl
theorem dec_part {l : List DR} (h : ShortR l) : F_management_DecodeReports (flatB l) = some (l, 0) := by
  have hs := h.small
  have hb := flatB_len hs.data
  have h5 := h.made.len
  rw [prog_decR (flatB_ok hs.data) (by omega)]
  unfold decR
  rw [parse_flat _ (fun d hd => ⟨h.made.node d hd, ⟨(h.made.valid.ok d hd).num0, (h.made.valid.ok d hd).num1⟩, (hs.data d hd).2⟩) (Nat.le_refl _)]
  dsimp only
  rw [if_pos (validR_iff.2 h.made.valid)]
def unionL (L : List (List DR)) : List DR := L.foldr unionS []
theorem unionL_made : ∀ {L : List (List DR)}, (∀ l ∈ L, ShortR l) → MadeR (unionL L)
  | [], _ => ⟨⟨by simp [unionL], by simp [unionL], by simp [unionL]⟩, by simp [unionL], by simp [unionL]⟩
  | x :: L, h => (h x (by simp)).made.union (unionL_made fun l hl => h l (by simp [hl]))
theorem unionL_take : ∀ {A B : List (List DR)} {X : List DR}, (∀ l ∈ A, ShortR l) → (∀ l ∈ B, ShortR l) → ShortR X → unionL (A ++ X :: B) = unionS X (unionL (A ++ B))
  | [], _, _, _, _, _ => rfl
  | a :: A, B, X, hA, hB, hX => by
    have ha := (hA a (by simp)).made.valid.ord
    have hx := hX.made.valid.ord
    have hr := (unionL_made (L := A ++ B) fun l hl => (List.mem_append.1 hl).elim (fun q => hA l (by simp [q])) (hB l)).valid.ord
    show unionS a (unionL (A ++ X :: B)) = unionS X (unionS a (unionL (A ++ B)))
    rw [unionL_take (fun l hl => hA l (by simp [hl])) hB hX, ← unionS_assoc ha hx hr, unionS_comm ha hx, unionS_assoc hx ha hr]
theorem union_app : ∀ {X Y : List DR}, Ord (X ++ Y) → unionS X Y = X ++ Y
  | [], Y, _ => nil_unionS Y
  | x :: X, [], _ => by rw [unionS_nil, List.append_nil]
  | x :: X, y :: Y, h => by
    have h' := List.pairwise_cons.1 h
    have hxy : x.Node < y.Node := h'.1 y (by simp)
    rw [unionS, if_pos hxy, union_app h'.2]
    rfl
theorem unionL_flat : ∀ {L : List (List DR)}, Ord L.flatten → unionL L = L.flatten
  | [], _ => rfl
  | x :: L, h => by
    have h' : Ord (x ++ L.flatten) := h
    show unionS x (unionL L) = x ++ L.flatten
    rw [unionL_flat (List.pairwise_append.1 h').2.1, union_app h']
theorem del_list {l : List (List Int)} {q : Nat} (hq : q < l.length) : (l.take q ++ l.drop (q + 1)).length = l.length - 1 := by
  rw [List.length_append, List.length_take, List.length_drop]
  omega
theorem del_step {v24 : List DR × Int} {tp : S_multihopmade_Tape} {l : List (List Int)} {q : Nat} (hq : q < l.length) (h100 : l.length ≤ 1000) {ρ : Type} (J : List (List Int) → Option ρ) :
    (bif decide ((0 : Int) ≤ (q : Int) ∧ (q : Int) ≤ (IntKind.wrap .i64 ((q : Int) + 1)) ∧ (IntKind.wrap .i64 ((q : Int) + 1)) ≤ (List.length l : Int) ∧ (List.length l : Int) ≤ (List.length l : Int)) then
          bif ((q : Int) == (IntKind.wrap .i64 ((q : Int) + 1))) then
            J l
          else
            bif decide ((0 : Int) ≤ 0 ∧ 0 ≤ (q : Int) ∧ (q : Int) ≤ (List.length l : Int)) then
              bif decide ((0 : Int) ≤ (IntKind.wrap .i64 ((q : Int) + 1)) ∧ (IntKind.wrap .i64 ((q : Int) + 1)) ≤ (List.length l : Int) ∧ (List.length l : Int) ≤ (List.length l : Int)) then
                bif decide ((Int.toNat (q : Int)) + List.length (Cut.app (.part (Int.toNat (IntKind.wrap .i64 ((q : Int) + 1))) (Int.toNat (List.length l : Int) - Int.toNat (IntKind.wrap .i64 ((q : Int) + 1)))) l) ≤ List.length l) then
                  bif decide ((0 : Int) ≤ (((Int.toNat (q : Int)) + List.length (Cut.app (.part (Int.toNat (IntKind.wrap .i64 ((q : Int) + 1))) (Int.toNat (List.length l : Int) - Int.toNat (IntKind.wrap .i64 ((q : Int) + 1)))) l)) : Int) ∧ (((Int.toNat (q : Int)) + List.length (Cut.app (.part (Int.toNat (IntKind.wrap .i64 ((q : Int) + 1))) (Int.toNat (List.length l : Int) - Int.toNat (IntKind.wrap .i64 ((q : Int) + 1)))) l)) : Int) ≤ (List.length l : Int) ∧ (List.length l : Int) ≤ (List.length (List.take (Int.toNat (q : Int)) l ++ (Cut.app (.part (Int.toNat (IntKind.wrap .i64 ((q : Int) + 1))) (Int.toNat (List.length l : Int) - Int.toNat (IntKind.wrap .i64 ((q : Int) + 1)))) l) ++ List.drop ((Int.toNat (q : Int)) + List.length (Cut.app (.part (Int.toNat (IntKind.wrap .i64 ((q : Int) + 1))) (Int.toNat (List.length l : Int) - Int.toNat (IntKind.wrap .i64 ((q : Int) + 1)))) l)) l) : Int)) then
                    J (List.take ((Int.toNat (q : Int)) + List.length (Cut.app (.part (Int.toNat (IntKind.wrap .i64 ((q : Int) + 1))) (Int.toNat (List.length l : Int) - Int.toNat (IntKind.wrap .i64 ((q : Int) + 1)))) l)) (clrL (List.take (Int.toNat (q : Int)) l ++ (Cut.app (.part (Int.toNat (IntKind.wrap .i64 ((q : Int) + 1))) (Int.toNat (List.length l : Int) - Int.toNat (IntKind.wrap .i64 ((q : Int) + 1)))) l) ++ List.drop ((Int.toNat (q : Int)) + List.length (Cut.app (.part (Int.toNat (IntKind.wrap .i64 ((q : Int) + 1))) (Int.toNat (List.length l : Int) - Int.toNat (IntKind.wrap .i64 ((q : Int) + 1)))) l)) l) (Int.toNat (((Int.toNat (q : Int)) + List.length (Cut.app (.part (Int.toNat (IntKind.wrap .i64 ((q : Int) + 1))) (Int.toNat (List.length l : Int) - Int.toNat (IntKind.wrap .i64 ((q : Int) + 1)))) l)) : Int)) (List.length (Cut.app (.part (Int.toNat (((Int.toNat (q : Int)) + List.length (Cut.app (.part (Int.toNat (IntKind.wrap .i64 ((q : Int) + 1))) (Int.toNat (List.length l : Int) - Int.toNat (IntKind.wrap .i64 ((q : Int) + 1)))) l)) : Int)) (Int.toNat (List.length l : Int) - Int.toNat (((Int.toNat (q : Int)) + List.length (Cut.app (.part (Int.toNat (IntKind.wrap .i64 ((q : Int) + 1))) (Int.toNat (List.length l : Int) - Int.toNat (IntKind.wrap .i64 ((q : Int) + 1)))) l)) : Int))) (List.take (Int.toNat (q : Int)) l ++ (Cut.app (.part (Int.toNat (IntKind.wrap .i64 ((q : Int) + 1))) (Int.toNat (List.length l : Int) - Int.toNat (IntKind.wrap .i64 ((q : Int) + 1)))) l) ++ List.drop ((Int.toNat (q : Int)) + List.length (Cut.app (.part (Int.toNat (IntKind.wrap .i64 ((q : Int) + 1))) (Int.toNat (List.length l : Int) - Int.toNat (IntKind.wrap .i64 ((q : Int) + 1)))) l)) l))) (([] : List Int) : List Int)))
                  else none
                else none
              else none
            else none
        else none) = J (l.take q ++ l.drop (q + 1)) := by
  rw [wk q (by omega)]
  simp only [Cut.app, Int.toNat_natCast]
  have hM : (l.drop (q + 1)).take (l.length - (q + 1)) = l.drop (q + 1) := List.take_of_length_le (by rw [List.length_drop]; exact Nat.le_refl _)
  have hMl : (l.drop (q + 1)).length = l.length - (q + 1) := List.length_drop
  simp only [hM]
  generalize hm : l.drop (q + 1) = M at hMl
  have hX : (l.take q ++ M ++ l.drop (q + M.length)).length = l.length := by
    simp only [List.length_append, List.length_take, List.length_drop]
    omega
  rw [hX, decT (by omega), beqF (show ¬ (q : Int) = ((q + 1 : Nat) : Int) by omega), decT (by omega), decT (by omega), decT (show q + M.length ≤ l.length by omega), decT (by omega)]
  simp only [cond_true, cond_false]
  congr 1
  unfold clrL
  rw [show ((q : Int) + (M.length : Int)).toNat = q + M.length by omega, List.append_assoc (List.take (q + M.length) _), List.take_append_of_le_length (by rw [List.length_take, hX]; omega), List.take_take, Nat.min_self, List.take_append_of_le_length (by simp; omega), List.take_of_length_le (by simp; omega)]
theorem shorts_spec {t : S_multihopmade_Tape} (h : TapeOk t) : ∃ l t', F_world_Reports t = some (l, t') ∧ ShortR l ∧ TapeOk t' := by
  unfold F_world_Reports
  obtain ⟨n, t1, e, h0, h1, k1⟩ := next_spec h 6 (by omega) (by omega)
  rw [e, Option.bind_some]
  obtain ⟨r, hr, q⟩ := loop_inv (step := F_world_Reports_l1) (fun s => ShortR s.1 ∧ 0 ≤ s.2.1 ∧ s.2.1 ≤ 6 ∧ TapeOk s.2.2) (fun r => ShortR r.1 ∧ TapeOk r.2) (fun s => s.2.1.toNat) (by
    rintro ⟨l, i, t2⟩ ⟨⟨a1, a5⟩, a2, a3, a4⟩
    dsimp only at a1 a2 a3 a4 a5
    unfold F_world_Reports_l1 F_world_Reports_j2
    dsimp only
    by_cases hi : i > 0
    · left
      obtain ⟨v, t3, e3, b0, b1, k3⟩ := eui_spec a4
      obtain ⟨m, t4, e4, c0, c1, k4⟩ := next_spec k3 4 (by omega) (by omega)
      obtain ⟨d, t5, e5, od, hd, k5⟩ := bytes_spec k4 6 (by omega)
      rw [show ((6 : Nat) : Int) = 6 from rfl] at e5
      rw [decT hi, e3]
      simp only [cond_true, Option.bind_some]
      rw [e4, Option.bind_some]
      dsimp only
      rw [e5, Option.bind_some]
      dsimp only
      rw [ref_report (d := ⟨v, m, d⟩) a1.wf (by dsimp only; omega) od, Option.bind_some, wi (by omega) (by omega)]
      have hmk : MadeR [⟨v, m, d⟩] := by
        refine ⟨⟨by simp, fun e he => ?_, by simp⟩, fun e he => ?_, fun e he => ?_⟩ <;> rw [List.mem_singleton.1 he]
        · exact ⟨by dsimp only; omega, by dsimp only; omega, by dsimp only; omega, by dsimp only; omega⟩
        · exact ⟨b0, b1⟩
        · exact od
      have hrep : reportS l ⟨v, m, d⟩ = (unionS l [⟨v, m, d⟩], 0) := by
        unfold reportS okDB
        have := (a1.union hmk).len
        rw [validR_iff.2 a1.valid, if_neg (by simp; omega), if_neg (by dsimp only; omega), if_neg (by omega)]
      rw [hrep]
      refine ⟨_, rfl, ⟨⟨a1.union hmk, fun x hx => ?_⟩, by dsimp only; omega, by dsimp only; omega, k5⟩, by dsimp only; omega⟩
      rcases unionS_mem _ _ x hx with hx | hx
      · exact a5 x hx
      · rw [List.mem_singleton.1 hx]
        exact hd
    · right
      rw [decF hi]
      exact ⟨_, rfl, ⟨a1, a5⟩, a4⟩) (([] : List DR), n, t1) ⟨⟨⟨⟨by simp, by simp, by simp⟩, by simp, by simp⟩, by simp⟩, h0, by dsimp only; omega, k1⟩
  dsimp only
  rw [hr, Option.bind_some]
  exact ⟨_, _, rfl, q.1, q.2⟩
theorem split_loop {l : List DR} (h : ShortR l) {v : Int} (hv : 0 ≤ v ∧ v < 60) : ∃ L : List (List DR), loopO (F_law39_ReportsCollect_l1 v) (l, []) = some (.inl (L.map flatB)) ∧ L.flatten = l ∧ L.length ≤ 5 := by
  obtain ⟨r, e, L, hr, hL, hlen⟩ := loop_inv (step := F_law39_ReportsCollect_l1 v) (fun s => ∃ L : List (List DR), s.2 = L.map flatB ∧ L.flatten ++ s.1 = l ∧ L.length + s.1.length ≤ 5) (fun r => ∃ L : List (List DR), r = .inl (L.map flatB) ∧ L.flatten = l ∧ L.length ≤ 5) (fun s => s.1.length) (by
    rintro ⟨rest, parts⟩ ⟨L, h1, h2, h3⟩
    dsimp only at h1 h2 h3
    subst h1
    unfold F_law39_ReportsCollect_l1
    dsimp only
    by_cases hne : rest = []
    · right
      subst hne
      rw [decF (by simp)]
      exact ⟨_, rfl, L, rfl, by simpa using h2, by simpa using h3⟩
    · left
      have hpos : 0 < rest.length := List.length_pos_iff.2 hne
      have hs : ShortR rest := h.sub (by rw [← h2]; exact List.sublist_append_right _ _)
      rw [wi (x := 20 + v) (by omega) (by omega)]
      obtain ⟨n, n1, n2, en, nl⟩ := enc_part hs hne (size := 20 + v) (by omega) (by omega)
      rw [decT (by omega), cond_true, en, Option.bind_some]
      dsimp only
      rw [bne_self_eq_false, cond_false, decF (show ¬ (n : Int) < 1 by omega), cond_false, decF (by omega), cond_false]
      simp only [Cut.app, List.take_length]
      rw [appO_some (by simp; omega) (by simp; omega), Option.bind_some, subO_some (by omega) (by omega) (by omega), Option.bind_some, Int.toNat_natCast, Int.toNat_natCast, List.take_length]
      refine ⟨_, rfl, ⟨L ++ [rest.take n], by simp, ?_, ?_⟩, ?_⟩
      · dsimp only
        rw [List.flatten_append, List.append_assoc]
        simp [h2]
      · simp
        omega
      · simp
        omega) (l, []) ⟨[], rfl, rfl, by have := h.made.len; simpa using this⟩
  exact ⟨L, by rw [e, hr], hL, hlen⟩
theorem collect_law (t : List Int) (size : Int) : F_law39_ReportsCollect t size = some true := by
  unfold F_law39_ReportsCollect
  obtain ⟨t0, e0, k0⟩ := new_spec t
  obtain ⟨l, t1, e1, hl, k1⟩ := shorts_spec k0
  obtain ⟨v, e2, v0, v1⟩ := mod_spec size 60 (by omega) (by omega)
  obtain ⟨L, e3, hL, hlen⟩ := split_loop hl ⟨v0, v1⟩
  rw [e0, Option.bind_some, e1, Option.bind_some, e2, Option.bind_some]
  dsimp only
  rw [e3, Option.bind_some, Sum.elim_inl]
  have hLs : ∀ x ∈ L, ShortR x := fun x hx => hl.sub (by rw [← hL]; exact List.sublist_flatten_of_mem hx)
  have hU : unionL L = l := by rw [unionL_flat (by rw [hL]; exact hl.made.valid.ord), hL]
  obtain ⟨r, e4, hr⟩ := loop_inv (step := F_law39_ReportsCollect_l2) (fun s => ∃ M : List (List DR), s.2.2 = M.map flatB ∧ M.length ≤ 5 ∧ (∀ x ∈ M, ShortR x) ∧ MadeR s.1 ∧ unionS s.1 (unionL M) = l ∧ TapeOk s.2.1) (fun r => r = .inl l) (fun s => s.2.2.length) (by
    rintro ⟨all, tp, parts⟩ ⟨M, h1, h2, h3, h4, h5, h6⟩
    dsimp only at h1 h4 h5 h6
    subst h1
    unfold F_law39_ReportsCollect_l2
    dsimp only
    by_cases hM : M = []
    · right
      subst hM
      rw [decF (by simp)]
      refine ⟨_, rfl, ?_⟩
      have : unionS all [] = l := h5
      rw [unionS_nil] at this
      rw [this]
    · left
      have hpos : 0 < M.length := List.length_pos_iff.2 hM
      have hml : (M.map flatB).length = M.length := List.length_map _
      obtain ⟨q, t2, e5, q0, q1, k5⟩ := next_spec h6 ((M.map flatB).length : Int) (by omega) (by omega)
      obtain ⟨q, rfl⟩ : ∃ m : Nat, q = (m : Int) := ⟨q.toNat, by omega⟩
      have hq : q < M.length := by omega
      have hX := h3 _ (List.getElem_mem hq)
      rw [decT (by omega), cond_true, e5, Option.bind_some]
      dsimp only
      simp only [show ∀ (x : List (List Int)), Cut.app Cut.whole x = x from fun _ => rfl]
      rw [idx_lt (show q < (M.map flatB).length by omega), Option.bind_some, Nat.zero_add, Int.toNat_natCast, List.getElem?_eq_getElem (show q < (M.map flatB).length by omega), Option.bind_some, List.getElem_map, dec_part hX, Option.bind_some]
      dsimp only
      rw [bne_self_eq_false, cond_false, prog_merge h4.wf hX.made.wf, h4.merge hX.made, Option.bind_some]
      dsimp only
      rw [bne_self_eq_false, cond_false]
      have hd := del_step (v24 := (unionS all M[q], (0 : Int))) (tp := t2) (l := M.map flatB) (q := q) (by omega) (by omega) (F_law39_ReportsCollect_j3 (unionS all M[q], 0) ((q : Int), t2))
      rw [Int.toNat_natCast] at hd
      rw [hd]
      unfold F_law39_ReportsCollect_j3
      have hsplit : M = M.take q ++ M[q] :: M.drop (q + 1) := by rw [← List.drop_eq_getElem_cons hq, List.take_append_drop]
      have hA : ∀ x ∈ M.take q, ShortR x := fun x hx => h3 x (List.mem_of_mem_take hx)
      have hB : ∀ x ∈ M.drop (q + 1), ShortR x := fun x hx => h3 x (List.mem_of_mem_drop hx)
      have hrest := unionL_made (L := M.take q ++ M.drop (q + 1)) fun x hx => (List.mem_append.1 hx).elim (hA x) (hB x)
      refine ⟨_, rfl, ⟨M.take q ++ M.drop (q + 1), by simp [List.map_take, List.map_drop], by simp; omega, fun x hx => (List.mem_append.1 hx).elim (hA x) (hB x), h4.union hX.made, ?_, k5⟩, ?_⟩
      · dsimp only
        rw [unionS_assoc h4.valid.ord hX.made.valid.ord hrest.valid.ord, ← unionL_take hA hB hX, ← hsplit]
        exact h5
      · dsimp only
        rw [del_list (by omega)]
        omega) (([] : List DR), t1, L.map flatB) ⟨L, rfl, hlen, hLs, ⟨⟨by simp, by simp, by simp⟩, by simp, by simp⟩, by dsimp only; rw [nil_unionS]; exact hU, k1⟩
  rw [e4, hr, Option.bind_some, Sum.elim_inl, same_reports _ (by have := hl.made.len; omega), Option.bind_some, cond_true, known_true]
  rfl
end
section
open Go.ChangeShapes Go.WideShapes Go.ChangeAt Go.RowKit

set_option maxRecDepth 100000 in
theorem reportsCollect_lifted (hF : ∀ (a0 : List Int) (a1 : Int), wfR (wfI .i64) a0 → wfI .i64 a1 → F_law39_ReportsCollect a0 a1 = some true) (os : Os) (started : os.Started) (H : Type) (enc : TypeId × Value → H) :
    ReturnsInHanded {} Try.checked os 10 .any (Rows.reportsCollectSpec.pre6 enc Try.prog Try.f10 Rows.reportsCollectRow.domain false) (Rows.reportsCollectSpec.post enc Try.prog Try.f10 false true false false) := by
  refine returnsInHanded_of_change_sized (C := Try.checked) own started (by kernel_rfl) Try.func10
    (ChangeSpec.witness6 (enc := enc) (C := Try.checked) false ⟨#[], #[.slice none 0 0, .int .i64 0], []⟩ 8 (by kernel_rfl) (by kernel_rfl) (by kernel_rfl) (by kernel_rfl)) ?_
  intro W base args ds gs before hval0 hW hcnd hsz0 _
  have hval : ∀ (j : Nat) t v, Try.f10.params[j]? = some t → args[j]? = some v → Value.okWide Try.prog W .any base t v := hval0
  have hW' := hW
  obtain ⟨p, q, hA0, hV, rfl, hfz, hnd⟩ := hW
  have hA : DataW.TrodAll enc Try.prog W 0 (fun _ => true) true Try.f10.params.toList args.toList ds p := hA0
  have hAll := hA
  rw [Try.params10] at hA hval hAll
  obtain ⟨v0, vs0, d0, ds0, p0, q0, hargs, rfl, rfl, h0, r0⟩ := trodAll_cons hA
  obtain ⟨v1, vs1, d1, ds1, p1, q1, rfl, rfl, rfl, h1, r1⟩ := trodAll_cons r0
  obtain ⟨rfl, rfl, rfl⟩ := trodAll_nil r1
  obtain rfl : args = #[v0, v1] := by cases args; simp_all
  obtain ⟨rfl, rfl⟩ := trodVars_none hV
  obtain ⟨x0, hR0, w0⟩ := open_slcR (opens_sliceR (sz := 1) Try.underlying24 (by kernel_rfl) (opens_int (k := .i64) Try.underlying3).r (fun _ => by kernel_rfl) (by kernel_rfl) (by kernel_rfl)) Try.underlying24 (hval 0 24 v0 rfl rfl) h0 (wt_of hsz0 (j := 0) (by kernel_rfl) rfl)
  obtain ⟨x1, rfl, rfl, rfl, w1⟩ := open_int Try.underlying3 (hval 1 3 v1 rfl rfl) h1
  clear hA0 hval0 hsz0
  refine (con_true (us := [v0, .int .i64 x1]) (ok_law39_ReportsCollect x0 x1 true (hF x0 x1 w0 w1)) ⟨hR0, vrel_lit _ _ _, trivial⟩).mono fun e W' ⟨he, hx⟩ => ?_
  subst he
  have bel := hx.below
  exact ⟨_, rfl, _, _, _, [], _, [], hW', trodAll_mk1 (shut_bool Try.underlying4 _), trodAll_below laidOut bel (by kernel_rfl) hAll, rfl, bel.frame _, fun h => by cases h⟩

theorem reportsCollect_of (hF : ∀ (a0 : List Int) (a1 : Int), wfR (wfI .i64) a0 → wfI .i64 a1 → F_law39_ReportsCollect a0 a1 = some true) : Rows.ReportsCollectSaid :=
  OpenClaim.holds_of_wide 10 Try.f10 rfl rfl rfl rfl rfl rfl rfl ⟨rfl, rfl, rfl, rfl, rfl⟩ rfl rfl rfl rfl rfl (by kernel_rfl) Try.func10 (by kernel_rfl)
    (of_decide_eq_true (by kernel_rfl)) (by unfold Func.isWrapper; first | (rw [if_pos (by decide +kernel)]; kernel_rfl) | (rw [if_neg (by decide +kernel)]; exact ⟨rfl, rfl⟩))
    (fun os started H enc _ => reportsCollect_lifted hF os started H enc)
end
section
open Go.RowKit
theorem reportsCollect_holds : Rows.ReportsCollectSaid := reportsCollect_of fun t size _ _ => collect_law t size
end
end Go.Proofs.Ytcjoflgnifafiaa
