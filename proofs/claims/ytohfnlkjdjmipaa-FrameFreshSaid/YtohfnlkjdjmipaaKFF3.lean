/-
  Part 3 of what the proof of this law rests on.
-/
import Derived.Test.YtohfnlkjdjmipaaKFF2
namespace Go.Proofs.Ytohfnlkjdjmipaa
section
open Go.RowKit
attribute [local irreducible] TS go TD goD

structure S_multihopmade_Tape where
  l : List Int
  at_ : Int
def S_multihopmade_Tape.cs (x : S_multihopmade_Tape) : List SC := [eS 1 (ecI .i64) (x.l)] ++ [.lit (.int .i64 (x.at_))]

structure S_Addr where
  Mode : Int
  Short : Int
  EUI : Int
def S_Addr.cs (x : S_Addr) : List SC := [.lit (.int .i64 (x.Mode))] ++ [.lit (.int .u16 (x.Short))] ++ [.lit (.int .u64 (x.EUI))]
def S_Addr.eqb (x y : S_Addr) : Bool := (x.Mode == y.Mode) && ((x.Short == y.Short) && ((x.EUI == y.EUI) && true))

structure S_Frame where
  Kind : Int
  AckRequest : Bool
  Pending : Bool
  Secure : Bool
  Seq : Int
  Pan : Int
  Dst : S_Addr
  Src : S_Addr
  Counter : Int
  Key : Int
  Payload : List Int
  MIC : List Int
def S_Frame.cs (x : S_Frame) : List SC := [.lit (.int .i64 (x.Kind))] ++ [.lit (.bool (x.AckRequest))] ++ [.lit (.bool (x.Pending))] ++ [.lit (.bool (x.Secure))] ++ [.lit (.int .u8 (x.Seq))] ++ [.lit (.int .u16 (x.Pan))] ++ S_Addr.cs x.Dst ++ S_Addr.cs x.Src ++ [.lit (.int .u32 (x.Counter))] ++ [.lit (.int .u8 (x.Key))] ++ [eS 1 (ecI .u8) (x.Payload)] ++ [eS 1 (ecI .u8) (x.MIC)]

structure S_frame_reader where
  b : List Int
  bad : Bool
def S_frame_reader.cs (x : S_frame_reader) : List SC := [eS 1 (ecI .u8) (x.b)] ++ [.lit (.bool (x.bad))]

/-- multihop/multihopmade.New -/
noncomputable def F_made_New_j1  (v1 : (List Int)) : Option (S_multihopmade_Tape) :=
  some ((S_multihopmade_Tape.mk v1 0))
noncomputable def F_made_New (a0 : List Int) : Option (S_multihopmade_Tape) :=
  bif (decide ((List.length a0 : Int) > 400)) then
    (subO a0 0 400).bind fun l3 =>
    (F_made_New_j1) l3
  else
    (F_made_New_j1) a0
set_option maxRecDepth 100000 in
set_option maxHeartbeats 40000000 in
theorem ok_made_New (a0 : List Int) (r : S_multihopmade_Tape) (h : F_made_New a0 = some r) : Con Try.prog 11 [.c (eS 1 (ecI .i64) (a0))] [] (.c (.box 10 0)) [(10, .box (S_multihopmade_Tape.cs r))] := by
  unfold F_made_New at h
  refine con_of [] [(10, [2])] 11 Try.func11 rfl rfl (by kernel_rfl) (fun K => ?_)
  refine TS_go 4 ?_
  refine TS_cut ⟨[(0, [])], []⟩ (.mk [.code (codeAt [1] (bodyOf Try.f11))] .normal ⟨[(0, .c (.slc 1 0 (List.length a0) (List.map (ecI .i64) a0)))], []⟩) (by kernel_rfl) (by kernel_rfl) ?_
  refine TS_joinB ⟨[(0, [])], []⟩ (fun (v1 : (List Int)) => [(0, .c (eS 1 (ecI .i64) (v1)))]) (fun (v1 : (List Int)) => []) (F_made_New_j1) r ?_ ?_
  · clear h
    intro v1 h
    unfold F_made_New_j1 at h
    refine TS_go 8 ?_
    have ret := Option.some.inj h
    subst ret
    exact TS_ret (by kernel_rfl) (by kernel_rfl) (by kernel_rfl)
  · refine TS_go 6 ?_
    replace h := condO h
    rcases h with ⟨hb2, h⟩ | ⟨hb2, h⟩
    · refine TS_know 5 (b := true) hb2 (by kernel_rfl) (by kernel_rfl) ?_
      refine TS_T (by kernel_rfl) rfl ?_
      refine TS_go 2 ?_
      replace h := bindO h
      obtain ⟨l3, hl3, h⟩ := h
      refine TS_sub (ecI .i64) 1 hl3 (by kernel_rfl) (by kernel_rfl) ?_
      refine TS_go 2 ?_
      exact TS_meet l3 ⟨[(0, [])], []⟩ h (by kernel_rfl) (by kernel_rfl)
    · refine TS_know 5 (b := false) hb2 (by kernel_rfl) (by kernel_rfl) ?_
      refine TS_F (by kernel_rfl) rfl ?_
      refine TS_go 1 ?_
      exact TS_meet a0 ⟨[(0, [])], []⟩ h (by kernel_rfl) (by kernel_rfl)

/-- (*multihop/multihopmade.Tape).Next -/
noncomputable def F_made_Tape_Next_j1 (a0 : S_multihopmade_Tape) (v4 : Int) : Option (Int × S_multihopmade_Tape) :=
  some ((v4, (S_multihopmade_Tape.mk a0.l (IntKind.wrap .i64 (a0.at_ + 1)))))
noncomputable def F_made_Tape_Next (a0 : S_multihopmade_Tape) (a1 : Int) : Option (Int × S_multihopmade_Tape) :=
  bif (decide (a0.at_ ≥ (List.length a0.l : Int))) then
    some ((0, a0))
  else
    (idx a0.l a0.at_).bind fun e2 =>
    bif decide (a1 ≠ 0) then
      bif (decide ((Int.tmod e2 a1) < 0)) then
        (F_made_Tape_Next_j1 a0) (IntKind.wrap .i64 ((Int.tmod e2 a1) + a1))
      else
        (F_made_Tape_Next_j1 a0) (Int.tmod e2 a1)
    else none
set_option maxRecDepth 100000 in
set_option maxHeartbeats 40000000 in
theorem ok_made_Tape_Next (a0 : S_multihopmade_Tape) (a1 : Int) (r : Int × S_multihopmade_Tape) (h : F_made_Tape_Next a0 a1 = some r) : Con Try.prog 30 [.c (.box 1000000 0), .c (.lit (.int .i64 (a1)))] [(1000000, .box (S_multihopmade_Tape.cs a0))] (.c (.lit (.int .i64 (r.1)))) [(1000000, .box (S_multihopmade_Tape.cs r.2))] := by
  unfold F_made_Tape_Next at h
  refine con_of [] [(1000000, [2])] 41 Try.func30 rfl rfl (by kernel_rfl) (fun K => ?_)
  refine TS_go 6 ?_
  refine TS_draw (by kernel_rfl) ?_
  refine TD_go 10 ?_
  refine TD_end (by kernel_rfl) ?_
  replace h := condO h
  rcases h with ⟨hb1, h⟩ | ⟨hb1, h⟩
  · refine TS_know 15 (b := true) hb1 (by kernel_rfl) (by kernel_rfl) ?_
    refine TS_T (by kernel_rfl) rfl ?_
    refine TS_go 6 ?_
    have ret := Option.some.inj h
    subst ret
    exact TS_ret (by kernel_rfl) (by kernel_rfl) (by kernel_rfl)
  · refine TS_know 15 (b := false) hb1 (by kernel_rfl) (by kernel_rfl) ?_
    refine TS_F (by kernel_rfl) rfl ?_
    refine TS_go 2 ?_
    refine TS_draw (by kernel_rfl) ?_
    refine TD_go 8 ?_
    replace h := bindO h
    obtain ⟨e2, he2, h⟩ := h
    refine TD_idx (ecI .i64) he2 (by kernel_rfl) (by kernel_rfl) ?_
    refine TD_go 2 ?_
    replace h := chkO h
    obtain ⟨hc3, h⟩ := h
    refine TD_num (op := .rem) (k := .i64) (k' := .i64) (m := e2) (i := a1) (of_decide_eq_true hc3) rfl (by simp) (by kernel_rfl) (by kernel_rfl) ?_
    refine TD_go 1 ?_
    refine TD_end (by kernel_rfl) ?_
    refine TS_go 11 ?_
    refine TS_cut ⟨[(1, []), (5, [])], [(1000000, (1000000, []))]⟩ (.mk [.code (codeAt [1, 1, 1, 1] (bodyOf Try.f30))] .normal ⟨[(1, .c (.lit (.int .i64 (a1)))), (5, .c (.lit (.int .i64 (Int.tmod e2 a1))))], [(1000000, .box [.slc 1 0 (List.length a0.l) (List.map (ecI .i64) a0.l), .lit (.int .i64 (IntKind.wrap .i64 (a0.at_ + 1)))])]⟩) (by kernel_rfl) (by kernel_rfl) ?_
    refine TS_joinB ⟨[(5, [])], [(1000000, (1000000, []))]⟩ (fun (v4 : Int) => [(5, .c (.lit (.int .i64 (v4))))]) (fun (v4 : Int) => []) (F_made_Tape_Next_j1 a0) r ?_ ?_
    · clear h
      intro v4 h
      unfold F_made_Tape_Next_j1 at h
      refine TS_go 6 ?_
      have ret := Option.some.inj h
      subst ret
      exact TS_ret (by kernel_rfl) (by kernel_rfl) (by kernel_rfl)
    · refine TS_go 5 ?_
      replace h := condO h
      rcases h with ⟨hb5, h⟩ | ⟨hb5, h⟩
      · refine TS_know 36 (b := true) hb5 (by kernel_rfl) (by kernel_rfl) ?_
        refine TS_T (by kernel_rfl) rfl ?_
        refine TS_go 6 ?_
        exact TS_meet (IntKind.wrap .i64 ((Int.tmod e2 a1) + a1)) ⟨[(5, [])], [(1000000, (1000000, []))]⟩ h (by kernel_rfl) (by kernel_rfl)
      · refine TS_know 36 (b := false) hb5 (by kernel_rfl) (by kernel_rfl) ?_
        refine TS_F (by kernel_rfl) rfl ?_
        refine TS_go 1 ?_
        exact TS_meet (Int.tmod e2 a1) ⟨[(5, [])], [(1000000, (1000000, []))]⟩ h (by kernel_rfl) (by kernel_rfl)

/-- (*multihop/multihopmade.Tape).Bool -/
noncomputable def F_made_Tape_Bool (a0 : S_multihopmade_Tape) (a1 : Int) : Option (Bool × S_multihopmade_Tape) :=
  (F_made_Tape_Next a0 a1).bind fun v1 =>
  some (((v1.1 == (IntKind.wrap .i64 (a1 - 1))), v1.2))
set_option maxRecDepth 100000 in
set_option maxHeartbeats 40000000 in
theorem ok_made_Tape_Bool (a0 : S_multihopmade_Tape) (a1 : Int) (r : Bool × S_multihopmade_Tape) (h : F_made_Tape_Bool a0 a1 = some r) : Con Try.prog 31 [.c (.box 1000000 0), .c (.lit (.int .i64 (a1)))] [(1000000, .box (S_multihopmade_Tape.cs a0))] (.c (.lit (.bool (r.1)))) [(1000000, .box (S_multihopmade_Tape.cs r.2))] := by
  unfold F_made_Tape_Bool at h
  refine con_of [] [(1000000, [2])] 11 Try.func31 rfl rfl (by kernel_rfl) (fun K => ?_)
  refine TS_go 8 ?_
  replace h := bindO h
  obtain ⟨v1, hv1, h⟩ := h
  refine TS_con [] [] (some (1000000, 0)) (ok_made_Tape_Next a0 a1 v1 hv1) (by kernel_rfl) (by kernel_rfl) (by kernel_rfl) ?_
  refine TS_go 6 ?_
  have ret := Option.some.inj h
  subst ret
  exact TS_ret (by kernel_rfl) (by kernel_rfl) (by kernel_rfl)

/-- (*multihop/multihopmade.Tape).Device -/
noncomputable def F_made_Tape_Device (a0 : S_multihopmade_Tape) : Option (S_Addr × S_multihopmade_Tape) :=
  (F_made_Tape_Next a0 5).bind fun v1 =>
  (F_made_Tape_Bool v1.2 2).bind fun v2 =>
  bif v2.1 then
    some (((S_Addr.mk 3 0 (IntKind.wrap .u64 (144115188075855872 + (IntKind.wrap .u64 v1.1)))), v2.2))
  else
    some (((S_Addr.mk 2 (IntKind.wrap .u16 v1.1) 0), v2.2))
set_option maxRecDepth 100000 in
set_option maxHeartbeats 40000000 in
theorem ok_made_Tape_Device (a0 : S_multihopmade_Tape) (r : S_Addr × S_multihopmade_Tape) (h : F_made_Tape_Device a0 = some r) : Con Try.prog 54 [.c (.box 1000000 0)] [(1000000, .box (S_multihopmade_Tape.cs a0))] (.agg (S_Addr.cs r.1)) [(1000000, .box (S_multihopmade_Tape.cs r.2))] := by
  unfold F_made_Tape_Device at h
  refine con_of [] [(1000000, [2])] 15 Try.func54 rfl rfl (by kernel_rfl) (fun K => ?_)
  refine TS_go 7 ?_
  replace h := bindO h
  obtain ⟨v1, hv1, h⟩ := h
  refine TS_con [] [] (some (1000000, 0)) (ok_made_Tape_Next a0 5 v1 hv1) (by kernel_rfl) (by kernel_rfl) (by kernel_rfl) ?_
  refine TS_go 6 ?_
  replace h := bindO h
  obtain ⟨v2, hv2, h⟩ := h
  refine TS_con [] [] (some (1000000, 0)) (ok_made_Tape_Bool v1.2 2 v2 hv2) (by kernel_rfl) (by kernel_rfl) (by kernel_rfl) ?_
  refine TS_go 1 ?_
  replace h := condO h
  rcases h with ⟨hb3, h⟩ | ⟨hb3, h⟩
  · refine TS_know 7 (b := true) hb3 (by kernel_rfl) (by kernel_rfl) ?_
    refine TS_T (by kernel_rfl) rfl ?_
    refine TS_go 10 ?_
    have ret := Option.some.inj h
    subst ret
    exact TS_ret (by kernel_rfl) (by kernel_rfl) (by kernel_rfl)
  · refine TS_know 7 (b := false) hb3 (by kernel_rfl) (by kernel_rfl) ?_
    refine TS_F (by kernel_rfl) rfl ?_
    refine TS_go 9 ?_
    have ret := Option.some.inj h
    subst ret
    exact TS_ret (by kernel_rfl) (by kernel_rfl) (by kernel_rfl)

/-- (*multihop/multihopmade.Tape).Bytes -/
noncomputable def F_made_Tape_Bytes_l1  (s3 : Int × S_multihopmade_Tape × (List Int)) : Option ((Int × S_multihopmade_Tape × (List Int)) ⊕ (S_multihopmade_Tape × (List Int))) :=
  bif (decide (s3.1 < (List.length s3.2.2 : Int))) then
    (F_made_Tape_Next s3.2.1 256).bind fun v7 =>
    (idx (Cut.app .whole s3.2.2) s3.1).bind fun _e8 =>
    (s3.2.2[(0 + Int.toNat s3.1)]?).bind fun _e9 =>
    some (Sum.inl (IntKind.wrap .i64 (s3.1 + 1), v7.2, (List.set s3.2.2 (0 + Int.toNat s3.1) (IntKind.wrap .u8 v7.1))))
  else
    some (Sum.inr (s3.2.1, s3.2.2))
noncomputable def F_made_Tape_Bytes (a0 : S_multihopmade_Tape) (a1 : Int) : Option ((List Int) × S_multihopmade_Tape) :=
  (F_made_Tape_Next a0 (IntKind.wrap .i64 (a1 + 1))).bind fun v1 =>
  (mkO 1 v1.1 v1.1).bind fun n2 =>
  (loopO (F_made_Tape_Bytes_l1) (0, v1.2, (List.replicate n2 (0 : Int)))).bind fun b4 =>
  some ((b4.2, b4.1))
set_option maxRecDepth 100000 in
set_option maxHeartbeats 40000000 in
theorem okT_made_Tape_Bytes (a0 : S_multihopmade_Tape) (a1 : Int) (r : (List Int) × S_multihopmade_Tape) (h : F_made_Tape_Bytes a0 a1 = some r) : Con Try.prog 53 [.c (.box 1000000 0), .c (.lit (.int .i64 (a1)))] [(1000000, .box (S_multihopmade_Tape.cs a0))] (.c (.slc 1 900002 (List.length r.1) (List.map (ecI .u8) r.1))) [(1000000, .box (S_multihopmade_Tape.cs r.2)), (900000, .spare 5 1 (List.length r.1))] := by
  unfold F_made_Tape_Bytes at h
  refine con_of [] [(1000000, [2]), (900000, [])] 25 Try.func53 rfl rfl (by kernel_rfl) (fun K => ?_)
  refine TS_go 9 ?_
  replace h := bindO h
  obtain ⟨v1, hv1, h⟩ := h
  refine TS_con [] [] (some (1000000, 0)) (ok_made_Tape_Next a0 (IntKind.wrap .i64 (a1 + 1)) v1 hv1) (by kernel_rfl) (by kernel_rfl) (by kernel_rfl) ?_
  replace h := bindO h
  obtain ⟨n2, hn2, h⟩ := h
  refine TS_makeR 11 5 1 (ecI .u8) (0 : Int) [] (cs := [.lit (.int .u8 (0))]) (l := v1.1) (c := v1.1) hn2 (by kernel_rfl) (by kernel_rfl) (by kernel_rfl) ?_
  refine TS_go 8 ?_
  refine TS_cut ⟨[(0, []), (5, []), (6, [])], [(1000000, (1000000, [])), (11, (11, []))]⟩ (.mk [.code (codeAt [1, 1, 0, 1, 0] (bodyOf Try.f53)), .blk 0, .code (codeAt [1, 1, 1] (bodyOf Try.f53))] .normal ⟨[(0, .c (.box 1000000 0)), (5, .c (.own 11)), (6, .c (.lit (.int .i64 (0))))], [(1000000, .box [.slc 1 0 (List.length v1.2.l) (List.map (ecI .i64) v1.2.l), .lit (.int .i64 (v1.2.at_))]), (11, .row 5 1 (List.length (List.replicate n2 (0 : Int))) (List.map (ecI .u8) (List.replicate n2 (0 : Int))))]⟩) (by kernel_rfl) (by kernel_rfl) ?_
  replace h := bindO h
  obtain ⟨y5, hl1, hK1⟩ := h
  refine TS_loopB (F_made_Tape_Bytes_l1) ⟨[(0, []), (5, []), (6, [])], [(1000000, (1000000, [])), (11, (11, []))]⟩ (fun (s3 : Int × S_multihopmade_Tape × (List Int)) => [(6, .c (.lit (.int .i64 (s3.1))))]) (fun (s3 : Int × S_multihopmade_Tape × (List Int)) => [(1000000, .box (S_multihopmade_Tape.cs s3.2.1)), (11, .row 5 1 (List.length s3.2.2) (List.map (ecI .u8) s3.2.2))]) (0, v1.2, (List.replicate n2 (0 : Int))) y5 (.exit 0) (fun (b : S_multihopmade_Tape × (List Int)) => b) ⟨[(5, [])], [(1000000, (1000000, [])), (11, (11, []))]⟩ (fun (b4 : S_multihopmade_Tape × (List Int)) => []) (fun (b4 : S_multihopmade_Tape × (List Int)) => [(1000000, .box (S_multihopmade_Tape.cs b4.1)), (11, .row 5 1 (List.length b4.2) (List.map (ecI .u8) b4.2))]) hl1 (by kernel_rfl) (by kernel_rfl) ?_ ?_
  · intro s3 x h hy1
    unfold F_made_Tape_Bytes_l1 at h
    refine TS_go 8 ?_
    replace h := condO h
    rcases h with ⟨hb6, h⟩ | ⟨hb6, h⟩
    · refine TS_know 15 (b := true) hb6 (by kernel_rfl) (by kernel_rfl) ?_
      refine TS_T (by kernel_rfl) rfl ?_
      refine TS_go 7 ?_
      replace h := bindO h
      obtain ⟨v7, hv7, h⟩ := h
      refine TS_con [] [] (some (1000000, 0)) (ok_made_Tape_Next s3.2.1 256 v7 hv7) (by kernel_rfl) (by kernel_rfl) (by kernel_rfl) ?_
      refine TS_go 1 ?_
      replace h := bindO h
      obtain ⟨_e8, he8, h⟩ := h
      refine TS_idxR 11 1 0 (ecI .u8) .whole he8 (by kernel_rfl) (by kernel_rfl) ?_
      replace h := bindO h
      obtain ⟨_e9, he9, h⟩ := h
      refine TS_stE 11 5 1 (List.length s3.2.2) (0 + Int.toNat s3.1) 0 (ecI .u8) (ds := [.lit (.int .u8 (IntKind.wrap .u8 v7.1))]) (IntKind.wrap .u8 v7.1) he9 (by kernel_rfl) (by kernel_rfl) (by kernel_rfl) (by kernel_rfl) ?_
      refine TS_go 7 ?_
      have ret := Option.some.inj h
      subst ret
      exact TS_againB _ ⟨[(0, []), (5, []), (6, [])], [(1000000, (1000000, [])), (11, (11, []))]⟩ rfl (by kernel_rfl) (by kernel_rfl)
    · refine TS_know 15 (b := false) hb6 (by kernel_rfl) (by kernel_rfl) ?_
      refine TS_F (by kernel_rfl) rfl ?_
      refine TS_go 2 ?_
      have ret := Option.some.inj h
      subst ret
      exact TS_brkB (s3.2.1, s3.2.2) ⟨[(5, [])], [(1000000, (1000000, [])), (11, (11, []))]⟩ rfl (by kernel_rfl) (by kernel_rfl) (by kernel_rfl)
  · intro b4 hb
    subst y5
    have h := hK1
    refine TS_go 6 ?_
    refine TS_settle 11 (by kernel_rfl) ?_
    refine TS_fitU ⟨[(4, [])], [(11, (900000, [])), (1000000, (1000000, []))]⟩ (by kernel_rfl) ?_
    refine TS_go 1 ?_
    have ret := Option.some.inj h
    subst ret
    exact TS_ret (by kernel_rfl) (by kernel_rfl) (by kernel_rfl)
/-- (*multihop/multihopmade.Tape).Frame -/
noncomputable def F_made_Tape_Frame_j1  (v9 : S_multihopmade_Tape × S_Frame) : Option (S_Frame × S_multihopmade_Tape) :=
  some ((v9.2, v9.1))
noncomputable def F_made_Tape_Frame (a0 : S_multihopmade_Tape) (a1 : Int) : Option (S_Frame × S_multihopmade_Tape) :=
  (F_made_Tape_Next a0 2).bind fun v1 =>
  (F_made_Tape_Bool v1.2 2).bind fun v2 =>
  (F_made_Tape_Bool v2.2 4).bind fun v3 =>
  (F_made_Tape_Next v3.2 256).bind fun v4 =>
  (F_made_Tape_Next v4.2 3).bind fun v5 =>
  (F_made_Tape_Device v5.2).bind fun v6 =>
  (F_made_Tape_Device v6.2).bind fun v7 =>
  (F_made_Tape_Bytes v7.2 a1).bind fun v8 =>
  (F_made_Tape_Bool v8.2 5).bind fun v10 =>
  bif v10.1 then
    (F_made_Tape_Frame_j1) (v10.2, (S_Frame.mk (IntKind.wrap .i64 (1 + (IntKind.wrap .i64 (2 * v1.1)))) false v3.1 false (IntKind.wrap .u8 v4.1) (IntKind.wrap .u16 v5.1) (S_Addr.mk 2 65535 0) v7.1 0 0 v8.1 ([] : List Int)))
  else
    (F_made_Tape_Frame_j1) (v10.2, (S_Frame.mk (IntKind.wrap .i64 (1 + (IntKind.wrap .i64 (2 * v1.1)))) v2.1 v3.1 false (IntKind.wrap .u8 v4.1) (IntKind.wrap .u16 v5.1) v6.1 v7.1 0 0 v8.1 ([] : List Int)))
set_option maxRecDepth 100000 in
set_option maxHeartbeats 40000000 in
theorem okT_made_Tape_Frame (a0 : S_multihopmade_Tape) (a1 : Int) (r : S_Frame × S_multihopmade_Tape) (h : F_made_Tape_Frame a0 a1 = some r) : Con Try.prog 29 [.c (.box 1000000 0), .c (.lit (.int .i64 (a1)))] [(1000000, .box (S_multihopmade_Tape.cs a0))] (.agg [.lit (.int .i64 (r.1.Kind)), .lit (.bool (r.1.AckRequest)), .lit (.bool (r.1.Pending)), .lit (.bool (r.1.Secure)), .lit (.int .u8 (r.1.Seq)), .lit (.int .u16 (r.1.Pan)), .lit (.int .i64 (r.1.Dst.Mode)), .lit (.int .u16 (r.1.Dst.Short)), .lit (.int .u64 (r.1.Dst.EUI)), .lit (.int .i64 (r.1.Src.Mode)), .lit (.int .u16 (r.1.Src.Short)), .lit (.int .u64 (r.1.Src.EUI)), .lit (.int .u32 (r.1.Counter)), .lit (.int .u8 (r.1.Key)), .slc 1 900016 (List.length r.1.Payload) (List.map (ecI .u8) r.1.Payload), .slc 1 0 (List.length r.1.MIC) (List.map (ecI .u8) r.1.MIC)]) [(1000000, .box (S_multihopmade_Tape.cs r.2)), (900014, .spare 5 1 (List.length r.1.Payload))] := by
  unfold F_made_Tape_Frame at h
  refine con_of [[0, 0, 0, 0, 0, 0, 0, 0, 0, 0, 0, 0, 0, 0, 0, 2]] [(1000000, [2]), (900014, [])] 34 Try.func29 rfl rfl (by kernel_rfl) (fun K => ?_)
  refine TS_go 7 ?_
  replace h := bindO h
  obtain ⟨v1, hv1, h⟩ := h
  refine TS_con [] [] (some (1000000, 0)) (ok_made_Tape_Next a0 2 v1 hv1) (by kernel_rfl) (by kernel_rfl) (by kernel_rfl) ?_
  refine TS_go 3 ?_
  replace h := bindO h
  obtain ⟨v2, hv2, h⟩ := h
  refine TS_con [] [] (some (1000000, 0)) (ok_made_Tape_Bool v1.2 2 v2 hv2) (by kernel_rfl) (by kernel_rfl) (by kernel_rfl) ?_
  refine TS_go 1 ?_
  replace h := bindO h
  obtain ⟨v3, hv3, h⟩ := h
  refine TS_con [] [] (some (1000000, 0)) (ok_made_Tape_Bool v2.2 4 v3 hv3) (by kernel_rfl) (by kernel_rfl) (by kernel_rfl) ?_
  refine TS_go 1 ?_
  replace h := bindO h
  obtain ⟨v4, hv4, h⟩ := h
  refine TS_con [] [] (some (1000000, 0)) (ok_made_Tape_Next v3.2 256 v4 hv4) (by kernel_rfl) (by kernel_rfl) (by kernel_rfl) ?_
  refine TS_go 2 ?_
  replace h := bindO h
  obtain ⟨v5, hv5, h⟩ := h
  refine TS_con [] [] (some (1000000, 0)) (ok_made_Tape_Next v4.2 3 v5 hv5) (by kernel_rfl) (by kernel_rfl) (by kernel_rfl) ?_
  refine TS_go 2 ?_
  replace h := bindO h
  obtain ⟨v6, hv6, h⟩ := h
  refine TS_con [] [] (some (1000000, 0)) (ok_made_Tape_Device v5.2 v6 hv6) (by kernel_rfl) (by kernel_rfl) (by kernel_rfl) ?_
  refine TS_go 1 ?_
  replace h := bindO h
  obtain ⟨v7, hv7, h⟩ := h
  refine TS_con [] [] (some (1000000, 0)) (ok_made_Tape_Device v6.2 v7 hv7) (by kernel_rfl) (by kernel_rfl) (by kernel_rfl) ?_
  refine TS_go 2 ?_
  replace h := bindO h
  obtain ⟨v8, hv8, h⟩ := h
  refine TS_con [] [(26, 900000)] (some (1000000, 0)) (okT_made_Tape_Bytes v7.2 a1 v8 hv8) (by kernel_rfl) (by kernel_rfl) (by kernel_rfl) ?_
  refine TS_go 4 ?_
  refine TS_cut ⟨[(0, []), (4, []), (5, [])], [(1000000, (1000000, [])), (4, (4, [])), (26, (26, [])), (5, (5, []))]⟩ (.mk [.code (codeAt [1, 1] (bodyOf Try.f29))] .normal ⟨[(0, .c (.box 1000000 0)), (4, .c (.box 4 0)), (5, .c (.box 5 0))], [(1000000, .box [.slc 1 0 (List.length v8.2.l) (List.map (ecI .i64) v8.2.l), .lit (.int .i64 (v8.2.at_))]), (4, .box [.lit (.int .i64 (0)), .lit (.bool (false)), .lit (.bool (false)), .lit (.bool (false)), .lit (.int .u8 (0)), .lit (.int .u16 (0)), .lit (.int .i64 (0)), .lit (.int .u16 (0)), .lit (.int .u64 (0)), .lit (.int .i64 (0)), .lit (.int .u16 (0)), .lit (.int .u64 (0)), .lit (.int .u32 (0)), .lit (.int .u8 (0)), .lit (.slice none 0 0), .lit (.slice none 0 0)]), (26, .spare 5 1 (List.length v8.1)), (5, .box [.lit (.int .i64 (IntKind.wrap .i64 (1 + (IntKind.wrap .i64 (2 * v1.1))))), .lit (.bool (v2.1)), .lit (.bool (v3.1)), .lit (.bool (false)), .lit (.int .u8 (IntKind.wrap .u8 v4.1)), .lit (.int .u16 (IntKind.wrap .u16 v5.1)), .lit (.int .i64 (v6.1.Mode)), .lit (.int .u16 (v6.1.Short)), .lit (.int .u64 (v6.1.EUI)), .lit (.int .i64 (v7.1.Mode)), .lit (.int .u16 (v7.1.Short)), .lit (.int .u64 (v7.1.EUI)), .lit (.int .u32 (0)), .lit (.int .u8 (0)), .slc 1 28 (List.length v8.1) (List.map (ecI .u8) v8.1), .lit (.slice none 0 0)])]⟩) (by kernel_rfl) (by kernel_rfl) ?_
  refine TS_joinB ⟨[(4, []), (5, [])], [(1000000, (1000000, [])), (4, (4, [])), (5, (5, [0, 0, 0, 0, 0, 0, 0, 0, 0, 0, 0, 0, 0, 0, 0, 2])), (26, (26, []))]⟩ (fun (v9 : S_multihopmade_Tape × S_Frame) => []) (fun (v9 : S_multihopmade_Tape × S_Frame) => [(1000000, .box (S_multihopmade_Tape.cs v9.1)), (5, .box [.lit (.int .i64 (v9.2.Kind)), .lit (.bool (v9.2.AckRequest)), .lit (.bool (v9.2.Pending)), .lit (.bool (v9.2.Secure)), .lit (.int .u8 (v9.2.Seq)), .lit (.int .u16 (v9.2.Pan)), .lit (.int .i64 (v9.2.Dst.Mode)), .lit (.int .u16 (v9.2.Dst.Short)), .lit (.int .u64 (v9.2.Dst.EUI)), .lit (.int .i64 (v9.2.Src.Mode)), .lit (.int .u16 (v9.2.Src.Short)), .lit (.int .u64 (v9.2.Src.EUI)), .lit (.int .u32 (v9.2.Counter)), .lit (.int .u8 (v9.2.Key)), .slc 1 28 (List.length v9.2.Payload) (List.map (ecI .u8) v9.2.Payload), .slc 1 0 (List.length v9.2.MIC) (List.map (ecI .u8) v9.2.MIC)]), (26, .spare 5 1 (List.length v9.2.Payload))]) (F_made_Tape_Frame_j1) r ?_ ?_
  · clear h
    intro v9 h
    unfold F_made_Tape_Frame_j1 at h
    refine TS_go 5 ?_
    refine TS_fitU ⟨[(4, [])], [(26, (900014, [])), (1000000, (1000000, [])), (4, (4, []))]⟩ (by kernel_rfl) ?_
    refine TS_go 1 ?_
    have ret := Option.some.inj h
    subst ret
    exact TS_ret (by kernel_rfl) (by kernel_rfl) (by kernel_rfl)
  · refine TS_go 3 ?_
    replace h := bindO h
    obtain ⟨v10, hv10, h⟩ := h
    refine TS_con [] [] (some (1000000, 0)) (ok_made_Tape_Bool v8.2 5 v10 hv10) (by kernel_rfl) (by kernel_rfl) (by kernel_rfl) ?_
    refine TS_go 1 ?_
    replace h := condO h
    rcases h with ⟨hb11, h⟩ | ⟨hb11, h⟩
    · refine TS_know 29 (b := true) hb11 (by kernel_rfl) (by kernel_rfl) ?_
      refine TS_T (by kernel_rfl) rfl ?_
      refine TS_go 7 ?_
      exact TS_meet (v10.2, (S_Frame.mk (IntKind.wrap .i64 (1 + (IntKind.wrap .i64 (2 * v1.1)))) false v3.1 false (IntKind.wrap .u8 v4.1) (IntKind.wrap .u16 v5.1) (S_Addr.mk 2 65535 0) v7.1 0 0 v8.1 ([] : List Int))) ⟨[(4, []), (5, [])], [(1000000, (1000000, [])), (4, (4, [])), (5, (5, [0, 0, 0, 0, 0, 0, 0, 0, 0, 0, 0, 0, 0, 0, 0, 2])), (26, (26, []))]⟩ h (by kernel_rfl) (by kernel_rfl)
    · refine TS_know 29 (b := false) hb11 (by kernel_rfl) (by kernel_rfl) ?_
      refine TS_F (by kernel_rfl) rfl ?_
      refine TS_go 1 ?_
      exact TS_meet (v10.2, (S_Frame.mk (IntKind.wrap .i64 (1 + (IntKind.wrap .i64 (2 * v1.1)))) v2.1 v3.1 false (IntKind.wrap .u8 v4.1) (IntKind.wrap .u16 v5.1) v6.1 v7.1 0 0 v8.1 ([] : List Int))) ⟨[(4, []), (5, [])], [(1000000, (1000000, [])), (4, (4, [])), (5, (5, [0, 0, 0, 0, 0, 0, 0, 0, 0, 0, 0, 0, 0, 0, 0, 2])), (26, (26, []))]⟩ h (by kernel_rfl) (by kernel_rfl)
/-- (*multihop/multihopmade.Tape).Word -/
noncomputable def F_made_Tape_Word (a0 : S_multihopmade_Tape) : Option (Int × S_multihopmade_Tape) :=
  (F_made_Tape_Next a0 65536).bind fun v1 =>
  (F_made_Tape_Next v1.2 5).bind fun v2 =>
  bif (v2.1 == 0) then
    some ((IntKind.wrap .u64 v1.1, v2.2))
  else
    bif (v2.1 == 1) then
      some ((IntKind.wrap .u64 ((ishl .u64 (IntKind.wrap .u64 v1.1) 48) + (IntKind.wrap .u64 v1.1)), v2.2))
    else
      bif (v2.1 == 2) then
        some ((IntKind.wrap .u64 (9223372036854775808 + (IntKind.wrap .u64 v1.1)), v2.2))
      else
        bif (v2.1 == 3) then
          some ((IntKind.wrap .u64 (18446744073709551615 - (Int.tmod (IntKind.wrap .u64 v1.1) 4)), v2.2))
        else
          some ((Int.tmod (IntKind.wrap .u64 v1.1) 4, v2.2))
set_option maxRecDepth 100000 in
set_option maxHeartbeats 40000000 in
theorem ok_made_Tape_Word (a0 : S_multihopmade_Tape) (r : Int × S_multihopmade_Tape) (h : F_made_Tape_Word a0 = some r) : Con Try.prog 32 [.c (.box 1000000 0)] [(1000000, .box (S_multihopmade_Tape.cs a0))] (.c (.lit (.int .u64 (r.1)))) [(1000000, .box (S_multihopmade_Tape.cs r.2))] := by
  unfold F_made_Tape_Word at h
  refine con_of [] [(1000000, [2])] 29 Try.func32 rfl rfl (by kernel_rfl) (fun K => ?_)
  refine TS_go 7 ?_
  replace h := bindO h
  obtain ⟨v1, hv1, h⟩ := h
  refine TS_con [] [] (some (1000000, 0)) (ok_made_Tape_Next a0 65536 v1 hv1) (by kernel_rfl) (by kernel_rfl) (by kernel_rfl) ?_
  refine TS_go 7 ?_
  replace h := bindO h
  obtain ⟨v2, hv2, h⟩ := h
  refine TS_con [] [] (some (1000000, 0)) (ok_made_Tape_Next v1.2 5 v2 hv2) (by kernel_rfl) (by kernel_rfl) (by kernel_rfl) ?_
  refine TS_go 7 ?_
  replace h := condO h
  rcases h with ⟨hb3, h⟩ | ⟨hb3, h⟩
  · refine TS_know 10 (b := true) hb3 (by kernel_rfl) (by kernel_rfl) ?_
    refine TS_know 9 (b := true) hb3 (by kernel_rfl) (by kernel_rfl) ?_
    refine TS_T (by kernel_rfl) rfl ?_
    refine TS_go 8 ?_
    have ret := Option.some.inj h
    subst ret
    exact TS_ret (by kernel_rfl) (by kernel_rfl) (by kernel_rfl)
  · refine TS_know 10 (b := false) hb3 (by kernel_rfl) (by kernel_rfl) ?_
    refine TS_know 9 (b := false) hb3 (by kernel_rfl) (by kernel_rfl) ?_
    refine TS_F (by kernel_rfl) rfl ?_
    refine TS_go 5 ?_
    replace h := condO h
    rcases h with ⟨hb4, h⟩ | ⟨hb4, h⟩
    · refine TS_know 13 (b := true) hb4 (by kernel_rfl) (by kernel_rfl) ?_
      refine TS_know 12 (b := true) hb4 (by kernel_rfl) (by kernel_rfl) ?_
      refine TS_T (by kernel_rfl) rfl ?_
      refine TS_go 11 ?_
      have ret := Option.some.inj h
      subst ret
      exact TS_ret (by kernel_rfl) (by kernel_rfl) (by kernel_rfl)
    · refine TS_know 13 (b := false) hb4 (by kernel_rfl) (by kernel_rfl) ?_
      refine TS_know 12 (b := false) hb4 (by kernel_rfl) (by kernel_rfl) ?_
      refine TS_F (by kernel_rfl) rfl ?_
      refine TS_go 5 ?_
      replace h := condO h
      rcases h with ⟨hb5, h⟩ | ⟨hb5, h⟩
      · refine TS_know 19 (b := true) hb5 (by kernel_rfl) (by kernel_rfl) ?_
        refine TS_know 18 (b := true) hb5 (by kernel_rfl) (by kernel_rfl) ?_
        refine TS_T (by kernel_rfl) rfl ?_
        refine TS_go 9 ?_
        have ret := Option.some.inj h
        subst ret
        exact TS_ret (by kernel_rfl) (by kernel_rfl) (by kernel_rfl)
      · refine TS_know 19 (b := false) hb5 (by kernel_rfl) (by kernel_rfl) ?_
        refine TS_know 18 (b := false) hb5 (by kernel_rfl) (by kernel_rfl) ?_
        refine TS_F (by kernel_rfl) rfl ?_
        refine TS_go 5 ?_
        replace h := condO h
        rcases h with ⟨hb6, h⟩ | ⟨hb6, h⟩
        · refine TS_know 23 (b := true) hb6 (by kernel_rfl) (by kernel_rfl) ?_
          refine TS_know 22 (b := true) hb6 (by kernel_rfl) (by kernel_rfl) ?_
          refine TS_T (by kernel_rfl) rfl ?_
          refine TS_go 10 ?_
          have ret := Option.some.inj h
          subst ret
          exact TS_ret (by kernel_rfl) (by kernel_rfl) (by kernel_rfl)
        · refine TS_know 23 (b := false) hb6 (by kernel_rfl) (by kernel_rfl) ?_
          refine TS_know 22 (b := false) hb6 (by kernel_rfl) (by kernel_rfl) ?_
          refine TS_F (by kernel_rfl) rfl ?_
          refine TS_go 9 ?_
          have ret := Option.some.inj h
          subst ret
          exact TS_ret (by kernel_rfl) (by kernel_rfl) (by kernel_rfl)

/-- (*multihop/multihopmade.Tape).Fill -/
noncomputable def F_made_Tape_Fill_l1 (a1 : Int) (v1 : Int × S_multihopmade_Tape) (v2 : Int × S_multihopmade_Tape) (v3 : Int × S_multihopmade_Tape) (s5 : Int × (List Int)) : Option ((Int × (List Int)) ⊕ ((List Int))) :=
  bif (decide (s5.1 < a1)) then
    bif decide ((0 : Int) ≤ (Int.tmod s5.1 5) ∧ (Int.tmod s5.1 5) < (5 : Int)) then
      (idx (Cut.app .whole s5.2) s5.1).bind fun _e10 =>
      (s5.2[(0 + Int.toNat s5.1)]?).bind fun _e11 =>
      some (Sum.inl (IntKind.wrap .i64 (s5.1 + 1), (List.set s5.2 (0 + Int.toNat s5.1) (IntKind.wrap .u8 ((List.getD [IntKind.wrap .u8 v1.1, IntKind.wrap .u8 v2.1, 0, IntKind.wrap .u8 v3.1, 7] (Int.toNat (Int.tmod s5.1 5)) 0) + (IntKind.wrap .u8 (iquo .i64 s5.1 5)))))))
    else none
  else
    some (Sum.inr s5.2)
noncomputable def F_made_Tape_Fill (a0 : S_multihopmade_Tape) (a1 : Int) : Option ((List Int) × S_multihopmade_Tape) :=
  (F_made_Tape_Next a0 256).bind fun v1 =>
  (F_made_Tape_Next v1.2 256).bind fun v2 =>
  (F_made_Tape_Next v2.2 256).bind fun v3 =>
  (mkO 1 a1 a1).bind fun n4 =>
  (loopO (F_made_Tape_Fill_l1 a1 v1 v2 v3) (0, (List.replicate n4 (0 : Int)))).bind fun b6 =>
  some ((b6, v3.2))
set_option maxRecDepth 100000 in
set_option maxHeartbeats 40000000 in
theorem okT_made_Tape_Fill (a0 : S_multihopmade_Tape) (a1 : Int) (r : (List Int) × S_multihopmade_Tape) (h : F_made_Tape_Fill a0 a1 = some r) : Con Try.prog 33 [.c (.box 1000000 0), .c (.lit (.int .i64 (a1)))] [(1000000, .box (S_multihopmade_Tape.cs a0))] (.c (.slc 1 900002 (List.length r.1) (List.map (ecI .u8) r.1))) [(1000000, .box (S_multihopmade_Tape.cs r.2)), (900000, .spare 5 1 (List.length r.1))] := by
  unfold F_made_Tape_Fill at h
  refine con_of [] [(1000000, [2]), (900000, [])] 37 Try.func33 rfl rfl (by kernel_rfl) (fun K => ?_)
  refine TS_go 7 ?_
  replace h := bindO h
  obtain ⟨v1, hv1, h⟩ := h
  refine TS_con [] [] (some (1000000, 0)) (ok_made_Tape_Next a0 256 v1 hv1) (by kernel_rfl) (by kernel_rfl) (by kernel_rfl) ?_
  refine TS_go 2 ?_
  replace h := bindO h
  obtain ⟨v2, hv2, h⟩ := h
  refine TS_con [] [] (some (1000000, 0)) (ok_made_Tape_Next v1.2 256 v2 hv2) (by kernel_rfl) (by kernel_rfl) (by kernel_rfl) ?_
  refine TS_go 2 ?_
  replace h := bindO h
  obtain ⟨v3, hv3, h⟩ := h
  refine TS_con [] [] (some (1000000, 0)) (ok_made_Tape_Next v2.2 256 v3 hv3) (by kernel_rfl) (by kernel_rfl) (by kernel_rfl) ?_
  refine TS_go 8 ?_
  replace h := bindO h
  obtain ⟨n4, hn4, h⟩ := h
  refine TS_makeR 19 5 1 (ecI .u8) (0 : Int) [] (cs := [.lit (.int .u8 (0))]) (l := a1) (c := a1) hn4 (by kernel_rfl) (by kernel_rfl) (by kernel_rfl) ?_
  refine TS_go 8 ?_
  refine TS_cut ⟨[(1, []), (5, []), (6, []), (7, [])], [(1000000, (1000000, [])), (5, (5, [])), (19, (19, []))]⟩ (.mk [.code (codeAt [1, 1, 1, 0, 1, 0] (bodyOf Try.f33)), .blk 0, .code (codeAt [1, 1, 1, 1] (bodyOf Try.f33))] .normal ⟨[(1, .c (.lit (.int .i64 (a1)))), (5, .c (.box 5 0)), (6, .c (.own 19)), (7, .c (.lit (.int .i64 (0))))], [(1000000, .box [.slc 1 0 (List.length v3.2.l) (List.map (ecI .i64) v3.2.l), .lit (.int .i64 (v3.2.at_))]), (5, .box [.lit (.int .u8 (IntKind.wrap .u8 v1.1)), .lit (.int .u8 (IntKind.wrap .u8 v2.1)), .lit (.int .u8 (0)), .lit (.int .u8 (IntKind.wrap .u8 v3.1)), .lit (.int .u8 (7))]), (19, .row 5 1 (List.length (List.replicate n4 (0 : Int))) (List.map (ecI .u8) (List.replicate n4 (0 : Int))))]⟩) (by kernel_rfl) (by kernel_rfl) ?_
  replace h := bindO h
  obtain ⟨y7, hl1, hK1⟩ := h
  refine TS_loopB (F_made_Tape_Fill_l1 a1 v1 v2 v3) ⟨[(1, []), (5, []), (6, []), (7, [])], [(1000000, (1000000, [])), (5, (5, [])), (19, (19, []))]⟩ (fun (s5 : Int × (List Int)) => [(7, .c (.lit (.int .i64 (s5.1))))]) (fun (s5 : Int × (List Int)) => [(19, .row 5 1 (List.length s5.2) (List.map (ecI .u8) s5.2))]) (0, (List.replicate n4 (0 : Int))) y7 (.exit 0) (fun (b : (List Int)) => b) ⟨[(6, [])], [(1000000, (1000000, [])), (19, (19, []))]⟩ (fun (b6 : (List Int)) => []) (fun (b6 : (List Int)) => [(19, .row 5 1 (List.length b6) (List.map (ecI .u8) b6))]) hl1 (by kernel_rfl) (by kernel_rfl) ?_ ?_
  · intro s5 x h hy1
    unfold F_made_Tape_Fill_l1 at h
    refine TS_go 7 ?_
    replace h := condO h
    rcases h with ⟨hb8, h⟩ | ⟨hb8, h⟩
    · refine TS_know 22 (b := true) hb8 (by kernel_rfl) (by kernel_rfl) ?_
      refine TS_T (by kernel_rfl) rfl ?_
      refine TS_go 8 ?_
      replace h := chkO h
      obtain ⟨hc9, h⟩ := h
      refine TS_idxA 5 0 5 (i := Int.tmod s5.1 5) hc9 (by kernel_rfl) (by kernel_rfl) ?_
      refine TS_ldA .u8 0 5 (i := Int.tmod s5.1 5) [IntKind.wrap .u8 v1.1, IntKind.wrap .u8 v2.1, 0, IntKind.wrap .u8 v3.1, 7] hc9 (by kernel_rfl) (by kernel_rfl) ?_
      refine TS_go 4 ?_
      replace h := bindO h
      obtain ⟨_e10, he10, h⟩ := h
      refine TS_idxR 19 1 0 (ecI .u8) .whole he10 (by kernel_rfl) (by kernel_rfl) ?_
      replace h := bindO h
      obtain ⟨_e11, he11, h⟩ := h
      refine TS_stE 19 5 1 (List.length s5.2) (0 + Int.toNat s5.1) 0 (ecI .u8) (ds := [.lit (.int .u8 (IntKind.wrap .u8 ((List.getD [IntKind.wrap .u8 v1.1, IntKind.wrap .u8 v2.1, 0, IntKind.wrap .u8 v3.1, 7] (Int.toNat (Int.tmod s5.1 5)) 0) + (IntKind.wrap .u8 (iquo .i64 s5.1 5)))))]) (IntKind.wrap .u8 ((List.getD [IntKind.wrap .u8 v1.1, IntKind.wrap .u8 v2.1, 0, IntKind.wrap .u8 v3.1, 7] (Int.toNat (Int.tmod s5.1 5)) 0) + (IntKind.wrap .u8 (iquo .i64 s5.1 5)))) he11 (by kernel_rfl) (by kernel_rfl) (by kernel_rfl) (by kernel_rfl) ?_
      refine TS_go 7 ?_
      have ret := Option.some.inj h
      subst ret
      exact TS_againB _ ⟨[(1, []), (5, []), (6, []), (7, [])], [(1000000, (1000000, [])), (5, (5, [])), (19, (19, []))]⟩ rfl (by kernel_rfl) (by kernel_rfl)
    · refine TS_know 22 (b := false) hb8 (by kernel_rfl) (by kernel_rfl) ?_
      refine TS_F (by kernel_rfl) rfl ?_
      refine TS_go 2 ?_
      have ret := Option.some.inj h
      subst ret
      exact TS_brkB s5.2 ⟨[(6, [])], [(1000000, (1000000, [])), (19, (19, []))]⟩ rfl (by kernel_rfl) (by kernel_rfl) (by kernel_rfl)
  · intro b6 hb
    subst y7
    have h := hK1
    refine TS_go 6 ?_
    refine TS_settle 19 (by kernel_rfl) ?_
    refine TS_fitU ⟨[(4, [])], [(19, (900000, [])), (1000000, (1000000, []))]⟩ (by kernel_rfl) ?_
    refine TS_go 1 ?_
    have ret := Option.some.inj h
    subst ret
    exact TS_ret (by kernel_rfl) (by kernel_rfl) (by kernel_rfl)
theorem ok_made_Tape_Fill (a0 : S_multihopmade_Tape) (a1 : Int) (r : (List Int) × S_multihopmade_Tape) (h : F_made_Tape_Fill a0 a1 = some r) : Con Try.prog 33 [.c (.box 1000000 0), .c (.lit (.int .i64 (a1)))] [(1000000, .box (S_multihopmade_Tape.cs a0))] (.c (eS 1 (ecI .u8) (r.1))) [(1000000, .box (S_multihopmade_Tape.cs r.2))] :=
  con_drop [[2]] [(1000000, [])] (okT_made_Tape_Fill a0 a1 r h) (by kernel_rfl) (by kernel_rfl) (by kernel_rfl)

/-- multihop/multihopref04.Valid -/
noncomputable def F_ref04_Valid (a0 : S_Addr) : Option (Bool) :=
  bif (a0.Mode == 0) then
    bif (a0.Short == 0) then
      some ((a0.EUI == 0))
    else
      some (false)
  else
    bif (a0.Mode == 2) then
      some ((a0.EUI == 0))
    else
      bif (a0.Mode == 3) then
        some ((a0.Short == 0))
      else
        some (false)
set_option maxRecDepth 100000 in
set_option maxHeartbeats 40000000 in
theorem ok_ref04_Valid (a0 : S_Addr) (r : Bool) (h : F_ref04_Valid a0 = some r) : Con Try.prog 70 [.agg (S_Addr.cs a0)] [] (.c (.lit (.bool (r)))) [] := by
  unfold F_ref04_Valid at h
  refine con_of [] [] 25 Try.func70 rfl rfl (by kernel_rfl) (fun K => ?_)
  refine TS_go 17 ?_
  replace h := condO h
  rcases h with ⟨hb1, h⟩ | ⟨hb1, h⟩
  · refine TS_know 6 (b := true) hb1 (by kernel_rfl) (by kernel_rfl) ?_
    refine TS_know 5 (b := true) hb1 (by kernel_rfl) (by kernel_rfl) ?_
    refine TS_T (by kernel_rfl) rfl ?_
    refine TS_go 6 ?_
    replace h := condO h
    rcases h with ⟨hb2, h⟩ | ⟨hb2, h⟩
    · refine TS_know 9 (b := true) hb2 (by kernel_rfl) (by kernel_rfl) ?_
      refine TS_know 10 (b := true) hb2 (by kernel_rfl) (by kernel_rfl) ?_
      refine TS_go 9 ?_
      have ret := Option.some.inj h
      subst ret
      exact TS_ret (by kernel_rfl) (by kernel_rfl) (by kernel_rfl)
    · refine TS_know 9 (b := false) hb2 (by kernel_rfl) (by kernel_rfl) ?_
      refine TS_know 10 (b := false) hb2 (by kernel_rfl) (by kernel_rfl) ?_
      refine TS_go 9 ?_
      have ret := Option.some.inj h
      subst ret
      exact TS_ret (by kernel_rfl) (by kernel_rfl) (by kernel_rfl)
  · refine TS_know 6 (b := false) hb1 (by kernel_rfl) (by kernel_rfl) ?_
    refine TS_know 5 (b := false) hb1 (by kernel_rfl) (by kernel_rfl) ?_
    refine TS_F (by kernel_rfl) rfl ?_
    refine TS_go 5 ?_
    replace h := condO h
    rcases h with ⟨hb3, h⟩ | ⟨hb3, h⟩
    · refine TS_know 16 (b := true) hb3 (by kernel_rfl) (by kernel_rfl) ?_
      refine TS_know 15 (b := true) hb3 (by kernel_rfl) (by kernel_rfl) ?_
      refine TS_T (by kernel_rfl) rfl ?_
      refine TS_go 10 ?_
      have ret := Option.some.inj h
      subst ret
      exact TS_ret (by kernel_rfl) (by kernel_rfl) (by kernel_rfl)
    · refine TS_know 16 (b := false) hb3 (by kernel_rfl) (by kernel_rfl) ?_
      refine TS_know 15 (b := false) hb3 (by kernel_rfl) (by kernel_rfl) ?_
      refine TS_F (by kernel_rfl) rfl ?_
      refine TS_go 5 ?_
      replace h := condO h
      rcases h with ⟨hb4, h⟩ | ⟨hb4, h⟩
      · refine TS_know 21 (b := true) hb4 (by kernel_rfl) (by kernel_rfl) ?_
        refine TS_know 20 (b := true) hb4 (by kernel_rfl) (by kernel_rfl) ?_
        refine TS_T (by kernel_rfl) rfl ?_
        refine TS_go 10 ?_
        have ret := Option.some.inj h
        subst ret
        exact TS_ret (by kernel_rfl) (by kernel_rfl) (by kernel_rfl)
      · refine TS_know 21 (b := false) hb4 (by kernel_rfl) (by kernel_rfl) ?_
        refine TS_know 20 (b := false) hb4 (by kernel_rfl) (by kernel_rfl) ?_
        refine TS_F (by kernel_rfl) rfl ?_
        refine TS_go 7 ?_
        have ret := Option.some.inj h
        subst ret
        exact TS_ret (by kernel_rfl) (by kernel_rfl) (by kernel_rfl)

/-- multihop/multihopref04.Some -/
noncomputable def F_ref04_Some (a0 : S_Addr) : Option (Bool) :=
  (F_ref04_Valid a0).bind fun v1 =>
  bif v1 then
    some ((a0.Mode != 0))
  else
    some (false)
set_option maxRecDepth 100000 in
set_option maxHeartbeats 40000000 in
theorem ok_ref04_Some (a0 : S_Addr) (r : Bool) (h : F_ref04_Some a0 = some r) : Con Try.prog 55 [.agg (S_Addr.cs a0)] [] (.c (.lit (.bool (r)))) [] := by
  unfold F_ref04_Some at h
  refine con_of [] [] 10 Try.func55 rfl rfl (by kernel_rfl) (fun K => ?_)
  refine TS_go 8 ?_
  replace h := bindO h
  obtain ⟨v1, hv1, h⟩ := h
  refine TS_call [] (ok_ref04_Valid a0 v1 hv1) (by kernel_rfl) (by kernel_rfl) ?_
  refine TS_go 1 ?_
  replace h := condO h
  rcases h with ⟨hb2, h⟩ | ⟨hb2, h⟩
  · subst hb2
    refine TS_go 7 ?_
    have ret := Option.some.inj h
    subst ret
    exact TS_ret (by kernel_rfl) (by kernel_rfl) (by kernel_rfl)
  · subst hb2
    refine TS_go 7 ?_
    have ret := Option.some.inj h
    subst ret
    exact TS_ret (by kernel_rfl) (by kernel_rfl) (by kernel_rfl)

/-- multihop/multihopref04.IsBroadcast -/
noncomputable def F_ref04_IsBroadcast (a0 : S_Addr) : Option (Bool) :=
  (F_ref04_Valid a0).bind fun v1 =>
  bif v1 then
    bif (a0.Mode == 2) then
      some ((a0.Short == 65535))
    else
      some (false)
  else
    some (false)
set_option maxRecDepth 100000 in
set_option maxHeartbeats 40000000 in
theorem ok_ref04_IsBroadcast (a0 : S_Addr) (r : Bool) (h : F_ref04_IsBroadcast a0 = some r) : Con Try.prog 57 [.agg (S_Addr.cs a0)] [] (.c (.lit (.bool (r)))) [] := by
  unfold F_ref04_IsBroadcast at h
  refine con_of [] [] 15 Try.func57 rfl rfl (by kernel_rfl) (fun K => ?_)
  refine TS_go 8 ?_
  replace h := bindO h
  obtain ⟨v1, hv1, h⟩ := h
  refine TS_call [] (ok_ref04_Valid a0 v1 hv1) (by kernel_rfl) (by kernel_rfl) ?_
  refine TS_go 1 ?_
  replace h := condO h
  rcases h with ⟨hb2, h⟩ | ⟨hb2, h⟩
  · subst hb2
    refine TS_go 5 ?_
    replace h := condO h
    rcases h with ⟨hb3, h⟩ | ⟨hb3, h⟩
    · refine TS_know 8 (b := true) hb3 (by kernel_rfl) (by kernel_rfl) ?_
      refine TS_know 9 (b := true) hb3 (by kernel_rfl) (by kernel_rfl) ?_
      refine TS_know 10 (b := true) hb3 (by kernel_rfl) (by kernel_rfl) ?_
      refine TS_go 7 ?_
      have ret := Option.some.inj h
      subst ret
      exact TS_ret (by kernel_rfl) (by kernel_rfl) (by kernel_rfl)
    · refine TS_know 8 (b := false) hb3 (by kernel_rfl) (by kernel_rfl) ?_
      refine TS_know 9 (b := false) hb3 (by kernel_rfl) (by kernel_rfl) ?_
      refine TS_know 10 (b := false) hb3 (by kernel_rfl) (by kernel_rfl) ?_
      refine TS_go 7 ?_
      have ret := Option.some.inj h
      subst ret
      exact TS_ret (by kernel_rfl) (by kernel_rfl) (by kernel_rfl)
  · subst hb2
    refine TS_go 12 ?_
    have ret := Option.some.inj h
    subst ret
    exact TS_ret (by kernel_rfl) (by kernel_rfl) (by kernel_rfl)

/-- multihop/multihopref04.One -/
noncomputable def F_ref04_One (a0 : S_Addr) : Option (Bool) :=
  (F_ref04_Some a0).bind fun v1 =>
  bif v1 then
    (F_ref04_IsBroadcast a0).bind fun v3 =>
    some ((!v3))
  else
    some (false)
set_option maxRecDepth 100000 in
set_option maxHeartbeats 40000000 in
theorem ok_ref04_One (a0 : S_Addr) (r : Bool) (h : F_ref04_One a0 = some r) : Con Try.prog 56 [.agg (S_Addr.cs a0)] [] (.c (.lit (.bool (r)))) [] := by
  unfold F_ref04_One at h
  refine con_of [] [] 10 Try.func56 rfl rfl (by kernel_rfl) (fun K => ?_)
  refine TS_go 8 ?_
  replace h := bindO h
  obtain ⟨v1, hv1, h⟩ := h
  refine TS_call [] (ok_ref04_Some a0 v1 hv1) (by kernel_rfl) (by kernel_rfl) ?_
  refine TS_go 1 ?_
  replace h := condO h
  rcases h with ⟨hb2, h⟩ | ⟨hb2, h⟩
  · subst hb2
    refine TS_go 1 ?_
    replace h := bindO h
    obtain ⟨v3, hv3, h⟩ := h
    refine TS_call [] (ok_ref04_IsBroadcast a0 v3 hv3) (by kernel_rfl) (by kernel_rfl) ?_
    refine TS_go 5 ?_
    have ret := Option.some.inj h
    subst ret
    exact TS_ret (by kernel_rfl) (by kernel_rfl) (by kernel_rfl)
  · subst hb2
    refine TS_go 7 ?_
    have ret := Option.some.inj h
    subst ret
    exact TS_ret (by kernel_rfl) (by kernel_rfl) (by kernel_rfl)

/-- multihop/multihopref05.flag -/
noncomputable def F_ref05_flag (a0 : Bool) (a1 : Int) : Option (Int) :=
  bif a0 then
    some (a1)
  else
    some (0)
set_option maxRecDepth 100000 in
set_option maxHeartbeats 40000000 in
theorem ok_ref05_flag (a0 : Bool) (a1 : Int) (r : Int) (h : F_ref05_flag a0 a1 = some r) : Con Try.prog 58 [.c (.lit (.bool (a0))), .c (.lit (.int .i64 (a1)))] [] (.c (.lit (.int .i64 (r)))) [] := by
  unfold F_ref05_flag at h
  refine con_of [] [] 7 Try.func58 rfl rfl (by kernel_rfl) (fun K => ?_)
  refine TS_go 9 ?_
  replace h := condO h
  rcases h with ⟨hb1, h⟩ | ⟨hb1, h⟩
  · subst hb1
    refine TS_T (by kernel_rfl) rfl ?_
    refine TS_go 7 ?_
    have ret := Option.some.inj h
    subst ret
    exact TS_ret (by kernel_rfl) (by kernel_rfl) (by kernel_rfl)
  · subst hb1
    refine TS_F (by kernel_rfl) rfl ?_
    refine TS_go 6 ?_
    have ret := Option.some.inj h
    subst ret
    exact TS_ret (by kernel_rfl) (by kernel_rfl) (by kernel_rfl)

/-- multihop/multihopref01.Append -/
noncomputable def F_ref01_Append_l1 (a1 : Int) (s4 : (List Int) × Int) : Option (((List Int) × Int) ⊕ ((List Int))) :=
  bif (decide (s4.2 ≥ 0)) then
    bif decide (0 ≤ (IntKind.wrap .u64 (8 * (IntKind.wrap .u64 s4.2)))) then
      (appO 1 s4.1 (Cut.app .whole ([IntKind.wrap .u8 (ishr .u64 a1 (IntKind.wrap .u64 (8 * (IntKind.wrap .u64 s4.2))))] : List Int))).bind fun l9 =>
      some (Sum.inl (l9, IntKind.wrap .i64 (s4.2 - 1)))
    else none
  else
    some (Sum.inr s4.1)
noncomputable def F_ref01_Append (a0 : List Int) (a1 : Int) (a2 : Int) : Option ((List Int)) :=
  (appO 1 ([] : List Int) (Cut.app .whole a0)).bind fun l1 =>
  bif (decide (a2 < 0)) then
    some (l1)
  else
    bif (decide (a2 > 8)) then
      some (l1)
    else
      (loopO (F_ref01_Append_l1 a1) (l1, IntKind.wrap .i64 (a2 - 1))).bind fun b5 =>
      some (b5)
set_option maxRecDepth 100000 in
set_option maxHeartbeats 40000000 in
theorem okT_ref01_Append (a0 : List Int) (a1 : Int) (a2 : Int) (r : (List Int)) (h : F_ref01_Append a0 a1 a2 = some r) : Con Try.prog 59 [.c (eS 1 (ecI .u8) (a0)), .c (.lit (.int .u64 (a1))), .c (.lit (.int .i64 (a2)))] [] (.c (.slc 1 900002 (List.length r) (List.map (ecI .u8) r))) [(900000, .spare 5 1 (List.length r))] := by
  unfold F_ref01_Append at h
  refine con_of [] [(900000, [])] 35 Try.func59 rfl rfl (by kernel_rfl) (fun K => ?_)
  refine TS_go 6 ?_
  refine TS_litNT 9 5 1 (ecI .u8) [] ([] : List Int) (by kernel_rfl) (by kernel_rfl) ?_
  refine TS_go 1 ?_
  replace h := bindO h
  obtain ⟨l1, hl1, h⟩ := h
  refine TS_appT (d := 9) (e := 5) (sz := 1) (N := List.length ([] : List Int)) (ecI .u8) (fun _ => by kernel_rfl) (l1 := ([] : List Int)) (l2 := a0) (c := .whole) hl1 (by kernel_rfl) (by kernel_rfl) ?_
  refine TS_go 8 ?_
  replace h := condO h
  rcases h with ⟨hb2, h⟩ | ⟨hb2, h⟩
  · refine TS_know 13 (b := true) hb2 (by kernel_rfl) (by kernel_rfl) ?_
    refine TS_know 14 (b := true) hb2 (by kernel_rfl) (by kernel_rfl) ?_
    refine TS_go 4 ?_
    refine TS_T (by kernel_rfl) rfl ?_
    refine TS_go 5 ?_
    refine TS_fitU ⟨[(6, [])], [(9, (900000, []))]⟩ (by kernel_rfl) ?_
    refine TS_go 2 ?_
    have ret := Option.some.inj h
    subst ret
    exact TS_ret (by kernel_rfl) (by kernel_rfl) (by kernel_rfl)
  · refine TS_know 13 (b := false) hb2 (by kernel_rfl) (by kernel_rfl) ?_
    refine TS_know 14 (b := false) hb2 (by kernel_rfl) (by kernel_rfl) ?_
    refine TS_go 4 ?_
    replace h := condO h
    rcases h with ⟨hb3, h⟩ | ⟨hb3, h⟩
    · refine TS_know 16 (b := true) hb3 (by kernel_rfl) (by kernel_rfl) ?_
      refine TS_know 17 (b := true) hb3 (by kernel_rfl) (by kernel_rfl) ?_
      refine TS_T (by kernel_rfl) rfl ?_
      refine TS_go 5 ?_
      refine TS_fitU ⟨[(6, [])], [(9, (900000, []))]⟩ (by kernel_rfl) ?_
      refine TS_go 2 ?_
      have ret := Option.some.inj h
      subst ret
      exact TS_ret (by kernel_rfl) (by kernel_rfl) (by kernel_rfl)
    · refine TS_know 16 (b := false) hb3 (by kernel_rfl) (by kernel_rfl) ?_
      refine TS_know 17 (b := false) hb3 (by kernel_rfl) (by kernel_rfl) ?_
      refine TS_F (by kernel_rfl) rfl ?_
      refine TS_go 9 ?_
      refine TS_cut ⟨[(1, []), (7, []), (8, [])], [(9, (9, []))]⟩ (.mk [.code (codeAt [1, 1, 1, 0, 1, 0] (bodyOf Try.f59)), .blk 0, .code (codeAt [1, 1, 1, 1] (bodyOf Try.f59))] .normal ⟨[(1, .c (.lit (.int .u64 (a1)))), (7, .c (.slc 1 11 (List.length l1) (List.map (ecI .u8) l1))), (8, .c (.lit (.int .i64 (IntKind.wrap .i64 (a2 - 1)))))], [(9, .spare 5 1 (List.length l1))]⟩) (by kernel_rfl) (by kernel_rfl) ?_
      replace h := bindO h
      obtain ⟨y6, hl1, hK1⟩ := h
      refine TS_loopB (F_ref01_Append_l1 a1) ⟨[(1, []), (7, []), (8, [])], [(9, (9, []))]⟩ (fun (s4 : (List Int) × Int) => [(7, .c (.slc 1 11 (List.length s4.1) (List.map (ecI .u8) s4.1))), (8, .c (.lit (.int .i64 (s4.2))))]) (fun (s4 : (List Int) × Int) => [(9, .spare 5 1 (List.length s4.1))]) (l1, IntKind.wrap .i64 (a2 - 1)) y6 (.exit 0) (fun (b : (List Int)) => b) ⟨[(7, [])], [(9, (9, []))]⟩ (fun (b5 : (List Int)) => [(7, .c (.slc 1 11 (List.length b5) (List.map (ecI .u8) b5)))]) (fun (b5 : (List Int)) => [(9, .spare 5 1 (List.length b5))]) hl1 (by kernel_rfl) (by kernel_rfl) ?_ ?_
      · intro s4 x h hy1
        unfold F_ref01_Append_l1 at h
        refine TS_go 6 ?_
        replace h := condO h
        rcases h with ⟨hb7, h⟩ | ⟨hb7, h⟩
        · refine TS_know 22 (b := true) hb7 (by kernel_rfl) (by kernel_rfl) ?_
          refine TS_T (by kernel_rfl) rfl ?_
          refine TS_go 9 ?_
          replace h := chkO h
          obtain ⟨hc8, h⟩ := h
          refine TS_num (op := .shr) (k := .u64) (k' := .u64) (m := a1) (i := IntKind.wrap .u64 (8 * (IntKind.wrap .u64 s4.2))) (of_decide_eq_true hc8) rfl (by simp) (by kernel_rfl) (by kernel_rfl) ?_
          refine TS_go 1 ?_
          refine TS_litNT 32 5 1 (ecI .u8) [] ([IntKind.wrap .u8 (ishr .u64 a1 (IntKind.wrap .u64 (8 * (IntKind.wrap .u64 s4.2))))] : List Int) (by kernel_rfl) (by kernel_rfl) ?_
          replace h := bindO h
          obtain ⟨_l9, hl9, h⟩ := h
          refine TS_appT (d := 9) (e := 5) (sz := 1) (N := List.length s4.1) (ecI .u8) (fun _ => by kernel_rfl) (l1 := s4.1) (l2 := ([IntKind.wrap .u8 (ishr .u64 a1 (IntKind.wrap .u64 (8 * (IntKind.wrap .u64 s4.2))))] : List Int)) (c := .whole) hl9 (by kernel_rfl) (by kernel_rfl) ?_
          refine TS_go 8 ?_
          have ret := Option.some.inj h
          subst ret
          exact TS_againB _ ⟨[(1, []), (7, []), (8, [])], [(9, (9, []))]⟩ rfl (by kernel_rfl) (by kernel_rfl)
        · refine TS_know 22 (b := false) hb7 (by kernel_rfl) (by kernel_rfl) ?_
          refine TS_F (by kernel_rfl) rfl ?_
          refine TS_go 2 ?_
          have ret := Option.some.inj h
          subst ret
          exact TS_brkB s4.1 ⟨[(7, [])], [(9, (9, []))]⟩ rfl (by kernel_rfl) (by kernel_rfl) (by kernel_rfl)
      · intro b5 hb
        subst y6
        have h := hK1
        refine TS_go 6 ?_
        refine TS_fitU ⟨[(6, [])], [(9, (900000, []))]⟩ (by kernel_rfl) ?_
        refine TS_go 1 ?_
        have ret := Option.some.inj h
        subst ret
        exact TS_ret (by kernel_rfl) (by kernel_rfl) (by kernel_rfl)
/-- multihop/multihopref05.addr -/
noncomputable def F_ref05_addr_G0 (a0 : List Int) (a1 : S_Addr) : Option ((List Int)) :=
  bif (a1.Mode == 2) then
    (F_ref01_Append a0 (IntKind.wrap .u64 a1.Short) 2).bind fun v2 =>
    bif decide (List.length a0 < List.length v2) then
      some (v2)
    else none
  else
    bif (a1.Mode == 3) then
      (F_ref01_Append a0 a1.EUI 8).bind fun v5 =>
      bif decide (List.length a0 < List.length v5) then
        some (v5)
      else none
    else
      some (a0)
set_option maxRecDepth 100000 in
set_option maxHeartbeats 40000000 in
theorem ok_ref05_addr_G0 (a0 : List Int) (a1 : S_Addr) (r : (List Int)) (h : F_ref05_addr_G0 a0 a1 = some r) : ConG Try.prog 60 [.c (.slc 1 1000003 (List.length a0) (List.map (ecI .u8) a0)), .agg (S_Addr.cs a1)] 5 1 (List.length a0) (.c (.slc 1 1000003 (List.length r) (List.map (ecI .u8) r))) (List.length r) := by
  unfold F_ref05_addr_G0 at h
  refine con_ofG [] 21 0 Try.func60 rfl rfl (by kernel_rfl) rfl (fun K => ?_)
  refine TS_go 17 ?_
  replace h := condO h
  rcases h with ⟨hb1, h⟩ | ⟨hb1, h⟩
  · refine TS_know 8 (b := true) hb1 (by kernel_rfl) (by kernel_rfl) ?_
    refine TS_know 7 (b := true) hb1 (by kernel_rfl) (by kernel_rfl) ?_
    refine TS_T (by kernel_rfl) rfl ?_
    refine TS_go 6 ?_
    replace h := bindO h
    obtain ⟨v2, hv2, h⟩ := h
    refine TS_con [[2]] [(13, 900000)] none (okT_ref01_Append a0 (IntKind.wrap .u64 a1.Short) 2 v2 hv2) (by kernel_rfl) (by kernel_rfl) (by kernel_rfl) ?_
    refine TS_go 2 ?_
    replace h := chkO h
    obtain ⟨hc3, h⟩ := h
    refine TS_ghost (sz := 1) (xs := List.map (ecI .u8) a0) 13 hc3 (by kernel_rfl) (by kernel_rfl) ?_
    refine TS_fitU ⟨[(2000000, []), (4, [])], [(13, (1000001, []))]⟩ (by kernel_rfl) ?_
    refine TS_go 3 ?_
    have ret := Option.some.inj h
    subst ret
    exact TS_retG (sz1 := 1) (xs1 := List.map (ecI .u8) a0) (by kernel_rfl) (by kernel_rfl) (by kernel_rfl) (by kernel_rfl)
  · refine TS_know 8 (b := false) hb1 (by kernel_rfl) (by kernel_rfl) ?_
    refine TS_know 7 (b := false) hb1 (by kernel_rfl) (by kernel_rfl) ?_
    refine TS_F (by kernel_rfl) rfl ?_
    refine TS_go 5 ?_
    replace h := condO h
    rcases h with ⟨hb4, h⟩ | ⟨hb4, h⟩
    · refine TS_know 15 (b := true) hb4 (by kernel_rfl) (by kernel_rfl) ?_
      refine TS_know 14 (b := true) hb4 (by kernel_rfl) (by kernel_rfl) ?_
      refine TS_T (by kernel_rfl) rfl ?_
      refine TS_go 5 ?_
      replace h := bindO h
      obtain ⟨v5, hv5, h⟩ := h
      refine TS_con [[2]] [(19, 900000)] none (okT_ref01_Append a0 a1.EUI 8 v5 hv5) (by kernel_rfl) (by kernel_rfl) (by kernel_rfl) ?_
      refine TS_go 2 ?_
      replace h := chkO h
      obtain ⟨hc6, h⟩ := h
      refine TS_ghost (sz := 1) (xs := List.map (ecI .u8) a0) 19 hc6 (by kernel_rfl) (by kernel_rfl) ?_
      refine TS_fitU ⟨[(2000000, []), (4, [])], [(19, (1000001, []))]⟩ (by kernel_rfl) ?_
      refine TS_go 3 ?_
      have ret := Option.some.inj h
      subst ret
      exact TS_retG (sz1 := 1) (xs1 := List.map (ecI .u8) a0) (by kernel_rfl) (by kernel_rfl) (by kernel_rfl) (by kernel_rfl)
    · refine TS_know 15 (b := false) hb4 (by kernel_rfl) (by kernel_rfl) ?_
      refine TS_know 14 (b := false) hb4 (by kernel_rfl) (by kernel_rfl) ?_
      refine TS_F (by kernel_rfl) rfl ?_
      refine TS_go 8 ?_
      have ret := Option.some.inj h
      subst ret
      exact TS_retG (sz1 := 1) (xs1 := List.map (ecI .u8) a0) (by kernel_rfl) (by kernel_rfl) (by kernel_rfl) (by kernel_rfl)

/-- multihop/multihopref05.header -/
noncomputable def F_ref05_header_j2 (a0 : S_Frame) (v5 : (List Int)) : Option ((List Int)) :=
  (appO 1 v5 (Cut.app .whole a0.Payload)).bind fun l6 =>
  some (l6)
noncomputable def F_ref05_header_j1 (a0 : S_Frame) (v4 : (List Int)) : Option ((List Int)) :=
  bif a0.Secure then
    (F_ref01_Append v4 (IntKind.wrap .u64 a0.Counter) 4).bind fun v8 =>
    (appO 1 v8 (Cut.app .whole ([a0.Key] : List Int))).bind fun l9 =>
    (F_ref05_header_j2 a0) l9
  else
    (F_ref05_header_j2 a0) v4
noncomputable def F_ref05_header (a0 : S_Frame) : Option ((List Int)) :=
  (F_ref05_flag a0.AckRequest 32).bind fun v1 =>
  (F_ref05_flag a0.Pending 16).bind fun v2 =>
  (F_ref05_flag a0.Secure 8).bind fun v3 =>
  bif (a0.Kind != 2) then
    (F_ref01_Append ([IntKind.wrap .u8 (IntKind.wrap .i64 ((IntKind.wrap .i64 ((IntKind.wrap .i64 ((IntKind.wrap .i64 (64 * a0.Kind)) + v1)) + v2)) + v3)), IntKind.wrap .u8 (IntKind.wrap .i64 ((IntKind.wrap .i64 (64 * a0.Dst.Mode)) + (IntKind.wrap .i64 (16 * a0.Src.Mode)))), a0.Seq] : List Int) (IntKind.wrap .u64 a0.Pan) 2).bind fun v11 =>
    (F_ref05_addr_G0 v11 a0.Dst).bind fun v12 =>
    (F_ref05_addr_G0 v12 a0.Src).bind fun v13 =>
    (F_ref05_header_j1 a0) v13
  else
    (F_ref05_header_j1 a0) ([IntKind.wrap .u8 (IntKind.wrap .i64 ((IntKind.wrap .i64 ((IntKind.wrap .i64 ((IntKind.wrap .i64 (64 * a0.Kind)) + v1)) + v2)) + v3)), IntKind.wrap .u8 (IntKind.wrap .i64 ((IntKind.wrap .i64 (64 * a0.Dst.Mode)) + (IntKind.wrap .i64 (16 * a0.Src.Mode)))), a0.Seq] : List Int)
set_option maxRecDepth 100000 in
set_option maxHeartbeats 40000000 in
theorem okT_ref05_header (a0 : S_Frame) (r : (List Int)) (h : F_ref05_header a0 = some r) : Con Try.prog 36 [.agg (S_Frame.cs a0)] [] (.c (.slc 1 900002 (List.length r) (List.map (ecI .u8) r))) [(900000, .spare 5 1 (List.length r))] := by
  unfold F_ref05_header at h
  refine con_of [] [(900000, [])] 65 Try.func36 rfl rfl (by kernel_rfl) (fun K => ?_)
  refine TS_go 6 ?_
  refine TS_draw (by kernel_rfl) ?_
  refine TD_go 5 ?_
  replace h := bindO h
  obtain ⟨v1, hv1, h⟩ := h
  refine TD_call [] (ok_ref05_flag a0.AckRequest 32 v1 hv1) (by kernel_rfl) (by kernel_rfl) ?_
  refine TD_go 3 ?_
  replace h := bindO h
  obtain ⟨v2, hv2, h⟩ := h
  refine TD_call [] (ok_ref05_flag a0.Pending 16 v2 hv2) (by kernel_rfl) (by kernel_rfl) ?_
  refine TD_go 3 ?_
  replace h := bindO h
  obtain ⟨v3, hv3, h⟩ := h
  refine TD_call [] (ok_ref05_flag a0.Secure 8 v3 hv3) (by kernel_rfl) (by kernel_rfl) ?_
  refine TD_go 2 ?_
  refine TD_end (by kernel_rfl) ?_
  refine TS_go 16 ?_
  refine TS_litNT 34 5 1 (ecI .u8) [] ([IntKind.wrap .u8 (IntKind.wrap .i64 ((IntKind.wrap .i64 ((IntKind.wrap .i64 ((IntKind.wrap .i64 (64 * a0.Kind)) + v1)) + v2)) + v3)), IntKind.wrap .u8 (IntKind.wrap .i64 ((IntKind.wrap .i64 (64 * a0.Dst.Mode)) + (IntKind.wrap .i64 (16 * a0.Src.Mode)))), a0.Seq] : List Int) (by kernel_rfl) (by kernel_rfl) ?_
  refine TS_go 2 ?_
  refine TS_cut ⟨[(1, []), (4, [])], [(1, (1, [])), (34, (34, []))]⟩ (.mk [.code (codeAt [1, 1, 1] (bodyOf Try.f36))] .normal ⟨[(1, .c (.box 1 0)), (4, .c (.slc 1 36 (List.length ([IntKind.wrap .u8 (IntKind.wrap .i64 ((IntKind.wrap .i64 ((IntKind.wrap .i64 ((IntKind.wrap .i64 (64 * a0.Kind)) + v1)) + v2)) + v3)), IntKind.wrap .u8 (IntKind.wrap .i64 ((IntKind.wrap .i64 (64 * a0.Dst.Mode)) + (IntKind.wrap .i64 (16 * a0.Src.Mode)))), a0.Seq] : List Int)) (List.map (ecI .u8) ([IntKind.wrap .u8 (IntKind.wrap .i64 ((IntKind.wrap .i64 ((IntKind.wrap .i64 ((IntKind.wrap .i64 (64 * a0.Kind)) + v1)) + v2)) + v3)), IntKind.wrap .u8 (IntKind.wrap .i64 ((IntKind.wrap .i64 (64 * a0.Dst.Mode)) + (IntKind.wrap .i64 (16 * a0.Src.Mode)))), a0.Seq] : List Int))))], [(1, .box [.lit (.int .i64 (a0.Kind)), .lit (.bool (a0.AckRequest)), .lit (.bool (a0.Pending)), .lit (.bool (a0.Secure)), .lit (.int .u8 (a0.Seq)), .lit (.int .u16 (a0.Pan)), .lit (.int .i64 (a0.Dst.Mode)), .lit (.int .u16 (a0.Dst.Short)), .lit (.int .u64 (a0.Dst.EUI)), .lit (.int .i64 (a0.Src.Mode)), .lit (.int .u16 (a0.Src.Short)), .lit (.int .u64 (a0.Src.EUI)), .lit (.int .u32 (a0.Counter)), .lit (.int .u8 (a0.Key)), .slc 1 0 (List.length a0.Payload) (List.map (ecI .u8) a0.Payload), .slc 1 0 (List.length a0.MIC) (List.map (ecI .u8) a0.MIC)]), (34, .spare 5 1 (List.length ([IntKind.wrap .u8 (IntKind.wrap .i64 ((IntKind.wrap .i64 ((IntKind.wrap .i64 ((IntKind.wrap .i64 (64 * a0.Kind)) + v1)) + v2)) + v3)), IntKind.wrap .u8 (IntKind.wrap .i64 ((IntKind.wrap .i64 (64 * a0.Dst.Mode)) + (IntKind.wrap .i64 (16 * a0.Src.Mode)))), a0.Seq] : List Int)))]⟩) (by kernel_rfl) (by kernel_rfl) ?_
  refine TS_joinB ⟨[(1, []), (4, [])], [(1, (1, [])), (34, (34, []))]⟩ (fun (v4 : (List Int)) => [(4, .c (.slc 1 36 (List.length v4) (List.map (ecI .u8) v4)))]) (fun (v4 : (List Int)) => [(34, .spare 5 1 (List.length v4))]) (F_ref05_header_j1 a0) r ?_ ?_
  · clear h
    intro v4 h
    unfold F_ref05_header_j1 at h
    refine TS_cut ⟨[(1, []), (4, [])], [(1, (1, [])), (34, (34, []))]⟩ (.mk [.code (codeAt [1, 1, 1, 1] (bodyOf Try.f36))] .normal ⟨[(1, .c (.box 1 0)), (4, .c (.slc 1 36 (List.length v4) (List.map (ecI .u8) v4)))], [(1, .box [.lit (.int .i64 (a0.Kind)), .lit (.bool (a0.AckRequest)), .lit (.bool (a0.Pending)), .lit (.bool (a0.Secure)), .lit (.int .u8 (a0.Seq)), .lit (.int .u16 (a0.Pan)), .lit (.int .i64 (a0.Dst.Mode)), .lit (.int .u16 (a0.Dst.Short)), .lit (.int .u64 (a0.Dst.EUI)), .lit (.int .i64 (a0.Src.Mode)), .lit (.int .u16 (a0.Src.Short)), .lit (.int .u64 (a0.Src.EUI)), .lit (.int .u32 (a0.Counter)), .lit (.int .u8 (a0.Key)), .slc 1 0 (List.length a0.Payload) (List.map (ecI .u8) a0.Payload), .slc 1 0 (List.length a0.MIC) (List.map (ecI .u8) a0.MIC)]), (34, .spare 5 1 (List.length v4))]⟩) (by kernel_rfl) (by kernel_rfl) ?_
    refine TS_joinB ⟨[(1, []), (4, [])], [(1, (1, [])), (34, (34, []))]⟩ (fun (v5 : (List Int)) => [(4, .c (.slc 1 36 (List.length v5) (List.map (ecI .u8) v5)))]) (fun (v5 : (List Int)) => [(34, .spare 5 1 (List.length v5))]) (F_ref05_header_j2 a0) r ?_ ?_
    · clear h
      intro v5 h
      unfold F_ref05_header_j2 at h
      refine TS_go 5 ?_
      replace h := bindO h
      obtain ⟨_l6, hl6, h⟩ := h
      refine TS_appT (d := 34) (e := 5) (sz := 1) (N := List.length v5) (ecI .u8) (fun _ => by kernel_rfl) (l1 := v5) (l2 := a0.Payload) (c := .whole) hl6 (by kernel_rfl) (by kernel_rfl) ?_
      refine TS_go 2 ?_
      refine TS_fitU ⟨[(2, [])], [(34, (900000, []))]⟩ (by kernel_rfl) ?_
      refine TS_go 1 ?_
      have ret := Option.some.inj h
      subst ret
      exact TS_ret (by kernel_rfl) (by kernel_rfl) (by kernel_rfl)
    · refine TS_go 5 ?_
      replace h := condO h
      rcases h with ⟨hb7, h⟩ | ⟨hb7, h⟩
      · refine TS_know 51 (b := true) hb7 (by kernel_rfl) (by kernel_rfl) ?_
        refine TS_T (by kernel_rfl) rfl ?_
        refine TS_draw (by kernel_rfl) ?_
        refine TD_go 4 ?_
        replace h := bindO h
        obtain ⟨v8, hv8, h⟩ := h
        refine TD_conX (d := 56) (e := 900000) [[2]] (okT_ref01_Append v4 (IntKind.wrap .u64 a0.Counter) 4 v8 hv8) (by kernel_rfl) (by kernel_rfl) ?_
        refine TD_go 2 ?_
        refine TD_litNT 59 5 1 (ecI .u8) [] ([a0.Key] : List Int) (by kernel_rfl) (by kernel_rfl) ?_
        replace h := bindO h
        obtain ⟨l9, hl9, h⟩ := h
        refine TD_appT (d := 56) (e := 5) (sz := 1) (N := List.length v8) (ecI .u8) (fun _ => by kernel_rfl) (l1 := v8) (l2 := ([a0.Key] : List Int)) (c := .whole) hl9 (by kernel_rfl) (by kernel_rfl) ?_
        refine TD_go 1 ?_
        refine TD_end (by kernel_rfl) ?_
        exact TS_meet l9 ⟨[(1, []), (4, [])], [(1, (1, [])), (56, (34, []))]⟩ h (by kernel_rfl) (by kernel_rfl)
      · refine TS_know 51 (b := false) hb7 (by kernel_rfl) (by kernel_rfl) ?_
        refine TS_F (by kernel_rfl) rfl ?_
        refine TS_go 1 ?_
        exact TS_meet v4 ⟨[(1, []), (4, [])], [(1, (1, [])), (34, (34, []))]⟩ h (by kernel_rfl) (by kernel_rfl)
  · refine TS_go 6 ?_
    replace h := condO h
    rcases h with ⟨hb10, h⟩ | ⟨hb10, h⟩
    · refine TS_know 37 (b := true) hb10 (by kernel_rfl) (by kernel_rfl) ?_
      refine TS_T (by kernel_rfl) rfl ?_
      refine TS_go 6 ?_
      replace h := bindO h
      obtain ⟨v11, hv11, h⟩ := h
      refine TS_con [[2]] [(42, 900000)] none (okT_ref01_Append ([IntKind.wrap .u8 (IntKind.wrap .i64 ((IntKind.wrap .i64 ((IntKind.wrap .i64 ((IntKind.wrap .i64 (64 * a0.Kind)) + v1)) + v2)) + v3)), IntKind.wrap .u8 (IntKind.wrap .i64 ((IntKind.wrap .i64 (64 * a0.Dst.Mode)) + (IntKind.wrap .i64 (16 * a0.Src.Mode)))), a0.Seq] : List Int) (IntKind.wrap .u64 a0.Pan) 2 v11 hv11) (by kernel_rfl) (by kernel_rfl) (by kernel_rfl) ?_
      refine TS_go 2 ?_
      refine TS_draw (by kernel_rfl) ?_
      refine TD_go 3 ?_
      replace h := bindO h
      obtain ⟨v12, hv12, h⟩ := h
      refine TD_conG 42 [] (ok_ref05_addr_G0 v11 a0.Dst v12 hv12) (by kernel_rfl) (by kernel_rfl) (by kernel_rfl) ?_
      refine TD_go 2 ?_
      replace h := bindO h
      obtain ⟨v13, hv13, h⟩ := h
      refine TD_conG 42 [] (ok_ref05_addr_G0 v12 a0.Src v13 hv13) (by kernel_rfl) (by kernel_rfl) (by kernel_rfl) ?_
      refine TD_go 1 ?_
      refine TD_end (by kernel_rfl) ?_
      exact TS_meet v13 ⟨[(1, []), (4, [])], [(1, (1, [])), (42, (34, []))]⟩ h (by kernel_rfl) (by kernel_rfl)
    · refine TS_know 37 (b := false) hb10 (by kernel_rfl) (by kernel_rfl) ?_
      refine TS_F (by kernel_rfl) rfl ?_
      refine TS_go 1 ?_
      exact TS_meet ([IntKind.wrap .u8 (IntKind.wrap .i64 ((IntKind.wrap .i64 ((IntKind.wrap .i64 ((IntKind.wrap .i64 (64 * a0.Kind)) + v1)) + v2)) + v3)), IntKind.wrap .u8 (IntKind.wrap .i64 ((IntKind.wrap .i64 (64 * a0.Dst.Mode)) + (IntKind.wrap .i64 (16 * a0.Src.Mode)))), a0.Seq] : List Int) ⟨[(1, []), (4, [])], [(1, (1, [])), (34, (34, []))]⟩ h (by kernel_rfl) (by kernel_rfl)
/-- multihop/multihopref05.Valid -/
noncomputable def F_ref05_Valid_j1 (a0 : S_Frame) (v10 : Bool) : Option (Bool) :=
  bif v10 then
    (F_ref04_Some a0.Dst).bind fun v12 =>
    bif v12 then
      (F_ref04_One a0.Src).bind fun v14 =>
      bif v14 then
        bif a0.AckRequest then
          (F_ref04_IsBroadcast a0.Dst).bind fun v17 =>
          bif v17 then
            some (false)
          else
            bif a0.Secure then
              bif ((List.length a0.MIC : Int) != 4) then
                some (false)
              else
                (F_ref05_header a0).bind fun v21 =>
                some ((decide ((IntKind.wrap .i64 ((IntKind.wrap .i64 ((List.length v21 : Int) + (List.length a0.MIC : Int))) + 2)) ≤ 127)))
            else
              bif (a0.Counter != 0) then
                some (false)
              else
                bif (a0.Key != 0) then
                  some (false)
                else
                  bif ((List.length a0.MIC : Int) != 0) then
                    some (false)
                  else
                    (F_ref05_header a0).bind fun v25 =>
                    some ((decide ((IntKind.wrap .i64 ((IntKind.wrap .i64 ((List.length v25 : Int) + (List.length a0.MIC : Int))) + 2)) ≤ 127)))
        else
          bif a0.Secure then
            bif ((List.length a0.MIC : Int) != 4) then
              some (false)
            else
              (F_ref05_header a0).bind fun v28 =>
              some ((decide ((IntKind.wrap .i64 ((IntKind.wrap .i64 ((List.length v28 : Int) + (List.length a0.MIC : Int))) + 2)) ≤ 127)))
          else
            bif (a0.Counter != 0) then
              some (false)
            else
              bif (a0.Key != 0) then
                some (false)
              else
                bif ((List.length a0.MIC : Int) != 0) then
                  some (false)
                else
                  (F_ref05_header a0).bind fun v32 =>
                  some ((decide ((IntKind.wrap .i64 ((IntKind.wrap .i64 ((List.length v32 : Int) + (List.length a0.MIC : Int))) + 2)) ≤ 127)))
      else
        some (false)
    else
      some (false)
  else
    some (false)
noncomputable def F_ref05_Valid (a0 : S_Frame) : Option (Bool) :=
  bif (a0.Kind == 2) then
    bif a0.AckRequest then
      some (false)
    else
      bif a0.Secure then
        some (false)
      else
        bif (a0.Pan == 0) then
          bif (a0.Counter == 0) then
            bif (a0.Key == 0) then
              bif (S_Addr.eqb a0.Dst (S_Addr.mk 0 0 0)) then
                bif (S_Addr.eqb a0.Src (S_Addr.mk 0 0 0)) then
                  bif ((List.length a0.Payload : Int) == 0) then
                    some (((List.length a0.MIC : Int) == 0))
                  else
                    some (false)
                else
                  some (false)
              else
                some (false)
            else
              some (false)
          else
            some (false)
        else
          some (false)
  else
    bif (a0.Kind == 1) then
      (F_ref05_Valid_j1 a0) true
    else
      (F_ref05_Valid_j1 a0) (a0.Kind == 3)
set_option maxRecDepth 100000 in
set_option maxHeartbeats 40000000 in
theorem ok_ref05_Valid (a0 : S_Frame) (r : Bool) (h : F_ref05_Valid a0 = some r) : Con Try.prog 35 [.agg (S_Frame.cs a0)] [] (.c (.lit (.bool (r)))) [] := by
  unfold F_ref05_Valid at h
  refine con_of [] [] 114 Try.func35 rfl rfl (by kernel_rfl) (fun K => ?_)
  refine TS_go 17 ?_
  replace h := condO h
  rcases h with ⟨hb1, h⟩ | ⟨hb1, h⟩
  · refine TS_know 6 (b := true) hb1 (by kernel_rfl) (by kernel_rfl) ?_
    refine TS_know 5 (b := true) hb1 (by kernel_rfl) (by kernel_rfl) ?_
    refine TS_T (by kernel_rfl) rfl ?_
    refine TS_go 6 ?_
    replace h := condO h
    rcases h with ⟨hb2, h⟩ | ⟨hb2, h⟩
    · refine TS_know 8 (b := true) hb2 (by kernel_rfl) (by kernel_rfl) ?_
      refine TS_know 9 (b := false) (notF hb2) (by kernel_rfl) (by kernel_rfl) ?_
      refine TS_know 10 (b := false) (notF hb2) (by kernel_rfl) (by kernel_rfl) ?_
      refine TS_go 48 ?_
      have ret := Option.some.inj h
      subst ret
      exact TS_ret (by kernel_rfl) (by kernel_rfl) (by kernel_rfl)
    · refine TS_know 8 (b := false) hb2 (by kernel_rfl) (by kernel_rfl) ?_
      refine TS_know 9 (b := true) (notT hb2) (by kernel_rfl) (by kernel_rfl) ?_
      refine TS_know 10 (b := true) (notT hb2) (by kernel_rfl) (by kernel_rfl) ?_
      refine TS_go 5 ?_
      replace h := condO h
      rcases h with ⟨hb3, h⟩ | ⟨hb3, h⟩
      · refine TS_know 12 (b := true) hb3 (by kernel_rfl) (by kernel_rfl) ?_
        refine TS_know 13 (b := false) (notF hb3) (by kernel_rfl) (by kernel_rfl) ?_
        refine TS_know 14 (b := false) (notF hb3) (by kernel_rfl) (by kernel_rfl) ?_
        refine TS_know 15 (b := false) (notF hb3) (by kernel_rfl) (by kernel_rfl) ?_
        refine TS_go 43 ?_
        have ret := Option.some.inj h
        subst ret
        exact TS_ret (by kernel_rfl) (by kernel_rfl) (by kernel_rfl)
      · refine TS_know 12 (b := false) hb3 (by kernel_rfl) (by kernel_rfl) ?_
        refine TS_know 13 (b := true) (notT hb3) (by kernel_rfl) (by kernel_rfl) ?_
        refine TS_know 14 (b := true) (notT hb3) (by kernel_rfl) (by kernel_rfl) ?_
        refine TS_know 15 (b := true) (notT hb3) (by kernel_rfl) (by kernel_rfl) ?_
        refine TS_go 5 ?_
        replace h := condO h
        rcases h with ⟨hb4, h⟩ | ⟨hb4, h⟩
        · refine TS_know 18 (b := true) hb4 (by kernel_rfl) (by kernel_rfl) ?_
          refine TS_know 19 (b := true) hb4 (by kernel_rfl) (by kernel_rfl) ?_
          refine TS_know 20 (b := true) hb4 (by kernel_rfl) (by kernel_rfl) ?_
          refine TS_go 5 ?_
          replace h := condO h
          rcases h with ⟨hb5, h⟩ | ⟨hb5, h⟩
          · refine TS_know 23 (b := true) hb5 (by kernel_rfl) (by kernel_rfl) ?_
            refine TS_know 24 (b := true) hb5 (by kernel_rfl) (by kernel_rfl) ?_
            refine TS_know 25 (b := true) hb5 (by kernel_rfl) (by kernel_rfl) ?_
            refine TS_go 5 ?_
            replace h := condO h
            rcases h with ⟨hb6, h⟩ | ⟨hb6, h⟩
            · refine TS_know 28 (b := true) hb6 (by kernel_rfl) (by kernel_rfl) ?_
              refine TS_know 29 (b := true) hb6 (by kernel_rfl) (by kernel_rfl) ?_
              refine TS_know 30 (b := true) hb6 (by kernel_rfl) (by kernel_rfl) ?_
              refine TS_go 6 ?_
              replace h := condO h
              rcases h with ⟨hb7, h⟩ | ⟨hb7, h⟩
              · refine TS_know 34 (b := true) hb7 (by kernel_rfl) (by kernel_rfl) ?_
                refine TS_know 35 (b := true) hb7 (by kernel_rfl) (by kernel_rfl) ?_
                refine TS_know 36 (b := true) hb7 (by kernel_rfl) (by kernel_rfl) ?_
                refine TS_go 6 ?_
                replace h := condO h
                rcases h with ⟨hb8, h⟩ | ⟨hb8, h⟩
                · refine TS_know 40 (b := true) hb8 (by kernel_rfl) (by kernel_rfl) ?_
                  refine TS_know 41 (b := true) hb8 (by kernel_rfl) (by kernel_rfl) ?_
                  refine TS_know 42 (b := true) hb8 (by kernel_rfl) (by kernel_rfl) ?_
                  refine TS_go 6 ?_
                  replace h := condO h
                  rcases h with ⟨hb9, h⟩ | ⟨hb9, h⟩
                  · refine TS_know 46 (b := true) hb9 (by kernel_rfl) (by kernel_rfl) ?_
                    refine TS_know 47 (b := true) hb9 (by kernel_rfl) (by kernel_rfl) ?_
                    refine TS_know 48 (b := true) hb9 (by kernel_rfl) (by kernel_rfl) ?_
                    refine TS_go 10 ?_
                    have ret := Option.some.inj h
                    subst ret
                    exact TS_ret (by kernel_rfl) (by kernel_rfl) (by kernel_rfl)
                  · refine TS_know 46 (b := false) hb9 (by kernel_rfl) (by kernel_rfl) ?_
                    refine TS_know 47 (b := false) hb9 (by kernel_rfl) (by kernel_rfl) ?_
                    refine TS_know 48 (b := false) hb9 (by kernel_rfl) (by kernel_rfl) ?_
                    refine TS_go 10 ?_
                    have ret := Option.some.inj h
                    subst ret
                    exact TS_ret (by kernel_rfl) (by kernel_rfl) (by kernel_rfl)
                · refine TS_know 40 (b := false) hb8 (by kernel_rfl) (by kernel_rfl) ?_
                  refine TS_know 41 (b := false) hb8 (by kernel_rfl) (by kernel_rfl) ?_
                  refine TS_know 42 (b := false) hb8 (by kernel_rfl) (by kernel_rfl) ?_
                  refine TS_go 16 ?_
                  have ret := Option.some.inj h
                  subst ret
                  exact TS_ret (by kernel_rfl) (by kernel_rfl) (by kernel_rfl)
              · refine TS_know 34 (b := false) hb7 (by kernel_rfl) (by kernel_rfl) ?_
                refine TS_know 35 (b := false) hb7 (by kernel_rfl) (by kernel_rfl) ?_
                refine TS_know 36 (b := false) hb7 (by kernel_rfl) (by kernel_rfl) ?_
                refine TS_go 22 ?_
                have ret := Option.some.inj h
                subst ret
                exact TS_ret (by kernel_rfl) (by kernel_rfl) (by kernel_rfl)
            · refine TS_know 28 (b := false) hb6 (by kernel_rfl) (by kernel_rfl) ?_
              refine TS_know 29 (b := false) hb6 (by kernel_rfl) (by kernel_rfl) ?_
              refine TS_know 30 (b := false) hb6 (by kernel_rfl) (by kernel_rfl) ?_
              refine TS_go 28 ?_
              have ret := Option.some.inj h
              subst ret
              exact TS_ret (by kernel_rfl) (by kernel_rfl) (by kernel_rfl)
          · refine TS_know 23 (b := false) hb5 (by kernel_rfl) (by kernel_rfl) ?_
            refine TS_know 24 (b := false) hb5 (by kernel_rfl) (by kernel_rfl) ?_
            refine TS_know 25 (b := false) hb5 (by kernel_rfl) (by kernel_rfl) ?_
            refine TS_go 33 ?_
            have ret := Option.some.inj h
            subst ret
            exact TS_ret (by kernel_rfl) (by kernel_rfl) (by kernel_rfl)
        · refine TS_know 18 (b := false) hb4 (by kernel_rfl) (by kernel_rfl) ?_
          refine TS_know 19 (b := false) hb4 (by kernel_rfl) (by kernel_rfl) ?_
          refine TS_know 20 (b := false) hb4 (by kernel_rfl) (by kernel_rfl) ?_
          refine TS_go 38 ?_
          have ret := Option.some.inj h
          subst ret
          exact TS_ret (by kernel_rfl) (by kernel_rfl) (by kernel_rfl)
  · refine TS_know 6 (b := false) hb1 (by kernel_rfl) (by kernel_rfl) ?_
    refine TS_know 5 (b := false) hb1 (by kernel_rfl) (by kernel_rfl) ?_
    refine TS_F (by kernel_rfl) rfl ?_
    refine TS_cut ⟨[(1, []), (4, [])], [(1, (1, []))]⟩ (.mk [.code (codeAt [1, 0, 1, 0, 1, 1] (bodyOf Try.f35)), .blk 0, .code (codeAt [1, 1] (bodyOf Try.f35))] .normal ⟨[(1, .c (.box 1 0)), (4, .c (.lit (.int .i64 (a0.Kind))))], [(1, .box [.lit (.int .i64 (a0.Kind)), .lit (.bool (a0.AckRequest)), .lit (.bool (a0.Pending)), .lit (.bool (a0.Secure)), .lit (.int .u8 (a0.Seq)), .lit (.int .u16 (a0.Pan)), .lit (.int .i64 (a0.Dst.Mode)), .lit (.int .u16 (a0.Dst.Short)), .lit (.int .u64 (a0.Dst.EUI)), .lit (.int .i64 (a0.Src.Mode)), .lit (.int .u16 (a0.Src.Short)), .lit (.int .u64 (a0.Src.EUI)), .lit (.int .u32 (a0.Counter)), .lit (.int .u8 (a0.Key)), .slc 1 0 (List.length a0.Payload) (List.map (ecI .u8) a0.Payload), .slc 1 0 (List.length a0.MIC) (List.map (ecI .u8) a0.MIC)])]⟩) (by kernel_rfl) (by kernel_rfl) ?_
    refine TS_joinB ⟨[(1, [])], [(1, (1, []))]⟩ (fun (v10 : Bool) => [(54, .c (.lit (.bool (v10))))]) (fun (v10 : Bool) => []) (F_ref05_Valid_j1 a0) r ?_ ?_
    · clear h
      intro v10 h
      unfold F_ref05_Valid_j1 at h
      replace h := condO h
      rcases h with ⟨hb11, h⟩ | ⟨hb11, h⟩
      · subst hb11
        refine TS_T (by kernel_rfl) rfl ?_
        refine TS_go 7 ?_
        replace h := bindO h
        obtain ⟨v12, hv12, h⟩ := h
        refine TS_call [] (ok_ref04_Some a0.Dst v12 hv12) (by kernel_rfl) (by kernel_rfl) ?_
        refine TS_go 2 ?_
        replace h := condO h
        rcases h with ⟨hb13, h⟩ | ⟨hb13, h⟩
        · subst hb13
          refine TS_go 2 ?_
          replace h := bindO h
          obtain ⟨v14, hv14, h⟩ := h
          refine TS_call [] (ok_ref04_One a0.Src v14 hv14) (by kernel_rfl) (by kernel_rfl) ?_
          refine TS_go 3 ?_
          replace h := condO h
          rcases h with ⟨hb15, h⟩ | ⟨hb15, h⟩
          · subst hb15
            refine TS_go 3 ?_
            replace h := condO h
            rcases h with ⟨hb16, h⟩ | ⟨hb16, h⟩
            · refine TS_know 69 (b := true) hb16 (by kernel_rfl) (by kernel_rfl) ?_
              refine TS_know 70 (b := true) hb16 (by kernel_rfl) (by kernel_rfl) ?_
              refine TS_go 2 ?_
              replace h := bindO h
              obtain ⟨v17, hv17, h⟩ := h
              refine TS_call [] (ok_ref04_IsBroadcast a0.Dst v17 hv17) (by kernel_rfl) (by kernel_rfl) ?_
              refine TS_go 3 ?_
              replace h := condO h
              rcases h with ⟨hb18, h⟩ | ⟨hb18, h⟩
              · subst hb18
                refine TS_T (by kernel_rfl) rfl ?_
                refine TS_go 6 ?_
                have ret := Option.some.inj h
                subst ret
                exact TS_ret (by kernel_rfl) (by kernel_rfl) (by kernel_rfl)
              · subst hb18
                refine TS_F (by kernel_rfl) rfl ?_
                refine TS_go 7 ?_
                replace h := condO h
                rcases h with ⟨hb19, h⟩ | ⟨hb19, h⟩
                · refine TS_know 77 (b := true) hb19 (by kernel_rfl) (by kernel_rfl) ?_
                  refine TS_know 78 (b := true) hb19 (by kernel_rfl) (by kernel_rfl) ?_
                  refine TS_go 6 ?_
                  replace h := condO h
                  rcases h with ⟨hb20, h⟩ | ⟨hb20, h⟩
                  · refine TS_know 82 (b := true) hb20 (by kernel_rfl) (by kernel_rfl) ?_
                    refine TS_know 83 (b := true) hb20 (by kernel_rfl) (by kernel_rfl) ?_
                    refine TS_know 84 (b := true) hb20 (by kernel_rfl) (by kernel_rfl) ?_
                    refine TS_go 21 ?_
                    refine TS_T (by kernel_rfl) rfl ?_
                    refine TS_go 6 ?_
                    have ret := Option.some.inj h
                    subst ret
                    exact TS_ret (by kernel_rfl) (by kernel_rfl) (by kernel_rfl)
                  · refine TS_know 82 (b := false) hb20 (by kernel_rfl) (by kernel_rfl) ?_
                    refine TS_know 83 (b := false) hb20 (by kernel_rfl) (by kernel_rfl) ?_
                    refine TS_know 84 (b := false) hb20 (by kernel_rfl) (by kernel_rfl) ?_
                    refine TS_go 2 ?_
                    refine TS_know 86 (b := true) hb19 (by kernel_rfl) (by kernel_rfl) ?_
                    refine TS_go 19 ?_
                    refine TS_F (by kernel_rfl) rfl ?_
                    refine TS_go 2 ?_
                    refine TS_draw (by kernel_rfl) ?_
                    refine TD_go 1 ?_
                    replace h := bindO h
                    obtain ⟨v21, hv21, h⟩ := h
                    refine TD_conX (d := 106) (e := 900000) [] (okT_ref05_header a0 v21 hv21) (by kernel_rfl) (by kernel_rfl) ?_
                    refine TD_go 8 ?_
                    refine TD_end (by kernel_rfl) ?_
                    refine TS_go 1 ?_
                    have ret := Option.some.inj h
                    subst ret
                    exact TS_ret (by kernel_rfl) (by kernel_rfl) (by kernel_rfl)
                · refine TS_know 77 (b := false) hb19 (by kernel_rfl) (by kernel_rfl) ?_
                  refine TS_know 78 (b := false) hb19 (by kernel_rfl) (by kernel_rfl) ?_
                  refine TS_go 8 ?_
                  refine TS_know 86 (b := false) hb19 (by kernel_rfl) (by kernel_rfl) ?_
                  refine TS_go 6 ?_
                  replace h := condO h
                  rcases h with ⟨hb22, h⟩ | ⟨hb22, h⟩
                  · refine TS_know 91 (b := true) hb22 (by kernel_rfl) (by kernel_rfl) ?_
                    refine TS_know 92 (b := true) hb22 (by kernel_rfl) (by kernel_rfl) ?_
                    refine TS_go 13 ?_
                    refine TS_T (by kernel_rfl) rfl ?_
                    refine TS_go 6 ?_
                    have ret := Option.some.inj h
                    subst ret
                    exact TS_ret (by kernel_rfl) (by kernel_rfl) (by kernel_rfl)
                  · refine TS_know 91 (b := false) hb22 (by kernel_rfl) (by kernel_rfl) ?_
                    refine TS_know 92 (b := false) hb22 (by kernel_rfl) (by kernel_rfl) ?_
                    refine TS_go 5 ?_
                    replace h := condO h
                    rcases h with ⟨hb23, h⟩ | ⟨hb23, h⟩
                    · refine TS_know 95 (b := true) hb23 (by kernel_rfl) (by kernel_rfl) ?_
                      refine TS_know 96 (b := true) hb23 (by kernel_rfl) (by kernel_rfl) ?_
                      refine TS_know 97 (b := true) hb23 (by kernel_rfl) (by kernel_rfl) ?_
                      refine TS_go 8 ?_
                      refine TS_T (by kernel_rfl) rfl ?_
                      refine TS_go 6 ?_
                      have ret := Option.some.inj h
                      subst ret
                      exact TS_ret (by kernel_rfl) (by kernel_rfl) (by kernel_rfl)
                    · refine TS_know 95 (b := false) hb23 (by kernel_rfl) (by kernel_rfl) ?_
                      refine TS_know 96 (b := false) hb23 (by kernel_rfl) (by kernel_rfl) ?_
                      refine TS_know 97 (b := false) hb23 (by kernel_rfl) (by kernel_rfl) ?_
                      refine TS_go 8 ?_
                      replace h := condO h
                      rcases h with ⟨hb24, h⟩ | ⟨hb24, h⟩
                      · refine TS_know 101 (b := true) hb24 (by kernel_rfl) (by kernel_rfl) ?_
                        refine TS_know 102 (b := true) hb24 (by kernel_rfl) (by kernel_rfl) ?_
                        refine TS_know 103 (b := true) hb24 (by kernel_rfl) (by kernel_rfl) ?_
                        refine TS_know 104 (b := true) hb24 (by kernel_rfl) (by kernel_rfl) ?_
                        refine TS_T (by kernel_rfl) rfl ?_
                        refine TS_go 6 ?_
                        have ret := Option.some.inj h
                        subst ret
                        exact TS_ret (by kernel_rfl) (by kernel_rfl) (by kernel_rfl)
                      · refine TS_know 101 (b := false) hb24 (by kernel_rfl) (by kernel_rfl) ?_
                        refine TS_know 102 (b := false) hb24 (by kernel_rfl) (by kernel_rfl) ?_
                        refine TS_know 103 (b := false) hb24 (by kernel_rfl) (by kernel_rfl) ?_
                        refine TS_know 104 (b := false) hb24 (by kernel_rfl) (by kernel_rfl) ?_
                        refine TS_F (by kernel_rfl) rfl ?_
                        refine TS_go 2 ?_
                        refine TS_draw (by kernel_rfl) ?_
                        refine TD_go 1 ?_
                        replace h := bindO h
                        obtain ⟨v25, hv25, h⟩ := h
                        refine TD_conX (d := 106) (e := 900000) [] (okT_ref05_header a0 v25 hv25) (by kernel_rfl) (by kernel_rfl) ?_
                        refine TD_go 8 ?_
                        refine TD_end (by kernel_rfl) ?_
                        refine TS_go 1 ?_
                        have ret := Option.some.inj h
                        subst ret
                        exact TS_ret (by kernel_rfl) (by kernel_rfl) (by kernel_rfl)
            · refine TS_know 69 (b := false) hb16 (by kernel_rfl) (by kernel_rfl) ?_
              refine TS_know 70 (b := false) hb16 (by kernel_rfl) (by kernel_rfl) ?_
              refine TS_go 6 ?_
              refine TS_F (by kernel_rfl) rfl ?_
              refine TS_go 7 ?_
              replace h := condO h
              rcases h with ⟨hb26, h⟩ | ⟨hb26, h⟩
              · refine TS_know 77 (b := true) hb26 (by kernel_rfl) (by kernel_rfl) ?_
                refine TS_know 78 (b := true) hb26 (by kernel_rfl) (by kernel_rfl) ?_
                refine TS_go 6 ?_
                replace h := condO h
                rcases h with ⟨hb27, h⟩ | ⟨hb27, h⟩
                · refine TS_know 82 (b := true) hb27 (by kernel_rfl) (by kernel_rfl) ?_
                  refine TS_know 83 (b := true) hb27 (by kernel_rfl) (by kernel_rfl) ?_
                  refine TS_know 84 (b := true) hb27 (by kernel_rfl) (by kernel_rfl) ?_
                  refine TS_go 21 ?_
                  refine TS_T (by kernel_rfl) rfl ?_
                  refine TS_go 6 ?_
                  have ret := Option.some.inj h
                  subst ret
                  exact TS_ret (by kernel_rfl) (by kernel_rfl) (by kernel_rfl)
                · refine TS_know 82 (b := false) hb27 (by kernel_rfl) (by kernel_rfl) ?_
                  refine TS_know 83 (b := false) hb27 (by kernel_rfl) (by kernel_rfl) ?_
                  refine TS_know 84 (b := false) hb27 (by kernel_rfl) (by kernel_rfl) ?_
                  refine TS_go 2 ?_
                  refine TS_know 86 (b := true) hb26 (by kernel_rfl) (by kernel_rfl) ?_
                  refine TS_go 19 ?_
                  refine TS_F (by kernel_rfl) rfl ?_
                  refine TS_go 2 ?_
                  refine TS_draw (by kernel_rfl) ?_
                  refine TD_go 1 ?_
                  replace h := bindO h
                  obtain ⟨v28, hv28, h⟩ := h
                  refine TD_conX (d := 106) (e := 900000) [] (okT_ref05_header a0 v28 hv28) (by kernel_rfl) (by kernel_rfl) ?_
                  refine TD_go 8 ?_
                  refine TD_end (by kernel_rfl) ?_
                  refine TS_go 1 ?_
                  have ret := Option.some.inj h
                  subst ret
                  exact TS_ret (by kernel_rfl) (by kernel_rfl) (by kernel_rfl)
              · refine TS_know 77 (b := false) hb26 (by kernel_rfl) (by kernel_rfl) ?_
                refine TS_know 78 (b := false) hb26 (by kernel_rfl) (by kernel_rfl) ?_
                refine TS_go 8 ?_
                refine TS_know 86 (b := false) hb26 (by kernel_rfl) (by kernel_rfl) ?_
                refine TS_go 6 ?_
                replace h := condO h
                rcases h with ⟨hb29, h⟩ | ⟨hb29, h⟩
                · refine TS_know 91 (b := true) hb29 (by kernel_rfl) (by kernel_rfl) ?_
                  refine TS_know 92 (b := true) hb29 (by kernel_rfl) (by kernel_rfl) ?_
                  refine TS_go 13 ?_
                  refine TS_T (by kernel_rfl) rfl ?_
                  refine TS_go 6 ?_
                  have ret := Option.some.inj h
                  subst ret
                  exact TS_ret (by kernel_rfl) (by kernel_rfl) (by kernel_rfl)
                · refine TS_know 91 (b := false) hb29 (by kernel_rfl) (by kernel_rfl) ?_
                  refine TS_know 92 (b := false) hb29 (by kernel_rfl) (by kernel_rfl) ?_
                  refine TS_go 5 ?_
                  replace h := condO h
                  rcases h with ⟨hb30, h⟩ | ⟨hb30, h⟩
                  · refine TS_know 95 (b := true) hb30 (by kernel_rfl) (by kernel_rfl) ?_
                    refine TS_know 96 (b := true) hb30 (by kernel_rfl) (by kernel_rfl) ?_
                    refine TS_know 97 (b := true) hb30 (by kernel_rfl) (by kernel_rfl) ?_
                    refine TS_go 8 ?_
                    refine TS_T (by kernel_rfl) rfl ?_
                    refine TS_go 6 ?_
                    have ret := Option.some.inj h
                    subst ret
                    exact TS_ret (by kernel_rfl) (by kernel_rfl) (by kernel_rfl)
                  · refine TS_know 95 (b := false) hb30 (by kernel_rfl) (by kernel_rfl) ?_
                    refine TS_know 96 (b := false) hb30 (by kernel_rfl) (by kernel_rfl) ?_
                    refine TS_know 97 (b := false) hb30 (by kernel_rfl) (by kernel_rfl) ?_
                    refine TS_go 8 ?_
                    replace h := condO h
                    rcases h with ⟨hb31, h⟩ | ⟨hb31, h⟩
                    · refine TS_know 101 (b := true) hb31 (by kernel_rfl) (by kernel_rfl) ?_
                      refine TS_know 102 (b := true) hb31 (by kernel_rfl) (by kernel_rfl) ?_
                      refine TS_know 103 (b := true) hb31 (by kernel_rfl) (by kernel_rfl) ?_
                      refine TS_know 104 (b := true) hb31 (by kernel_rfl) (by kernel_rfl) ?_
                      refine TS_T (by kernel_rfl) rfl ?_
                      refine TS_go 6 ?_
                      have ret := Option.some.inj h
                      subst ret
                      exact TS_ret (by kernel_rfl) (by kernel_rfl) (by kernel_rfl)
                    · refine TS_know 101 (b := false) hb31 (by kernel_rfl) (by kernel_rfl) ?_
                      refine TS_know 102 (b := false) hb31 (by kernel_rfl) (by kernel_rfl) ?_
                      refine TS_know 103 (b := false) hb31 (by kernel_rfl) (by kernel_rfl) ?_
                      refine TS_know 104 (b := false) hb31 (by kernel_rfl) (by kernel_rfl) ?_
                      refine TS_F (by kernel_rfl) rfl ?_
                      refine TS_go 2 ?_
                      refine TS_draw (by kernel_rfl) ?_
                      refine TD_go 1 ?_
                      replace h := bindO h
                      obtain ⟨v32, hv32, h⟩ := h
                      refine TD_conX (d := 106) (e := 900000) [] (okT_ref05_header a0 v32 hv32) (by kernel_rfl) (by kernel_rfl) ?_
                      refine TD_go 8 ?_
                      refine TD_end (by kernel_rfl) ?_
                      refine TS_go 1 ?_
                      have ret := Option.some.inj h
                      subst ret
                      exact TS_ret (by kernel_rfl) (by kernel_rfl) (by kernel_rfl)
          · subst hb15
            refine TS_go 9 ?_
            refine TS_T (by kernel_rfl) rfl ?_
            refine TS_go 6 ?_
            have ret := Option.some.inj h
            subst ret
            exact TS_ret (by kernel_rfl) (by kernel_rfl) (by kernel_rfl)
        · subst hb13
          refine TS_go 15 ?_
          refine TS_T (by kernel_rfl) rfl ?_
          refine TS_go 6 ?_
          have ret := Option.some.inj h
          subst ret
          exact TS_ret (by kernel_rfl) (by kernel_rfl) (by kernel_rfl)
      · subst hb11
        refine TS_F (by kernel_rfl) rfl ?_
        refine TS_go 7 ?_
        have ret := Option.some.inj h
        subst ret
        exact TS_ret (by kernel_rfl) (by kernel_rfl) (by kernel_rfl)
    · refine TS_go 5 ?_
      replace h := condO h
      rcases h with ⟨hb33, h⟩ | ⟨hb33, h⟩
      · refine TS_know 55 (b := true) hb33 (by kernel_rfl) (by kernel_rfl) ?_
        refine TS_know 54 (b := true) hb33 (by kernel_rfl) (by kernel_rfl) ?_
        refine TS_T (by kernel_rfl) rfl ?_
        refine TS_go 1 ?_
        exact TS_meet true ⟨[(1, []), (54, [])], [(1, (1, []))]⟩ h (by kernel_rfl) (by kernel_rfl)
      · refine TS_know 55 (b := false) hb33 (by kernel_rfl) (by kernel_rfl) ?_
        refine TS_know 54 (b := false) hb33 (by kernel_rfl) (by kernel_rfl) ?_
        refine TS_F (by kernel_rfl) rfl ?_
        refine TS_go 4 ?_
        exact TS_meet (a0.Kind == 3) ⟨[(1, []), (54, [])], [(1, (1, []))]⟩ h (by kernel_rfl) (by kernel_rfl)

/-- multihop/multihopref05.Size -/
noncomputable def F_ref05_Size (a0 : S_Frame) : Option (Int) :=
  (F_ref05_Valid a0).bind fun v1 =>
  bif v1 then
    (F_ref05_header a0).bind fun v3 =>
    some (IntKind.wrap .i64 ((IntKind.wrap .i64 ((List.length v3 : Int) + (List.length a0.MIC : Int))) + 2))
  else
    some (0)
set_option maxRecDepth 100000 in
set_option maxHeartbeats 40000000 in
theorem ok_ref05_Size (a0 : S_Frame) (r : Int) (h : F_ref05_Size a0 = some r) : Con Try.prog 50 [.agg (S_Frame.cs a0)] [] (.c (.lit (.int .i64 (r)))) [] := by
  unfold F_ref05_Size at h
  refine con_of [] [] 14 Try.func50 rfl rfl (by kernel_rfl) (fun K => ?_)
  refine TS_go 9 ?_
  replace h := bindO h
  obtain ⟨v1, hv1, h⟩ := h
  refine TS_call [] (ok_ref05_Valid a0 v1 hv1) (by kernel_rfl) (by kernel_rfl) ?_
  refine TS_go 2 ?_
  replace h := condO h
  rcases h with ⟨hb2, h⟩ | ⟨hb2, h⟩
  · subst hb2
    refine TS_F (by kernel_rfl) rfl ?_
    refine TS_go 2 ?_
    refine TS_draw (by kernel_rfl) ?_
    refine TD_go 1 ?_
    replace h := bindO h
    obtain ⟨v3, hv3, h⟩ := h
    refine TD_conX (d := 7) (e := 900000) [] (okT_ref05_header a0 v3 hv3) (by kernel_rfl) (by kernel_rfl) ?_
    refine TD_go 7 ?_
    refine TD_end (by kernel_rfl) ?_
    refine TS_go 1 ?_
    have ret := Option.some.inj h
    subst ret
    exact TS_ret (by kernel_rfl) (by kernel_rfl) (by kernel_rfl)
  · subst hb2
    refine TS_T (by kernel_rfl) rfl ?_
    refine TS_go 6 ?_
    have ret := Option.some.inj h
    subst ret
    exact TS_ret (by kernel_rfl) (by kernel_rfl) (by kernel_rfl)

/-- multihop/multihopref05.Room -/
noncomputable def F_ref05_Room (a0 : S_Frame) : Option (Int) :=
  (F_ref05_Valid a0).bind fun v1 =>
  bif v1 then
    bif (a0.Kind == 2) then
      some (0)
    else
      (F_ref05_Size a0).bind fun v4 =>
      some (IntKind.wrap .i64 (127 - v4))
  else
    some (0)
set_option maxRecDepth 100000 in
set_option maxHeartbeats 40000000 in
theorem ok_ref05_Room (a0 : S_Frame) (r : Int) (h : F_ref05_Room a0 = some r) : Con Try.prog 34 [.agg (S_Frame.cs a0)] [] (.c (.lit (.int .i64 (r)))) [] := by
  unfold F_ref05_Room at h
  refine con_of [] [] 14 Try.func34 rfl rfl (by kernel_rfl) (fun K => ?_)
  refine TS_go 9 ?_
  replace h := bindO h
  obtain ⟨v1, hv1, h⟩ := h
  refine TS_call [] (ok_ref05_Valid a0 v1 hv1) (by kernel_rfl) (by kernel_rfl) ?_
  refine TS_go 2 ?_
  replace h := condO h
  rcases h with ⟨hb2, h⟩ | ⟨hb2, h⟩
  · subst hb2
    refine TS_go 5 ?_
    replace h := condO h
    rcases h with ⟨hb3, h⟩ | ⟨hb3, h⟩
    · refine TS_know 9 (b := true) hb3 (by kernel_rfl) (by kernel_rfl) ?_
      refine TS_know 10 (b := true) hb3 (by kernel_rfl) (by kernel_rfl) ?_
      refine TS_T (by kernel_rfl) rfl ?_
      refine TS_go 6 ?_
      have ret := Option.some.inj h
      subst ret
      exact TS_ret (by kernel_rfl) (by kernel_rfl) (by kernel_rfl)
    · refine TS_know 9 (b := false) hb3 (by kernel_rfl) (by kernel_rfl) ?_
      refine TS_know 10 (b := false) hb3 (by kernel_rfl) (by kernel_rfl) ?_
      refine TS_F (by kernel_rfl) rfl ?_
      refine TS_go 4 ?_
      replace h := bindO h
      obtain ⟨v4, hv4, h⟩ := h
      refine TS_call [] (ok_ref05_Size a0 v4 hv4) (by kernel_rfl) (by kernel_rfl) ?_
      refine TS_go 4 ?_
      have ret := Option.some.inj h
      subst ret
      exact TS_ret (by kernel_rfl) (by kernel_rfl) (by kernel_rfl)
  · subst hb2
    refine TS_go 5 ?_
    refine TS_T (by kernel_rfl) rfl ?_
    refine TS_go 6 ?_
    have ret := Option.some.inj h
    subst ret
    exact TS_ret (by kernel_rfl) (by kernel_rfl) (by kernel_rfl)

/-- (*multihop/multihopmade.Tape).AnyFrame -/
noncomputable def F_made_Tape_AnyFrame_j1  (v2 : S_multihopmade_Tape × S_Frame) : Option (S_Frame × S_multihopmade_Tape) :=
  some ((v2.2, v2.1))
noncomputable def F_made_Tape_AnyFrame (a0 : S_multihopmade_Tape) : Option (S_Frame × S_multihopmade_Tape) :=
  (F_made_Tape_Frame a0 20).bind fun v1 =>
  (F_made_Tape_Next v1.2 4).bind fun v3 =>
  bif (v3.1 == 0) then
    (F_made_Tape_Bool v3.2 2).bind fun v5 =>
    some (((S_Frame.mk 2 false v5.1 false v1.1.Seq 0 (S_Addr.mk 0 0 0) (S_Addr.mk 0 0 0) 0 0 ([] : List Int) ([] : List Int)), v5.2))
  else
    bif (v3.1 == 1) then
      (F_made_Tape_Word v3.2).bind fun v7 =>
      (F_made_Tape_Next v7.2 3).bind fun v8 =>
      (F_made_Tape_Fill v8.2 4).bind fun v9 =>
      (F_made_Tape_AnyFrame_j1) (v9.2, (S_Frame.mk v1.1.Kind v1.1.AckRequest v1.1.Pending true v1.1.Seq v1.1.Pan v1.1.Dst v1.1.Src (IntKind.wrap .u32 v7.1) (IntKind.wrap .u8 v8.1) v1.1.Payload v9.1))
    else
      bif (v3.1 == 2) then
        (F_ref05_Room v1.1).bind fun v11 =>
        (F_made_Tape_Next v3.2 3).bind fun v12 =>
        (F_ref05_Room v1.1).bind fun v13 =>
        bif decide ((IntKind.wrap .i64 (1 + v13)) ≠ 0) then
          (F_made_Tape_Fill v12.2 (IntKind.wrap .i64 ((IntKind.wrap .i64 (v11 + (List.length v1.1.Payload : Int))) - (Int.tmod v12.1 (IntKind.wrap .i64 (1 + v13)))))).bind fun v15 =>
          (F_made_Tape_AnyFrame_j1) (v15.2, (S_Frame.mk v1.1.Kind v1.1.AckRequest v1.1.Pending v1.1.Secure v1.1.Seq v1.1.Pan v1.1.Dst v1.1.Src v1.1.Counter v1.1.Key v15.1 v1.1.MIC))
        else none
      else
        (F_made_Tape_AnyFrame_j1) (v3.2, v1.1)
set_option maxRecDepth 100000 in
set_option maxHeartbeats 40000000 in
theorem ok_made_Tape_AnyFrame (a0 : S_multihopmade_Tape) (r : S_Frame × S_multihopmade_Tape) (h : F_made_Tape_AnyFrame a0 = some r) : Con Try.prog 12 [.c (.box 1000000 0)] [(1000000, .box (S_multihopmade_Tape.cs a0))] (.agg (S_Frame.cs r.1)) [(1000000, .box (S_multihopmade_Tape.cs r.2))] := by
  unfold F_made_Tape_AnyFrame at h
  refine con_of [[0, 0, 0, 0, 0, 0, 0, 0, 0, 0, 0, 0, 0, 0, 2, 2]] [(1000000, [2])] 48 Try.func12 rfl rfl (by kernel_rfl) (fun K => ?_)
  refine TS_go 7 ?_
  replace h := bindO h
  obtain ⟨v1, hv1, h⟩ := h
  refine TS_con [] [(5, 900014)] (some (1000000, 0)) (okT_made_Tape_Frame a0 20 v1 hv1) (by kernel_rfl) (by kernel_rfl) (by kernel_rfl) ?_
  refine TS_go 3 ?_
  refine TS_cut ⟨[(0, []), (2, []), (3, [])], [(1000000, (1000000, [])), (2, (2, [])), (5, (5, [])), (3, (3, []))]⟩ (.mk [.code (codeAt [1, 1] (bodyOf Try.f12))] .normal ⟨[(0, .c (.box 1000000 0)), (2, .c (.box 2 0)), (3, .c (.box 3 0))], [(1000000, .box [.slc 1 0 (List.length v1.2.l) (List.map (ecI .i64) v1.2.l), .lit (.int .i64 (v1.2.at_))]), (2, .box [.lit (.int .i64 (0)), .lit (.bool (false)), .lit (.bool (false)), .lit (.bool (false)), .lit (.int .u8 (0)), .lit (.int .u16 (0)), .lit (.int .i64 (0)), .lit (.int .u16 (0)), .lit (.int .u64 (0)), .lit (.int .i64 (0)), .lit (.int .u16 (0)), .lit (.int .u64 (0)), .lit (.int .u32 (0)), .lit (.int .u8 (0)), .lit (.slice none 0 0), .lit (.slice none 0 0)]), (5, .spare 5 1 (List.length v1.1.Payload)), (3, .box [.lit (.int .i64 (v1.1.Kind)), .lit (.bool (v1.1.AckRequest)), .lit (.bool (v1.1.Pending)), .lit (.bool (v1.1.Secure)), .lit (.int .u8 (v1.1.Seq)), .lit (.int .u16 (v1.1.Pan)), .lit (.int .i64 (v1.1.Dst.Mode)), .lit (.int .u16 (v1.1.Dst.Short)), .lit (.int .u64 (v1.1.Dst.EUI)), .lit (.int .i64 (v1.1.Src.Mode)), .lit (.int .u16 (v1.1.Src.Short)), .lit (.int .u64 (v1.1.Src.EUI)), .lit (.int .u32 (v1.1.Counter)), .lit (.int .u8 (v1.1.Key)), .slc 1 7 (List.length v1.1.Payload) (List.map (ecI .u8) v1.1.Payload), .slc 1 0 (List.length v1.1.MIC) (List.map (ecI .u8) v1.1.MIC)])]⟩) (by kernel_rfl) (by kernel_rfl) ?_
  refine TS_joinB ⟨[(2, []), (3, [])], [(1000000, (1000000, [])), (2, (2, [])), (3, (3, [0, 0, 0, 0, 0, 0, 0, 0, 0, 0, 0, 0, 0, 0, 2]))]⟩ (fun (v2 : S_multihopmade_Tape × S_Frame) => []) (fun (v2 : S_multihopmade_Tape × S_Frame) => [(1000000, .box (S_multihopmade_Tape.cs v2.1)), (3, .box (S_Frame.cs v2.2))]) (F_made_Tape_AnyFrame_j1) r ?_ ?_
  · clear h
    intro v2 h
    unfold F_made_Tape_AnyFrame_j1 at h
    refine TS_go 6 ?_
    have ret := Option.some.inj h
    subst ret
    exact TS_ret (by kernel_rfl) (by kernel_rfl) (by kernel_rfl)
  · refine TS_go 3 ?_
    replace h := bindO h
    obtain ⟨v3, hv3, h⟩ := h
    refine TS_con [] [] (some (1000000, 0)) (ok_made_Tape_Next v1.2 4 v3 hv3) (by kernel_rfl) (by kernel_rfl) (by kernel_rfl) ?_
    refine TS_go 7 ?_
    replace h := condO h
    rcases h with ⟨hb4, h⟩ | ⟨hb4, h⟩
    · refine TS_know 9 (b := true) hb4 (by kernel_rfl) (by kernel_rfl) ?_
      refine TS_know 8 (b := true) hb4 (by kernel_rfl) (by kernel_rfl) ?_
      refine TS_T (by kernel_rfl) rfl ?_
      refine TS_go 1 ?_
      refine TS_draw (by kernel_rfl) ?_
      refine TD_go 1 ?_
      replace h := bindO h
      obtain ⟨v5, hv5, h⟩ := h
      refine TD_con (_h := []) (_h' := []) [] 1000000 0 [.slc 1 0 (List.length v3.2.l) (List.map (ecI .i64) v3.2.l), .lit (.int .i64 (v3.2.at_))] _ _ (ok_made_Tape_Bool v3.2 2 v5 hv5) (by kernel_rfl) (by kernel_rfl) (by kernel_rfl) (by kernel_rfl) ?_
      refine TD_go 4 ?_
      refine TD_end (by kernel_rfl) ?_
      refine TS_go 2 ?_
      refine TS_outJ (by kernel_rfl) ?_
      have ret := Option.some.inj h
      subst ret
      exact TS_ret (by kernel_rfl) (by kernel_rfl) (by kernel_rfl)
    · refine TS_know 9 (b := false) hb4 (by kernel_rfl) (by kernel_rfl) ?_
      refine TS_know 8 (b := false) hb4 (by kernel_rfl) (by kernel_rfl) ?_
      refine TS_F (by kernel_rfl) rfl ?_
      refine TS_go 5 ?_
      replace h := condO h
      rcases h with ⟨hb6, h⟩ | ⟨hb6, h⟩
      · refine TS_know 16 (b := true) hb6 (by kernel_rfl) (by kernel_rfl) ?_
        refine TS_know 15 (b := true) hb6 (by kernel_rfl) (by kernel_rfl) ?_
        refine TS_T (by kernel_rfl) rfl ?_
        refine TS_go 2 ?_
        replace h := bindO h
        obtain ⟨v7, hv7, h⟩ := h
        refine TS_con [] [] (some (1000000, 0)) (ok_made_Tape_Word v3.2 v7 hv7) (by kernel_rfl) (by kernel_rfl) (by kernel_rfl) ?_
        refine TS_go 2 ?_
        replace h := bindO h
        obtain ⟨v8, hv8, h⟩ := h
        refine TS_con [] [] (some (1000000, 0)) (ok_made_Tape_Next v7.2 3 v8 hv8) (by kernel_rfl) (by kernel_rfl) (by kernel_rfl) ?_
        refine TS_go 2 ?_
        replace h := bindO h
        obtain ⟨v9, hv9, h⟩ := h
        refine TS_con [] [(24, 900000)] (some (1000000, 0)) (okT_made_Tape_Fill v8.2 4 v9 hv9) (by kernel_rfl) (by kernel_rfl) (by kernel_rfl) ?_
        refine TS_go 10 ?_
        exact TS_meet (v9.2, (S_Frame.mk v1.1.Kind v1.1.AckRequest v1.1.Pending true v1.1.Seq v1.1.Pan v1.1.Dst v1.1.Src (IntKind.wrap .u32 v7.1) (IntKind.wrap .u8 v8.1) v1.1.Payload v9.1)) ⟨[(2, []), (3, [])], [(1000000, (1000000, [])), (2, (2, [])), (3, (3, [0, 0, 0, 0, 0, 0, 0, 0, 0, 0, 0, 0, 0, 0, 2, 2]))]⟩ h (by kernel_rfl) (by kernel_rfl)
      · refine TS_know 16 (b := false) hb6 (by kernel_rfl) (by kernel_rfl) ?_
        refine TS_know 15 (b := false) hb6 (by kernel_rfl) (by kernel_rfl) ?_
        refine TS_F (by kernel_rfl) rfl ?_
        refine TS_go 5 ?_
        replace h := condO h
        rcases h with ⟨hb10, h⟩ | ⟨hb10, h⟩
        · refine TS_know 30 (b := true) hb10 (by kernel_rfl) (by kernel_rfl) ?_
          refine TS_know 29 (b := true) hb10 (by kernel_rfl) (by kernel_rfl) ?_
          refine TS_T (by kernel_rfl) rfl ?_
          refine TS_draw (by kernel_rfl) ?_
          refine TD_go 2 ?_
          replace h := bindO h
          obtain ⟨v11, hv11, h⟩ := h
          refine TD_call [[0, 0, 0, 0, 0, 0, 0, 0, 0, 0, 0, 0, 0, 0, 2, 2]] (ok_ref05_Room v1.1 v11 hv11) (by kernel_rfl) (by kernel_rfl) ?_
          refine TD_go 5 ?_
          replace h := bindO h
          obtain ⟨v12, hv12, h⟩ := h
          refine TD_con (_h := []) (_h' := []) [] 1000000 0 [.slc 1 0 (List.length v3.2.l) (List.map (ecI .i64) v3.2.l), .lit (.int .i64 (v3.2.at_))] _ _ (ok_made_Tape_Next v3.2 3 v12 hv12) (by kernel_rfl) (by kernel_rfl) (by kernel_rfl) (by kernel_rfl) ?_
          refine TD_go 1 ?_
          replace h := bindO h
          obtain ⟨v13, hv13, h⟩ := h
          refine TD_call [[0, 0, 0, 0, 0, 0, 0, 0, 0, 0, 0, 0, 0, 0, 2, 2]] (ok_ref05_Room v1.1 v13 hv13) (by kernel_rfl) (by kernel_rfl) ?_
          refine TD_go 1 ?_
          replace h := chkO h
          obtain ⟨hc14, h⟩ := h
          refine TD_num (op := .rem) (k := .i64) (k' := .i64) (m := v12.1) (i := IntKind.wrap .i64 (1 + v13)) (of_decide_eq_true hc14) rfl (by simp) (by kernel_rfl) (by kernel_rfl) ?_
          refine TD_go 1 ?_
          replace h := bindO h
          obtain ⟨v15, hv15, h⟩ := h
          refine TD_con (_h := []) (_h' := []) [] 1000000 0 [.slc 1 0 (List.length v12.2.l) (List.map (ecI .i64) v12.2.l), .lit (.int .i64 (v12.2.at_))] _ _ (ok_made_Tape_Fill v12.2 (IntKind.wrap .i64 ((IntKind.wrap .i64 (v11 + (List.length v1.1.Payload : Int))) - (Int.tmod v12.1 (IntKind.wrap .i64 (1 + v13))))) v15 hv15) (by kernel_rfl) (by kernel_rfl) (by kernel_rfl) (by kernel_rfl) ?_
          refine TD_go 2 ?_
          refine TD_end (by kernel_rfl) ?_
          refine TS_go 1 ?_
          exact TS_meet (v15.2, (S_Frame.mk v1.1.Kind v1.1.AckRequest v1.1.Pending v1.1.Secure v1.1.Seq v1.1.Pan v1.1.Dst v1.1.Src v1.1.Counter v1.1.Key v15.1 v1.1.MIC)) ⟨[(2, []), (3, [])], [(1000000, (1000000, [])), (2, (2, [])), (3, (3, []))]⟩ h (by kernel_rfl) (by kernel_rfl)
        · refine TS_know 30 (b := false) hb10 (by kernel_rfl) (by kernel_rfl) ?_
          refine TS_know 29 (b := false) hb10 (by kernel_rfl) (by kernel_rfl) ?_
          refine TS_F (by kernel_rfl) rfl ?_
          refine TS_go 2 ?_
          exact TS_meet (v3.2, v1.1) ⟨[(2, []), (3, [])], [(1000000, (1000000, [])), (2, (2, [])), (3, (3, [0, 0, 0, 0, 0, 0, 0, 0, 0, 0, 0, 0, 0, 0, 2]))]⟩ h (by kernel_rfl) (by kernel_rfl)

/-- multihop/frame.validAck -/
noncomputable def F_frame_validAck (a0 : S_Frame) : Option (Bool) :=
  bif a0.AckRequest then
    some (false)
  else
    bif a0.Secure then
      some (false)
    else
      bif (a0.Pan == 0) then
        bif (a0.Counter == 0) then
          bif (a0.Key == 0) then
            bif (S_Addr.eqb a0.Dst (S_Addr.mk 0 0 0)) then
              bif (S_Addr.eqb a0.Src (S_Addr.mk 0 0 0)) then
                bif ((List.length a0.Payload : Int) == 0) then
                  some (((List.length a0.MIC : Int) == 0))
                else
                  some (false)
              else
                some (false)
            else
              some (false)
          else
            some (false)
        else
          some (false)
      else
        some (false)
set_option maxRecDepth 100000 in
set_option maxHeartbeats 40000000 in
theorem ok_frame_validAck (a0 : S_Frame) (r : Bool) (h : F_frame_validAck a0 = some r) : Con Try.prog 46 [.agg (S_Frame.cs a0)] [] (.c (.lit (.bool (r)))) [] := by
  unfold F_frame_validAck at h
  refine con_of [] [] 52 Try.func46 rfl rfl (by kernel_rfl) (fun K => ?_)
  refine TS_go 17 ?_
  replace h := condO h
  rcases h with ⟨hb1, h⟩ | ⟨hb1, h⟩
  · refine TS_know 6 (b := true) hb1 (by kernel_rfl) (by kernel_rfl) ?_
    refine TS_know 7 (b := false) (notF hb1) (by kernel_rfl) (by kernel_rfl) ?_
    refine TS_know 8 (b := false) (notF hb1) (by kernel_rfl) (by kernel_rfl) ?_
    refine TS_go 46 ?_
    have ret := Option.some.inj h
    subst ret
    exact TS_ret (by kernel_rfl) (by kernel_rfl) (by kernel_rfl)
  · refine TS_know 6 (b := false) hb1 (by kernel_rfl) (by kernel_rfl) ?_
    refine TS_know 7 (b := true) (notT hb1) (by kernel_rfl) (by kernel_rfl) ?_
    refine TS_know 8 (b := true) (notT hb1) (by kernel_rfl) (by kernel_rfl) ?_
    refine TS_go 5 ?_
    replace h := condO h
    rcases h with ⟨hb2, h⟩ | ⟨hb2, h⟩
    · refine TS_know 10 (b := true) hb2 (by kernel_rfl) (by kernel_rfl) ?_
      refine TS_know 11 (b := false) (notF hb2) (by kernel_rfl) (by kernel_rfl) ?_
      refine TS_know 12 (b := false) (notF hb2) (by kernel_rfl) (by kernel_rfl) ?_
      refine TS_know 13 (b := false) (notF hb2) (by kernel_rfl) (by kernel_rfl) ?_
      refine TS_go 41 ?_
      have ret := Option.some.inj h
      subst ret
      exact TS_ret (by kernel_rfl) (by kernel_rfl) (by kernel_rfl)
    · refine TS_know 10 (b := false) hb2 (by kernel_rfl) (by kernel_rfl) ?_
      refine TS_know 11 (b := true) (notT hb2) (by kernel_rfl) (by kernel_rfl) ?_
      refine TS_know 12 (b := true) (notT hb2) (by kernel_rfl) (by kernel_rfl) ?_
      refine TS_know 13 (b := true) (notT hb2) (by kernel_rfl) (by kernel_rfl) ?_
      refine TS_go 5 ?_
      replace h := condO h
      rcases h with ⟨hb3, h⟩ | ⟨hb3, h⟩
      · refine TS_know 16 (b := true) hb3 (by kernel_rfl) (by kernel_rfl) ?_
        refine TS_know 17 (b := true) hb3 (by kernel_rfl) (by kernel_rfl) ?_
        refine TS_know 18 (b := true) hb3 (by kernel_rfl) (by kernel_rfl) ?_
        refine TS_go 5 ?_
        replace h := condO h
        rcases h with ⟨hb4, h⟩ | ⟨hb4, h⟩
        · refine TS_know 21 (b := true) hb4 (by kernel_rfl) (by kernel_rfl) ?_
          refine TS_know 22 (b := true) hb4 (by kernel_rfl) (by kernel_rfl) ?_
          refine TS_know 23 (b := true) hb4 (by kernel_rfl) (by kernel_rfl) ?_
          refine TS_go 5 ?_
          replace h := condO h
          rcases h with ⟨hb5, h⟩ | ⟨hb5, h⟩
          · refine TS_know 26 (b := true) hb5 (by kernel_rfl) (by kernel_rfl) ?_
            refine TS_know 27 (b := true) hb5 (by kernel_rfl) (by kernel_rfl) ?_
            refine TS_know 28 (b := true) hb5 (by kernel_rfl) (by kernel_rfl) ?_
            refine TS_go 6 ?_
            replace h := condO h
            rcases h with ⟨hb6, h⟩ | ⟨hb6, h⟩
            · refine TS_know 32 (b := true) hb6 (by kernel_rfl) (by kernel_rfl) ?_
              refine TS_know 33 (b := true) hb6 (by kernel_rfl) (by kernel_rfl) ?_
              refine TS_know 34 (b := true) hb6 (by kernel_rfl) (by kernel_rfl) ?_
              refine TS_go 6 ?_
              replace h := condO h
              rcases h with ⟨hb7, h⟩ | ⟨hb7, h⟩
              · refine TS_know 38 (b := true) hb7 (by kernel_rfl) (by kernel_rfl) ?_
                refine TS_know 39 (b := true) hb7 (by kernel_rfl) (by kernel_rfl) ?_
                refine TS_know 40 (b := true) hb7 (by kernel_rfl) (by kernel_rfl) ?_
                refine TS_go 6 ?_
                replace h := condO h
                rcases h with ⟨hb8, h⟩ | ⟨hb8, h⟩
                · refine TS_know 44 (b := true) hb8 (by kernel_rfl) (by kernel_rfl) ?_
                  refine TS_know 45 (b := true) hb8 (by kernel_rfl) (by kernel_rfl) ?_
                  refine TS_know 46 (b := true) hb8 (by kernel_rfl) (by kernel_rfl) ?_
                  refine TS_go 8 ?_
                  have ret := Option.some.inj h
                  subst ret
                  exact TS_ret (by kernel_rfl) (by kernel_rfl) (by kernel_rfl)
                · refine TS_know 44 (b := false) hb8 (by kernel_rfl) (by kernel_rfl) ?_
                  refine TS_know 45 (b := false) hb8 (by kernel_rfl) (by kernel_rfl) ?_
                  refine TS_know 46 (b := false) hb8 (by kernel_rfl) (by kernel_rfl) ?_
                  refine TS_go 8 ?_
                  have ret := Option.some.inj h
                  subst ret
                  exact TS_ret (by kernel_rfl) (by kernel_rfl) (by kernel_rfl)
              · refine TS_know 38 (b := false) hb7 (by kernel_rfl) (by kernel_rfl) ?_
                refine TS_know 39 (b := false) hb7 (by kernel_rfl) (by kernel_rfl) ?_
                refine TS_know 40 (b := false) hb7 (by kernel_rfl) (by kernel_rfl) ?_
                refine TS_go 14 ?_
                have ret := Option.some.inj h
                subst ret
                exact TS_ret (by kernel_rfl) (by kernel_rfl) (by kernel_rfl)
            · refine TS_know 32 (b := false) hb6 (by kernel_rfl) (by kernel_rfl) ?_
              refine TS_know 33 (b := false) hb6 (by kernel_rfl) (by kernel_rfl) ?_
              refine TS_know 34 (b := false) hb6 (by kernel_rfl) (by kernel_rfl) ?_
              refine TS_go 20 ?_
              have ret := Option.some.inj h
              subst ret
              exact TS_ret (by kernel_rfl) (by kernel_rfl) (by kernel_rfl)
          · refine TS_know 26 (b := false) hb5 (by kernel_rfl) (by kernel_rfl) ?_
            refine TS_know 27 (b := false) hb5 (by kernel_rfl) (by kernel_rfl) ?_
            refine TS_know 28 (b := false) hb5 (by kernel_rfl) (by kernel_rfl) ?_
            refine TS_go 26 ?_
            have ret := Option.some.inj h
            subst ret
            exact TS_ret (by kernel_rfl) (by kernel_rfl) (by kernel_rfl)
        · refine TS_know 21 (b := false) hb4 (by kernel_rfl) (by kernel_rfl) ?_
          refine TS_know 22 (b := false) hb4 (by kernel_rfl) (by kernel_rfl) ?_
          refine TS_know 23 (b := false) hb4 (by kernel_rfl) (by kernel_rfl) ?_
          refine TS_go 31 ?_
          have ret := Option.some.inj h
          subst ret
          exact TS_ret (by kernel_rfl) (by kernel_rfl) (by kernel_rfl)
      · refine TS_know 16 (b := false) hb3 (by kernel_rfl) (by kernel_rfl) ?_
        refine TS_know 17 (b := false) hb3 (by kernel_rfl) (by kernel_rfl) ?_
        refine TS_know 18 (b := false) hb3 (by kernel_rfl) (by kernel_rfl) ?_
        refine TS_go 36 ?_
        have ret := Option.some.inj h
        subst ret
        exact TS_ret (by kernel_rfl) (by kernel_rfl) (by kernel_rfl)

/-- multihop/address.Valid -/
noncomputable def F_address_Valid (a0 : S_Addr) : Option (Bool) :=
  bif (a0.Mode == 0) then
    some ((S_Addr.eqb a0 (S_Addr.mk 0 0 0)))
  else
    bif (a0.Mode == 2) then
      some ((a0.EUI == 0))
    else
      bif (a0.Mode == 3) then
        some ((a0.Short == 0))
      else
        some (false)
set_option maxRecDepth 100000 in
set_option maxHeartbeats 40000000 in
theorem ok_address_Valid (a0 : S_Addr) (r : Bool) (h : F_address_Valid a0 = some r) : Con Try.prog 67 [.agg (S_Addr.cs a0)] [] (.c (.lit (.bool (r)))) [] := by
  unfold F_address_Valid at h
  refine con_of [] [] 20 Try.func67 rfl rfl (by kernel_rfl) (fun K => ?_)
  refine TS_go 17 ?_
  replace h := condO h
  rcases h with ⟨hb1, h⟩ | ⟨hb1, h⟩
  · refine TS_know 6 (b := true) hb1 (by kernel_rfl) (by kernel_rfl) ?_
    refine TS_know 5 (b := true) hb1 (by kernel_rfl) (by kernel_rfl) ?_
    refine TS_T (by kernel_rfl) rfl ?_
    refine TS_go 10 ?_
    have ret := Option.some.inj h
    subst ret
    exact TS_ret (by kernel_rfl) (by kernel_rfl) (by kernel_rfl)
  · refine TS_know 6 (b := false) hb1 (by kernel_rfl) (by kernel_rfl) ?_
    refine TS_know 5 (b := false) hb1 (by kernel_rfl) (by kernel_rfl) ?_
    refine TS_F (by kernel_rfl) rfl ?_
    refine TS_go 5 ?_
    replace h := condO h
    rcases h with ⟨hb2, h⟩ | ⟨hb2, h⟩
    · refine TS_know 11 (b := true) hb2 (by kernel_rfl) (by kernel_rfl) ?_
      refine TS_know 10 (b := true) hb2 (by kernel_rfl) (by kernel_rfl) ?_
      refine TS_T (by kernel_rfl) rfl ?_
      refine TS_go 10 ?_
      have ret := Option.some.inj h
      subst ret
      exact TS_ret (by kernel_rfl) (by kernel_rfl) (by kernel_rfl)
    · refine TS_know 11 (b := false) hb2 (by kernel_rfl) (by kernel_rfl) ?_
      refine TS_know 10 (b := false) hb2 (by kernel_rfl) (by kernel_rfl) ?_
      refine TS_F (by kernel_rfl) rfl ?_
      refine TS_go 5 ?_
      replace h := condO h
      rcases h with ⟨hb3, h⟩ | ⟨hb3, h⟩
      · refine TS_know 16 (b := true) hb3 (by kernel_rfl) (by kernel_rfl) ?_
        refine TS_know 15 (b := true) hb3 (by kernel_rfl) (by kernel_rfl) ?_
        refine TS_T (by kernel_rfl) rfl ?_
        refine TS_go 10 ?_
        have ret := Option.some.inj h
        subst ret
        exact TS_ret (by kernel_rfl) (by kernel_rfl) (by kernel_rfl)
      · refine TS_know 16 (b := false) hb3 (by kernel_rfl) (by kernel_rfl) ?_
        refine TS_know 15 (b := false) hb3 (by kernel_rfl) (by kernel_rfl) ?_
        refine TS_F (by kernel_rfl) rfl ?_
        refine TS_go 7 ?_
        have ret := Option.some.inj h
        subst ret
        exact TS_ret (by kernel_rfl) (by kernel_rfl) (by kernel_rfl)

/-- multihop/address.IsBroadcast -/
noncomputable def F_address_IsBroadcast (a0 : S_Addr) : Option (Bool) :=
  some ((S_Addr.eqb a0 (S_Addr.mk 2 65535 0)))
set_option maxRecDepth 100000 in
set_option maxHeartbeats 40000000 in
theorem ok_address_IsBroadcast (a0 : S_Addr) (r : Bool) (h : F_address_IsBroadcast a0 = some r) : Con Try.prog 68 [.agg (S_Addr.cs a0)] [] (.c (.lit (.bool (r)))) [] := by
  unfold F_address_IsBroadcast at h
  refine con_of [] [] 6 Try.func68 rfl rfl (by kernel_rfl) (fun K => ?_)
  refine TS_go 13 ?_
  have ret := Option.some.inj h
  subst ret
  exact TS_ret (by kernel_rfl) (by kernel_rfl) (by kernel_rfl)

/-- multihop/frame.addrBytes -/
noncomputable def F_frame_addrBytes (a0 : S_Addr) : Option (Int) :=
  bif (a0.Mode == 2) then
    some (2)
  else
    bif (a0.Mode == 3) then
      some (8)
    else
      some (0)
set_option maxRecDepth 100000 in
set_option maxHeartbeats 40000000 in
theorem ok_frame_addrBytes (a0 : S_Addr) (r : Int) (h : F_frame_addrBytes a0 = some r) : Con Try.prog 69 [.agg (S_Addr.cs a0)] [] (.c (.lit (.int .i64 (r)))) [] := by
  unfold F_frame_addrBytes at h
  refine con_of [] [] 9 Try.func69 rfl rfl (by kernel_rfl) (fun K => ?_)
  refine TS_go 17 ?_
  replace h := condO h
  rcases h with ⟨hb1, h⟩ | ⟨hb1, h⟩
  · refine TS_know 6 (b := true) hb1 (by kernel_rfl) (by kernel_rfl) ?_
    refine TS_know 5 (b := true) hb1 (by kernel_rfl) (by kernel_rfl) ?_
    refine TS_T (by kernel_rfl) rfl ?_
    refine TS_go 7 ?_
    have ret := Option.some.inj h
    subst ret
    exact TS_ret (by kernel_rfl) (by kernel_rfl) (by kernel_rfl)
  · refine TS_know 6 (b := false) hb1 (by kernel_rfl) (by kernel_rfl) ?_
    refine TS_know 5 (b := false) hb1 (by kernel_rfl) (by kernel_rfl) ?_
    refine TS_F (by kernel_rfl) rfl ?_
    refine TS_go 5 ?_
    replace h := condO h
    rcases h with ⟨hb2, h⟩ | ⟨hb2, h⟩
    · refine TS_know 8 (b := true) hb2 (by kernel_rfl) (by kernel_rfl) ?_
      refine TS_know 7 (b := true) hb2 (by kernel_rfl) (by kernel_rfl) ?_
      refine TS_T (by kernel_rfl) rfl ?_
      refine TS_go 7 ?_
      have ret := Option.some.inj h
      subst ret
      exact TS_ret (by kernel_rfl) (by kernel_rfl) (by kernel_rfl)
    · refine TS_know 8 (b := false) hb2 (by kernel_rfl) (by kernel_rfl) ?_
      refine TS_know 7 (b := false) hb2 (by kernel_rfl) (by kernel_rfl) ?_
      refine TS_F (by kernel_rfl) rfl ?_
      refine TS_go 7 ?_
      have ret := Option.some.inj h
      subst ret
      exact TS_ret (by kernel_rfl) (by kernel_rfl) (by kernel_rfl)

/-- multihop/frame.length -/
noncomputable def F_frame_length_j2  (v2 : Int) : Option (Int) :=
  some (v2)
noncomputable def F_frame_length_j1 (a0 : S_Frame) (v1 : Int) : Option (Int) :=
  bif a0.Secure then
    (F_frame_length_j2) (IntKind.wrap .i64 (v1 + (IntKind.wrap .i64 (5 + (List.length a0.MIC : Int)))))
  else
    (F_frame_length_j2) v1
noncomputable def F_frame_length (a0 : S_Frame) : Option (Int) :=
  bif (a0.Kind != 2) then
    (F_frame_addrBytes a0.Dst).bind fun v5 =>
    (F_frame_addrBytes a0.Src).bind fun v6 =>
    (F_frame_length_j1 a0) (IntKind.wrap .i64 ((IntKind.wrap .i64 ((IntKind.wrap .i64 (3 + (List.length a0.Payload : Int))) + 2)) + (IntKind.wrap .i64 ((IntKind.wrap .i64 (2 + v5)) + v6))))
  else
    (F_frame_length_j1 a0) (IntKind.wrap .i64 ((IntKind.wrap .i64 (3 + (List.length a0.Payload : Int))) + 2))
set_option maxRecDepth 100000 in
set_option maxHeartbeats 40000000 in
theorem ok_frame_length (a0 : S_Frame) (r : Int) (h : F_frame_length a0 = some r) : Con Try.prog 48 [.agg (S_Frame.cs a0)] [] (.c (.lit (.int .i64 (r)))) [] := by
  unfold F_frame_length at h
  refine con_of [] [] 31 Try.func48 rfl rfl (by kernel_rfl) (fun K => ?_)
  refine TS_go 14 ?_
  refine TS_cut ⟨[(1, []), (3, [])], [(1, (1, []))]⟩ (.mk [.code (codeAt [1, 1] (bodyOf Try.f48))] .normal ⟨[(1, .c (.box 1 0)), (3, .c (.lit (.int .i64 (IntKind.wrap .i64 ((IntKind.wrap .i64 (3 + (List.length a0.Payload : Int))) + 2)))))], [(1, .box [.lit (.int .i64 (a0.Kind)), .lit (.bool (a0.AckRequest)), .lit (.bool (a0.Pending)), .lit (.bool (a0.Secure)), .lit (.int .u8 (a0.Seq)), .lit (.int .u16 (a0.Pan)), .lit (.int .i64 (a0.Dst.Mode)), .lit (.int .u16 (a0.Dst.Short)), .lit (.int .u64 (a0.Dst.EUI)), .lit (.int .i64 (a0.Src.Mode)), .lit (.int .u16 (a0.Src.Short)), .lit (.int .u64 (a0.Src.EUI)), .lit (.int .u32 (a0.Counter)), .lit (.int .u8 (a0.Key)), .slc 1 0 (List.length a0.Payload) (List.map (ecI .u8) a0.Payload), .slc 1 0 (List.length a0.MIC) (List.map (ecI .u8) a0.MIC)])]⟩) (by kernel_rfl) (by kernel_rfl) ?_
  refine TS_joinB ⟨[(1, []), (3, [])], [(1, (1, []))]⟩ (fun (v1 : Int) => [(3, .c (.lit (.int .i64 (v1))))]) (fun (v1 : Int) => []) (F_frame_length_j1 a0) r ?_ ?_
  · clear h
    intro v1 h
    unfold F_frame_length_j1 at h
    refine TS_cut ⟨[(1, []), (3, [])], [(1, (1, []))]⟩ (.mk [.code (codeAt [1, 1, 1] (bodyOf Try.f48))] .normal ⟨[(1, .c (.box 1 0)), (3, .c (.lit (.int .i64 (v1))))], [(1, .box [.lit (.int .i64 (a0.Kind)), .lit (.bool (a0.AckRequest)), .lit (.bool (a0.Pending)), .lit (.bool (a0.Secure)), .lit (.int .u8 (a0.Seq)), .lit (.int .u16 (a0.Pan)), .lit (.int .i64 (a0.Dst.Mode)), .lit (.int .u16 (a0.Dst.Short)), .lit (.int .u64 (a0.Dst.EUI)), .lit (.int .i64 (a0.Src.Mode)), .lit (.int .u16 (a0.Src.Short)), .lit (.int .u64 (a0.Src.EUI)), .lit (.int .u32 (a0.Counter)), .lit (.int .u8 (a0.Key)), .slc 1 0 (List.length a0.Payload) (List.map (ecI .u8) a0.Payload), .slc 1 0 (List.length a0.MIC) (List.map (ecI .u8) a0.MIC)])]⟩) (by kernel_rfl) (by kernel_rfl) ?_
    refine TS_joinB ⟨[(3, [])], []⟩ (fun (v2 : Int) => [(3, .c (.lit (.int .i64 (v2))))]) (fun (v2 : Int) => []) (F_frame_length_j2) r ?_ ?_
    · clear h
      intro v2 h
      unfold F_frame_length_j2 at h
      refine TS_go 6 ?_
      have ret := Option.some.inj h
      subst ret
      exact TS_ret (by kernel_rfl) (by kernel_rfl) (by kernel_rfl)
    · refine TS_go 5 ?_
      replace h := condO h
      rcases h with ⟨hb3, h⟩ | ⟨hb3, h⟩
      · refine TS_know 23 (b := true) hb3 (by kernel_rfl) (by kernel_rfl) ?_
        refine TS_T (by kernel_rfl) rfl ?_
        refine TS_go 9 ?_
        exact TS_meet (IntKind.wrap .i64 (v1 + (IntKind.wrap .i64 (5 + (List.length a0.MIC : Int))))) ⟨[(3, [])], []⟩ h (by kernel_rfl) (by kernel_rfl)
      · refine TS_know 23 (b := false) hb3 (by kernel_rfl) (by kernel_rfl) ?_
        refine TS_F (by kernel_rfl) rfl ?_
        refine TS_go 1 ?_
        exact TS_meet v1 ⟨[(3, [])], []⟩ h (by kernel_rfl) (by kernel_rfl)
  · refine TS_go 6 ?_
    replace h := condO h
    rcases h with ⟨hb4, h⟩ | ⟨hb4, h⟩
    · refine TS_know 11 (b := true) hb4 (by kernel_rfl) (by kernel_rfl) ?_
      refine TS_T (by kernel_rfl) rfl ?_
      refine TS_draw (by kernel_rfl) ?_
      refine TD_go 3 ?_
      replace h := bindO h
      obtain ⟨v5, hv5, h⟩ := h
      refine TD_call [] (ok_frame_addrBytes a0.Dst v5 hv5) (by kernel_rfl) (by kernel_rfl) ?_
      refine TD_go 3 ?_
      replace h := bindO h
      obtain ⟨v6, hv6, h⟩ := h
      refine TD_call [] (ok_frame_addrBytes a0.Src v6 hv6) (by kernel_rfl) (by kernel_rfl) ?_
      refine TD_go 3 ?_
      refine TD_end (by kernel_rfl) ?_
      exact TS_meet (IntKind.wrap .i64 ((IntKind.wrap .i64 ((IntKind.wrap .i64 (3 + (List.length a0.Payload : Int))) + 2)) + (IntKind.wrap .i64 ((IntKind.wrap .i64 (2 + v5)) + v6)))) ⟨[(1, []), (3, [])], [(1, (1, []))]⟩ h (by kernel_rfl) (by kernel_rfl)
    · refine TS_know 11 (b := false) hb4 (by kernel_rfl) (by kernel_rfl) ?_
      refine TS_F (by kernel_rfl) rfl ?_
      refine TS_go 1 ?_
      exact TS_meet (IntKind.wrap .i64 ((IntKind.wrap .i64 (3 + (List.length a0.Payload : Int))) + 2)) ⟨[(1, []), (3, [])], [(1, (1, []))]⟩ h (by kernel_rfl) (by kernel_rfl)

/-- multihop/frame.validData -/
noncomputable def F_frame_validData (a0 : S_Frame) : Option (Bool) :=
  (F_address_Valid a0.Dst).bind fun v1 =>
  bif v1 then
    bif (a0.Dst.Mode == 0) then
      some (false)
    else
      (F_address_Valid a0.Src).bind fun v4 =>
      bif v4 then
        bif (a0.Src.Mode == 0) then
          some (false)
        else
          (F_address_IsBroadcast a0.Src).bind fun v7 =>
          bif v7 then
            some (false)
          else
            bif a0.AckRequest then
              (F_address_IsBroadcast a0.Dst).bind fun v10 =>
              bif v10 then
                some (false)
              else
                bif a0.Secure then
                  bif ((List.length a0.MIC : Int) != 4) then
                    some (false)
                  else
                    (F_frame_length a0).bind fun v14 =>
                    some ((decide (v14 ≤ 127)))
                else
                  bif (a0.Counter != 0) then
                    some (false)
                  else
                    bif (a0.Key != 0) then
                      some (false)
                    else
                      bif ((List.length a0.MIC : Int) != 0) then
                        some (false)
                      else
                        (F_frame_length a0).bind fun v18 =>
                        some ((decide (v18 ≤ 127)))
            else
              bif a0.Secure then
                bif ((List.length a0.MIC : Int) != 4) then
                  some (false)
                else
                  (F_frame_length a0).bind fun v21 =>
                  some ((decide (v21 ≤ 127)))
              else
                bif (a0.Counter != 0) then
                  some (false)
                else
                  bif (a0.Key != 0) then
                    some (false)
                  else
                    bif ((List.length a0.MIC : Int) != 0) then
                      some (false)
                    else
                      (F_frame_length a0).bind fun v25 =>
                      some ((decide (v25 ≤ 127)))
      else
        some (false)
  else
    some (false)
set_option maxRecDepth 100000 in
set_option maxHeartbeats 40000000 in
theorem ok_frame_validData (a0 : S_Frame) (r : Bool) (h : F_frame_validData a0 = some r) : Con Try.prog 47 [.agg (S_Frame.cs a0)] [] (.c (.lit (.bool (r)))) [] := by
  unfold F_frame_validData at h
  refine con_of [] [] 67 Try.func47 rfl rfl (by kernel_rfl) (fun K => ?_)
  refine TS_go 10 ?_
  replace h := bindO h
  obtain ⟨v1, hv1, h⟩ := h
  refine TS_call [] (ok_address_Valid a0.Dst v1 hv1) (by kernel_rfl) (by kernel_rfl) ?_
  refine TS_go 2 ?_
  replace h := condO h
  rcases h with ⟨hb2, h⟩ | ⟨hb2, h⟩
  · subst hb2
    refine TS_go 6 ?_
    replace h := condO h
    rcases h with ⟨hb3, h⟩ | ⟨hb3, h⟩
    · refine TS_know 11 (b := true) hb3 (by kernel_rfl) (by kernel_rfl) ?_
      refine TS_know 12 (b := true) hb3 (by kernel_rfl) (by kernel_rfl) ?_
      refine TS_know 13 (b := true) hb3 (by kernel_rfl) (by kernel_rfl) ?_
      refine TS_go 12 ?_
      refine TS_T (by kernel_rfl) rfl ?_
      refine TS_go 6 ?_
      have ret := Option.some.inj h
      subst ret
      exact TS_ret (by kernel_rfl) (by kernel_rfl) (by kernel_rfl)
    · refine TS_know 11 (b := false) hb3 (by kernel_rfl) (by kernel_rfl) ?_
      refine TS_know 12 (b := false) hb3 (by kernel_rfl) (by kernel_rfl) ?_
      refine TS_know 13 (b := false) hb3 (by kernel_rfl) (by kernel_rfl) ?_
      refine TS_go 2 ?_
      replace h := bindO h
      obtain ⟨v4, hv4, h⟩ := h
      refine TS_call [] (ok_address_Valid a0.Src v4 hv4) (by kernel_rfl) (by kernel_rfl) ?_
      refine TS_go 3 ?_
      replace h := condO h
      rcases h with ⟨hb5, h⟩ | ⟨hb5, h⟩
      · subst hb5
        refine TS_go 6 ?_
        replace h := condO h
        rcases h with ⟨hb6, h⟩ | ⟨hb6, h⟩
        · refine TS_know 23 (b := true) hb6 (by kernel_rfl) (by kernel_rfl) ?_
          refine TS_know 24 (b := true) hb6 (by kernel_rfl) (by kernel_rfl) ?_
          refine TS_T (by kernel_rfl) rfl ?_
          refine TS_go 6 ?_
          have ret := Option.some.inj h
          subst ret
          exact TS_ret (by kernel_rfl) (by kernel_rfl) (by kernel_rfl)
        · refine TS_know 23 (b := false) hb6 (by kernel_rfl) (by kernel_rfl) ?_
          refine TS_know 24 (b := false) hb6 (by kernel_rfl) (by kernel_rfl) ?_
          refine TS_F (by kernel_rfl) rfl ?_
          refine TS_go 6 ?_
          replace h := bindO h
          obtain ⟨v7, hv7, h⟩ := h
          refine TS_call [] (ok_address_IsBroadcast a0.Src v7 hv7) (by kernel_rfl) (by kernel_rfl) ?_
          refine TS_go 1 ?_
          replace h := condO h
          rcases h with ⟨hb8, h⟩ | ⟨hb8, h⟩
          · subst hb8
            refine TS_go 9 ?_
            refine TS_T (by kernel_rfl) rfl ?_
            refine TS_go 6 ?_
            have ret := Option.some.inj h
            subst ret
            exact TS_ret (by kernel_rfl) (by kernel_rfl) (by kernel_rfl)
          · subst hb8
            refine TS_go 3 ?_
            replace h := condO h
            rcases h with ⟨hb9, h⟩ | ⟨hb9, h⟩
            · refine TS_know 30 (b := true) hb9 (by kernel_rfl) (by kernel_rfl) ?_
              refine TS_know 31 (b := true) hb9 (by kernel_rfl) (by kernel_rfl) ?_
              refine TS_go 2 ?_
              replace h := bindO h
              obtain ⟨v10, hv10, h⟩ := h
              refine TS_call [] (ok_address_IsBroadcast a0.Dst v10 hv10) (by kernel_rfl) (by kernel_rfl) ?_
              refine TS_go 3 ?_
              replace h := condO h
              rcases h with ⟨hb11, h⟩ | ⟨hb11, h⟩
              · subst hb11
                refine TS_T (by kernel_rfl) rfl ?_
                refine TS_go 6 ?_
                have ret := Option.some.inj h
                subst ret
                exact TS_ret (by kernel_rfl) (by kernel_rfl) (by kernel_rfl)
              · subst hb11
                refine TS_F (by kernel_rfl) rfl ?_
                refine TS_go 7 ?_
                replace h := condO h
                rcases h with ⟨hb12, h⟩ | ⟨hb12, h⟩
                · refine TS_know 38 (b := true) hb12 (by kernel_rfl) (by kernel_rfl) ?_
                  refine TS_know 39 (b := true) hb12 (by kernel_rfl) (by kernel_rfl) ?_
                  refine TS_go 6 ?_
                  replace h := condO h
                  rcases h with ⟨hb13, h⟩ | ⟨hb13, h⟩
                  · refine TS_know 43 (b := true) hb13 (by kernel_rfl) (by kernel_rfl) ?_
                    refine TS_know 44 (b := true) hb13 (by kernel_rfl) (by kernel_rfl) ?_
                    refine TS_T (by kernel_rfl) rfl ?_
                    refine TS_go 6 ?_
                    have ret := Option.some.inj h
                    subst ret
                    exact TS_ret (by kernel_rfl) (by kernel_rfl) (by kernel_rfl)
                  · refine TS_know 43 (b := false) hb13 (by kernel_rfl) (by kernel_rfl) ?_
                    refine TS_know 44 (b := false) hb13 (by kernel_rfl) (by kernel_rfl) ?_
                    refine TS_F (by kernel_rfl) rfl ?_
                    refine TS_go 6 ?_
                    refine TS_know 46 (b := true) hb12 (by kernel_rfl) (by kernel_rfl) ?_
                    refine TS_go 18 ?_
                    refine TS_F (by kernel_rfl) rfl ?_
                    refine TS_go 4 ?_
                    replace h := bindO h
                    obtain ⟨v14, hv14, h⟩ := h
                    refine TS_call [] (ok_frame_length a0 v14 hv14) (by kernel_rfl) (by kernel_rfl) ?_
                    refine TS_go 4 ?_
                    have ret := Option.some.inj h
                    subst ret
                    exact TS_ret (by kernel_rfl) (by kernel_rfl) (by kernel_rfl)
                · refine TS_know 38 (b := false) hb12 (by kernel_rfl) (by kernel_rfl) ?_
                  refine TS_know 39 (b := false) hb12 (by kernel_rfl) (by kernel_rfl) ?_
                  refine TS_go 6 ?_
                  refine TS_F (by kernel_rfl) rfl ?_
                  refine TS_go 6 ?_
                  refine TS_know 46 (b := false) hb12 (by kernel_rfl) (by kernel_rfl) ?_
                  refine TS_go 6 ?_
                  replace h := condO h
                  rcases h with ⟨hb15, h⟩ | ⟨hb15, h⟩
                  · refine TS_know 51 (b := true) hb15 (by kernel_rfl) (by kernel_rfl) ?_
                    refine TS_know 52 (b := true) hb15 (by kernel_rfl) (by kernel_rfl) ?_
                    refine TS_go 12 ?_
                    refine TS_T (by kernel_rfl) rfl ?_
                    refine TS_go 6 ?_
                    have ret := Option.some.inj h
                    subst ret
                    exact TS_ret (by kernel_rfl) (by kernel_rfl) (by kernel_rfl)
                  · refine TS_know 51 (b := false) hb15 (by kernel_rfl) (by kernel_rfl) ?_
                    refine TS_know 52 (b := false) hb15 (by kernel_rfl) (by kernel_rfl) ?_
                    refine TS_go 5 ?_
                    replace h := condO h
                    rcases h with ⟨hb16, h⟩ | ⟨hb16, h⟩
                    · refine TS_know 55 (b := true) hb16 (by kernel_rfl) (by kernel_rfl) ?_
                      refine TS_know 56 (b := true) hb16 (by kernel_rfl) (by kernel_rfl) ?_
                      refine TS_know 57 (b := true) hb16 (by kernel_rfl) (by kernel_rfl) ?_
                      refine TS_go 7 ?_
                      refine TS_T (by kernel_rfl) rfl ?_
                      refine TS_go 6 ?_
                      have ret := Option.some.inj h
                      subst ret
                      exact TS_ret (by kernel_rfl) (by kernel_rfl) (by kernel_rfl)
                    · refine TS_know 55 (b := false) hb16 (by kernel_rfl) (by kernel_rfl) ?_
                      refine TS_know 56 (b := false) hb16 (by kernel_rfl) (by kernel_rfl) ?_
                      refine TS_know 57 (b := false) hb16 (by kernel_rfl) (by kernel_rfl) ?_
                      refine TS_go 7 ?_
                      replace h := condO h
                      rcases h with ⟨hb17, h⟩ | ⟨hb17, h⟩
                      · refine TS_know 61 (b := true) hb17 (by kernel_rfl) (by kernel_rfl) ?_
                        refine TS_know 62 (b := true) hb17 (by kernel_rfl) (by kernel_rfl) ?_
                        refine TS_know 63 (b := true) hb17 (by kernel_rfl) (by kernel_rfl) ?_
                        refine TS_T (by kernel_rfl) rfl ?_
                        refine TS_go 6 ?_
                        have ret := Option.some.inj h
                        subst ret
                        exact TS_ret (by kernel_rfl) (by kernel_rfl) (by kernel_rfl)
                      · refine TS_know 61 (b := false) hb17 (by kernel_rfl) (by kernel_rfl) ?_
                        refine TS_know 62 (b := false) hb17 (by kernel_rfl) (by kernel_rfl) ?_
                        refine TS_know 63 (b := false) hb17 (by kernel_rfl) (by kernel_rfl) ?_
                        refine TS_F (by kernel_rfl) rfl ?_
                        refine TS_go 4 ?_
                        replace h := bindO h
                        obtain ⟨v18, hv18, h⟩ := h
                        refine TS_call [] (ok_frame_length a0 v18 hv18) (by kernel_rfl) (by kernel_rfl) ?_
                        refine TS_go 4 ?_
                        have ret := Option.some.inj h
                        subst ret
                        exact TS_ret (by kernel_rfl) (by kernel_rfl) (by kernel_rfl)
            · refine TS_know 30 (b := false) hb9 (by kernel_rfl) (by kernel_rfl) ?_
              refine TS_know 31 (b := false) hb9 (by kernel_rfl) (by kernel_rfl) ?_
              refine TS_go 6 ?_
              refine TS_F (by kernel_rfl) rfl ?_
              refine TS_go 7 ?_
              replace h := condO h
              rcases h with ⟨hb19, h⟩ | ⟨hb19, h⟩
              · refine TS_know 38 (b := true) hb19 (by kernel_rfl) (by kernel_rfl) ?_
                refine TS_know 39 (b := true) hb19 (by kernel_rfl) (by kernel_rfl) ?_
                refine TS_go 6 ?_
                replace h := condO h
                rcases h with ⟨hb20, h⟩ | ⟨hb20, h⟩
                · refine TS_know 43 (b := true) hb20 (by kernel_rfl) (by kernel_rfl) ?_
                  refine TS_know 44 (b := true) hb20 (by kernel_rfl) (by kernel_rfl) ?_
                  refine TS_T (by kernel_rfl) rfl ?_
                  refine TS_go 6 ?_
                  have ret := Option.some.inj h
                  subst ret
                  exact TS_ret (by kernel_rfl) (by kernel_rfl) (by kernel_rfl)
                · refine TS_know 43 (b := false) hb20 (by kernel_rfl) (by kernel_rfl) ?_
                  refine TS_know 44 (b := false) hb20 (by kernel_rfl) (by kernel_rfl) ?_
                  refine TS_F (by kernel_rfl) rfl ?_
                  refine TS_go 6 ?_
                  refine TS_know 46 (b := true) hb19 (by kernel_rfl) (by kernel_rfl) ?_
                  refine TS_go 18 ?_
                  refine TS_F (by kernel_rfl) rfl ?_
                  refine TS_go 4 ?_
                  replace h := bindO h
                  obtain ⟨v21, hv21, h⟩ := h
                  refine TS_call [] (ok_frame_length a0 v21 hv21) (by kernel_rfl) (by kernel_rfl) ?_
                  refine TS_go 4 ?_
                  have ret := Option.some.inj h
                  subst ret
                  exact TS_ret (by kernel_rfl) (by kernel_rfl) (by kernel_rfl)
              · refine TS_know 38 (b := false) hb19 (by kernel_rfl) (by kernel_rfl) ?_
                refine TS_know 39 (b := false) hb19 (by kernel_rfl) (by kernel_rfl) ?_
                refine TS_go 6 ?_
                refine TS_F (by kernel_rfl) rfl ?_
                refine TS_go 6 ?_
                refine TS_know 46 (b := false) hb19 (by kernel_rfl) (by kernel_rfl) ?_
                refine TS_go 6 ?_
                replace h := condO h
                rcases h with ⟨hb22, h⟩ | ⟨hb22, h⟩
                · refine TS_know 51 (b := true) hb22 (by kernel_rfl) (by kernel_rfl) ?_
                  refine TS_know 52 (b := true) hb22 (by kernel_rfl) (by kernel_rfl) ?_
                  refine TS_go 12 ?_
                  refine TS_T (by kernel_rfl) rfl ?_
                  refine TS_go 6 ?_
                  have ret := Option.some.inj h
                  subst ret
                  exact TS_ret (by kernel_rfl) (by kernel_rfl) (by kernel_rfl)
                · refine TS_know 51 (b := false) hb22 (by kernel_rfl) (by kernel_rfl) ?_
                  refine TS_know 52 (b := false) hb22 (by kernel_rfl) (by kernel_rfl) ?_
                  refine TS_go 5 ?_
                  replace h := condO h
                  rcases h with ⟨hb23, h⟩ | ⟨hb23, h⟩
                  · refine TS_know 55 (b := true) hb23 (by kernel_rfl) (by kernel_rfl) ?_
                    refine TS_know 56 (b := true) hb23 (by kernel_rfl) (by kernel_rfl) ?_
                    refine TS_know 57 (b := true) hb23 (by kernel_rfl) (by kernel_rfl) ?_
                    refine TS_go 7 ?_
                    refine TS_T (by kernel_rfl) rfl ?_
                    refine TS_go 6 ?_
                    have ret := Option.some.inj h
                    subst ret
                    exact TS_ret (by kernel_rfl) (by kernel_rfl) (by kernel_rfl)
                  · refine TS_know 55 (b := false) hb23 (by kernel_rfl) (by kernel_rfl) ?_
                    refine TS_know 56 (b := false) hb23 (by kernel_rfl) (by kernel_rfl) ?_
                    refine TS_know 57 (b := false) hb23 (by kernel_rfl) (by kernel_rfl) ?_
                    refine TS_go 7 ?_
                    replace h := condO h
                    rcases h with ⟨hb24, h⟩ | ⟨hb24, h⟩
                    · refine TS_know 61 (b := true) hb24 (by kernel_rfl) (by kernel_rfl) ?_
                      refine TS_know 62 (b := true) hb24 (by kernel_rfl) (by kernel_rfl) ?_
                      refine TS_know 63 (b := true) hb24 (by kernel_rfl) (by kernel_rfl) ?_
                      refine TS_T (by kernel_rfl) rfl ?_
                      refine TS_go 6 ?_
                      have ret := Option.some.inj h
                      subst ret
                      exact TS_ret (by kernel_rfl) (by kernel_rfl) (by kernel_rfl)
                    · refine TS_know 61 (b := false) hb24 (by kernel_rfl) (by kernel_rfl) ?_
                      refine TS_know 62 (b := false) hb24 (by kernel_rfl) (by kernel_rfl) ?_
                      refine TS_know 63 (b := false) hb24 (by kernel_rfl) (by kernel_rfl) ?_
                      refine TS_F (by kernel_rfl) rfl ?_
                      refine TS_go 4 ?_
                      replace h := bindO h
                      obtain ⟨v25, hv25, h⟩ := h
                      refine TS_call [] (ok_frame_length a0 v25 hv25) (by kernel_rfl) (by kernel_rfl) ?_
                      refine TS_go 4 ?_
                      have ret := Option.some.inj h
                      subst ret
                      exact TS_ret (by kernel_rfl) (by kernel_rfl) (by kernel_rfl)
      · subst hb5
        refine TS_go 6 ?_
        refine TS_T (by kernel_rfl) rfl ?_
        refine TS_go 6 ?_
        have ret := Option.some.inj h
        subst ret
        exact TS_ret (by kernel_rfl) (by kernel_rfl) (by kernel_rfl)
  · subst hb2
    refine TS_go 18 ?_
    refine TS_T (by kernel_rfl) rfl ?_
    refine TS_go 6 ?_
    have ret := Option.some.inj h
    subst ret
    exact TS_ret (by kernel_rfl) (by kernel_rfl) (by kernel_rfl)

/-- multihop/frame.Valid -/
noncomputable def F_frame_Valid_j1 (a0 : S_Frame) (v3 : Bool) : Option (Bool) :=
  bif v3 then
    (F_frame_validData a0).bind fun v5 =>
    some (v5)
  else
    some (false)
noncomputable def F_frame_Valid (a0 : S_Frame) : Option (Bool) :=
  bif (a0.Kind == 2) then
    (F_frame_validAck a0).bind fun v2 =>
    some (v2)
  else
    bif (a0.Kind == 1) then
      (F_frame_Valid_j1 a0) true
    else
      (F_frame_Valid_j1 a0) (a0.Kind == 3)
set_option maxRecDepth 100000 in
set_option maxHeartbeats 40000000 in
theorem ok_frame_Valid (a0 : S_Frame) (r : Bool) (h : F_frame_Valid a0 = some r) : Con Try.prog 23 [.agg (S_Frame.cs a0)] [] (.c (.lit (.bool (r)))) [] := by
  unfold F_frame_Valid at h
  refine con_of [] [] 14 Try.func23 rfl rfl (by kernel_rfl) (fun K => ?_)
  refine TS_go 17 ?_
  replace h := condO h
  rcases h with ⟨hb1, h⟩ | ⟨hb1, h⟩
  · refine TS_know 6 (b := true) hb1 (by kernel_rfl) (by kernel_rfl) ?_
    refine TS_know 5 (b := true) hb1 (by kernel_rfl) (by kernel_rfl) ?_
    refine TS_T (by kernel_rfl) rfl ?_
    refine TS_go 3 ?_
    replace h := bindO h
    obtain ⟨v2, hv2, h⟩ := h
    refine TS_call [] (ok_frame_validAck a0 v2 hv2) (by kernel_rfl) (by kernel_rfl) ?_
    refine TS_go 5 ?_
    have ret := Option.some.inj h
    subst ret
    exact TS_ret (by kernel_rfl) (by kernel_rfl) (by kernel_rfl)
  · refine TS_know 6 (b := false) hb1 (by kernel_rfl) (by kernel_rfl) ?_
    refine TS_know 5 (b := false) hb1 (by kernel_rfl) (by kernel_rfl) ?_
    refine TS_F (by kernel_rfl) rfl ?_
    refine TS_cut ⟨[(1, []), (4, [])], [(1, (1, []))]⟩ (.mk [.code (codeAt [1, 0, 1, 0, 1, 1] (bodyOf Try.f23)), .blk 0, .code (codeAt [1, 1] (bodyOf Try.f23))] .normal ⟨[(1, .c (.box 1 0)), (4, .c (.lit (.int .i64 (a0.Kind))))], [(1, .box [.lit (.int .i64 (a0.Kind)), .lit (.bool (a0.AckRequest)), .lit (.bool (a0.Pending)), .lit (.bool (a0.Secure)), .lit (.int .u8 (a0.Seq)), .lit (.int .u16 (a0.Pan)), .lit (.int .i64 (a0.Dst.Mode)), .lit (.int .u16 (a0.Dst.Short)), .lit (.int .u64 (a0.Dst.EUI)), .lit (.int .i64 (a0.Src.Mode)), .lit (.int .u16 (a0.Src.Short)), .lit (.int .u64 (a0.Src.EUI)), .lit (.int .u32 (a0.Counter)), .lit (.int .u8 (a0.Key)), .slc 1 0 (List.length a0.Payload) (List.map (ecI .u8) a0.Payload), .slc 1 0 (List.length a0.MIC) (List.map (ecI .u8) a0.MIC)])]⟩) (by kernel_rfl) (by kernel_rfl) ?_
    refine TS_joinB ⟨[(1, [])], [(1, (1, []))]⟩ (fun (v3 : Bool) => [(9, .c (.lit (.bool (v3))))]) (fun (v3 : Bool) => []) (F_frame_Valid_j1 a0) r ?_ ?_
    · clear h
      intro v3 h
      unfold F_frame_Valid_j1 at h
      replace h := condO h
      rcases h with ⟨hb4, h⟩ | ⟨hb4, h⟩
      · subst hb4
        refine TS_T (by kernel_rfl) rfl ?_
        refine TS_go 3 ?_
        replace h := bindO h
        obtain ⟨v5, hv5, h⟩ := h
        refine TS_call [] (ok_frame_validData a0 v5 hv5) (by kernel_rfl) (by kernel_rfl) ?_
        refine TS_go 5 ?_
        have ret := Option.some.inj h
        subst ret
        exact TS_ret (by kernel_rfl) (by kernel_rfl) (by kernel_rfl)
      · subst hb4
        refine TS_F (by kernel_rfl) rfl ?_
        refine TS_go 7 ?_
        have ret := Option.some.inj h
        subst ret
        exact TS_ret (by kernel_rfl) (by kernel_rfl) (by kernel_rfl)
    · refine TS_go 5 ?_
      replace h := condO h
      rcases h with ⟨hb6, h⟩ | ⟨hb6, h⟩
      · refine TS_know 10 (b := true) hb6 (by kernel_rfl) (by kernel_rfl) ?_
        refine TS_know 9 (b := true) hb6 (by kernel_rfl) (by kernel_rfl) ?_
        refine TS_T (by kernel_rfl) rfl ?_
        refine TS_go 1 ?_
        exact TS_meet true ⟨[(1, []), (9, [])], [(1, (1, []))]⟩ h (by kernel_rfl) (by kernel_rfl)
      · refine TS_know 10 (b := false) hb6 (by kernel_rfl) (by kernel_rfl) ?_
        refine TS_know 9 (b := false) hb6 (by kernel_rfl) (by kernel_rfl) ?_
        refine TS_F (by kernel_rfl) rfl ?_
        refine TS_go 4 ?_
        exact TS_meet (a0.Kind == 3) ⟨[(1, []), (9, [])], [(1, (1, []))]⟩ h (by kernel_rfl) (by kernel_rfl)

/-- multihop/frame.flag -/
noncomputable def F_frame_flag (a0 : Bool) (a1 : Int) : Option (Int) :=
  bif a0 then
    some (a1)
  else
    some (0)
set_option maxRecDepth 100000 in
set_option maxHeartbeats 40000000 in
theorem ok_frame_flag (a0 : Bool) (a1 : Int) (r : Int) (h : F_frame_flag a0 a1 = some r) : Con Try.prog 43 [.c (.lit (.bool (a0))), .c (.lit (.int .u8 (a1)))] [] (.c (.lit (.int .u8 (r)))) [] := by
  unfold F_frame_flag at h
  refine con_of [] [] 7 Try.func43 rfl rfl (by kernel_rfl) (fun K => ?_)
  refine TS_go 9 ?_
  replace h := condO h
  rcases h with ⟨hb1, h⟩ | ⟨hb1, h⟩
  · subst hb1
    refine TS_T (by kernel_rfl) rfl ?_
    refine TS_go 7 ?_
    have ret := Option.some.inj h
    subst ret
    exact TS_ret (by kernel_rfl) (by kernel_rfl) (by kernel_rfl)
  · subst hb1
    refine TS_F (by kernel_rfl) rfl ?_
    refine TS_go 6 ?_
    have ret := Option.some.inj h
    subst ret
    exact TS_ret (by kernel_rfl) (by kernel_rfl) (by kernel_rfl)
end
end Go.Proofs.Ytohfnlkjdjmipaa
