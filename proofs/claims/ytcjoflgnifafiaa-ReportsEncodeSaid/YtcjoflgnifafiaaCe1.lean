/-
  Written by cc3.py: what the Go functions compute, as plain functions, and that they do.
-/
import Derived.Test.YtcjoflgnifafiaaV28
import Derived.Test.YtcjoflgnifafiaaChecked
namespace Go.Proofs.Ytcjoflgnifafiaa
open Go.RowKit
attribute [local irreducible] TS go TD goD

structure S_multihopmade_Tape where
  l : List Int
  at_ : Int
def S_multihopmade_Tape.cs (x : S_multihopmade_Tape) : List SC := [eS 1 (ecI .i64) (x.l)] ++ [.lit (.int .i64 (x.at_))]

structure S_Settings where
  Version : Int
  Data : List Int
  Tag : List Int
def S_Settings.cs (x : S_Settings) : List SC := [.lit (.int .i64 (x.Version))] ++ [eS 1 (ecI .u8) (x.Data)] ++ arrS .u8 8 x.Tag

structure S_multihopref03_state where
  a : Int
  b : Int
  c : Int
  d : Int
def S_multihopref03_state.cs (x : S_multihopref03_state) : List SC := [.lit (.int .u64 (x.a))] ++ [.lit (.int .u64 (x.b))] ++ [.lit (.int .u64 (x.c))] ++ [.lit (.int .u64 (x.d))]

structure S_Diagnostic where
  Node : Int
  Number : Int
  Data : List Int
def S_Diagnostic.cs (x : S_Diagnostic) : List SC := [.lit (.int .u64 (x.Node))] ++ [.lit (.int .i64 (x.Number))] ++ [eS 1 (ecI .u8) (x.Data)]

theorem ext_86 : Ext1 Try.prog 86 Extern.BytealgCompare.compare := ⟨_, Try.func86, by kernel_rfl, by kernel_rfl⟩
/-- multihop/multihopmade.New -/
noncomputable def F_made_New_j1  (v1 : (List Int)) : Option (S_multihopmade_Tape) :=
  some ((S_multihopmade_Tape.mk v1 0))
noncomputable def F_made_New (a0 : List Int) : Option (S_multihopmade_Tape) :=
  bif (decide ((List.length a0 : Int) > 400)) then
    (subO a0 0 400).bind fun l3 =>
    (F_made_New_j1) l3
  else
    (F_made_New_j1) a0
set_option maxRecDepth 100000 in
set_option maxHeartbeats 40000000 in
theorem ok_made_New (a0 : List Int) (r : S_multihopmade_Tape) (h : F_made_New a0 = some r) : Con Try.prog 11 [.c (eS 1 (ecI .i64) (a0))] [] (.c (.box 10 0)) [(10, .box (S_multihopmade_Tape.cs r))] := by
  unfold F_made_New at h
  refine con_of [] [(10, [2])] 11 Try.func11 rfl rfl (by kernel_rfl) (fun K => ?_)
  refine TS_go 4 ?_
  refine TS_cut ⟨[(0, [])], []⟩ (.mk [.code (codeAt [1] (bodyOf Try.f11))] .normal ⟨[(0, .c (.slc 1 0 (List.length a0) (List.map (ecI .i64) a0)))], []⟩) (by kernel_rfl) (by kernel_rfl) ?_
  refine TS_joinB ⟨[(0, [])], []⟩ (fun (v1 : (List Int)) => [(0, .c (eS 1 (ecI .i64) (v1)))]) (fun (v1 : (List Int)) => []) (F_made_New_j1) r ?_ ?_
  · clear h
    intro v1 h
    unfold F_made_New_j1 at h
    refine TS_go 8 ?_
    obtain rfl := Option.some.inj h
    exact TS_ret (by kernel_rfl) (by kernel_rfl) (by kernel_rfl)
  · refine TS_go 6 ?_
    replace h := condO h
    rcases h with ⟨hb2, h⟩ | ⟨hb2, h⟩
    · refine TS_know 5 (b := true) hb2 (by kernel_rfl) (by kernel_rfl) ?_
      refine TS_T (by kernel_rfl) rfl ?_
      refine TS_go 2 ?_
      replace h := bindO h
      obtain ⟨l3, hl3, h⟩ := h
      refine TS_sub (ecI .i64) 1 hl3 (by kernel_rfl) (by kernel_rfl) ?_
      refine TS_go 2 ?_
      exact TS_meet l3 ⟨[(0, [])], []⟩ h (by kernel_rfl) (by kernel_rfl)
    · refine TS_know 5 (b := false) hb2 (by kernel_rfl) (by kernel_rfl) ?_
      refine TS_F (by kernel_rfl) rfl ?_
      refine TS_go 1 ?_
      exact TS_meet a0 ⟨[(0, [])], []⟩ h (by kernel_rfl) (by kernel_rfl)

/-- (*multihop/multihopmade.Tape).Next -/
noncomputable def F_made_Tape_Next_j1 (a0 : S_multihopmade_Tape) (v4 : Int) : Option (Int × S_multihopmade_Tape) :=
  some ((v4, (S_multihopmade_Tape.mk a0.l (IntKind.wrap .i64 (a0.at_ + 1)))))
noncomputable def F_made_Tape_Next (a0 : S_multihopmade_Tape) (a1 : Int) : Option (Int × S_multihopmade_Tape) :=
  bif (decide (a0.at_ ≥ (List.length a0.l : Int))) then
    some ((0, a0))
  else
    (idx a0.l a0.at_).bind fun e2 =>
    bif decide (a1 ≠ 0) then
      bif (decide ((Int.tmod e2 a1) < 0)) then
        (F_made_Tape_Next_j1 a0) (IntKind.wrap .i64 ((Int.tmod e2 a1) + a1))
      else
        (F_made_Tape_Next_j1 a0) (Int.tmod e2 a1)
    else none
set_option maxRecDepth 100000 in
set_option maxHeartbeats 40000000 in
theorem ok_made_Tape_Next (a0 : S_multihopmade_Tape) (a1 : Int) (r : Int × S_multihopmade_Tape) (h : F_made_Tape_Next a0 a1 = some r) : Con Try.prog 17 [.c (.box 1000000 0), .c (.lit (.int .i64 (a1)))] [(1000000, .box (S_multihopmade_Tape.cs a0))] (.c (.lit (.int .i64 (r.1)))) [(1000000, .box (S_multihopmade_Tape.cs r.2))] := by
  unfold F_made_Tape_Next at h
  refine con_of [] [(1000000, [2])] 41 Try.func17 rfl rfl (by kernel_rfl) (fun K => ?_)
  refine TS_go 6 ?_
  refine TS_draw (by kernel_rfl) ?_
  refine TD_go 10 ?_
  refine TD_end (by kernel_rfl) ?_
  replace h := condO h
  rcases h with ⟨hb1, h⟩ | ⟨hb1, h⟩
  · refine TS_know 15 (b := true) hb1 (by kernel_rfl) (by kernel_rfl) ?_
    refine TS_T (by kernel_rfl) rfl ?_
    refine TS_go 6 ?_
    obtain rfl := Option.some.inj h
    exact TS_ret (by kernel_rfl) (by kernel_rfl) (by kernel_rfl)
  · refine TS_know 15 (b := false) hb1 (by kernel_rfl) (by kernel_rfl) ?_
    refine TS_F (by kernel_rfl) rfl ?_
    refine TS_go 2 ?_
    refine TS_draw (by kernel_rfl) ?_
    refine TD_go 8 ?_
    replace h := bindO h
    obtain ⟨e2, he2, h⟩ := h
    refine TD_idx (ecI .i64) he2 (by kernel_rfl) (by kernel_rfl) ?_
    refine TD_go 2 ?_
    replace h := chkO h
    obtain ⟨hc3, h⟩ := h
    refine TD_num (op := .rem) (k := .i64) (k' := .i64) (m := e2) (i := a1) (of_decide_eq_true hc3) rfl (by simp) (by kernel_rfl) (by kernel_rfl) ?_
    refine TD_go 1 ?_
    refine TD_end (by kernel_rfl) ?_
    refine TS_go 11 ?_
    refine TS_cut ⟨[(1, []), (5, [])], [(1000000, (1000000, []))]⟩ (.mk [.code (codeAt [1, 1, 1, 1] (bodyOf Try.f17))] .normal ⟨[(1, .c (.lit (.int .i64 (a1)))), (5, .c (.lit (.int .i64 (Int.tmod e2 a1))))], [(1000000, .box [.slc 1 0 (List.length a0.l) (List.map (ecI .i64) a0.l), .lit (.int .i64 (IntKind.wrap .i64 (a0.at_ + 1)))])]⟩) (by kernel_rfl) (by kernel_rfl) ?_
    refine TS_joinB ⟨[(5, [])], [(1000000, (1000000, []))]⟩ (fun (v4 : Int) => [(5, .c (.lit (.int .i64 (v4))))]) (fun (v4 : Int) => []) (F_made_Tape_Next_j1 a0) r ?_ ?_
    · clear h
      intro v4 h
      unfold F_made_Tape_Next_j1 at h
      refine TS_go 6 ?_
      obtain rfl := Option.some.inj h
      exact TS_ret (by kernel_rfl) (by kernel_rfl) (by kernel_rfl)
    · refine TS_go 5 ?_
      replace h := condO h
      rcases h with ⟨hb5, h⟩ | ⟨hb5, h⟩
      · refine TS_know 36 (b := true) hb5 (by kernel_rfl) (by kernel_rfl) ?_
        refine TS_T (by kernel_rfl) rfl ?_
        refine TS_go 6 ?_
        exact TS_meet (IntKind.wrap .i64 ((Int.tmod e2 a1) + a1)) ⟨[(5, [])], [(1000000, (1000000, []))]⟩ h (by kernel_rfl) (by kernel_rfl)
      · refine TS_know 36 (b := false) hb5 (by kernel_rfl) (by kernel_rfl) ?_
        refine TS_F (by kernel_rfl) rfl ?_
        refine TS_go 1 ?_
        exact TS_meet (Int.tmod e2 a1) ⟨[(5, [])], [(1000000, (1000000, []))]⟩ h (by kernel_rfl) (by kernel_rfl)

/-- (*multihop/multihopmade.Tape).Bytes -/
noncomputable def F_made_Tape_Bytes_l1  (s3 : Int × S_multihopmade_Tape × (List Int)) : Option ((Int × S_multihopmade_Tape × (List Int)) ⊕ (S_multihopmade_Tape × (List Int))) :=
  bif (decide (s3.1 < (List.length s3.2.2 : Int))) then
    (F_made_Tape_Next s3.2.1 256).bind fun v7 =>
    (idx (Cut.app .whole s3.2.2) s3.1).bind fun e8 =>
    (s3.2.2[(0 + Int.toNat s3.1)]?).bind fun e9 =>
    some (Sum.inl (IntKind.wrap .i64 (s3.1 + 1), v7.2, (List.set s3.2.2 (0 + Int.toNat s3.1) (IntKind.wrap .u8 v7.1))))
  else
    some (Sum.inr (s3.2.1, s3.2.2))
noncomputable def F_made_Tape_Bytes (a0 : S_multihopmade_Tape) (a1 : Int) : Option ((List Int) × S_multihopmade_Tape) :=
  (F_made_Tape_Next a0 (IntKind.wrap .i64 (a1 + 1))).bind fun v1 =>
  (mkO 1 v1.1 v1.1).bind fun n2 =>
  (loopO (F_made_Tape_Bytes_l1) (0, v1.2, (List.replicate n2 (0 : Int)))).bind fun b4 =>
  some ((b4.2, b4.1))
set_option maxRecDepth 100000 in
set_option maxHeartbeats 40000000 in
theorem okT_made_Tape_Bytes (a0 : S_multihopmade_Tape) (a1 : Int) (r : (List Int) × S_multihopmade_Tape) (h : F_made_Tape_Bytes a0 a1 = some r) : Con Try.prog 30 [.c (.box 1000000 0), .c (.lit (.int .i64 (a1)))] [(1000000, .box (S_multihopmade_Tape.cs a0))] (.c (.slc 1 900002 (List.length r.1) (List.map (ecI .u8) r.1))) [(1000000, .box (S_multihopmade_Tape.cs r.2)), (900000, .spare 5 1 (List.length r.1))] := by
  unfold F_made_Tape_Bytes at h
  refine con_of [] [(1000000, [2]), (900000, [])] 25 Try.func30 rfl rfl (by kernel_rfl) (fun K => ?_)
  refine TS_go 9 ?_
  replace h := bindO h
  obtain ⟨v1, hv1, h⟩ := h
  refine TS_con [] [] (some (1000000, 0)) (ok_made_Tape_Next a0 (IntKind.wrap .i64 (a1 + 1)) v1 hv1) (by kernel_rfl) (by kernel_rfl) (by kernel_rfl) ?_
  replace h := bindO h
  obtain ⟨n2, hn2, h⟩ := h
  refine TS_makeR 11 5 1 (ecI .u8) (0 : Int) [] (cs := [.lit (.int .u8 (0))]) (l := v1.1) (c := v1.1) hn2 (by kernel_rfl) (by kernel_rfl) (by kernel_rfl) ?_
  refine TS_go 8 ?_
  refine TS_cut ⟨[(0, []), (5, []), (6, [])], [(1000000, (1000000, [])), (11, (11, []))]⟩ (.mk [.code (codeAt [1, 1, 0, 1, 0] (bodyOf Try.f30)), .blk 0, .code (codeAt [1, 1, 1] (bodyOf Try.f30))] .normal ⟨[(0, .c (.box 1000000 0)), (5, .c (.own 11)), (6, .c (.lit (.int .i64 (0))))], [(1000000, .box [.slc 1 0 (List.length v1.2.l) (List.map (ecI .i64) v1.2.l), .lit (.int .i64 (v1.2.at_))]), (11, .row 5 1 (List.length (List.replicate n2 (0 : Int))) (List.map (ecI .u8) (List.replicate n2 (0 : Int))))]⟩) (by kernel_rfl) (by kernel_rfl) ?_
  replace h := bindO h
  obtain ⟨y5, hl1, hK1⟩ := h
  refine TS_loopB (F_made_Tape_Bytes_l1) ⟨[(0, []), (5, []), (6, [])], [(1000000, (1000000, [])), (11, (11, []))]⟩ (fun (s3 : Int × S_multihopmade_Tape × (List Int)) => [(6, .c (.lit (.int .i64 (s3.1))))]) (fun (s3 : Int × S_multihopmade_Tape × (List Int)) => [(1000000, .box (S_multihopmade_Tape.cs s3.2.1)), (11, .row 5 1 (List.length s3.2.2) (List.map (ecI .u8) s3.2.2))]) (0, v1.2, (List.replicate n2 (0 : Int))) y5 (.exit 0) (fun (b : S_multihopmade_Tape × (List Int)) => b) ⟨[(5, [])], [(1000000, (1000000, [])), (11, (11, []))]⟩ (fun (b4 : S_multihopmade_Tape × (List Int)) => []) (fun (b4 : S_multihopmade_Tape × (List Int)) => [(1000000, .box (S_multihopmade_Tape.cs b4.1)), (11, .row 5 1 (List.length b4.2) (List.map (ecI .u8) b4.2))]) hl1 (by kernel_rfl) (by kernel_rfl) ?_ ?_
  · intro s3 x h hy1
    unfold F_made_Tape_Bytes_l1 at h
    refine TS_go 8 ?_
    replace h := condO h
    rcases h with ⟨hb6, h⟩ | ⟨hb6, h⟩
    · refine TS_know 15 (b := true) hb6 (by kernel_rfl) (by kernel_rfl) ?_
      refine TS_T (by kernel_rfl) rfl ?_
      refine TS_go 7 ?_
      replace h := bindO h
      obtain ⟨v7, hv7, h⟩ := h
      refine TS_con [] [] (some (1000000, 0)) (ok_made_Tape_Next s3.2.1 256 v7 hv7) (by kernel_rfl) (by kernel_rfl) (by kernel_rfl) ?_
      refine TS_go 1 ?_
      replace h := bindO h
      obtain ⟨e8, he8, h⟩ := h
      refine TS_idxR 11 1 0 (ecI .u8) .whole he8 (by kernel_rfl) (by kernel_rfl) ?_
      replace h := bindO h
      obtain ⟨e9, he9, h⟩ := h
      refine TS_stE 11 5 1 (List.length s3.2.2) (0 + Int.toNat s3.1) 0 (ecI .u8) (ds := [.lit (.int .u8 (IntKind.wrap .u8 v7.1))]) (IntKind.wrap .u8 v7.1) he9 (by kernel_rfl) (by kernel_rfl) (by kernel_rfl) (by kernel_rfl) ?_
      refine TS_go 7 ?_
      obtain rfl := Option.some.inj h
      exact TS_againB _ ⟨[(0, []), (5, []), (6, [])], [(1000000, (1000000, [])), (11, (11, []))]⟩ rfl (by kernel_rfl) (by kernel_rfl)
    · refine TS_know 15 (b := false) hb6 (by kernel_rfl) (by kernel_rfl) ?_
      refine TS_F (by kernel_rfl) rfl ?_
      refine TS_go 2 ?_
      obtain rfl := Option.some.inj h
      exact TS_brkB (s3.2.1, s3.2.2) ⟨[(5, [])], [(1000000, (1000000, [])), (11, (11, []))]⟩ rfl (by kernel_rfl) (by kernel_rfl) (by kernel_rfl)
  · intro b4 hb
    subst y5
    have h := hK1
    refine TS_go 6 ?_
    refine TS_settle 11 (by kernel_rfl) ?_
    refine TS_fitU ⟨[(4, [])], [(11, (900000, [])), (1000000, (1000000, []))]⟩ (by kernel_rfl) ?_
    refine TS_go 1 ?_
    obtain rfl := Option.some.inj h
    exact TS_ret (by kernel_rfl) (by kernel_rfl) (by kernel_rfl)
theorem ok_made_Tape_Bytes (a0 : S_multihopmade_Tape) (a1 : Int) (r : (List Int) × S_multihopmade_Tape) (h : F_made_Tape_Bytes a0 a1 = some r) : Con Try.prog 30 [.c (.box 1000000 0), .c (.lit (.int .i64 (a1)))] [(1000000, .box (S_multihopmade_Tape.cs a0))] (.c (eS 1 (ecI .u8) (r.1))) [(1000000, .box (S_multihopmade_Tape.cs r.2))] :=
  con_drop [[2]] [(1000000, [])] (okT_made_Tape_Bytes a0 a1 r h) (by kernel_rfl) (by kernel_rfl) (by kernel_rfl)

/-- multihop/multihopref01.Append -/
noncomputable def F_ref01_Append_l1 (a1 : Int) (s4 : (List Int) × Int) : Option (((List Int) × Int) ⊕ ((List Int))) :=
  bif (decide (s4.2 ≥ 0)) then
    bif decide (0 ≤ (IntKind.wrap .u64 (8 * (IntKind.wrap .u64 s4.2)))) then
      (appO 1 s4.1 (Cut.app .whole ([IntKind.wrap .u8 (ishr .u64 a1 (IntKind.wrap .u64 (8 * (IntKind.wrap .u64 s4.2))))] : List Int))).bind fun l9 =>
      some (Sum.inl (l9, IntKind.wrap .i64 (s4.2 - 1)))
    else none
  else
    some (Sum.inr s4.1)
noncomputable def F_ref01_Append (a0 : List Int) (a1 : Int) (a2 : Int) : Option ((List Int)) :=
  (appO 1 ([] : List Int) (Cut.app .whole a0)).bind fun l1 =>
  bif (decide (a2 < 0)) then
    some (l1)
  else
    bif (decide (a2 > 8)) then
      some (l1)
    else
      (loopO (F_ref01_Append_l1 a1) (l1, IntKind.wrap .i64 (a2 - 1))).bind fun b5 =>
      some (b5)
set_option maxRecDepth 100000 in
set_option maxHeartbeats 40000000 in
theorem okT_ref01_Append (a0 : List Int) (a1 : Int) (a2 : Int) (r : (List Int)) (h : F_ref01_Append a0 a1 a2 = some r) : Con Try.prog 73 [.c (eS 1 (ecI .u8) (a0)), .c (.lit (.int .u64 (a1))), .c (.lit (.int .i64 (a2)))] [] (.c (.slc 1 900002 (List.length r) (List.map (ecI .u8) r))) [(900000, .spare 5 1 (List.length r))] := by
  unfold F_ref01_Append at h
  refine con_of [] [(900000, [])] 35 Try.func73 rfl rfl (by kernel_rfl) (fun K => ?_)
  refine TS_go 6 ?_
  refine TS_litNT 9 5 1 (ecI .u8) [] ([] : List Int) (by kernel_rfl) (by kernel_rfl) ?_
  refine TS_go 1 ?_
  replace h := bindO h
  obtain ⟨l1, hl1, h⟩ := h
  refine TS_appT (d := 9) (e := 5) (sz := 1) (N := List.length ([] : List Int)) (ecI .u8) (fun _ => by kernel_rfl) (l1 := ([] : List Int)) (l2 := a0) (c := .whole) hl1 (by kernel_rfl) (by kernel_rfl) ?_
  refine TS_go 8 ?_
  replace h := condO h
  rcases h with ⟨hb2, h⟩ | ⟨hb2, h⟩
  · refine TS_know 13 (b := true) hb2 (by kernel_rfl) (by kernel_rfl) ?_
    refine TS_know 14 (b := true) hb2 (by kernel_rfl) (by kernel_rfl) ?_
    refine TS_go 4 ?_
    refine TS_T (by kernel_rfl) rfl ?_
    refine TS_go 5 ?_
    refine TS_fitU ⟨[(6, [])], [(9, (900000, []))]⟩ (by kernel_rfl) ?_
    refine TS_go 2 ?_
    obtain rfl := Option.some.inj h
    exact TS_ret (by kernel_rfl) (by kernel_rfl) (by kernel_rfl)
  · refine TS_know 13 (b := false) hb2 (by kernel_rfl) (by kernel_rfl) ?_
    refine TS_know 14 (b := false) hb2 (by kernel_rfl) (by kernel_rfl) ?_
    refine TS_go 4 ?_
    replace h := condO h
    rcases h with ⟨hb3, h⟩ | ⟨hb3, h⟩
    · refine TS_know 16 (b := true) hb3 (by kernel_rfl) (by kernel_rfl) ?_
      refine TS_know 17 (b := true) hb3 (by kernel_rfl) (by kernel_rfl) ?_
      refine TS_T (by kernel_rfl) rfl ?_
      refine TS_go 5 ?_
      refine TS_fitU ⟨[(6, [])], [(9, (900000, []))]⟩ (by kernel_rfl) ?_
      refine TS_go 2 ?_
      obtain rfl := Option.some.inj h
      exact TS_ret (by kernel_rfl) (by kernel_rfl) (by kernel_rfl)
    · refine TS_know 16 (b := false) hb3 (by kernel_rfl) (by kernel_rfl) ?_
      refine TS_know 17 (b := false) hb3 (by kernel_rfl) (by kernel_rfl) ?_
      refine TS_F (by kernel_rfl) rfl ?_
      refine TS_go 9 ?_
      refine TS_cut ⟨[(1, []), (7, []), (8, [])], [(9, (9, []))]⟩ (.mk [.code (codeAt [1, 1, 1, 0, 1, 0] (bodyOf Try.f73)), .blk 0, .code (codeAt [1, 1, 1, 1] (bodyOf Try.f73))] .normal ⟨[(1, .c (.lit (.int .u64 (a1)))), (7, .c (.slc 1 11 (List.length l1) (List.map (ecI .u8) l1))), (8, .c (.lit (.int .i64 (IntKind.wrap .i64 (a2 - 1)))))], [(9, .spare 5 1 (List.length l1))]⟩) (by kernel_rfl) (by kernel_rfl) ?_
      replace h := bindO h
      obtain ⟨y6, hl1, hK1⟩ := h
      refine TS_loopB (F_ref01_Append_l1 a1) ⟨[(1, []), (7, []), (8, [])], [(9, (9, []))]⟩ (fun (s4 : (List Int) × Int) => [(7, .c (.slc 1 11 (List.length s4.1) (List.map (ecI .u8) s4.1))), (8, .c (.lit (.int .i64 (s4.2))))]) (fun (s4 : (List Int) × Int) => [(9, .spare 5 1 (List.length s4.1))]) (l1, IntKind.wrap .i64 (a2 - 1)) y6 (.exit 0) (fun (b : (List Int)) => b) ⟨[(7, [])], [(9, (9, []))]⟩ (fun (b5 : (List Int)) => [(7, .c (.slc 1 11 (List.length b5) (List.map (ecI .u8) b5)))]) (fun (b5 : (List Int)) => [(9, .spare 5 1 (List.length b5))]) hl1 (by kernel_rfl) (by kernel_rfl) ?_ ?_
      · intro s4 x h hy1
        unfold F_ref01_Append_l1 at h
        refine TS_go 6 ?_
        replace h := condO h
        rcases h with ⟨hb7, h⟩ | ⟨hb7, h⟩
        · refine TS_know 22 (b := true) hb7 (by kernel_rfl) (by kernel_rfl) ?_
          refine TS_T (by kernel_rfl) rfl ?_
          refine TS_go 9 ?_
          replace h := chkO h
          obtain ⟨hc8, h⟩ := h
          refine TS_num (op := .shr) (k := .u64) (k' := .u64) (m := a1) (i := IntKind.wrap .u64 (8 * (IntKind.wrap .u64 s4.2))) (of_decide_eq_true hc8) rfl (by simp) (by kernel_rfl) (by kernel_rfl) ?_
          refine TS_go 1 ?_
          refine TS_litNT 32 5 1 (ecI .u8) [] ([IntKind.wrap .u8 (ishr .u64 a1 (IntKind.wrap .u64 (8 * (IntKind.wrap .u64 s4.2))))] : List Int) (by kernel_rfl) (by kernel_rfl) ?_
          replace h := bindO h
          obtain ⟨l9, hl9, h⟩ := h
          refine TS_appT (d := 9) (e := 5) (sz := 1) (N := List.length s4.1) (ecI .u8) (fun _ => by kernel_rfl) (l1 := s4.1) (l2 := ([IntKind.wrap .u8 (ishr .u64 a1 (IntKind.wrap .u64 (8 * (IntKind.wrap .u64 s4.2))))] : List Int)) (c := .whole) hl9 (by kernel_rfl) (by kernel_rfl) ?_
          refine TS_go 8 ?_
          obtain rfl := Option.some.inj h
          exact TS_againB _ ⟨[(1, []), (7, []), (8, [])], [(9, (9, []))]⟩ rfl (by kernel_rfl) (by kernel_rfl)
        · refine TS_know 22 (b := false) hb7 (by kernel_rfl) (by kernel_rfl) ?_
          refine TS_F (by kernel_rfl) rfl ?_
          refine TS_go 2 ?_
          obtain rfl := Option.some.inj h
          exact TS_brkB s4.1 ⟨[(7, [])], [(9, (9, []))]⟩ rfl (by kernel_rfl) (by kernel_rfl) (by kernel_rfl)
      · intro b5 hb
        subst y6
        have h := hK1
        refine TS_go 6 ?_
        refine TS_fitU ⟨[(6, [])], [(9, (900000, []))]⟩ (by kernel_rfl) ?_
        refine TS_go 1 ?_
        obtain rfl := Option.some.inj h
        exact TS_ret (by kernel_rfl) (by kernel_rfl) (by kernel_rfl)
theorem ok_ref01_Append (a0 : List Int) (a1 : Int) (a2 : Int) (r : (List Int)) (h : F_ref01_Append a0 a1 a2 = some r) : Con Try.prog 73 [.c (eS 1 (ecI .u8) (a0)), .c (.lit (.int .u64 (a1))), .c (.lit (.int .i64 (a2)))] [] (.c (eS 1 (ecI .u8) (r))) [] :=
  con_drop [[2]] [] (okT_ref01_Append a0 a1 a2 r h) (by kernel_rfl) (by kernel_rfl) (by kernel_rfl)

/-- multihop/multihopref03.number -/
noncomputable def F_ref03_number_l1 (a0 : List Int) (s1 : Int × Int) : Option ((Int × Int) ⊕ (Int)) :=
  bif (decide (s1.2 ≥ 0)) then
    (idx a0 s1.2).bind fun e5 =>
    some (Sum.inl (IntKind.wrap .u64 ((ishl .u64 s1.1 8) + (IntKind.wrap .u64 e5)), IntKind.wrap .i64 (s1.2 - 1)))
  else
    some (Sum.inr s1.1)
noncomputable def F_ref03_number (a0 : List Int) : Option (Int) :=
  (loopO (F_ref03_number_l1 a0) (0, IntKind.wrap .i64 ((List.length a0 : Int) - 1))).bind fun b2 =>
  some (b2)
set_option maxRecDepth 100000 in
set_option maxHeartbeats 40000000 in
theorem ok_ref03_number (a0 : List Int) (r : Int) (h : F_ref03_number a0 = some r) : Con Try.prog 79 [.c (eS 1 (ecI .u8) (a0))] [] (.c (.lit (.int .u64 (r)))) [] := by
  unfold F_ref03_number at h
  refine con_of [] [] 21 Try.func79 rfl rfl (by kernel_rfl) (fun K => ?_)
  refine TS_go 17 ?_
  refine TS_cut ⟨[(0, []), (3, []), (4, [])], []⟩ (.mk [.code (codeAt [1, 1, 0, 1, 0] (bodyOf Try.f79)), .blk 0, .code (codeAt [1, 1, 1] (bodyOf Try.f79))] .normal ⟨[(0, .c (.slc 1 0 (List.length a0) (List.map (ecI .u8) a0))), (3, .c (.lit (.int .u64 (0)))), (4, .c (.lit (.int .i64 (IntKind.wrap .i64 ((List.length a0 : Int) - 1)))))], []⟩) (by kernel_rfl) (by kernel_rfl) ?_
  replace h := bindO h
  obtain ⟨y3, hl1, hK1⟩ := h
  refine TS_loopB (F_ref03_number_l1 a0) ⟨[(0, []), (3, []), (4, [])], []⟩ (fun (s1 : Int × Int) => [(3, .c (.lit (.int .u64 (s1.1)))), (4, .c (.lit (.int .i64 (s1.2))))]) (fun (s1 : Int × Int) => []) (0, IntKind.wrap .i64 ((List.length a0 : Int) - 1)) y3 (.exit 0) (fun (b : Int) => b) ⟨[(3, [])], []⟩ (fun (b2 : Int) => [(3, .c (.lit (.int .u64 (b2))))]) (fun (b2 : Int) => []) hl1 (by kernel_rfl) (by kernel_rfl) ?_ ?_
  · intro s1 x h hy1
    unfold F_ref03_number_l1 at h
    refine TS_go 6 ?_
    replace h := condO h
    rcases h with ⟨hb4, h⟩ | ⟨hb4, h⟩
    · refine TS_know 9 (b := true) hb4 (by kernel_rfl) (by kernel_rfl) ?_
      refine TS_T (by kernel_rfl) rfl ?_
      refine TS_go 8 ?_
      replace h := bindO h
      obtain ⟨e5, he5, h⟩ := h
      refine TS_idx (ecI .u8) he5 (by kernel_rfl) (by kernel_rfl) ?_
      refine TS_go 11 ?_
      obtain rfl := Option.some.inj h
      exact TS_againB _ ⟨[(0, []), (3, []), (4, [])], []⟩ rfl (by kernel_rfl) (by kernel_rfl)
    · refine TS_know 9 (b := false) hb4 (by kernel_rfl) (by kernel_rfl) ?_
      refine TS_F (by kernel_rfl) rfl ?_
      refine TS_go 2 ?_
      obtain rfl := Option.some.inj h
      exact TS_brkB s1.1 ⟨[(3, [])], []⟩ rfl (by kernel_rfl) (by kernel_rfl) (by kernel_rfl)
  · intro b2 hb
    subst y3
    have h := hK1
    refine TS_go 7 ?_
    obtain rfl := Option.some.inj h
    exact TS_ret (by kernel_rfl) (by kernel_rfl) (by kernel_rfl)

/-- multihop/multihopref03.rot -/
noncomputable def F_ref03_rot (a0 : Int) (a1 : Int) : Option (Int) :=
  bif decide (0 ≤ a1) then
    bif decide (0 ≤ (IntKind.wrap .u64 (64 - a1))) then
      some (ior .u64 (ishl .u64 a0 a1) (ishr .u64 a0 (IntKind.wrap .u64 (64 - a1))))
    else none
  else none
set_option maxRecDepth 100000 in
set_option maxHeartbeats 40000000 in
theorem ok_ref03_rot (a0 : Int) (a1 : Int) (r : Int) (h : F_ref03_rot a0 a1 = some r) : Con Try.prog 87 [.c (.lit (.int .u64 (a0))), .c (.lit (.int .u64 (a1)))] [] (.c (.lit (.int .u64 (r)))) [] := by
  unfold F_ref03_rot at h
  refine con_of [] [] 13 Try.func87 rfl rfl (by kernel_rfl) (fun K => ?_)
  refine TS_go 8 ?_
  replace h := chkO h
  obtain ⟨hc1, h⟩ := h
  refine TS_num (op := .shl) (k := .u64) (k' := .u64) (m := a0) (i := a1) (of_decide_eq_true hc1) rfl (by simp) (by kernel_rfl) (by kernel_rfl) ?_
  refine TS_go 3 ?_
  replace h := chkO h
  obtain ⟨hc2, h⟩ := h
  refine TS_num (op := .shr) (k := .u64) (k' := .u64) (m := a0) (i := IntKind.wrap .u64 (64 - a1)) (of_decide_eq_true hc2) rfl (by simp) (by kernel_rfl) (by kernel_rfl) ?_
  refine TS_go 4 ?_
  obtain rfl := Option.some.inj h
  exact TS_ret (by kernel_rfl) (by kernel_rfl) (by kernel_rfl)

/-- (multihop/multihopref03.state).round -/
noncomputable def F_ref03_state_round (a0 : S_multihopref03_state) : Option (S_multihopref03_state) :=
  (F_ref03_rot a0.b 13).bind fun v1 =>
  (F_ref03_rot (IntKind.wrap .u64 (a0.a + a0.b)) 32).bind fun v2 =>
  (F_ref03_rot a0.d 16).bind fun v3 =>
  (F_ref03_rot (ixor .u64 v3 (IntKind.wrap .u64 (a0.c + a0.d))) 21).bind fun v4 =>
  (F_ref03_rot (ixor .u64 v1 (IntKind.wrap .u64 (a0.a + a0.b))) 17).bind fun v5 =>
  (F_ref03_rot (IntKind.wrap .u64 ((IntKind.wrap .u64 (a0.c + a0.d)) + (ixor .u64 v1 (IntKind.wrap .u64 (a0.a + a0.b))))) 32).bind fun v6 =>
  some ((S_multihopref03_state.mk (IntKind.wrap .u64 (v2 + (ixor .u64 v3 (IntKind.wrap .u64 (a0.c + a0.d))))) (ixor .u64 v5 (IntKind.wrap .u64 ((IntKind.wrap .u64 (a0.c + a0.d)) + (ixor .u64 v1 (IntKind.wrap .u64 (a0.a + a0.b)))))) v6 (ixor .u64 v4 (IntKind.wrap .u64 (v2 + (ixor .u64 v3 (IntKind.wrap .u64 (a0.c + a0.d))))))))
set_option maxRecDepth 100000 in
set_option maxHeartbeats 40000000 in
theorem ok_ref03_state_round (a0 : S_multihopref03_state) (r : S_multihopref03_state) (h : F_ref03_state_round a0 = some r) : Con Try.prog 81 [.agg (S_multihopref03_state.cs a0)] [] (.agg (S_multihopref03_state.cs r)) [] := by
  unfold F_ref03_state_round at h
  refine con_of [] [] 76 Try.func81 rfl rfl (by kernel_rfl) (fun K => ?_)
  refine TS_go 19 ?_
  replace h := bindO h
  obtain ⟨v1, hv1, h⟩ := h
  refine TS_call [] (ok_ref03_rot a0.b 13 v1 hv1) (by kernel_rfl) (by kernel_rfl) ?_
  refine TS_go 17 ?_
  replace h := bindO h
  obtain ⟨v2, hv2, h⟩ := h
  refine TS_call [] (ok_ref03_rot (IntKind.wrap .u64 (a0.a + a0.b)) 32 v2 hv2) (by kernel_rfl) (by kernel_rfl) ?_
  refine TS_go 17 ?_
  replace h := bindO h
  obtain ⟨v3, hv3, h⟩ := h
  refine TS_call [] (ok_ref03_rot a0.d 16 v3 hv3) (by kernel_rfl) (by kernel_rfl) ?_
  refine TS_go 27 ?_
  replace h := bindO h
  obtain ⟨v4, hv4, h⟩ := h
  refine TS_call [] (ok_ref03_rot (ixor .u64 v3 (IntKind.wrap .u64 (a0.c + a0.d))) 21 v4 hv4) (by kernel_rfl) (by kernel_rfl) ?_
  refine TS_go 27 ?_
  replace h := bindO h
  obtain ⟨v5, hv5, h⟩ := h
  refine TS_call [] (ok_ref03_rot (ixor .u64 v1 (IntKind.wrap .u64 (a0.a + a0.b))) 17 v5 hv5) (by kernel_rfl) (by kernel_rfl) ?_
  refine TS_go 17 ?_
  replace h := bindO h
  obtain ⟨v6, hv6, h⟩ := h
  refine TS_call [] (ok_ref03_rot (IntKind.wrap .u64 ((IntKind.wrap .u64 (a0.c + a0.d)) + (ixor .u64 v1 (IntKind.wrap .u64 (a0.a + a0.b))))) 32 v6 hv6) (by kernel_rfl) (by kernel_rfl) ?_
  refine TS_go 9 ?_
  obtain rfl := Option.some.inj h
  exact TS_ret (by kernel_rfl) (by kernel_rfl) (by kernel_rfl)

/-- (multihop/multihopref03.state).word -/
noncomputable def F_ref03_state_word (a0 : S_multihopref03_state) (a1 : Int) : Option (S_multihopref03_state) :=
  (F_ref03_state_round (S_multihopref03_state.mk a0.a a0.b a0.c (ixor .u64 a0.d a1))).bind fun v1 =>
  (F_ref03_state_round v1).bind fun v2 =>
  some ((S_multihopref03_state.mk (ixor .u64 v2.a a1) v2.b v2.c v2.d))
set_option maxRecDepth 100000 in
set_option maxHeartbeats 40000000 in
theorem ok_ref03_state_word (a0 : S_multihopref03_state) (a1 : Int) (r : S_multihopref03_state) (h : F_ref03_state_word a0 a1 = some r) : Con Try.prog 80 [.agg (S_multihopref03_state.cs a0), .c (.lit (.int .u64 (a1)))] [] (.agg (S_multihopref03_state.cs r)) [] := by
  unfold F_ref03_state_word at h
  refine con_of [] [] 19 Try.func80 rfl rfl (by kernel_rfl) (fun K => ?_)
  refine TS_go 17 ?_
  replace h := bindO h
  obtain ⟨v1, hv1, h⟩ := h
  refine TS_call [] (ok_ref03_state_round (S_multihopref03_state.mk a0.a a0.b a0.c (ixor .u64 a0.d a1)) v1 hv1) (by kernel_rfl) (by kernel_rfl) ?_
  replace h := bindO h
  obtain ⟨v2, hv2, h⟩ := h
  refine TS_call [] (ok_ref03_state_round v1 v2 hv2) (by kernel_rfl) (by kernel_rfl) ?_
  refine TS_go 17 ?_
  obtain rfl := Option.some.inj h
  exact TS_ret (by kernel_rfl) (by kernel_rfl) (by kernel_rfl)

/-- multihop/multihopref03.Sum -/
noncomputable def F_ref03_Sum_l1 (a1 : List Int) (s3 : Int × S_multihopref03_state) : Option ((Int × S_multihopref03_state) ⊕ (Int × S_multihopref03_state)) :=
  bif (decide ((IntKind.wrap .i64 (s3.1 + 8)) ≤ (List.length a1 : Int))) then
    (subO a1 s3.1 (IntKind.wrap .i64 (s3.1 + 8))).bind fun l7 =>
    (F_ref03_number l7).bind fun v8 =>
    (F_ref03_state_word s3.2 v8).bind fun v9 =>
    some (Sum.inl (IntKind.wrap .i64 (s3.1 + 8), v9))
  else
    some (Sum.inr (s3.1, s3.2))
noncomputable def F_ref03_Sum (a0 : List Int) (a1 : List Int) : Option (Int) :=
  (F_ref03_number (arrL 8 a0)).bind fun v1 =>
  (F_ref03_number ([(a0.getD 8 0), (a0.getD 9 0), (a0.getD 10 0), (a0.getD 11 0), (a0.getD 12 0), (a0.getD 13 0), (a0.getD 14 0), (a0.getD 15 0)] : List Int)).bind fun v2 =>
  (loopO (F_ref03_Sum_l1 a1) (0, (S_multihopref03_state.mk (ixor .u64 v1 8317987319222330741) (ixor .u64 v2 7237128888997146477) (ixor .u64 v1 7816392313619706465) (ixor .u64 v2 8387220255154660723)))).bind fun b4 =>
  (subO a1 b4.1 (List.length a1 : Int)).bind fun l11 =>
  (F_ref03_number l11).bind fun v12 =>
  (F_ref03_state_word b4.2 (IntKind.wrap .u64 (v12 + (ishl .u64 (IntKind.wrap .u64 (Int.tmod (List.length a1 : Int) 256)) 56)))).bind fun v13 =>
  (F_ref03_state_round (S_multihopref03_state.mk v13.a v13.b (ixor .u64 v13.c 255) v13.d)).bind fun v14 =>
  (F_ref03_state_round v14).bind fun v15 =>
  (F_ref03_state_round v15).bind fun v16 =>
  (F_ref03_state_round v16).bind fun v17 =>
  some (ixor .u64 (ixor .u64 (ixor .u64 v17.a v17.b) v17.c) v17.d)
set_option maxRecDepth 100000 in
set_option maxHeartbeats 40000000 in
theorem ok_ref03_Sum (a0 : List Int) (a1 : List Int) (r : Int) (h : F_ref03_Sum a0 a1 = some r) : Con Try.prog 74 [.agg (arrS .u8 16 a0), .c (eS 1 (ecI .u8) (a1))] [] (.c (.lit (.int .u64 (r)))) [] := by
  unfold F_ref03_Sum at h
  refine con_of [] [] 69 Try.func74 rfl rfl (by kernel_rfl) (fun K => ?_)
  refine TS_go 6 ?_
  refine TS_draw (by kernel_rfl) ?_
  refine TD_win 2 0 16 (a := 0) (b := 8) (by decide) (by decide) (by kernel_rfl) (by kernel_rfl) ?_
  replace h := bindO h
  obtain ⟨v1, hv1, h⟩ := h
  refine TD_callF [] (ok_ref03_number (arrL 8 a0) v1 hv1) (by kernel_rfl) (by kernel_rfl) ?_
  refine TD_win 2 0 16 (a := 8) (b := 16) (by decide) (by decide) (by kernel_rfl) (by kernel_rfl) ?_
  replace h := bindO h
  obtain ⟨v2, hv2, h⟩ := h
  refine TD_callF [] (ok_ref03_number ([(a0.getD 8 0), (a0.getD 9 0), (a0.getD 10 0), (a0.getD 11 0), (a0.getD 12 0), (a0.getD 13 0), (a0.getD 14 0), (a0.getD 15 0)] : List Int) v2 hv2) (by kernel_rfl) (by kernel_rfl) ?_
  refine TD_go 2 ?_
  refine TD_end (by kernel_rfl) ?_
  refine TS_go 20 ?_
  refine TS_cut ⟨[(1, []), (7, []), (8, [])], [(7, (7, []))]⟩ (.mk [.code (codeAt [1, 1, 1, 1, 0, 0] (bodyOf Try.f74)), .blk 0, .code (codeAt [1, 1, 1, 1, 1] (bodyOf Try.f74))] .normal ⟨[(1, .c (.slc 1 0 (List.length a1) (List.map (ecI .u8) a1))), (7, .c (.box 7 0)), (8, .c (.lit (.int .i64 (0))))], [(7, .box [.lit (.int .u64 (ixor .u64 v1 8317987319222330741)), .lit (.int .u64 (ixor .u64 v2 7237128888997146477)), .lit (.int .u64 (ixor .u64 v1 7816392313619706465)), .lit (.int .u64 (ixor .u64 v2 8387220255154660723))])]⟩) (by kernel_rfl) (by kernel_rfl) ?_
  replace h := bindO h
  obtain ⟨y5, hl1, hK1⟩ := h
  refine TS_loopB (F_ref03_Sum_l1 a1) ⟨[(1, []), (7, []), (8, [])], [(7, (7, []))]⟩ (fun (s3 : Int × S_multihopref03_state) => [(8, .c (.lit (.int .i64 (s3.1))))]) (fun (s3 : Int × S_multihopref03_state) => [(7, .box (S_multihopref03_state.cs s3.2))]) (0, (S_multihopref03_state.mk (ixor .u64 v1 8317987319222330741) (ixor .u64 v2 7237128888997146477) (ixor .u64 v1 7816392313619706465) (ixor .u64 v2 8387220255154660723))) y5 (.exit 0) (fun (b : Int × S_multihopref03_state) => b) ⟨[(1, []), (7, []), (8, [])], [(7, (7, []))]⟩ (fun (b4 : Int × S_multihopref03_state) => [(8, .c (.lit (.int .i64 (b4.1))))]) (fun (b4 : Int × S_multihopref03_state) => [(7, .box (S_multihopref03_state.cs b4.2))]) hl1 (by kernel_rfl) (by kernel_rfl) ?_ ?_
  · intro s3 x h hy1
    unfold F_ref03_Sum_l1 at h
    refine TS_go 9 ?_
    replace h := condO h
    rcases h with ⟨hb6, h⟩ | ⟨hb6, h⟩
    · refine TS_know 26 (b := true) hb6 (by kernel_rfl) (by kernel_rfl) ?_
      refine TS_T (by kernel_rfl) rfl ?_
      refine TS_go 3 ?_
      refine TS_draw (by kernel_rfl) ?_
      refine TD_go 5 ?_
      replace h := bindO h
      obtain ⟨l7, hl7, h⟩ := h
      refine TD_sub (ecI .u8) 1 hl7 (by kernel_rfl) (by kernel_rfl) ?_
      replace h := bindO h
      obtain ⟨v8, hv8, h⟩ := h
      refine TD_call [] (ok_ref03_number l7 v8 hv8) (by kernel_rfl) (by kernel_rfl) ?_
      replace h := bindO h
      obtain ⟨v9, hv9, h⟩ := h
      refine TD_call [] (ok_ref03_state_word s3.2 v8 v9 hv9) (by kernel_rfl) (by kernel_rfl) ?_
      refine TD_go 1 ?_
      refine TD_end (by kernel_rfl) ?_
      refine TS_go 6 ?_
      obtain rfl := Option.some.inj h
      exact TS_againB _ ⟨[(1, []), (7, []), (8, [])], [(7, (7, []))]⟩ rfl (by kernel_rfl) (by kernel_rfl)
    · refine TS_know 26 (b := false) hb6 (by kernel_rfl) (by kernel_rfl) ?_
      refine TS_F (by kernel_rfl) rfl ?_
      refine TS_go 2 ?_
      obtain rfl := Option.some.inj h
      exact TS_brkB (s3.1, s3.2) ⟨[(1, []), (7, []), (8, [])], [(7, (7, []))]⟩ rfl (by kernel_rfl) (by kernel_rfl) (by kernel_rfl)
  · intro b4 hb
    subst y5
    have h := hK1
    refine TS_go 2 ?_
    refine TS_draw (by kernel_rfl) ?_
    refine TD_go 3 ?_
    replace h := bindO h
    obtain ⟨l11, hl11, h⟩ := h
    refine TD_sub (ecI .u8) 1 hl11 (by kernel_rfl) (by kernel_rfl) ?_
    replace h := bindO h
    obtain ⟨v12, hv12, h⟩ := h
    refine TD_call [] (ok_ref03_number l11 v12 hv12) (by kernel_rfl) (by kernel_rfl) ?_
    refine TD_go 6 ?_
    replace h := bindO h
    obtain ⟨v13, hv13, h⟩ := h
    refine TD_call [] (ok_ref03_state_word b4.2 (IntKind.wrap .u64 (v12 + (ishl .u64 (IntKind.wrap .u64 (Int.tmod (List.length a1 : Int) 256)) 56))) v13 hv13) (by kernel_rfl) (by kernel_rfl) ?_
    refine TD_go 1 ?_
    refine TD_end (by kernel_rfl) ?_
    refine TS_go 11 ?_
    replace h := bindO h
    obtain ⟨v14, hv14, h⟩ := h
    refine TS_call [] (ok_ref03_state_round (S_multihopref03_state.mk v13.a v13.b (ixor .u64 v13.c 255) v13.d) v14 hv14) (by kernel_rfl) (by kernel_rfl) ?_
    replace h := bindO h
    obtain ⟨v15, hv15, h⟩ := h
    refine TS_call [] (ok_ref03_state_round v14 v15 hv15) (by kernel_rfl) (by kernel_rfl) ?_
    replace h := bindO h
    obtain ⟨v16, hv16, h⟩ := h
    refine TS_call [] (ok_ref03_state_round v15 v16 hv16) (by kernel_rfl) (by kernel_rfl) ?_
    replace h := bindO h
    obtain ⟨v17, hv17, h⟩ := h
    refine TS_call [] (ok_ref03_state_round v16 v17 hv17) (by kernel_rfl) (by kernel_rfl) ?_
    refine TS_go 18 ?_
    obtain rfl := Option.some.inj h
    exact TS_ret (by kernel_rfl) (by kernel_rfl) (by kernel_rfl)

/-- multihop/multihopref03.Derive -/
noncomputable def F_ref03_Derive_l2 (s1 : Int × (List Int)) (v9 : Int) (s10 : Int × (List Int)) : Option ((Int × (List Int)) ⊕ ((List Int))) :=
  bif (decide (s10.1 < 8)) then
    bif decide (0 ≤ (IntKind.wrap .u64 (8 * (IntKind.wrap .u64 s10.1)))) then
      bif decide ((0 : Int) ≤ (IntKind.wrap .i64 ((IntKind.wrap .i64 (8 * s1.1)) + s10.1)) ∧ (IntKind.wrap .i64 ((IntKind.wrap .i64 (8 * s1.1)) + s10.1)) < (16 : Int)) then
        some (Sum.inl (IntKind.wrap .i64 (s10.1 + 1), (setA 16 s10.2 (Int.toNat (IntKind.wrap .i64 ((IntKind.wrap .i64 (8 * s1.1)) + s10.1))) (IntKind.wrap .u8 (ishr .u64 v9 (IntKind.wrap .u64 (8 * (IntKind.wrap .u64 s10.1))))))))
      else none
    else none
  else
    some (Sum.inr s10.2)
noncomputable def F_ref03_Derive_l1 (a1 : List UInt8) (a2 : Int) (a0 : List Int) (s1 : Int × (List Int)) : Option ((Int × (List Int)) ⊕ ((List Int))) :=
  bif (decide (s1.1 < 2)) then
    bif decide (List.length a1 ≤ maxLen) then
      (appO 1 (i8L a1) (Cut.app .whole ([0] : List Int))).bind fun l6 =>
      (F_ref01_Append l6 a2 8).bind fun v7 =>
      (appO 1 v7 (Cut.app .whole ([IntKind.wrap .u8 s1.1] : List Int))).bind fun l8 =>
      (F_ref03_Sum a0 l8).bind fun v9 =>
      (loopO (F_ref03_Derive_l2 s1 v9) (0, s1.2)).bind fun b11 =>
      some (Sum.inl (IntKind.wrap .i64 (s1.1 + 1), b11))
    else none
  else
    some (Sum.inr s1.2)
noncomputable def F_ref03_Derive (a0 : List Int) (a1 : List UInt8) (a2 : Int) : Option ((List Int)) :=
  (loopO (F_ref03_Derive_l1 a1 a2 a0) (0, [0, 0, 0, 0, 0, 0, 0, 0, 0, 0, 0, 0, 0, 0, 0, 0])).bind fun b2 =>
  some (b2)
set_option maxRecDepth 100000 in
set_option maxHeartbeats 40000000 in
theorem ok_ref03_Derive (a0 : List Int) (a1 : List UInt8) (a2 : Int) (r : (List Int)) (h : F_ref03_Derive a0 a1 a2 = some r) : Con Try.prog 67 [.agg (arrS .u8 16 a0), .c (.lit (.string (bs8 a1))), .c (.lit (.int .u64 (a2)))] [] (.agg (arrS .u8 16 r)) [] := by
  unfold F_ref03_Derive at h
  refine con_of [] [] 45 Try.func67 rfl rfl (by kernel_rfl) (fun K => ?_)
  refine TS_go 15 ?_
  refine TS_cut ⟨[(1, []), (2, []), (3, []), (6, []), (7, []), (8, [])], [(3, (3, [])), (6, (6, [])), (7, (7, []))]⟩ (.mk [.code (codeAt [1, 1, 0, 1, 0] (bodyOf Try.f67)), .blk 0, .code (codeAt [1, 1, 1] (bodyOf Try.f67))] .normal ⟨[(1, .c (.lit (.string (bs8 a1)))), (2, .c (.lit (.int .u64 (a2)))), (3, .c (.box 3 0)), (6, .c (.box 6 0)), (7, .c (.box 7 0)), (8, .c (.lit (.int .i64 (0))))], [(3, .box [.lit (.int .u8 ((a0.getD 0 0))), .lit (.int .u8 ((a0.getD 1 0))), .lit (.int .u8 ((a0.getD 2 0))), .lit (.int .u8 ((a0.getD 3 0))), .lit (.int .u8 ((a0.getD 4 0))), .lit (.int .u8 ((a0.getD 5 0))), .lit (.int .u8 ((a0.getD 6 0))), .lit (.int .u8 ((a0.getD 7 0))), .lit (.int .u8 ((a0.getD 8 0))), .lit (.int .u8 ((a0.getD 9 0))), .lit (.int .u8 ((a0.getD 10 0))), .lit (.int .u8 ((a0.getD 11 0))), .lit (.int .u8 ((a0.getD 12 0))), .lit (.int .u8 ((a0.getD 13 0))), .lit (.int .u8 ((a0.getD 14 0))), .lit (.int .u8 ((a0.getD 15 0)))]), (6, .box [.lit (.int .u8 (0)), .lit (.int .u8 (0)), .lit (.int .u8 (0)), .lit (.int .u8 (0)), .lit (.int .u8 (0)), .lit (.int .u8 (0)), .lit (.int .u8 (0)), .lit (.int .u8 (0)), .lit (.int .u8 (0)), .lit (.int .u8 (0)), .lit (.int .u8 (0)), .lit (.int .u8 (0)), .lit (.int .u8 (0)), .lit (.int .u8 (0)), .lit (.int .u8 (0)), .lit (.int .u8 (0))]), (7, .box [.lit (.int .u8 (0)), .lit (.int .u8 (0)), .lit (.int .u8 (0)), .lit (.int .u8 (0)), .lit (.int .u8 (0)), .lit (.int .u8 (0)), .lit (.int .u8 (0)), .lit (.int .u8 (0)), .lit (.int .u8 (0)), .lit (.int .u8 (0)), .lit (.int .u8 (0)), .lit (.int .u8 (0)), .lit (.int .u8 (0)), .lit (.int .u8 (0)), .lit (.int .u8 (0)), .lit (.int .u8 (0))])]⟩) (by kernel_rfl) (by kernel_rfl) ?_
  replace h := bindO h
  obtain ⟨y3, hl1, hK1⟩ := h
  refine TS_loopB (F_ref03_Derive_l1 a1 a2 a0) ⟨[(1, []), (2, []), (3, []), (6, []), (7, []), (8, [])], [(3, (3, [])), (6, (6, [])), (7, (7, []))]⟩ (fun (s1 : Int × (List Int)) => [(8, .c (.lit (.int .i64 (s1.1))))]) (fun (s1 : Int × (List Int)) => [(7, .box (arrS .u8 16 s1.2))]) (0, [0, 0, 0, 0, 0, 0, 0, 0, 0, 0, 0, 0, 0, 0, 0, 0]) y3 (.exit 0) (fun (b : (List Int)) => b) ⟨[(6, []), (7, [])], [(6, (6, [])), (7, (7, []))]⟩ (fun (b2 : (List Int)) => []) (fun (b2 : (List Int)) => [(7, .box (arrS .u8 16 b2))]) hl1 (by kernel_rfl) (by kernel_rfl) ?_ ?_
  · intro s1 x h hy1
    unfold F_ref03_Derive_l1 at h
    refine TS_go 6 ?_
    replace h := condO h
    rcases h with ⟨hb4, h⟩ | ⟨hb4, h⟩
    · refine TS_know 13 (b := true) hb4 (by kernel_rfl) (by kernel_rfl) ?_
      refine TS_T (by kernel_rfl) rfl ?_
      refine TS_go 6 ?_
      replace h := chkO h
      obtain ⟨hc5, h⟩ := h
      refine TS_s2bT 17 5 1 a1 hc5 rfl (by kernel_rfl) (by kernel_rfl) ?_
      refine TS_litNT 18 5 1 (ecI .u8) [] ([0] : List Int) (by kernel_rfl) (by kernel_rfl) ?_
      replace h := bindO h
      obtain ⟨l6, hl6, h⟩ := h
      refine TS_appT (d := 17) (e := 5) (sz := 1) (N := List.length (i8L a1)) (ecI .u8) (fun _ => by kernel_rfl) (l1 := (i8L a1)) (l2 := ([0] : List Int)) (c := .whole) hl6 (by kernel_rfl) (by kernel_rfl) ?_
      refine TS_go 1 ?_
      replace h := bindO h
      obtain ⟨v7, hv7, h⟩ := h
      refine TS_con [[2]] [(21, 900000)] none (okT_ref01_Append l6 a2 8 v7 hv7) (by kernel_rfl) (by kernel_rfl) (by kernel_rfl) ?_
      refine TS_go 3 ?_
      refine TS_draw (by kernel_rfl) ?_
      refine TD_go 4 ?_
      refine TD_litNT 26 5 1 (ecI .u8) [] ([IntKind.wrap .u8 s1.1] : List Int) (by kernel_rfl) (by kernel_rfl) ?_
      replace h := bindO h
      obtain ⟨l8, hl8, h⟩ := h
      refine TD_appT (d := 21) (e := 5) (sz := 1) (N := List.length v7) (ecI .u8) (fun _ => by kernel_rfl) (l1 := v7) (l2 := ([IntKind.wrap .u8 s1.1] : List Int)) (c := .whole) hl8 (by kernel_rfl) (by kernel_rfl) ?_
      replace h := bindO h
      obtain ⟨v9, hv9, h⟩ := h
      refine TD_call [[], [2]] (ok_ref03_Sum a0 l8 v9 hv9) (by kernel_rfl) (by kernel_rfl) ?_
      refine TD_go 1 ?_
      refine TD_end (by kernel_rfl) ?_
      refine TS_go 5 ?_
      refine TS_cut ⟨[(1, []), (2, []), (3, []), (6, []), (7, []), (8, []), (10, []), (11, [])], [(3, (3, [])), (6, (6, [])), (7, (7, []))]⟩ (.mk [.code (codeAt [1, 1, 0, 1, 0, 0, 1, 0, 0, 1, 1, 1, 0] (bodyOf Try.f67)), .blk 2, .blk 1, .code (codeAt [1, 1, 0, 1, 0, 0, 1, 1] (bodyOf Try.f67))] .normal ⟨[(1, .c (.lit (.string (bs8 a1)))), (2, .c (.lit (.int .u64 (a2)))), (3, .c (.box 3 0)), (6, .c (.box 6 0)), (7, .c (.box 7 0)), (8, .c (.lit (.int .i64 (s1.1)))), (10, .c (.lit (.int .u64 (v9)))), (11, .c (.lit (.int .i64 (0))))], [(3, .box [.lit (.int .u8 ((a0.getD 0 0))), .lit (.int .u8 ((a0.getD 1 0))), .lit (.int .u8 ((a0.getD 2 0))), .lit (.int .u8 ((a0.getD 3 0))), .lit (.int .u8 ((a0.getD 4 0))), .lit (.int .u8 ((a0.getD 5 0))), .lit (.int .u8 ((a0.getD 6 0))), .lit (.int .u8 ((a0.getD 7 0))), .lit (.int .u8 ((a0.getD 8 0))), .lit (.int .u8 ((a0.getD 9 0))), .lit (.int .u8 ((a0.getD 10 0))), .lit (.int .u8 ((a0.getD 11 0))), .lit (.int .u8 ((a0.getD 12 0))), .lit (.int .u8 ((a0.getD 13 0))), .lit (.int .u8 ((a0.getD 14 0))), .lit (.int .u8 ((a0.getD 15 0)))]), (6, .box [.lit (.int .u8 (0)), .lit (.int .u8 (0)), .lit (.int .u8 (0)), .lit (.int .u8 (0)), .lit (.int .u8 (0)), .lit (.int .u8 (0)), .lit (.int .u8 (0)), .lit (.int .u8 (0)), .lit (.int .u8 (0)), .lit (.int .u8 (0)), .lit (.int .u8 (0)), .lit (.int .u8 (0)), .lit (.int .u8 (0)), .lit (.int .u8 (0)), .lit (.int .u8 (0)), .lit (.int .u8 (0))]), (7, .box [.lit (.int .u8 ((s1.2.getD 0 0))), .lit (.int .u8 ((s1.2.getD 1 0))), .lit (.int .u8 ((s1.2.getD 2 0))), .lit (.int .u8 ((s1.2.getD 3 0))), .lit (.int .u8 ((s1.2.getD 4 0))), .lit (.int .u8 ((s1.2.getD 5 0))), .lit (.int .u8 ((s1.2.getD 6 0))), .lit (.int .u8 ((s1.2.getD 7 0))), .lit (.int .u8 ((s1.2.getD 8 0))), .lit (.int .u8 ((s1.2.getD 9 0))), .lit (.int .u8 ((s1.2.getD 10 0))), .lit (.int .u8 ((s1.2.getD 11 0))), .lit (.int .u8 ((s1.2.getD 12 0))), .lit (.int .u8 ((s1.2.getD 13 0))), .lit (.int .u8 ((s1.2.getD 14 0))), .lit (.int .u8 ((s1.2.getD 15 0)))])]⟩) (by kernel_rfl) (by kernel_rfl) ?_
      replace h := bindO h
      obtain ⟨y12, hl2, hK2⟩ := h
      refine TS_loopB (F_ref03_Derive_l2 s1 v9) ⟨[(1, []), (2, []), (3, []), (6, []), (7, []), (8, []), (10, []), (11, [])], [(3, (3, [])), (6, (6, [])), (7, (7, []))]⟩ (fun (s10 : Int × (List Int)) => [(11, .c (.lit (.int .i64 (s10.1))))]) (fun (s10 : Int × (List Int)) => [(7, .box (arrS .u8 16 s10.2))]) (0, s1.2) y12 (.exit 2) (fun (b : (List Int)) => b) ⟨[(1, []), (2, []), (3, []), (6, []), (7, []), (8, [])], [(3, (3, [])), (6, (6, [])), (7, (7, []))]⟩ (fun (b11 : (List Int)) => []) (fun (b11 : (List Int)) => [(7, .box (arrS .u8 16 b11))]) hl2 (by kernel_rfl) (by kernel_rfl) ?_ ?_
      · intro s10 x h hy2
        unfold F_ref03_Derive_l2 at h
        refine TS_go 6 ?_
        replace h := condO h
        rcases h with ⟨hb13, h⟩ | ⟨hb13, h⟩
        · refine TS_know 30 (b := true) hb13 (by kernel_rfl) (by kernel_rfl) ?_
          refine TS_T (by kernel_rfl) rfl ?_
          refine TS_go 12 ?_
          replace h := chkO h
          obtain ⟨hc14, h⟩ := h
          refine TS_num (op := .shr) (k := .u64) (k' := .u64) (m := v9) (i := IntKind.wrap .u64 (8 * (IntKind.wrap .u64 s10.1))) (of_decide_eq_true hc14) rfl (by simp) (by kernel_rfl) (by kernel_rfl) ?_
          refine TS_go 1 ?_
          replace h := chkO h
          obtain ⟨hc15, h⟩ := h
          refine TS_idxA 7 0 16 (i := IntKind.wrap .i64 ((IntKind.wrap .i64 (8 * s1.1)) + s10.1)) hc15 (by kernel_rfl) (by kernel_rfl) ?_
          refine TS_stA (k := .u8) (d := 7) 0 16 (i := IntKind.wrap .i64 ((IntKind.wrap .i64 (8 * s1.1)) + s10.1)) (v := IntKind.wrap .u8 (ishr .u64 v9 (IntKind.wrap .u64 (8 * (IntKind.wrap .u64 s10.1))))) s10.2 (pre := []) (post := []) hc15 (by kernel_rfl) (by kernel_rfl) (by kernel_rfl) ?_
          refine TS_go 7 ?_
          obtain rfl := Option.some.inj h
          exact TS_againB _ ⟨[(1, []), (2, []), (3, []), (6, []), (7, []), (8, []), (10, []), (11, [])], [(3, (3, [])), (6, (6, [])), (7, (7, []))]⟩ rfl (by kernel_rfl) (by kernel_rfl)
        · refine TS_know 30 (b := false) hb13 (by kernel_rfl) (by kernel_rfl) ?_
          refine TS_F (by kernel_rfl) rfl ?_
          refine TS_go 2 ?_
          obtain rfl := Option.some.inj h
          exact TS_brkB s10.2 ⟨[(1, []), (2, []), (3, []), (6, []), (7, []), (8, [])], [(3, (3, [])), (6, (6, [])), (7, (7, []))]⟩ rfl (by kernel_rfl) (by kernel_rfl) (by kernel_rfl)
      · intro b11 hb
        subst y12
        have h := hK2
        refine TS_go 7 ?_
        obtain rfl := Option.some.inj h
        exact TS_againB _ ⟨[(1, []), (2, []), (3, []), (6, []), (7, []), (8, [])], [(3, (3, [])), (6, (6, [])), (7, (7, []))]⟩ rfl (by kernel_rfl) (by kernel_rfl)
    · refine TS_know 13 (b := false) hb4 (by kernel_rfl) (by kernel_rfl) ?_
      refine TS_F (by kernel_rfl) rfl ?_
      refine TS_go 2 ?_
      obtain rfl := Option.some.inj h
      exact TS_brkB s1.2 ⟨[(6, []), (7, [])], [(6, (6, [])), (7, (7, []))]⟩ rfl (by kernel_rfl) (by kernel_rfl) (by kernel_rfl)
  · intro b2 hb
    subst y3
    have h := hK1
    refine TS_go 7 ?_
    obtain rfl := Option.some.inj h
    exact TS_ret (by kernel_rfl) (by kernel_rfl) (by kernel_rfl)

/-- multihop/multihopref29.Put -/
noncomputable def F_ref29_Put_N0_l1 (a1 : Int) (s1 : (List Int) × Int) : Option (((List Int) × Int) ⊕ ((List Int))) :=
  bif (decide (s1.2 ≥ 0)) then
    bif decide (0 ≤ (IntKind.wrap .u64 (IntKind.wrap .i64 (8 * s1.2)))) then
      (appO 1 s1.1 (Cut.app .whole ([IntKind.wrap .u8 (ishr .u64 a1 (IntKind.wrap .u64 (IntKind.wrap .i64 (8 * s1.2))))] : List Int))).bind fun l6 =>
      some (Sum.inl (l6, IntKind.wrap .i64 (s1.2 - 1)))
    else none
  else
    some (Sum.inr s1.1)
noncomputable def F_ref29_Put_N0 (a1 : Int) (a2 : Int) : Option ((List Int)) :=
  (loopO (F_ref29_Put_N0_l1 a1) (([] : List Int), IntKind.wrap .i64 (a2 - 1))).bind fun b2 =>
  some (b2)
set_option maxRecDepth 100000 in
set_option maxHeartbeats 40000000 in
theorem okT_ref29_Put_N0 (a1 : Int) (a2 : Int) (r : (List Int)) (h : F_ref29_Put_N0 a1 a2 = some r) : Con Try.prog 63 [.c (.lit (.slice none 0 0)), .c (.lit (.int .u64 (a1))), .c (.lit (.int .i64 (a2)))] [] (.c (.slc 1 900002 (List.length r) (List.map (ecI .u8) r))) [(900000, .spare 5 1 (List.length r))] := by
  unfold F_ref29_Put_N0 at h
  refine con_of [] [(900000, [])] 24 Try.func63 rfl rfl (by kernel_rfl) (fun K => ?_)
  refine TS_go 12 ?_
  refine TS_nilT 0 600000 5 1 (by kernel_rfl) ?_
  refine TS_cut ⟨[(0, []), (1, []), (7, [])], [(600000, (600000, []))]⟩ (.mk [.code (codeAt [1, 0, 1, 0] (bodyOf Try.f63)), .blk 0, .code (codeAt [1, 1] (bodyOf Try.f63))] .normal ⟨[(0, .c (.slc 1 600002 (List.length ([] : List Int)) (List.map (ecI .u8) ([] : List Int)))), (1, .c (.lit (.int .u64 (a1)))), (7, .c (.lit (.int .i64 (IntKind.wrap .i64 (a2 - 1)))))], [(600000, .spare 5 1 (List.length ([] : List Int)))]⟩) (by kernel_rfl) (by kernel_rfl) ?_
  replace h := bindO h
  obtain ⟨y3, hl1, hK1⟩ := h
  refine TS_loopB (F_ref29_Put_N0_l1 a1) ⟨[(0, []), (1, []), (7, [])], [(600000, (600000, []))]⟩ (fun (s1 : (List Int) × Int) => [(0, .c (.slc 1 600002 (List.length s1.1) (List.map (ecI .u8) s1.1))), (7, .c (.lit (.int .i64 (s1.2))))]) (fun (s1 : (List Int) × Int) => [(600000, .spare 5 1 (List.length s1.1))]) (([] : List Int), IntKind.wrap .i64 (a2 - 1)) y3 (.exit 0) (fun (b : (List Int)) => b) ⟨[(0, [])], [(600000, (600000, []))]⟩ (fun (b2 : (List Int)) => [(0, .c (.slc 1 600002 (List.length b2) (List.map (ecI .u8) b2)))]) (fun (b2 : (List Int)) => [(600000, .spare 5 1 (List.length b2))]) hl1 (by kernel_rfl) (by kernel_rfl) ?_ ?_
  · intro s1 x h hy1
    unfold F_ref29_Put_N0_l1 at h
    refine TS_go 6 ?_
    replace h := condO h
    rcases h with ⟨hb4, h⟩ | ⟨hb4, h⟩
    · refine TS_know 11 (b := true) hb4 (by kernel_rfl) (by kernel_rfl) ?_
      refine TS_T (by kernel_rfl) rfl ?_
      refine TS_go 9 ?_
      replace h := chkO h
      obtain ⟨hc5, h⟩ := h
      refine TS_num (op := .shr) (k := .u64) (k' := .u64) (m := a1) (i := IntKind.wrap .u64 (IntKind.wrap .i64 (8 * s1.2))) (of_decide_eq_true hc5) rfl (by simp) (by kernel_rfl) (by kernel_rfl) ?_
      refine TS_go 1 ?_
      refine TS_litNT 21 5 1 (ecI .u8) [] ([IntKind.wrap .u8 (ishr .u64 a1 (IntKind.wrap .u64 (IntKind.wrap .i64 (8 * s1.2))))] : List Int) (by kernel_rfl) (by kernel_rfl) ?_
      replace h := bindO h
      obtain ⟨l6, hl6, h⟩ := h
      refine TS_appT (d := 600000) (e := 5) (sz := 1) (N := List.length s1.1) (ecI .u8) (fun _ => by kernel_rfl) (l1 := s1.1) (l2 := ([IntKind.wrap .u8 (ishr .u64 a1 (IntKind.wrap .u64 (IntKind.wrap .i64 (8 * s1.2))))] : List Int)) (c := .whole) hl6 (by kernel_rfl) (by kernel_rfl) ?_
      refine TS_go 8 ?_
      obtain rfl := Option.some.inj h
      exact TS_againB _ ⟨[(0, []), (1, []), (7, [])], [(600000, (600000, []))]⟩ rfl (by kernel_rfl) (by kernel_rfl)
    · refine TS_know 11 (b := false) hb4 (by kernel_rfl) (by kernel_rfl) ?_
      refine TS_F (by kernel_rfl) rfl ?_
      refine TS_go 2 ?_
      obtain rfl := Option.some.inj h
      exact TS_brkB s1.1 ⟨[(0, [])], [(600000, (600000, []))]⟩ rfl (by kernel_rfl) (by kernel_rfl) (by kernel_rfl)
  · intro b2 hb
    subst y3
    have h := hK1
    refine TS_go 6 ?_
    refine TS_fitU ⟨[(6, [])], [(600000, (900000, []))]⟩ (by kernel_rfl) ?_
    refine TS_go 1 ?_
    obtain rfl := Option.some.inj h
    exact TS_ret (by kernel_rfl) (by kernel_rfl) (by kernel_rfl)
theorem ok_ref29_Put_N0 (a1 : Int) (a2 : Int) (r : (List Int)) (h : F_ref29_Put_N0 a1 a2 = some r) : Con Try.prog 63 [.c (.lit (.slice none 0 0)), .c (.lit (.int .u64 (a1))), .c (.lit (.int .i64 (a2)))] [] (.c (eS 1 (ecI .u8) (r))) [] :=
  con_drop [[2]] [] (okT_ref29_Put_N0 a1 a2 r h) (by kernel_rfl) (by kernel_rfl) (by kernel_rfl)

/-- multihop/multihopref03.Tag -/
noncomputable def F_ref03_Tag_l1 (a2 : Int) (s4 : Int × (List Int) × Int) : Option ((Int × (List Int) × Int) ⊕ ((List Int))) :=
  bif (decide (s4.2.2 < a2)) then
    (appO 1 s4.2.1 (Cut.app .whole ([IntKind.wrap .u8 s4.1] : List Int))).bind fun l8 =>
    some (Sum.inl (ishr .u64 s4.1 8, l8, IntKind.wrap .i64 (s4.2.2 + 1)))
  else
    some (Sum.inr s4.2.1)
noncomputable def F_ref03_Tag (a0 : List Int) (a1 : List Int) (a2 : Int) : Option ((List Int) × Bool) :=
  bif (decide (a2 < 1)) then
    some ((([] : List Int), false))
  else
    bif (decide (a2 > 8)) then
      some ((([] : List Int), false))
    else
      (F_ref03_Sum a0 a1).bind fun v3 =>
      (loopO (F_ref03_Tag_l1 a2) (v3, ([] : List Int), 0)).bind fun b5 =>
      some ((b5, true))
set_option maxRecDepth 100000 in
set_option maxHeartbeats 40000000 in
theorem okT_ref03_Tag (a0 : List Int) (a1 : List Int) (a2 : Int) (r : (List Int) × Bool) (h : F_ref03_Tag a0 a1 a2 = some r) : Con Try.prog 68 [.agg (arrS .u8 16 a0), .c (eS 1 (ecI .u8) (a1)), .c (.lit (.int .i64 (a2)))] [] (.tup [(false, [.slc 1 900002 (List.length r.1) (List.map (ecI .u8) r.1)]), (false, [.lit (.bool (r.2))])]) [(900000, .spare 5 1 (List.length r.1))] := by
  unfold F_ref03_Tag at h
  refine con_of [] [(900000, [])] 33 Try.func68 rfl rfl (by kernel_rfl) (fun K => ?_)
  refine TS_go 12 ?_
  replace h := condO h
  rcases h with ⟨hb1, h⟩ | ⟨hb1, h⟩
  · refine TS_know 12 (b := true) hb1 (by kernel_rfl) (by kernel_rfl) ?_
    refine TS_know 13 (b := true) hb1 (by kernel_rfl) (by kernel_rfl) ?_
    refine TS_go 4 ?_
    refine TS_T (by kernel_rfl) rfl ?_
    refine TS_go 5 ?_
    refine TS_nilT 6 600000 5 1 (by kernel_rfl) ?_
    refine TS_fitU ⟨[(6, []), (7, [])], [(600000, (900000, []))]⟩ (by kernel_rfl) ?_
    refine TS_go 2 ?_
    obtain rfl := Option.some.inj h
    exact TS_ret (by kernel_rfl) (by kernel_rfl) (by kernel_rfl)
  · refine TS_know 12 (b := false) hb1 (by kernel_rfl) (by kernel_rfl) ?_
    refine TS_know 13 (b := false) hb1 (by kernel_rfl) (by kernel_rfl) ?_
    refine TS_go 4 ?_
    replace h := condO h
    rcases h with ⟨hb2, h⟩ | ⟨hb2, h⟩
    · refine TS_know 15 (b := true) hb2 (by kernel_rfl) (by kernel_rfl) ?_
      refine TS_know 16 (b := true) hb2 (by kernel_rfl) (by kernel_rfl) ?_
      refine TS_T (by kernel_rfl) rfl ?_
      refine TS_go 5 ?_
      refine TS_nilT 6 600000 5 1 (by kernel_rfl) ?_
      refine TS_fitU ⟨[(6, []), (7, [])], [(600000, (900000, []))]⟩ (by kernel_rfl) ?_
      refine TS_go 2 ?_
      obtain rfl := Option.some.inj h
      exact TS_ret (by kernel_rfl) (by kernel_rfl) (by kernel_rfl)
    · refine TS_know 15 (b := false) hb2 (by kernel_rfl) (by kernel_rfl) ?_
      refine TS_know 16 (b := false) hb2 (by kernel_rfl) (by kernel_rfl) ?_
      refine TS_F (by kernel_rfl) rfl ?_
      refine TS_go 5 ?_
      replace h := bindO h
      obtain ⟨v3, hv3, h⟩ := h
      refine TS_call [] (ok_ref03_Sum a0 a1 v3 hv3) (by kernel_rfl) (by kernel_rfl) ?_
      refine TS_go 12 ?_
      refine TS_nilT 9 600000 5 1 (by kernel_rfl) ?_
      refine TS_cut ⟨[(2, []), (8, []), (9, []), (10, [])], [(600000, (600000, []))]⟩ (.mk [.code (codeAt [1, 1, 1, 1, 0, 1, 0] (bodyOf Try.f68)), .blk 0, .code (codeAt [1, 1, 1, 1, 1] (bodyOf Try.f68))] .normal ⟨[(2, .c (.lit (.int .i64 (a2)))), (8, .c (.lit (.int .u64 (v3)))), (9, .c (.slc 1 600002 (List.length ([] : List Int)) (List.map (ecI .u8) ([] : List Int)))), (10, .c (.lit (.int .i64 (0))))], [(600000, .spare 5 1 (List.length ([] : List Int)))]⟩) (by kernel_rfl) (by kernel_rfl) ?_
      replace h := bindO h
      obtain ⟨y6, hl1, hK1⟩ := h
      refine TS_loopB (F_ref03_Tag_l1 a2) ⟨[(2, []), (8, []), (9, []), (10, [])], [(600000, (600000, []))]⟩ (fun (s4 : Int × (List Int) × Int) => [(8, .c (.lit (.int .u64 (s4.1)))), (9, .c (.slc 1 600002 (List.length s4.2.1) (List.map (ecI .u8) s4.2.1))), (10, .c (.lit (.int .i64 (s4.2.2))))]) (fun (s4 : Int × (List Int) × Int) => [(600000, .spare 5 1 (List.length s4.2.1))]) (v3, ([] : List Int), 0) y6 (.exit 0) (fun (b : (List Int)) => b) ⟨[(9, [])], [(600000, (600000, []))]⟩ (fun (b5 : (List Int)) => [(9, .c (.slc 1 600002 (List.length b5) (List.map (ecI .u8) b5)))]) (fun (b5 : (List Int)) => [(600000, .spare 5 1 (List.length b5))]) hl1 (by kernel_rfl) (by kernel_rfl) ?_ ?_
      · intro s4 x h hy1
        unfold F_ref03_Tag_l1 at h
        refine TS_go 7 ?_
        replace h := condO h
        rcases h with ⟨hb7, h⟩ | ⟨hb7, h⟩
        · refine TS_know 22 (b := true) hb7 (by kernel_rfl) (by kernel_rfl) ?_
          refine TS_T (by kernel_rfl) rfl ?_
          refine TS_go 8 ?_
          refine TS_litNT 28 5 1 (ecI .u8) [] ([IntKind.wrap .u8 s4.1] : List Int) (by kernel_rfl) (by kernel_rfl) ?_
          replace h := bindO h
          obtain ⟨l8, hl8, h⟩ := h
          refine TS_appT (d := 600000) (e := 5) (sz := 1) (N := List.length s4.2.1) (ecI .u8) (fun _ => by kernel_rfl) (l1 := s4.2.1) (l2 := ([IntKind.wrap .u8 s4.1] : List Int)) (c := .whole) hl8 (by kernel_rfl) (by kernel_rfl) ?_
          refine TS_go 13 ?_
          obtain rfl := Option.some.inj h
          exact TS_againB _ ⟨[(2, []), (8, []), (9, []), (10, [])], [(600000, (600000, []))]⟩ rfl (by kernel_rfl) (by kernel_rfl)
        · refine TS_know 22 (b := false) hb7 (by kernel_rfl) (by kernel_rfl) ?_
          refine TS_F (by kernel_rfl) rfl ?_
          refine TS_go 2 ?_
          obtain rfl := Option.some.inj h
          exact TS_brkB s4.2.1 ⟨[(9, [])], [(600000, (600000, []))]⟩ rfl (by kernel_rfl) (by kernel_rfl) (by kernel_rfl)
      · intro b5 hb
        subst y6
        have h := hK1
        refine TS_go 7 ?_
        refine TS_fitU ⟨[(6, []), (7, [])], [(600000, (900000, []))]⟩ (by kernel_rfl) ?_
        refine TS_go 1 ?_
        obtain rfl := Option.some.inj h
        exact TS_ret (by kernel_rfl) (by kernel_rfl) (by kernel_rfl)
theorem ok_ref03_Tag (a0 : List Int) (a1 : List Int) (a2 : Int) (r : (List Int) × Bool) (h : F_ref03_Tag a0 a1 a2 = some r) : Con Try.prog 68 [.agg (arrS .u8 16 a0), .c (eS 1 (ecI .u8) (a1)), .c (.lit (.int .i64 (a2)))] [] (.tup [(false, [eS 1 (ecI .u8) (r.1)]), (false, [.lit (.bool (r.2))])]) [] :=
  con_drop [[2]] [] (okT_ref03_Tag a0 a1 a2 r h) (by kernel_rfl) (by kernel_rfl) (by kernel_rfl)

/-- multihop/multihopref39.tag -/
noncomputable def F_ref39_tag_l1 (v4 : (List Int) × Bool) (s5 : Int × (List Int)) : Option ((Int × (List Int)) ⊕ ((List Int))) :=
  bif (decide (s5.1 < 8)) then
    bif (decide (s5.1 < (List.length v4.1 : Int))) then
      (idx v4.1 s5.1).bind fun e10 =>
      bif decide ((0 : Int) ≤ s5.1 ∧ s5.1 < (8 : Int)) then
        some (Sum.inl (IntKind.wrap .i64 (s5.1 + 1), (setA 8 s5.2 (Int.toNat s5.1) e10)))
      else none
    else
      some (Sum.inr s5.2)
  else
    some (Sum.inr s5.2)
noncomputable def F_ref39_tag (a0 : List Int) (a1 : Int) (a2 : List Int) : Option ((List Int)) :=
  (F_ref03_Derive a0 ([115, 101, 116, 116, 105, 110, 103, 115] : List UInt8) (IntKind.wrap .u64 a1)).bind fun v1 =>
  (F_ref29_Put_N0 (IntKind.wrap .u64 a1) 4).bind fun v2 =>
  (appO 1 v2 (Cut.app .whole a2)).bind fun l3 =>
  (F_ref03_Tag v1 l3 8).bind fun v4 =>
  (loopO (F_ref39_tag_l1 v4) (0, [0, 0, 0, 0, 0, 0, 0, 0])).bind fun b6 =>
  some (b6)
set_option maxRecDepth 100000 in
set_option maxHeartbeats 40000000 in
theorem ok_ref39_tag (a0 : List Int) (a1 : Int) (a2 : List Int) (r : (List Int)) (h : F_ref39_tag a0 a1 a2 = some r) : Con Try.prog 48 [.agg (arrS .u8 16 a0), .c (.lit (.int .i64 (a1))), .c (eS 1 (ecI .u8) (a2))] [] (.agg (arrS .u8 8 r)) [] := by
  unfold F_ref39_tag at h
  refine con_of [] [] 43 Try.func48 rfl rfl (by kernel_rfl) (fun K => ?_)
  refine TS_go 10 ?_
  replace h := bindO h
  obtain ⟨v1, hv1, h⟩ := h
  refine TS_call [] (ok_ref03_Derive a0 ([115, 101, 116, 116, 105, 110, 103, 115] : List UInt8) (IntKind.wrap .u64 a1) v1 hv1) (by kernel_rfl) (by kernel_rfl) ?_
  refine TS_go 4 ?_
  refine TS_draw (by kernel_rfl) ?_
  refine TD_go 3 ?_
  replace h := bindO h
  obtain ⟨v2, hv2, h⟩ := h
  refine TD_conX (d := 20) (e := 900000) [] (okT_ref29_Put_N0 (IntKind.wrap .u64 a1) 4 v2 hv2) (by kernel_rfl) (by kernel_rfl) ?_
  refine TD_go 1 ?_
  replace h := bindO h
  obtain ⟨l3, hl3, h⟩ := h
  refine TD_appT (d := 20) (e := 5) (sz := 1) (N := List.length v2) (ecI .u8) (fun _ => by kernel_rfl) (l1 := v2) (l2 := a2) (c := .whole) hl3 (by kernel_rfl) (by kernel_rfl) ?_
  replace h := bindO h
  obtain ⟨v4, hv4, h⟩ := h
  refine TD_conX (d := 23) (e := 900000) [[], [2]] (okT_ref03_Tag v1 l3 8 v4 hv4) (by kernel_rfl) (by kernel_rfl) ?_
  refine TD_go 5 ?_
  refine TD_end (by kernel_rfl) ?_
  refine TS_go 10 ?_
  refine TS_cut ⟨[(6, []), (8, []), (10, []), (11, [])], [(6, (6, [])), (23, (23, [])), (10, (10, []))]⟩ (.mk [.code (codeAt [1, 1, 1, 1, 0, 1, 0] (bodyOf Try.f48)), .blk 0, .code (codeAt [1, 1, 1, 1, 1] (bodyOf Try.f48))] .normal ⟨[(6, .c (.box 6 0)), (8, .c (.slc 1 25 (List.length v4.1) (List.map (ecI .u8) v4.1))), (10, .c (.box 10 0)), (11, .c (.lit (.int .i64 (0))))], [(6, .box [.lit (.int .u8 (0)), .lit (.int .u8 (0)), .lit (.int .u8 (0)), .lit (.int .u8 (0)), .lit (.int .u8 (0)), .lit (.int .u8 (0)), .lit (.int .u8 (0)), .lit (.int .u8 (0))]), (23, .spare 5 1 (List.length v4.1)), (10, .box [.lit (.int .u8 (0)), .lit (.int .u8 (0)), .lit (.int .u8 (0)), .lit (.int .u8 (0)), .lit (.int .u8 (0)), .lit (.int .u8 (0)), .lit (.int .u8 (0)), .lit (.int .u8 (0))])]⟩) (by kernel_rfl) (by kernel_rfl) ?_
  replace h := bindO h
  obtain ⟨y7, hl1, hK1⟩ := h
  refine TS_loopB (F_ref39_tag_l1 v4) ⟨[(6, []), (8, []), (10, []), (11, [])], [(6, (6, [])), (23, (23, [])), (10, (10, []))]⟩ (fun (s5 : Int × (List Int)) => [(11, .c (.lit (.int .i64 (s5.1))))]) (fun (s5 : Int × (List Int)) => [(10, .box (arrS .u8 8 s5.2))]) (0, [0, 0, 0, 0, 0, 0, 0, 0]) y7 (.exit 0) (fun (b : (List Int)) => b) ⟨[(6, []), (10, [])], [(6, (6, [])), (10, (10, []))]⟩ (fun (b6 : (List Int)) => []) (fun (b6 : (List Int)) => [(10, .box (arrS .u8 8 b6))]) hl1 (by kernel_rfl) (by kernel_rfl) ?_ ?_
  · intro s5 x h hy1
    unfold F_ref39_tag_l1 at h
    refine TS_go 6 ?_
    replace h := condO h
    rcases h with ⟨hb8, h⟩ | ⟨hb8, h⟩
    · refine TS_know 27 (b := true) hb8 (by kernel_rfl) (by kernel_rfl) ?_
      refine TS_know 28 (b := true) hb8 (by kernel_rfl) (by kernel_rfl) ?_
      refine TS_go 6 ?_
      replace h := condO h
      rcases h with ⟨hb9, h⟩ | ⟨hb9, h⟩
      · refine TS_know 32 (b := true) hb9 (by kernel_rfl) (by kernel_rfl) ?_
        refine TS_know 33 (b := true) hb9 (by kernel_rfl) (by kernel_rfl) ?_
        refine TS_T (by kernel_rfl) rfl ?_
        refine TS_go 7 ?_
        replace h := bindO h
        obtain ⟨e10, he10, h⟩ := h
        refine TS_idx (ecI .u8) he10 (by kernel_rfl) (by kernel_rfl) ?_
        refine TS_go 1 ?_
        replace h := chkO h
        obtain ⟨hc11, h⟩ := h
        refine TS_idxA 10 0 8 (i := s5.1) hc11 (by kernel_rfl) (by kernel_rfl) ?_
        refine TS_stA (k := .u8) (d := 10) 0 8 (i := s5.1) (v := e10) s5.2 (pre := []) (post := []) hc11 (by kernel_rfl) (by kernel_rfl) (by kernel_rfl) ?_
        refine TS_go 7 ?_
        obtain rfl := Option.some.inj h
        exact TS_againB _ ⟨[(6, []), (8, []), (10, []), (11, [])], [(6, (6, [])), (23, (23, [])), (10, (10, []))]⟩ rfl (by kernel_rfl) (by kernel_rfl)
      · refine TS_know 32 (b := false) hb9 (by kernel_rfl) (by kernel_rfl) ?_
        refine TS_know 33 (b := false) hb9 (by kernel_rfl) (by kernel_rfl) ?_
        refine TS_F (by kernel_rfl) rfl ?_
        refine TS_go 2 ?_
        obtain rfl := Option.some.inj h
        exact TS_brkB s5.2 ⟨[(6, []), (10, [])], [(6, (6, [])), (10, (10, []))]⟩ rfl (by kernel_rfl) (by kernel_rfl) (by kernel_rfl)
    · refine TS_know 27 (b := false) hb8 (by kernel_rfl) (by kernel_rfl) ?_
      refine TS_know 28 (b := false) hb8 (by kernel_rfl) (by kernel_rfl) ?_
      refine TS_go 6 ?_
      refine TS_F (by kernel_rfl) rfl ?_
      refine TS_go 2 ?_
      obtain rfl := Option.some.inj h
      exact TS_brkB s5.2 ⟨[(6, []), (10, [])], [(6, (6, [])), (10, (10, []))]⟩ rfl (by kernel_rfl) (by kernel_rfl) (by kernel_rfl)
  · intro b6 hb
    subst y7
    have h := hK1
    refine TS_go 7 ?_
    obtain rfl := Option.some.inj h
    exact TS_ret (by kernel_rfl) (by kernel_rfl) (by kernel_rfl)

/-- multihop/multihopref39.Copy -/
noncomputable def F_ref39_Copy (a0 : S_Settings) : Option (S_Settings) :=
  (appO 1 ([] : List Int) (Cut.app .whole a0.Data)).bind fun l1 =>
  some ((S_Settings.mk a0.Version l1 a0.Tag))
set_option maxRecDepth 100000 in
set_option maxHeartbeats 40000000 in
theorem ok_ref39_Copy (a0 : S_Settings) (r : S_Settings) (h : F_ref39_Copy a0 = some r) : Con Try.prog 50 [.agg (S_Settings.cs a0)] [] (.agg (S_Settings.cs r)) [] := by
  unfold F_ref39_Copy at h
  refine con_of [[0, 2]] [] 8 Try.func50 rfl rfl (by kernel_rfl) (fun K => ?_)
  refine TS_go 9 ?_
  replace h := bindO h
  obtain ⟨l1, hl1, h⟩ := h
  refine TS_appNT 5 5 1 (ecI .u8) (fun _ => by kernel_rfl) (l2 := a0.Data) .whole hl1 (by kernel_rfl) (by kernel_rfl) ?_
  refine TS_go 9 ?_
  obtain rfl := Option.some.inj h
  exact TS_ret (by kernel_rfl) (by kernel_rfl) (by kernel_rfl)

/-- multihop/multihopref39.Sign -/
noncomputable def F_ref39_Sign (a0 : List Int) (a1 : Int) (a2 : List Int) : Option (S_Settings × Int) :=
  bif (decide (a1 < 1)) then
    some (((S_Settings.mk 0 ([] : List Int) [0, 0, 0, 0, 0, 0, 0, 0]), 2))
  else
    bif (decide (a1 > 1073741824)) then
      some (((S_Settings.mk 0 ([] : List Int) [0, 0, 0, 0, 0, 0, 0, 0]), 2))
    else
      bif (decide ((List.length a2 : Int) > 64)) then
        some (((S_Settings.mk 0 ([] : List Int) [0, 0, 0, 0, 0, 0, 0, 0]), 3))
      else
        (F_ref39_tag a0 a1 a2).bind fun v4 =>
        (F_ref39_Copy (S_Settings.mk a1 a2 v4)).bind fun v5 =>
        some ((v5, 0))
set_option maxRecDepth 100000 in
set_option maxHeartbeats 40000000 in
theorem ok_ref39_Sign (a0 : List Int) (a1 : Int) (a2 : List Int) (r : S_Settings × Int) (h : F_ref39_Sign a0 a1 a2 = some r) : Con Try.prog 19 [.agg (arrS .u8 16 a0), .c (.lit (.int .i64 (a1))), .c (eS 1 (ecI .u8) (a2))] [] (.tup [(true, S_Settings.cs r.1), (false, [.lit (.int .i64 (r.2))])]) [] := by
  unfold F_ref39_Sign at h
  refine con_of [[0, 2]] [] 27 Try.func19 rfl rfl (by kernel_rfl) (fun K => ?_)
  refine TS_go 12 ?_
  replace h := condO h
  rcases h with ⟨hb1, h⟩ | ⟨hb1, h⟩
  · refine TS_know 9 (b := true) hb1 (by kernel_rfl) (by kernel_rfl) ?_
    refine TS_know 10 (b := true) hb1 (by kernel_rfl) (by kernel_rfl) ?_
    refine TS_go 4 ?_
    refine TS_T (by kernel_rfl) rfl ?_
    refine TS_go 8 ?_
    obtain rfl := Option.some.inj h
    exact TS_ret (by kernel_rfl) (by kernel_rfl) (by kernel_rfl)
  · refine TS_know 9 (b := false) hb1 (by kernel_rfl) (by kernel_rfl) ?_
    refine TS_know 10 (b := false) hb1 (by kernel_rfl) (by kernel_rfl) ?_
    refine TS_go 4 ?_
    replace h := condO h
    rcases h with ⟨hb2, h⟩ | ⟨hb2, h⟩
    · refine TS_know 12 (b := true) hb2 (by kernel_rfl) (by kernel_rfl) ?_
      refine TS_know 13 (b := true) hb2 (by kernel_rfl) (by kernel_rfl) ?_
      refine TS_T (by kernel_rfl) rfl ?_
      refine TS_go 8 ?_
      obtain rfl := Option.some.inj h
      exact TS_ret (by kernel_rfl) (by kernel_rfl) (by kernel_rfl)
    · refine TS_know 12 (b := false) hb2 (by kernel_rfl) (by kernel_rfl) ?_
      refine TS_know 13 (b := false) hb2 (by kernel_rfl) (by kernel_rfl) ?_
      refine TS_F (by kernel_rfl) rfl ?_
      refine TS_go 8 ?_
      replace h := condO h
      rcases h with ⟨hb3, h⟩ | ⟨hb3, h⟩
      · refine TS_know 17 (b := true) hb3 (by kernel_rfl) (by kernel_rfl) ?_
        refine TS_T (by kernel_rfl) rfl ?_
        refine TS_go 8 ?_
        obtain rfl := Option.some.inj h
        exact TS_ret (by kernel_rfl) (by kernel_rfl) (by kernel_rfl)
      · refine TS_know 17 (b := false) hb3 (by kernel_rfl) (by kernel_rfl) ?_
        refine TS_F (by kernel_rfl) rfl ?_
        refine TS_go 8 ?_
        replace h := bindO h
        obtain ⟨v4, hv4, h⟩ := h
        refine TS_call [] (ok_ref39_tag a0 a1 a2 v4 hv4) (by kernel_rfl) (by kernel_rfl) ?_
        refine TS_go 1 ?_
        replace h := bindO h
        obtain ⟨v5, hv5, h⟩ := h
        refine TS_call [] (ok_ref39_Copy (S_Settings.mk a1 a2 v4) v5 hv5) (by kernel_rfl) (by kernel_rfl) ?_
        refine TS_go 4 ?_
        obtain rfl := Option.some.inj h
        exact TS_ret (by kernel_rfl) (by kernel_rfl) (by kernel_rfl)

/-- multihop/multihopworld.Settings -/
noncomputable def F_world_Settings_j1  (v4 : S_multihopmade_Tape × S_Settings) : Option (S_Settings × S_multihopmade_Tape) :=
  some ((v4.2, v4.1))
noncomputable def F_world_Settings (a0 : S_multihopmade_Tape) (a1 : List Int) : Option (S_Settings × S_multihopmade_Tape) :=
  (F_made_Tape_Next a0 4).bind fun v1 =>
  (F_made_Tape_Bytes v1.2 8).bind fun v2 =>
  (F_ref39_Sign a1 (IntKind.wrap .i64 (1 + v1.1)) v2.1).bind fun v3 =>
  (F_made_Tape_Next v2.2 6).bind fun v5 =>
  bif (v5.1 == 0) then
    some (((S_Settings.mk 0 ([] : List Int) [0, 0, 0, 0, 0, 0, 0, 0]), v5.2))
  else
    bif (v5.1 == 1) then
      (F_made_Tape_Next v5.2 8).bind fun v8 =>
      bif decide ((0 : Int) ≤ v8.1 ∧ v8.1 < (8 : Int)) then
        (F_made_Tape_Next v8.2 8).bind fun v10 =>
        bif decide (0 ≤ (IntKind.wrap .u64 v10.1)) then
          bif decide ((0 : Int) ≤ v8.1 ∧ v8.1 < (8 : Int)) then
            (F_world_Settings_j1) (v10.2, (S_Settings.mk v3.1.Version v3.1.Data (setA 8 v3.1.Tag (Int.toNat v8.1) (ixor .u8 (List.getD v3.1.Tag (Int.toNat v8.1) 0) (ishl .u8 1 (IntKind.wrap .u64 v10.1))))))
          else none
        else none
      else none
    else
      (F_world_Settings_j1) (v5.2, v3.1)
set_option maxRecDepth 100000 in
set_option maxHeartbeats 40000000 in
theorem ok_world_Settings (a0 : S_multihopmade_Tape) (a1 : List Int) (r : S_Settings × S_multihopmade_Tape) (h : F_world_Settings a0 a1 = some r) : Con Try.prog 12 [.c (.box 1000000 0), .agg (arrS .u8 16 a1)] [(1000000, .box (S_multihopmade_Tape.cs a0))] (.agg (S_Settings.cs r.1)) [(1000000, .box (S_multihopmade_Tape.cs r.2))] := by
  unfold F_world_Settings at h
  refine con_of [[0, 2]] [(1000000, [2])] 37 Try.func12 rfl rfl (by kernel_rfl) (fun K => ?_)
  refine TS_go 6 ?_
  refine TS_draw (by kernel_rfl) ?_
  refine TD_go 2 ?_
  replace h := bindO h
  obtain ⟨v1, hv1, h⟩ := h
  refine TD_con (_h := []) (_h' := []) [] 1000000 0 [.slc 1 0 (List.length a0.l) (List.map (ecI .i64) a0.l), .lit (.int .i64 (a0.at_))] _ _ (ok_made_Tape_Next a0 4 v1 hv1) (by kernel_rfl) (by kernel_rfl) (by kernel_rfl) (by kernel_rfl) ?_
  refine TD_go 2 ?_
  replace h := bindO h
  obtain ⟨v2, hv2, h⟩ := h
  refine TD_con (_h := []) (_h' := []) [] 1000000 0 [.slc 1 0 (List.length v1.2.l) (List.map (ecI .i64) v1.2.l), .lit (.int .i64 (v1.2.at_))] _ _ (ok_made_Tape_Bytes v1.2 8 v2 hv2) (by kernel_rfl) (by kernel_rfl) (by kernel_rfl) (by kernel_rfl) ?_
  replace h := bindO h
  obtain ⟨v3, hv3, h⟩ := h
  refine TD_call [] (ok_ref39_Sign a1 (IntKind.wrap .i64 (1 + v1.1)) v2.1 v3 hv3) (by kernel_rfl) (by kernel_rfl) ?_
  refine TD_go 6 ?_
  refine TD_end (by kernel_rfl) ?_
  refine TS_cut ⟨[(0, []), (4, []), (5, [])], [(1000000, (1000000, [])), (4, (4, [])), (5, (5, []))]⟩ (.mk [.code (codeAt [1, 1] (bodyOf Try.f12))] .normal ⟨[(0, .c (.box 1000000 0)), (4, .c (.box 4 0)), (5, .c (.box 5 0))], [(1000000, .box [.slc 1 0 (List.length v2.2.l) (List.map (ecI .i64) v2.2.l), .lit (.int .i64 (v2.2.at_))]), (4, .box [.lit (.int .i64 (0)), .lit (.slice none 0 0), .lit (.int .u8 (0)), .lit (.int .u8 (0)), .lit (.int .u8 (0)), .lit (.int .u8 (0)), .lit (.int .u8 (0)), .lit (.int .u8 (0)), .lit (.int .u8 (0)), .lit (.int .u8 (0))]), (5, .box [.lit (.int .i64 (v3.1.Version)), .slc 1 0 (List.length v3.1.Data) (List.map (ecI .u8) v3.1.Data), .lit (.int .u8 ((v3.1.Tag.getD 0 0))), .lit (.int .u8 ((v3.1.Tag.getD 1 0))), .lit (.int .u8 ((v3.1.Tag.getD 2 0))), .lit (.int .u8 ((v3.1.Tag.getD 3 0))), .lit (.int .u8 ((v3.1.Tag.getD 4 0))), .lit (.int .u8 ((v3.1.Tag.getD 5 0))), .lit (.int .u8 ((v3.1.Tag.getD 6 0))), .lit (.int .u8 ((v3.1.Tag.getD 7 0)))])]⟩) (by kernel_rfl) (by kernel_rfl) ?_
  refine TS_joinB ⟨[(4, []), (5, [])], [(1000000, (1000000, [])), (4, (4, [])), (5, (5, []))]⟩ (fun (v4 : S_multihopmade_Tape × S_Settings) => []) (fun (v4 : S_multihopmade_Tape × S_Settings) => [(1000000, .box (S_multihopmade_Tape.cs v4.1)), (5, .box (S_Settings.cs v4.2))]) (F_world_Settings_j1) r ?_ ?_
  · clear h
    intro v4 h
    unfold F_world_Settings_j1 at h
    refine TS_go 6 ?_
    obtain rfl := Option.some.inj h
    exact TS_ret (by kernel_rfl) (by kernel_rfl) (by kernel_rfl)
  · refine TS_go 3 ?_
    replace h := bindO h
    obtain ⟨v5, hv5, h⟩ := h
    refine TS_con [] [] (some (1000000, 0)) (ok_made_Tape_Next v2.2 6 v5 hv5) (by kernel_rfl) (by kernel_rfl) (by kernel_rfl) ?_
    refine TS_go 7 ?_
    replace h := condO h
    rcases h with ⟨hb6, h⟩ | ⟨hb6, h⟩
    · refine TS_know 20 (b := true) hb6 (by kernel_rfl) (by kernel_rfl) ?_
      refine TS_know 19 (b := true) hb6 (by kernel_rfl) (by kernel_rfl) ?_
      refine TS_T (by kernel_rfl) rfl ?_
      refine TS_go 7 ?_
      refine TS_outJ (by kernel_rfl) ?_
      obtain rfl := Option.some.inj h
      exact TS_ret (by kernel_rfl) (by kernel_rfl) (by kernel_rfl)
    · refine TS_know 20 (b := false) hb6 (by kernel_rfl) (by kernel_rfl) ?_
      refine TS_know 19 (b := false) hb6 (by kernel_rfl) (by kernel_rfl) ?_
      refine TS_F (by kernel_rfl) rfl ?_
      refine TS_go 5 ?_
      replace h := condO h
      rcases h with ⟨hb7, h⟩ | ⟨hb7, h⟩
      · refine TS_know 23 (b := true) hb7 (by kernel_rfl) (by kernel_rfl) ?_
        refine TS_know 22 (b := true) hb7 (by kernel_rfl) (by kernel_rfl) ?_
        refine TS_T (by kernel_rfl) rfl ?_
        refine TS_draw (by kernel_rfl) ?_
        refine TD_go 1 ?_
        replace h := bindO h
        obtain ⟨v8, hv8, h⟩ := h
        refine TD_con (_h := []) (_h' := []) [] 1000000 0 [.slc 1 0 (List.length v5.2.l) (List.map (ecI .i64) v5.2.l), .lit (.int .i64 (v5.2.at_))] _ _ (ok_made_Tape_Next v5.2 8 v8 hv8) (by kernel_rfl) (by kernel_rfl) (by kernel_rfl) (by kernel_rfl) ?_
        refine TD_go 1 ?_
        replace h := chkO h
        obtain ⟨hc9, h⟩ := h
        refine TD_idxA 5 2 8 (i := v8.1) hc9 (by kernel_rfl) (by kernel_rfl) ?_
        refine TD_ldA .u8 2 8 (i := v8.1) v3.1.Tag hc9 (by kernel_rfl) (by kernel_rfl) ?_
        refine TD_go 1 ?_
        replace h := bindO h
        obtain ⟨v10, hv10, h⟩ := h
        refine TD_con (_h := []) (_h' := []) [] 1000000 0 [.slc 1 0 (List.length v8.2.l) (List.map (ecI .i64) v8.2.l), .lit (.int .i64 (v8.2.at_))] _ _ (ok_made_Tape_Next v8.2 8 v10 hv10) (by kernel_rfl) (by kernel_rfl) (by kernel_rfl) (by kernel_rfl) ?_
        refine TD_go 1 ?_
        replace h := chkO h
        obtain ⟨hc11, h⟩ := h
        refine TD_num (op := .shl) (k := .u8) (k' := .u64) (m := 1) (i := IntKind.wrap .u64 v10.1) (of_decide_eq_true hc11) rfl (by simp) (by kernel_rfl) (by kernel_rfl) ?_
        refine TD_go 2 ?_
        replace h := chkO h
        obtain ⟨hc12, h⟩ := h
        refine TD_idxA 5 2 8 (i := v8.1) hc12 (by kernel_rfl) (by kernel_rfl) ?_
        refine TD_stA (k := .u8) (d := 5) 2 8 (i := v8.1) (v := ixor .u8 (List.getD v3.1.Tag (Int.toNat v8.1) 0) (ishl .u8 1 (IntKind.wrap .u64 v10.1))) v3.1.Tag (pre := [.lit (.int .i64 (v3.1.Version)), .slc 1 0 (List.length v3.1.Data) (List.map (ecI .u8) v3.1.Data)]) (post := []) hc12 (by kernel_rfl) (by kernel_rfl) (by kernel_rfl) ?_
        refine TD_end (by kernel_rfl) ?_
        refine TS_go 1 ?_
        exact TS_meet (v10.2, (S_Settings.mk v3.1.Version v3.1.Data (setA 8 v3.1.Tag (Int.toNat v8.1) (ixor .u8 (List.getD v3.1.Tag (Int.toNat v8.1) 0) (ishl .u8 1 (IntKind.wrap .u64 v10.1)))))) ⟨[(4, []), (5, [])], [(1000000, (1000000, [])), (4, (4, [])), (5, (5, []))]⟩ h (by kernel_rfl) (by kernel_rfl)
      · refine TS_know 23 (b := false) hb7 (by kernel_rfl) (by kernel_rfl) ?_
        refine TS_know 22 (b := false) hb7 (by kernel_rfl) (by kernel_rfl) ?_
        refine TS_F (by kernel_rfl) rfl ?_
        refine TS_go 2 ?_
        exact TS_meet (v5.2, v3.1) ⟨[(4, []), (5, [])], [(1000000, (1000000, [])), (4, (4, [])), (5, (5, []))]⟩ h (by kernel_rfl) (by kernel_rfl)

/-- multihop/multihopref39.Valid -/
noncomputable def F_ref39_Valid (a0 : S_Settings) : Option (Bool) :=
  bif (decide (a0.Version < 0)) then
    some (false)
  else
    bif (decide (a0.Version > 1073741824)) then
      some (false)
    else
      bif (decide ((List.length a0.Data : Int) > 64)) then
        some (false)
      else
        bif (decide (a0.Version > 0)) then
          some (true)
        else
          bif ((List.length a0.Data : Int) == 0) then
            some ((arrEq 8 a0.Tag [0, 0, 0, 0, 0, 0, 0, 0]))
          else
            some (false)
set_option maxRecDepth 100000 in
set_option maxHeartbeats 40000000 in
theorem ok_ref39_Valid (a0 : S_Settings) (r : Bool) (h : F_ref39_Valid a0 = some r) : Con Try.prog 23 [.agg (S_Settings.cs a0)] [] (.c (.lit (.bool (r)))) [] := by
  unfold F_ref39_Valid at h
  refine con_of [] [] 32 Try.func23 rfl rfl (by kernel_rfl) (fun K => ?_)
  refine TS_go 12 ?_
  replace h := condO h
  rcases h with ⟨hb1, h⟩ | ⟨hb1, h⟩
  · refine TS_know 5 (b := true) hb1 (by kernel_rfl) (by kernel_rfl) ?_
    refine TS_know 6 (b := true) hb1 (by kernel_rfl) (by kernel_rfl) ?_
    refine TS_go 11 ?_
    refine TS_T (by kernel_rfl) rfl ?_
    refine TS_go 6 ?_
    obtain rfl := Option.some.inj h
    exact TS_ret (by kernel_rfl) (by kernel_rfl) (by kernel_rfl)
  · refine TS_know 5 (b := false) hb1 (by kernel_rfl) (by kernel_rfl) ?_
    refine TS_know 6 (b := false) hb1 (by kernel_rfl) (by kernel_rfl) ?_
    refine TS_go 5 ?_
    replace h := condO h
    rcases h with ⟨hb2, h⟩ | ⟨hb2, h⟩
    · refine TS_know 9 (b := true) hb2 (by kernel_rfl) (by kernel_rfl) ?_
      refine TS_know 10 (b := true) hb2 (by kernel_rfl) (by kernel_rfl) ?_
      refine TS_know 11 (b := true) hb2 (by kernel_rfl) (by kernel_rfl) ?_
      refine TS_go 6 ?_
      refine TS_T (by kernel_rfl) rfl ?_
      refine TS_go 6 ?_
      obtain rfl := Option.some.inj h
      exact TS_ret (by kernel_rfl) (by kernel_rfl) (by kernel_rfl)
    · refine TS_know 9 (b := false) hb2 (by kernel_rfl) (by kernel_rfl) ?_
      refine TS_know 10 (b := false) hb2 (by kernel_rfl) (by kernel_rfl) ?_
      refine TS_know 11 (b := false) hb2 (by kernel_rfl) (by kernel_rfl) ?_
      refine TS_go 6 ?_
      replace h := condO h
      rcases h with ⟨hb3, h⟩ | ⟨hb3, h⟩
      · refine TS_know 15 (b := true) hb3 (by kernel_rfl) (by kernel_rfl) ?_
        refine TS_know 16 (b := true) hb3 (by kernel_rfl) (by kernel_rfl) ?_
        refine TS_T (by kernel_rfl) rfl ?_
        refine TS_go 6 ?_
        obtain rfl := Option.some.inj h
        exact TS_ret (by kernel_rfl) (by kernel_rfl) (by kernel_rfl)
      · refine TS_know 15 (b := false) hb3 (by kernel_rfl) (by kernel_rfl) ?_
        refine TS_know 16 (b := false) hb3 (by kernel_rfl) (by kernel_rfl) ?_
        refine TS_F (by kernel_rfl) rfl ?_
        refine TS_go 7 ?_
        replace h := condO h
        rcases h with ⟨hb4, h⟩ | ⟨hb4, h⟩
        · refine TS_know 19 (b := true) hb4 (by kernel_rfl) (by kernel_rfl) ?_
          refine TS_know 20 (b := true) hb4 (by kernel_rfl) (by kernel_rfl) ?_
          refine TS_go 14 ?_
          obtain rfl := Option.some.inj h
          exact TS_ret (by kernel_rfl) (by kernel_rfl) (by kernel_rfl)
        · refine TS_know 19 (b := false) hb4 (by kernel_rfl) (by kernel_rfl) ?_
          refine TS_know 20 (b := false) hb4 (by kernel_rfl) (by kernel_rfl) ?_
          refine TS_go 5 ?_
          replace h := condO h
          rcases h with ⟨hb5, h⟩ | ⟨hb5, h⟩
          · refine TS_know 24 (b := true) hb5 (by kernel_rfl) (by kernel_rfl) ?_
            refine TS_know 25 (b := true) hb5 (by kernel_rfl) (by kernel_rfl) ?_
            refine TS_go 9 ?_
            obtain rfl := Option.some.inj h
            exact TS_ret (by kernel_rfl) (by kernel_rfl) (by kernel_rfl)
          · refine TS_know 24 (b := false) hb5 (by kernel_rfl) (by kernel_rfl) ?_
            refine TS_know 25 (b := false) hb5 (by kernel_rfl) (by kernel_rfl) ?_
            refine TS_go 9 ?_
            obtain rfl := Option.some.inj h
            exact TS_ret (by kernel_rfl) (by kernel_rfl) (by kernel_rfl)

/-- multihop/multihopref39.Check -/
noncomputable def F_ref39_Check (a0 : List Int) (a1 : S_Settings) : Option (Bool) :=
  (F_ref39_Valid a1).bind fun v1 =>
  bif v1 then
    bif (a1.Version != 0) then
      (F_ref39_tag a0 a1.Version a1.Data).bind fun v4 =>
      some ((arrEq 8 a1.Tag v4))
    else
      some (false)
  else
    some (false)
set_option maxRecDepth 100000 in
set_option maxHeartbeats 40000000 in
theorem ok_ref39_Check (a0 : List Int) (a1 : S_Settings) (r : Bool) (h : F_ref39_Check a0 a1 = some r) : Con Try.prog 13 [.agg (arrS .u8 16 a0), .agg (S_Settings.cs a1)] [] (.c (.lit (.bool (r)))) [] := by
  unfold F_ref39_Check at h
  refine con_of [] [] 23 Try.func13 rfl rfl (by kernel_rfl) (fun K => ?_)
  refine TS_go 7 ?_
  refine TS_draw (by kernel_rfl) ?_
  refine TD_go 1 ?_
  replace h := bindO h
  obtain ⟨v1, hv1, h⟩ := h
  refine TD_call [] (ok_ref39_Valid a1 v1 hv1) (by kernel_rfl) (by kernel_rfl) ?_
  refine TD_go 1 ?_
  replace h := condO h
  rcases h with ⟨hb2, h⟩ | ⟨hb2, h⟩
  · subst hb2
    refine TD_go 4 ?_
    replace h := condO h
    rcases h with ⟨hb3, h⟩ | ⟨hb3, h⟩
    · refine TD_know 12 (b := true) hb3 trivial (by kernel_rfl) (by kernel_rfl) ?_
      refine TD_go 7 ?_
      replace h := bindO h
      obtain ⟨v4, hv4, h⟩ := h
      refine TD_call [] (ok_ref39_tag a0 a1.Version a1.Data v4 hv4) (by kernel_rfl) (by kernel_rfl) ?_
      refine TD_go 3 ?_
      refine TD_end (by kernel_rfl) ?_
      refine TS_go 1 ?_
      obtain rfl := Option.some.inj h
      exact TS_ret (by kernel_rfl) (by kernel_rfl) (by kernel_rfl)
    · refine TD_know 12 (b := false) hb3 trivial (by kernel_rfl) (by kernel_rfl) ?_
      refine TD_go 11 ?_
      refine TD_end (by kernel_rfl) ?_
      refine TS_go 1 ?_
      obtain rfl := Option.some.inj h
      exact TS_ret (by kernel_rfl) (by kernel_rfl) (by kernel_rfl)
  · subst hb2
    refine TD_go 16 ?_
    refine TD_end (by kernel_rfl) ?_
    refine TS_go 1 ?_
    obtain rfl := Option.some.inj h
    exact TS_ret (by kernel_rfl) (by kernel_rfl) (by kernel_rfl)

/-- multihop/management.validNumber -/
noncomputable def F_management_validNumber (a0 : Int) : Option (Bool) :=
  bif (decide (a0 ≥ 0)) then
    some ((decide (a0 ≤ 1073741824)))
  else
    some (false)
set_option maxRecDepth 100000 in
set_option maxHeartbeats 40000000 in
theorem ok_management_validNumber (a0 : Int) (r : Bool) (h : F_management_validNumber a0 = some r) : Con Try.prog 51 [.c (.lit (.int .i64 (a0)))] [] (.c (.lit (.bool (r)))) [] := by
  unfold F_management_validNumber at h
  refine con_of [] [] 9 Try.func51 rfl rfl (by kernel_rfl) (fun K => ?_)
  refine TS_go 9 ?_
  replace h := condO h
  rcases h with ⟨hb1, h⟩ | ⟨hb1, h⟩
  · refine TS_know 4 (b := true) hb1 (by kernel_rfl) (by kernel_rfl) ?_
    refine TS_know 5 (b := true) hb1 (by kernel_rfl) (by kernel_rfl) ?_
    refine TS_go 6 ?_
    obtain rfl := Option.some.inj h
    exact TS_ret (by kernel_rfl) (by kernel_rfl) (by kernel_rfl)
  · refine TS_know 4 (b := false) hb1 (by kernel_rfl) (by kernel_rfl) ?_
    refine TS_know 5 (b := false) hb1 (by kernel_rfl) (by kernel_rfl) ?_
    refine TS_go 6 ?_
    obtain rfl := Option.some.inj h
    exact TS_ret (by kernel_rfl) (by kernel_rfl) (by kernel_rfl)

/-- multihop/management.noTag -/
noncomputable def F_management_noTag  : Option ((List Int)) :=
  some ([0, 0, 0, 0, 0, 0, 0, 0])
set_option maxRecDepth 100000 in
set_option maxHeartbeats 40000000 in
theorem ok_management_noTag  (r : (List Int)) (h : F_management_noTag  = some r) : Con Try.prog 52 [] [] (.agg (arrS .u8 8 r)) [] := by
  unfold F_management_noTag at h
  refine con_of [] [] 2 Try.func52 rfl rfl (by kernel_rfl) (fun K => ?_)
  refine TS_go 10 ?_
  obtain rfl := Option.some.inj h
  exact TS_ret (by kernel_rfl) (by kernel_rfl) (by kernel_rfl)

/-- multihop/management.Valid -/
noncomputable def F_management_Valid (a0 : S_Settings) : Option (Bool) :=
  (F_management_validNumber a0.Version).bind fun v1 =>
  bif v1 then
    bif (decide ((List.length a0.Data : Int) > 64)) then
      some (false)
    else
      bif (a0.Version != 0) then
        some (true)
      else
        bif ((List.length a0.Data : Int) == 0) then
          (F_management_noTag ).bind fun v6 =>
          some ((arrEq 8 a0.Tag v6))
        else
          some (false)
  else
    some (false)
set_option maxRecDepth 100000 in
set_option maxHeartbeats 40000000 in
theorem ok_management_Valid (a0 : S_Settings) (r : Bool) (h : F_management_Valid a0 = some r) : Con Try.prog 22 [.agg (S_Settings.cs a0)] [] (.c (.lit (.bool (r)))) [] := by
  unfold F_management_Valid at h
  refine con_of [] [] 28 Try.func22 rfl rfl (by kernel_rfl) (fun K => ?_)
  refine TS_go 10 ?_
  replace h := bindO h
  obtain ⟨v1, hv1, h⟩ := h
  refine TS_call [] (ok_management_validNumber a0.Version v1 hv1) (by kernel_rfl) (by kernel_rfl) ?_
  refine TS_go 2 ?_
  replace h := condO h
  rcases h with ⟨hb2, h⟩ | ⟨hb2, h⟩
  · subst hb2
    refine TS_go 6 ?_
    replace h := condO h
    rcases h with ⟨hb3, h⟩ | ⟨hb3, h⟩
    · refine TS_know 11 (b := true) hb3 (by kernel_rfl) (by kernel_rfl) ?_
      refine TS_know 12 (b := true) hb3 (by kernel_rfl) (by kernel_rfl) ?_
      refine TS_T (by kernel_rfl) rfl ?_
      refine TS_go 6 ?_
      obtain rfl := Option.some.inj h
      exact TS_ret (by kernel_rfl) (by kernel_rfl) (by kernel_rfl)
    · refine TS_know 11 (b := false) hb3 (by kernel_rfl) (by kernel_rfl) ?_
      refine TS_know 12 (b := false) hb3 (by kernel_rfl) (by kernel_rfl) ?_
      refine TS_F (by kernel_rfl) rfl ?_
      refine TS_go 2 ?_
      refine TS_draw (by kernel_rfl) ?_
      refine TD_go 3 ?_
      replace h := condO h
      rcases h with ⟨hb4, h⟩ | ⟨hb4, h⟩
      · refine TD_know 16 (b := true) hb4 trivial (by kernel_rfl) (by kernel_rfl) ?_
        refine TD_go 12 ?_
        refine TD_end (by kernel_rfl) ?_
        refine TS_go 1 ?_
        obtain rfl := Option.some.inj h
        exact TS_ret (by kernel_rfl) (by kernel_rfl) (by kernel_rfl)
      · refine TD_know 16 (b := false) hb4 trivial (by kernel_rfl) (by kernel_rfl) ?_
        refine TD_go 4 ?_
        replace h := condO h
        rcases h with ⟨hb5, h⟩ | ⟨hb5, h⟩
        · refine TD_know 21 (b := true) hb5 trivial (by kernel_rfl) (by kernel_rfl) ?_
          refine TD_go 2 ?_
          replace h := bindO h
          obtain ⟨v6, hv6, h⟩ := h
          refine TD_call [] (ok_management_noTag  v6 hv6) (by kernel_rfl) (by kernel_rfl) ?_
          refine TD_go 4 ?_
          refine TD_end (by kernel_rfl) ?_
          refine TS_go 1 ?_
          obtain rfl := Option.some.inj h
          exact TS_ret (by kernel_rfl) (by kernel_rfl) (by kernel_rfl)
        · refine TD_know 21 (b := false) hb5 trivial (by kernel_rfl) (by kernel_rfl) ?_
          refine TD_go 7 ?_
          refine TD_end (by kernel_rfl) ?_
          refine TS_go 1 ?_
          obtain rfl := Option.some.inj h
          exact TS_ret (by kernel_rfl) (by kernel_rfl) (by kernel_rfl)
  · subst hb2
    refine TS_go 6 ?_
    refine TS_T (by kernel_rfl) rfl ?_
    refine TS_go 6 ?_
    obtain rfl := Option.some.inj h
    exact TS_ret (by kernel_rfl) (by kernel_rfl) (by kernel_rfl)

/-- multihop/octets.Append -/
noncomputable def F_octets_Append_l2 (v1 : Int) (a0 : List Int) (a1 : Int) (s3 : Int × (List Int)) : Option ((Int × (List Int)) ⊕ ((List Int))) :=
  bif (decide (s3.1 < v1)) then
    bif decide (0 ≤ (IntKind.wrap .i64 (8 * (IntKind.wrap .i64 ((IntKind.wrap .i64 (v1 - 1)) - s3.1))))) then
      (idx (Cut.app .whole s3.2) (IntKind.wrap .i64 ((List.length a0 : Int) + s3.1))).bind fun e8 =>
      (s3.2[(0 + Int.toNat (IntKind.wrap .i64 ((List.length a0 : Int) + s3.1)))]?).bind fun e9 =>
      some (Sum.inl (IntKind.wrap .i64 (s3.1 + 1), (List.set s3.2 (0 + Int.toNat (IntKind.wrap .i64 ((List.length a0 : Int) + s3.1))) (IntKind.wrap .u8 (ishr .u64 a1 (IntKind.wrap .i64 (8 * (IntKind.wrap .i64 ((IntKind.wrap .i64 (v1 - 1)) - s3.1)))))))))
    else none
  else
    some (Sum.inr s3.2)
noncomputable def F_octets_Append_j1 (a0 : List Int) (a1 : Int) (v1 : Int) : Option ((List Int)) :=
  (mkO 1 (IntKind.wrap .i64 ((List.length a0 : Int) + v1)) (IntKind.wrap .i64 ((List.length a0 : Int) + v1))).bind fun n2 =>
  (loopO (F_octets_Append_l2 v1 a0 a1) (0, (cpL (List.replicate n2 (0 : Int)) 0 (List.length (Cut.app .whole (List.replicate n2 (0 : Int)))) (Cut.app .whole a0)))).bind fun b4 =>
  some (b4)
noncomputable def F_octets_Append (a0 : List Int) (a1 : Int) (a2 : Int) : Option ((List Int)) :=
  bif (decide (a2 < 0)) then
    (F_octets_Append_j1 a0 a1) 0
  else
    bif (decide (a2 > 8)) then
      (F_octets_Append_j1 a0 a1) 0
    else
      (F_octets_Append_j1 a0 a1) a2
set_option maxRecDepth 100000 in
set_option maxHeartbeats 40000000 in
theorem okT_octets_Append (a0 : List Int) (a1 : Int) (a2 : Int) (r : (List Int)) (h : F_octets_Append a0 a1 a2 = some r) : Con Try.prog 62 [.c (eS 1 (ecI .u8) (a0)), .c (.lit (.int .u64 (a1))), .c (.lit (.int .i64 (a2)))] [] (.c (.slc 1 900002 (List.length r) (List.map (ecI .u8) r))) [(900000, .spare 5 1 (List.length r))] := by
  unfold F_octets_Append at h
  refine con_of [] [(900000, [])] 43 Try.func62 rfl rfl (by kernel_rfl) (fun K => ?_)
  refine TS_go 4 ?_
  refine TS_cut ⟨[(0, []), (1, []), (2, [])], []⟩ (.mk [.code (codeAt [1] (bodyOf Try.f62))] .normal ⟨[(0, .c (.slc 1 0 (List.length a0) (List.map (ecI .u8) a0))), (1, .c (.lit (.int .u64 (a1)))), (2, .c (.lit (.int .i64 (a2))))], []⟩) (by kernel_rfl) (by kernel_rfl) ?_
  refine TS_joinB ⟨[(0, []), (1, []), (2, [])], []⟩ (fun (v1 : Int) => [(2, .c (.lit (.int .i64 (v1))))]) (fun (v1 : Int) => []) (F_octets_Append_j1 a0 a1) r ?_ ?_
  · clear h
    intro v1 h
    unfold F_octets_Append_j1 at h
    refine TS_go 6 ?_
    replace h := bindO h
    obtain ⟨n2, hn2, h⟩ := h
    refine TS_makeR 19 5 1 (ecI .u8) (0 : Int) [] (cs := [.lit (.int .u8 (0))]) (l := IntKind.wrap .i64 ((List.length a0 : Int) + v1)) (c := IntKind.wrap .i64 ((List.length a0 : Int) + v1)) hn2 (by kernel_rfl) (by kernel_rfl) (by kernel_rfl) ?_
    refine TS_go 6 ?_
    refine TS_cpR 19 5 1 (List.length (List.replicate n2 (0 : Int))) 0 (ecI .u8) (fun _ => by kernel_rfl) (l := (List.replicate n2 (0 : Int))) (l2 := a0) .whole .whole (by kernel_rfl) (by kernel_rfl) ?_
    refine TS_go 8 ?_
    refine TS_cut ⟨[(0, []), (1, []), (2, []), (7, []), (23, []), (24, [])], [(19, (19, []))]⟩ (.mk [.code (codeAt [1, 1, 1, 1, 0, 1, 0] (bodyOf Try.f62)), .blk 0, .code (codeAt [1, 1, 1, 1, 1] (bodyOf Try.f62))] .normal ⟨[(0, .c (.slc 1 0 (List.length a0) (List.map (ecI .u8) a0))), (1, .c (.lit (.int .u64 (a1)))), (2, .c (.lit (.int .i64 (v1)))), (7, .c (.own 19)), (23, .c (.lit (.int .i64 (v1)))), (24, .c (.lit (.int .i64 (0))))], [(19, .row 5 1 (List.length (cpL (List.replicate n2 (0 : Int)) 0 (List.length (Cut.app .whole (List.replicate n2 (0 : Int)))) (Cut.app .whole a0))) (List.map (ecI .u8) (cpL (List.replicate n2 (0 : Int)) 0 (List.length (Cut.app .whole (List.replicate n2 (0 : Int)))) (Cut.app .whole a0))))]⟩) (by kernel_rfl) (by kernel_rfl) ?_
    replace h := bindO h
    obtain ⟨y5, hl2, hK2⟩ := h
    refine TS_loopB (F_octets_Append_l2 v1 a0 a1) ⟨[(0, []), (1, []), (2, []), (7, []), (23, []), (24, [])], [(19, (19, []))]⟩ (fun (s3 : Int × (List Int)) => [(24, .c (.lit (.int .i64 (s3.1))))]) (fun (s3 : Int × (List Int)) => [(19, .row 5 1 (List.length s3.2) (List.map (ecI .u8) s3.2))]) (0, (cpL (List.replicate n2 (0 : Int)) 0 (List.length (Cut.app .whole (List.replicate n2 (0 : Int)))) (Cut.app .whole a0))) y5 (.exit 0) (fun (b : (List Int)) => b) ⟨[(7, [])], [(19, (19, []))]⟩ (fun (b4 : (List Int)) => []) (fun (b4 : (List Int)) => [(19, .row 5 1 (List.length b4) (List.map (ecI .u8) b4))]) hl2 (by kernel_rfl) (by kernel_rfl) ?_ ?_
    · intro s3 x h hy2
      unfold F_octets_Append_l2 at h
      refine TS_go 5 ?_
      replace h := condO h
      rcases h with ⟨hb6, h⟩ | ⟨hb6, h⟩
      · refine TS_know 25 (b := true) hb6 (by kernel_rfl) (by kernel_rfl) ?_
        refine TS_T (by kernel_rfl) rfl ?_
        refine TS_go 20 ?_
        replace h := chkO h
        obtain ⟨hc7, h⟩ := h
        refine TS_num (op := .shr) (k := .u64) (k' := .i64) (m := a1) (i := IntKind.wrap .i64 (8 * (IntKind.wrap .i64 ((IntKind.wrap .i64 (v1 - 1)) - s3.1)))) (of_decide_eq_true hc7) rfl (by simp) (by kernel_rfl) (by kernel_rfl) ?_
        refine TS_go 1 ?_
        replace h := bindO h
        obtain ⟨e8, he8, h⟩ := h
        refine TS_idxR 19 1 0 (ecI .u8) .whole he8 (by kernel_rfl) (by kernel_rfl) ?_
        replace h := bindO h
        obtain ⟨e9, he9, h⟩ := h
        refine TS_stE 19 5 1 (List.length s3.2) (0 + Int.toNat (IntKind.wrap .i64 ((List.length a0 : Int) + s3.1))) 0 (ecI .u8) (ds := [.lit (.int .u8 (IntKind.wrap .u8 (ishr .u64 a1 (IntKind.wrap .i64 (8 * (IntKind.wrap .i64 ((IntKind.wrap .i64 (v1 - 1)) - s3.1)))))))]) (IntKind.wrap .u8 (ishr .u64 a1 (IntKind.wrap .i64 (8 * (IntKind.wrap .i64 ((IntKind.wrap .i64 (v1 - 1)) - s3.1)))))) he9 (by kernel_rfl) (by kernel_rfl) (by kernel_rfl) (by kernel_rfl) ?_
        refine TS_go 6 ?_
        obtain rfl := Option.some.inj h
        exact TS_againB _ ⟨[(0, []), (1, []), (2, []), (7, []), (23, []), (24, [])], [(19, (19, []))]⟩ rfl (by kernel_rfl) (by kernel_rfl)
      · refine TS_know 25 (b := false) hb6 (by kernel_rfl) (by kernel_rfl) ?_
        refine TS_F (by kernel_rfl) rfl ?_
        refine TS_go 2 ?_
        obtain rfl := Option.some.inj h
        exact TS_brkB s3.2 ⟨[(7, [])], [(19, (19, []))]⟩ rfl (by kernel_rfl) (by kernel_rfl) (by kernel_rfl)
    · intro b4 hb
      subst y5
      have h := hK2
      refine TS_go 6 ?_
      refine TS_settle 19 (by kernel_rfl) ?_
      refine TS_fitU ⟨[(6, [])], [(19, (900000, []))]⟩ (by kernel_rfl) ?_
      refine TS_go 1 ?_
      obtain rfl := Option.some.inj h
      exact TS_ret (by kernel_rfl) (by kernel_rfl) (by kernel_rfl)
  · refine TS_go 5 ?_
    replace h := condO h
    rcases h with ⟨hb11, h⟩ | ⟨hb11, h⟩
    · refine TS_know 10 (b := true) hb11 (by kernel_rfl) (by kernel_rfl) ?_
      refine TS_know 11 (b := true) hb11 (by kernel_rfl) (by kernel_rfl) ?_
      refine TS_go 4 ?_
      refine TS_T (by kernel_rfl) rfl ?_
      refine TS_go 3 ?_
      exact TS_meet 0 ⟨[(0, []), (1, []), (2, [])], []⟩ h (by kernel_rfl) (by kernel_rfl)
    · refine TS_know 10 (b := false) hb11 (by kernel_rfl) (by kernel_rfl) ?_
      refine TS_know 11 (b := false) hb11 (by kernel_rfl) (by kernel_rfl) ?_
      refine TS_go 4 ?_
      replace h := condO h
      rcases h with ⟨hb12, h⟩ | ⟨hb12, h⟩
      · refine TS_know 13 (b := true) hb12 (by kernel_rfl) (by kernel_rfl) ?_
        refine TS_know 14 (b := true) hb12 (by kernel_rfl) (by kernel_rfl) ?_
        refine TS_T (by kernel_rfl) rfl ?_
        refine TS_go 3 ?_
        exact TS_meet 0 ⟨[(0, []), (1, []), (2, [])], []⟩ h (by kernel_rfl) (by kernel_rfl)
      · refine TS_know 13 (b := false) hb12 (by kernel_rfl) (by kernel_rfl) ?_
        refine TS_know 14 (b := false) hb12 (by kernel_rfl) (by kernel_rfl) ?_
        refine TS_F (by kernel_rfl) rfl ?_
        refine TS_go 1 ?_
        exact TS_meet a2 ⟨[(0, []), (1, []), (2, [])], []⟩ h (by kernel_rfl) (by kernel_rfl)
theorem ok_octets_Append (a0 : List Int) (a1 : Int) (a2 : Int) (r : (List Int)) (h : F_octets_Append a0 a1 a2 = some r) : Con Try.prog 62 [.c (eS 1 (ecI .u8) (a0)), .c (.lit (.int .u64 (a1))), .c (.lit (.int .i64 (a2)))] [] (.c (eS 1 (ecI .u8) (r))) [] :=
  con_drop [[2]] [] (okT_octets_Append a0 a1 a2 r h) (by kernel_rfl) (by kernel_rfl) (by kernel_rfl)

/-- multihop/siphash.little -/
noncomputable def F_siphash_little_l1 (a0 : List Int) (s1 : Int × Int) : Option ((Int × Int) ⊕ (Int)) :=
  bif (decide (s1.2 < (List.length a0 : Int))) then
    (idx a0 s1.2).bind fun e5 =>
    bif decide (0 ≤ (IntKind.wrap .i64 (8 * s1.2))) then
      some (Sum.inl (ior .u64 s1.1 (ishl .u64 (IntKind.wrap .u64 e5) (IntKind.wrap .i64 (8 * s1.2))), IntKind.wrap .i64 (s1.2 + 1)))
    else none
  else
    some (Sum.inr s1.1)
noncomputable def F_siphash_little (a0 : List Int) : Option (Int) :=
  (loopO (F_siphash_little_l1 a0) (0, 0)).bind fun b2 =>
  some (b2)
set_option maxRecDepth 100000 in
set_option maxHeartbeats 40000000 in
theorem ok_siphash_little (a0 : List Int) (r : Int) (h : F_siphash_little a0 = some r) : Con Try.prog 82 [.c (eS 1 (ecI .u8) (a0))] [] (.c (.lit (.int .u64 (r)))) [] := by
  unfold F_siphash_little at h
  refine con_of [] [] 22 Try.func82 rfl rfl (by kernel_rfl) (fun K => ?_)
  refine TS_go 16 ?_
  refine TS_cut ⟨[(3, []), (6, []), (7, []), (8, [])], []⟩ (.mk [.code (codeAt [1, 1, 0, 1, 0] (bodyOf Try.f82)), .blk 0, .code (codeAt [1, 1, 1] (bodyOf Try.f82))] .normal ⟨[(3, .c (.lit (.int .u64 (0)))), (6, .c (.slc 1 0 (List.length a0) (List.map (ecI .u8) a0))), (7, .c (.lit (.int .i64 ((List.length a0 : Int))))), (8, .c (.lit (.int .i64 (0))))], []⟩) (by kernel_rfl) (by kernel_rfl) ?_
  replace h := bindO h
  obtain ⟨y3, hl1, hK1⟩ := h
  refine TS_loopB (F_siphash_little_l1 a0) ⟨[(3, []), (6, []), (7, []), (8, [])], []⟩ (fun (s1 : Int × Int) => [(3, .c (.lit (.int .u64 (s1.1)))), (8, .c (.lit (.int .i64 (s1.2))))]) (fun (s1 : Int × Int) => []) (0, 0) y3 (.exit 0) (fun (b : Int) => b) ⟨[(3, [])], []⟩ (fun (b2 : Int) => [(3, .c (.lit (.int .u64 (b2))))]) (fun (b2 : Int) => []) hl1 (by kernel_rfl) (by kernel_rfl) ?_ ?_
  · intro s1 x h hy1
    unfold F_siphash_little_l1 at h
    refine TS_go 5 ?_
    replace h := condO h
    rcases h with ⟨hb4, h⟩ | ⟨hb4, h⟩
    · refine TS_know 9 (b := true) hb4 (by kernel_rfl) (by kernel_rfl) ?_
      refine TS_T (by kernel_rfl) rfl ?_
      refine TS_go 6 ?_
      replace h := bindO h
      obtain ⟨e5, he5, h⟩ := h
      refine TS_idx (ecI .u8) he5 (by kernel_rfl) (by kernel_rfl) ?_
      refine TS_go 10 ?_
      replace h := chkO h
      obtain ⟨hc6, h⟩ := h
      refine TS_num (op := .shl) (k := .u64) (k' := .i64) (m := IntKind.wrap .u64 e5) (i := IntKind.wrap .i64 (8 * s1.2)) (of_decide_eq_true hc6) rfl (by simp) (by kernel_rfl) (by kernel_rfl) ?_
      refine TS_go 8 ?_
      obtain rfl := Option.some.inj h
      exact TS_againB _ ⟨[(3, []), (6, []), (7, []), (8, [])], []⟩ rfl (by kernel_rfl) (by kernel_rfl)
    · refine TS_know 9 (b := false) hb4 (by kernel_rfl) (by kernel_rfl) ?_
      refine TS_F (by kernel_rfl) rfl ?_
      refine TS_go 2 ?_
      obtain rfl := Option.some.inj h
      exact TS_brkB s1.1 ⟨[(3, [])], []⟩ rfl (by kernel_rfl) (by kernel_rfl) (by kernel_rfl)
  · intro b2 hb
    subst y3
    have h := hK1
    refine TS_go 7 ?_
    obtain rfl := Option.some.inj h
    exact TS_ret (by kernel_rfl) (by kernel_rfl) (by kernel_rfl)

/-- math/bits.RotateLeft64 -/
noncomputable def F_math_bits_RotateLeft64 (a0 : Int) (a1 : Int) : Option (Int) :=
  bif decide (0 ≤ (iand .u64 (IntKind.wrap .u64 a1) 63)) then
    bif decide (0 ≤ (IntKind.wrap .u64 (64 - (iand .u64 (IntKind.wrap .u64 a1) 63)))) then
      some (ior .u64 (ishl .u64 a0 (iand .u64 (IntKind.wrap .u64 a1) 63)) (ishr .u64 a0 (IntKind.wrap .u64 (64 - (iand .u64 (IntKind.wrap .u64 a1) 63)))))
    else none
  else none
set_option maxRecDepth 100000 in
set_option maxHeartbeats 40000000 in
theorem ok_math_bits_RotateLeft64 (a0 : Int) (a1 : Int) (r : Int) (h : F_math_bits_RotateLeft64 a0 a1 = some r) : Con Try.prog 88 [.c (.lit (.int .u64 (a0))), .c (.lit (.int .i64 (a1)))] [] (.c (.lit (.int .u64 (r)))) [] := by
  unfold F_math_bits_RotateLeft64 at h
  refine con_of [] [] 17 Try.func88 rfl rfl (by kernel_rfl) (fun K => ?_)
  refine TS_go 15 ?_
  replace h := chkO h
  obtain ⟨hc1, h⟩ := h
  refine TS_num (op := .shl) (k := .u64) (k' := .u64) (m := a0) (i := iand .u64 (IntKind.wrap .u64 a1) 63) (of_decide_eq_true hc1) rfl (by simp) (by kernel_rfl) (by kernel_rfl) ?_
  refine TS_go 3 ?_
  replace h := chkO h
  obtain ⟨hc2, h⟩ := h
  refine TS_num (op := .shr) (k := .u64) (k' := .u64) (m := a0) (i := IntKind.wrap .u64 (64 - (iand .u64 (IntKind.wrap .u64 a1) 63))) (of_decide_eq_true hc2) rfl (by simp) (by kernel_rfl) (by kernel_rfl) ?_
  refine TS_go 4 ?_
  obtain rfl := Option.some.inj h
  exact TS_ret (by kernel_rfl) (by kernel_rfl) (by kernel_rfl)

/-- (multihop/siphash.state).rounds -/
noncomputable def F_siphash_state_rounds_l1 (a1 : Int) (s1 : Int × (List Int)) : Option ((Int × (List Int)) ⊕ ((List Int))) :=
  bif (decide (s1.1 < a1)) then
    (F_math_bits_RotateLeft64 (s1.2.getD 1 0) 13).bind fun v5 =>
    (F_math_bits_RotateLeft64 (IntKind.wrap .u64 ((s1.2.getD 0 0) + (s1.2.getD 1 0))) 32).bind fun v6 =>
    (F_math_bits_RotateLeft64 (s1.2.getD 3 0) 16).bind fun v7 =>
    (F_math_bits_RotateLeft64 (ixor .u64 v7 (IntKind.wrap .u64 ((s1.2.getD 2 0) + (s1.2.getD 3 0)))) 21).bind fun v8 =>
    (F_math_bits_RotateLeft64 (ixor .u64 v5 (IntKind.wrap .u64 ((s1.2.getD 0 0) + (s1.2.getD 1 0)))) 17).bind fun v9 =>
    (F_math_bits_RotateLeft64 (IntKind.wrap .u64 ((IntKind.wrap .u64 ((s1.2.getD 2 0) + (s1.2.getD 3 0))) + (ixor .u64 v5 (IntKind.wrap .u64 ((s1.2.getD 0 0) + (s1.2.getD 1 0)))))) 32).bind fun v10 =>
    some (Sum.inl (IntKind.wrap .i64 (s1.1 + 1), [IntKind.wrap .u64 (v6 + (ixor .u64 v7 (IntKind.wrap .u64 ((s1.2.getD 2 0) + (s1.2.getD 3 0))))), ixor .u64 v9 (IntKind.wrap .u64 ((IntKind.wrap .u64 ((s1.2.getD 2 0) + (s1.2.getD 3 0))) + (ixor .u64 v5 (IntKind.wrap .u64 ((s1.2.getD 0 0) + (s1.2.getD 1 0)))))), v10, ixor .u64 v8 (IntKind.wrap .u64 (v6 + (ixor .u64 v7 (IntKind.wrap .u64 ((s1.2.getD 2 0) + (s1.2.getD 3 0))))))]))
  else
    some (Sum.inr s1.2)
noncomputable def F_siphash_state_rounds (a0 : List Int) (a1 : Int) : Option ((List Int)) :=
  (loopO (F_siphash_state_rounds_l1 a1) (0, a0)).bind fun b2 =>
  some (b2)
set_option maxRecDepth 100000 in
set_option maxHeartbeats 40000000 in
theorem ok_siphash_state_rounds (a0 : List Int) (a1 : Int) (r : (List Int)) (h : F_siphash_state_rounds a0 a1 = some r) : Con Try.prog 84 [.agg (arrS .u64 4 a0), .c (.lit (.int .i64 (a1)))] [] (.agg (arrS .u64 4 r)) [] := by
  unfold F_siphash_state_rounds at h
  refine con_of [] [] 82 Try.func84 rfl rfl (by kernel_rfl) (fun K => ?_)
  refine TS_go 12 ?_
  refine TS_cut ⟨[(2, []), (4, []), (5, []), (6, [])], [(2, (2, [])), (4, (4, []))]⟩ (.mk [.code (codeAt [1, 0, 1, 0] (bodyOf Try.f84)), .blk 0, .code (codeAt [1, 1] (bodyOf Try.f84))] .normal ⟨[(2, .c (.box 2 0)), (4, .c (.box 4 0)), (5, .c (.lit (.int .i64 (a1)))), (6, .c (.lit (.int .i64 (0))))], [(2, .box [.lit (.int .u64 ((a0.getD 0 0))), .lit (.int .u64 ((a0.getD 1 0))), .lit (.int .u64 ((a0.getD 2 0))), .lit (.int .u64 ((a0.getD 3 0)))]), (4, .box [.lit (.int .u64 (0)), .lit (.int .u64 (0)), .lit (.int .u64 (0)), .lit (.int .u64 (0))])]⟩) (by kernel_rfl) (by kernel_rfl) ?_
  replace h := bindO h
  obtain ⟨y3, hl1, hK1⟩ := h
  refine TS_loopB (F_siphash_state_rounds_l1 a1) ⟨[(2, []), (4, []), (5, []), (6, [])], [(2, (2, [])), (4, (4, []))]⟩ (fun (s1 : Int × (List Int)) => [(6, .c (.lit (.int .i64 (s1.1))))]) (fun (s1 : Int × (List Int)) => [(2, .box (arrS .u64 4 s1.2))]) (0, a0) y3 (.exit 0) (fun (b : (List Int)) => b) ⟨[(2, []), (4, [])], [(2, (2, [])), (4, (4, []))]⟩ (fun (b2 : (List Int)) => []) (fun (b2 : (List Int)) => [(2, .box (arrS .u64 4 b2))]) hl1 (by kernel_rfl) (by kernel_rfl) ?_ ?_
  · intro s1 x h hy1
    unfold F_siphash_state_rounds_l1 at h
    refine TS_go 5 ?_
    replace h := condO h
    rcases h with ⟨hb4, h⟩ | ⟨hb4, h⟩
    · refine TS_know 7 (b := true) hb4 (by kernel_rfl) (by kernel_rfl) ?_
      refine TS_T (by kernel_rfl) rfl ?_
      refine TS_go 17 ?_
      replace h := bindO h
      obtain ⟨v5, hv5, h⟩ := h
      refine TS_call [] (ok_math_bits_RotateLeft64 (s1.2.getD 1 0) 13 v5 hv5) (by kernel_rfl) (by kernel_rfl) ?_
      refine TS_go 17 ?_
      replace h := bindO h
      obtain ⟨v6, hv6, h⟩ := h
      refine TS_call [] (ok_math_bits_RotateLeft64 (IntKind.wrap .u64 ((s1.2.getD 0 0) + (s1.2.getD 1 0))) 32 v6 hv6) (by kernel_rfl) (by kernel_rfl) ?_
      refine TS_go 17 ?_
      replace h := bindO h
      obtain ⟨v7, hv7, h⟩ := h
      refine TS_call [] (ok_math_bits_RotateLeft64 (s1.2.getD 3 0) 16 v7 hv7) (by kernel_rfl) (by kernel_rfl) ?_
      refine TS_go 27 ?_
      replace h := bindO h
      obtain ⟨v8, hv8, h⟩ := h
      refine TS_call [] (ok_math_bits_RotateLeft64 (ixor .u64 v7 (IntKind.wrap .u64 ((s1.2.getD 2 0) + (s1.2.getD 3 0)))) 21 v8 hv8) (by kernel_rfl) (by kernel_rfl) ?_
      refine TS_go 27 ?_
      replace h := bindO h
      obtain ⟨v9, hv9, h⟩ := h
      refine TS_call [] (ok_math_bits_RotateLeft64 (ixor .u64 v5 (IntKind.wrap .u64 ((s1.2.getD 0 0) + (s1.2.getD 1 0)))) 17 v9 hv9) (by kernel_rfl) (by kernel_rfl) ?_
      refine TS_go 16 ?_
      replace h := bindO h
      obtain ⟨v10, hv10, h⟩ := h
      refine TS_call [] (ok_math_bits_RotateLeft64 (IntKind.wrap .u64 ((IntKind.wrap .u64 ((s1.2.getD 2 0) + (s1.2.getD 3 0))) + (ixor .u64 v5 (IntKind.wrap .u64 ((s1.2.getD 0 0) + (s1.2.getD 1 0)))))) 32 v10 hv10) (by kernel_rfl) (by kernel_rfl) ?_
      refine TS_go 8 ?_
      obtain rfl := Option.some.inj h
      exact TS_againB _ ⟨[(2, []), (4, []), (5, []), (6, [])], [(2, (2, [])), (4, (4, []))]⟩ rfl (by kernel_rfl) (by kernel_rfl)
    · refine TS_know 7 (b := false) hb4 (by kernel_rfl) (by kernel_rfl) ?_
      refine TS_F (by kernel_rfl) rfl ?_
      refine TS_go 2 ?_
      obtain rfl := Option.some.inj h
      exact TS_brkB s1.2 ⟨[(2, []), (4, [])], [(2, (2, [])), (4, (4, []))]⟩ rfl (by kernel_rfl) (by kernel_rfl) (by kernel_rfl)
  · intro b2 hb
    subst y3
    have h := hK1
    refine TS_go 7 ?_
    obtain rfl := Option.some.inj h
    exact TS_ret (by kernel_rfl) (by kernel_rfl) (by kernel_rfl)

/-- (multihop/siphash.state).mix -/
noncomputable def F_siphash_state_mix (a0 : List Int) (a1 : Int) : Option ((List Int)) :=
  (F_siphash_state_rounds [(a0.getD 0 0), (a0.getD 1 0), (a0.getD 2 0), ixor .u64 (a0.getD 3 0) a1] 2).bind fun v1 =>
  some ([ixor .u64 (v1.getD 0 0) a1, (v1.getD 1 0), (v1.getD 2 0), (v1.getD 3 0)])
set_option maxRecDepth 100000 in
set_option maxHeartbeats 40000000 in
theorem ok_siphash_state_mix (a0 : List Int) (a1 : Int) (r : (List Int)) (h : F_siphash_state_mix a0 a1 = some r) : Con Try.prog 83 [.agg (arrS .u64 4 a0), .c (.lit (.int .u64 (a1)))] [] (.agg (arrS .u64 4 r)) [] := by
  unfold F_siphash_state_mix at h
  refine con_of [] [] 18 Try.func83 rfl rfl (by kernel_rfl) (fun K => ?_)
  refine TS_go 17 ?_
  replace h := bindO h
  obtain ⟨v1, hv1, h⟩ := h
  refine TS_call [] (ok_siphash_state_rounds [(a0.getD 0 0), (a0.getD 1 0), (a0.getD 2 0), ixor .u64 (a0.getD 3 0) a1] 2 v1 hv1) (by kernel_rfl) (by kernel_rfl) ?_
  refine TS_go 17 ?_
  obtain rfl := Option.some.inj h
  exact TS_ret (by kernel_rfl) (by kernel_rfl) (by kernel_rfl)

/-- multihop/siphash.Sum -/
noncomputable def F_siphash_Sum_l1 (a1 : List Int) (s3 : Int × (List Int)) : Option ((Int × (List Int)) ⊕ ((List Int))) :=
  bif (decide (s3.1 < (iquo .i64 (List.length a1 : Int) 8))) then
    (subO a1 (IntKind.wrap .i64 (8 * s3.1)) (IntKind.wrap .i64 ((IntKind.wrap .i64 (8 * s3.1)) + 8))).bind fun l7 =>
    (F_siphash_little l7).bind fun v8 =>
    (F_siphash_state_mix s3.2 v8).bind fun v9 =>
    some (Sum.inl (IntKind.wrap .i64 (s3.1 + 1), v9))
  else
    some (Sum.inr s3.2)
noncomputable def F_siphash_Sum (a0 : List Int) (a1 : List Int) : Option (Int) :=
  (F_siphash_little (arrL 8 a0)).bind fun v1 =>
  (F_siphash_little ([(a0.getD 8 0), (a0.getD 9 0), (a0.getD 10 0), (a0.getD 11 0), (a0.getD 12 0), (a0.getD 13 0), (a0.getD 14 0), (a0.getD 15 0)] : List Int)).bind fun v2 =>
  (loopO (F_siphash_Sum_l1 a1) (0, [ixor .u64 v1 8317987319222330741, ixor .u64 v2 7237128888997146477, ixor .u64 v1 7816392313619706465, ixor .u64 v2 8387220255154660723])).bind fun b4 =>
  (subO a1 (IntKind.wrap .i64 (8 * (iquo .i64 (List.length a1 : Int) 8))) (List.length a1 : Int)).bind fun l11 =>
  (F_siphash_little l11).bind fun v12 =>
  (F_siphash_state_mix b4 (ior .u64 v12 (ishl .u64 (IntKind.wrap .u64 (List.length a1 : Int)) 56))).bind fun v13 =>
  (F_siphash_state_rounds [(v13.getD 0 0), (v13.getD 1 0), ixor .u64 (v13.getD 2 0) 255, (v13.getD 3 0)] 4).bind fun v14 =>
  some (ixor .u64 (ixor .u64 (ixor .u64 (v14.getD 0 0) (v14.getD 1 0)) (v14.getD 2 0)) (v14.getD 3 0))
set_option maxRecDepth 100000 in
set_option maxHeartbeats 40000000 in
theorem ok_siphash_Sum (a0 : List Int) (a1 : List Int) (r : Int) (h : F_siphash_Sum a0 a1 = some r) : Con Try.prog 75 [.agg (arrS .u8 16 a0), .c (eS 1 (ecI .u8) (a1))] [] (.c (.lit (.int .u64 (r)))) [] := by
  unfold F_siphash_Sum at h
  refine con_of [] [] 70 Try.func75 rfl rfl (by kernel_rfl) (fun K => ?_)
  refine TS_go 6 ?_
  refine TS_draw (by kernel_rfl) ?_
  refine TD_win 2 0 16 (a := 0) (b := 8) (by decide) (by decide) (by kernel_rfl) (by kernel_rfl) ?_
  replace h := bindO h
  obtain ⟨v1, hv1, h⟩ := h
  refine TD_callF [] (ok_siphash_little (arrL 8 a0) v1 hv1) (by kernel_rfl) (by kernel_rfl) ?_
  refine TD_win 2 0 16 (a := 8) (b := 16) (by decide) (by decide) (by kernel_rfl) (by kernel_rfl) ?_
  replace h := bindO h
  obtain ⟨v2, hv2, h⟩ := h
  refine TD_callF [] (ok_siphash_little ([(a0.getD 8 0), (a0.getD 9 0), (a0.getD 10 0), (a0.getD 11 0), (a0.getD 12 0), (a0.getD 13 0), (a0.getD 14 0), (a0.getD 15 0)] : List Int) v2 hv2) (by kernel_rfl) (by kernel_rfl) ?_
  refine TD_go 2 ?_
  refine TD_end (by kernel_rfl) ?_
  refine TS_go 28 ?_
  refine TS_cut ⟨[(1, []), (7, []), (8, []), (26, []), (27, [])], [(7, (7, []))]⟩ (.mk [.code (codeAt [1, 1, 1, 1, 0, 1, 0] (bodyOf Try.f75)), .blk 0, .code (codeAt [1, 1, 1, 1, 1] (bodyOf Try.f75))] .normal ⟨[(1, .c (.slc 1 0 (List.length a1) (List.map (ecI .u8) a1))), (7, .c (.box 7 0)), (8, .c (.lit (.int .i64 (iquo .i64 (List.length a1 : Int) 8)))), (26, .c (.lit (.int .i64 (iquo .i64 (List.length a1 : Int) 8)))), (27, .c (.lit (.int .i64 (0))))], [(7, .box [.lit (.int .u64 (ixor .u64 v1 8317987319222330741)), .lit (.int .u64 (ixor .u64 v2 7237128888997146477)), .lit (.int .u64 (ixor .u64 v1 7816392313619706465)), .lit (.int .u64 (ixor .u64 v2 8387220255154660723))])]⟩) (by kernel_rfl) (by kernel_rfl) ?_
  replace h := bindO h
  obtain ⟨y5, hl1, hK1⟩ := h
  refine TS_loopB (F_siphash_Sum_l1 a1) ⟨[(1, []), (7, []), (8, []), (26, []), (27, [])], [(7, (7, []))]⟩ (fun (s3 : Int × (List Int)) => [(27, .c (.lit (.int .i64 (s3.1))))]) (fun (s3 : Int × (List Int)) => [(7, .box (arrS .u64 4 s3.2))]) (0, [ixor .u64 v1 8317987319222330741, ixor .u64 v2 7237128888997146477, ixor .u64 v1 7816392313619706465, ixor .u64 v2 8387220255154660723]) y5 (.exit 0) (fun (b : (List Int)) => b) ⟨[(1, []), (7, []), (8, [])], [(7, (7, []))]⟩ (fun (b4 : (List Int)) => []) (fun (b4 : (List Int)) => [(7, .box (arrS .u64 4 b4))]) hl1 (by kernel_rfl) (by kernel_rfl) ?_ ?_
  · intro s3 x h hy1
    unfold F_siphash_Sum_l1 at h
    refine TS_go 5 ?_
    replace h := condO h
    rcases h with ⟨hb6, h⟩ | ⟨hb6, h⟩
    · refine TS_know 28 (b := true) hb6 (by kernel_rfl) (by kernel_rfl) ?_
      refine TS_T (by kernel_rfl) rfl ?_
      refine TS_go 8 ?_
      refine TS_draw (by kernel_rfl) ?_
      refine TD_go 7 ?_
      replace h := bindO h
      obtain ⟨l7, hl7, h⟩ := h
      refine TD_sub (ecI .u8) 1 hl7 (by kernel_rfl) (by kernel_rfl) ?_
      replace h := bindO h
      obtain ⟨v8, hv8, h⟩ := h
      refine TD_call [] (ok_siphash_little l7 v8 hv8) (by kernel_rfl) (by kernel_rfl) ?_
      replace h := bindO h
      obtain ⟨v9, hv9, h⟩ := h
      refine TD_call [] (ok_siphash_state_mix s3.2 v8 v9 hv9) (by kernel_rfl) (by kernel_rfl) ?_
      refine TD_go 1 ?_
      refine TD_end (by kernel_rfl) ?_
      refine TS_go 5 ?_
      obtain rfl := Option.some.inj h
      exact TS_againB _ ⟨[(1, []), (7, []), (8, []), (26, []), (27, [])], [(7, (7, []))]⟩ rfl (by kernel_rfl) (by kernel_rfl)
    · refine TS_know 28 (b := false) hb6 (by kernel_rfl) (by kernel_rfl) ?_
      refine TS_F (by kernel_rfl) rfl ?_
      refine TS_go 2 ?_
      obtain rfl := Option.some.inj h
      exact TS_brkB s3.2 ⟨[(1, []), (7, []), (8, [])], [(7, (7, []))]⟩ rfl (by kernel_rfl) (by kernel_rfl) (by kernel_rfl)
  · intro b4 hb
    subst y5
    have h := hK1
    refine TS_go 2 ?_
    refine TS_draw (by kernel_rfl) ?_
    refine TD_go 4 ?_
    replace h := bindO h
    obtain ⟨l11, hl11, h⟩ := h
    refine TD_sub (ecI .u8) 1 hl11 (by kernel_rfl) (by kernel_rfl) ?_
    replace h := bindO h
    obtain ⟨v12, hv12, h⟩ := h
    refine TD_call [] (ok_siphash_little l11 v12 hv12) (by kernel_rfl) (by kernel_rfl) ?_
    refine TD_go 5 ?_
    replace h := bindO h
    obtain ⟨v13, hv13, h⟩ := h
    refine TD_call [] (ok_siphash_state_mix b4 (ior .u64 v12 (ishl .u64 (IntKind.wrap .u64 (List.length a1 : Int)) 56)) v13 hv13) (by kernel_rfl) (by kernel_rfl) ?_
    refine TD_go 1 ?_
    refine TD_end (by kernel_rfl) ?_
    refine TS_go 11 ?_
    replace h := bindO h
    obtain ⟨v14, hv14, h⟩ := h
    refine TS_call [] (ok_siphash_state_rounds [(v13.getD 0 0), (v13.getD 1 0), ixor .u64 (v13.getD 2 0) 255, (v13.getD 3 0)] 4 v14 hv14) (by kernel_rfl) (by kernel_rfl) ?_
    refine TS_go 18 ?_
    obtain rfl := Option.some.inj h
    exact TS_ret (by kernel_rfl) (by kernel_rfl) (by kernel_rfl)

/-- multihop/siphash.Derive -/
noncomputable def F_siphash_Derive_l2 (s4 : Int × (List Int)) (v9 : Int) (s10 : Int × (List Int)) : Option ((Int × (List Int)) ⊕ ((List Int))) :=
  bif (decide (s10.1 < 8)) then
    bif decide (0 ≤ (IntKind.wrap .i64 (8 * s10.1))) then
      bif decide ((0 : Int) ≤ (IntKind.wrap .i64 ((IntKind.wrap .i64 (8 * s4.1)) + s10.1)) ∧ (IntKind.wrap .i64 ((IntKind.wrap .i64 (8 * s4.1)) + s10.1)) < (16 : Int)) then
        some (Sum.inl (IntKind.wrap .i64 (s10.1 + 1), (setA 16 s10.2 (Int.toNat (IntKind.wrap .i64 ((IntKind.wrap .i64 (8 * s4.1)) + s10.1))) (IntKind.wrap .u8 (ishr .u64 v9 (IntKind.wrap .i64 (8 * s10.1)))))))
      else none
    else none
  else
    some (Sum.inr s10.2)
noncomputable def F_siphash_Derive_l1 (v3 : (List Int)) (a0 : List Int) (s4 : Int × (List Int)) : Option ((Int × (List Int)) ⊕ ((List Int))) :=
  bif (decide (s4.1 < 2)) then
    (F_octets_Append v3 (IntKind.wrap .u64 s4.1) 1).bind fun v8 =>
    (F_siphash_Sum a0 v8).bind fun v9 =>
    (loopO (F_siphash_Derive_l2 s4 v9) (0, s4.2)).bind fun b11 =>
    some (Sum.inl (IntKind.wrap .i64 (s4.1 + 1), b11))
  else
    some (Sum.inr s4.2)
noncomputable def F_siphash_Derive (a0 : List Int) (a1 : List UInt8) (a2 : Int) : Option ((List Int)) :=
  bif decide (List.length a1 ≤ maxLen) then
    (F_octets_Append (i8L a1) 0 1).bind fun v2 =>
    (F_octets_Append v2 a2 8).bind fun v3 =>
    (loopO (F_siphash_Derive_l1 v3 a0) (0, [0, 0, 0, 0, 0, 0, 0, 0, 0, 0, 0, 0, 0, 0, 0, 0])).bind fun b5 =>
    some (b5)
  else none
set_option maxRecDepth 100000 in
set_option maxHeartbeats 40000000 in
theorem ok_siphash_Derive (a0 : List Int) (a1 : List UInt8) (a2 : Int) (r : (List Int)) (h : F_siphash_Derive a0 a1 a2 = some r) : Con Try.prog 69 [.agg (arrS .u8 16 a0), .c (.lit (.string (bs8 a1))), .c (.lit (.int .u64 (a2)))] [] (.agg (arrS .u8 16 r)) [] := by
  unfold F_siphash_Derive at h
  refine con_of [] [] 43 Try.func69 rfl rfl (by kernel_rfl) (fun K => ?_)
  refine TS_go 8 ?_
  replace h := chkO h
  obtain ⟨hc1, h⟩ := h
  refine TS_s2bT 13 5 1 a1 hc1 rfl (by kernel_rfl) (by kernel_rfl) ?_
  replace h := bindO h
  obtain ⟨v2, hv2, h⟩ := h
  refine TS_con [[2]] [(14, 900000)] none (okT_octets_Append (i8L a1) 0 1 v2 hv2) (by kernel_rfl) (by kernel_rfl) (by kernel_rfl) ?_
  refine TS_go 6 ?_
  replace h := bindO h
  obtain ⟨v3, hv3, h⟩ := h
  refine TS_con [[2]] [(17, 900000)] none (okT_octets_Append v2 a2 8 v3 hv3) (by kernel_rfl) (by kernel_rfl) (by kernel_rfl) ?_
  refine TS_go 12 ?_
  refine TS_cut ⟨[(3, []), (6, []), (7, []), (8, []), (18, [])], [(3, (3, [])), (6, (6, [])), (17, (17, [])), (8, (8, []))]⟩ (.mk [.code (codeAt [1, 1, 1, 1, 0, 1, 0] (bodyOf Try.f69)), .blk 0, .code (codeAt [1, 1, 1, 1, 1] (bodyOf Try.f69))] .normal ⟨[(3, .c (.box 3 0)), (6, .c (.box 6 0)), (7, .c (.slc 1 19 (List.length v3) (List.map (ecI .u8) v3))), (8, .c (.box 8 0)), (18, .c (.lit (.int .i64 (0))))], [(3, .box [.lit (.int .u8 ((a0.getD 0 0))), .lit (.int .u8 ((a0.getD 1 0))), .lit (.int .u8 ((a0.getD 2 0))), .lit (.int .u8 ((a0.getD 3 0))), .lit (.int .u8 ((a0.getD 4 0))), .lit (.int .u8 ((a0.getD 5 0))), .lit (.int .u8 ((a0.getD 6 0))), .lit (.int .u8 ((a0.getD 7 0))), .lit (.int .u8 ((a0.getD 8 0))), .lit (.int .u8 ((a0.getD 9 0))), .lit (.int .u8 ((a0.getD 10 0))), .lit (.int .u8 ((a0.getD 11 0))), .lit (.int .u8 ((a0.getD 12 0))), .lit (.int .u8 ((a0.getD 13 0))), .lit (.int .u8 ((a0.getD 14 0))), .lit (.int .u8 ((a0.getD 15 0)))]), (6, .box [.lit (.int .u8 (0)), .lit (.int .u8 (0)), .lit (.int .u8 (0)), .lit (.int .u8 (0)), .lit (.int .u8 (0)), .lit (.int .u8 (0)), .lit (.int .u8 (0)), .lit (.int .u8 (0)), .lit (.int .u8 (0)), .lit (.int .u8 (0)), .lit (.int .u8 (0)), .lit (.int .u8 (0)), .lit (.int .u8 (0)), .lit (.int .u8 (0)), .lit (.int .u8 (0)), .lit (.int .u8 (0))]), (17, .spare 5 1 (List.length v3)), (8, .box [.lit (.int .u8 (0)), .lit (.int .u8 (0)), .lit (.int .u8 (0)), .lit (.int .u8 (0)), .lit (.int .u8 (0)), .lit (.int .u8 (0)), .lit (.int .u8 (0)), .lit (.int .u8 (0)), .lit (.int .u8 (0)), .lit (.int .u8 (0)), .lit (.int .u8 (0)), .lit (.int .u8 (0)), .lit (.int .u8 (0)), .lit (.int .u8 (0)), .lit (.int .u8 (0)), .lit (.int .u8 (0))])]⟩) (by kernel_rfl) (by kernel_rfl) ?_
  replace h := bindO h
  obtain ⟨y6, hl1, hK1⟩ := h
  refine TS_loopB (F_siphash_Derive_l1 v3 a0) ⟨[(3, []), (6, []), (7, []), (8, []), (18, [])], [(3, (3, [])), (6, (6, [])), (17, (17, [])), (8, (8, []))]⟩ (fun (s4 : Int × (List Int)) => [(18, .c (.lit (.int .i64 (s4.1))))]) (fun (s4 : Int × (List Int)) => [(8, .box (arrS .u8 16 s4.2))]) (0, [0, 0, 0, 0, 0, 0, 0, 0, 0, 0, 0, 0, 0, 0, 0, 0]) y6 (.exit 0) (fun (b : (List Int)) => b) ⟨[(6, []), (8, [])], [(6, (6, [])), (8, (8, []))]⟩ (fun (b5 : (List Int)) => []) (fun (b5 : (List Int)) => [(8, .box (arrS .u8 16 b5))]) hl1 (by kernel_rfl) (by kernel_rfl) ?_ ?_
  · intro s4 x h hy1
    unfold F_siphash_Derive_l1 at h
    refine TS_go 5 ?_
    replace h := condO h
    rcases h with ⟨hb7, h⟩ | ⟨hb7, h⟩
    · refine TS_know 19 (b := true) hb7 (by kernel_rfl) (by kernel_rfl) ?_
      refine TS_T (by kernel_rfl) rfl ?_
      refine TS_go 9 ?_
      refine TS_draw (by kernel_rfl) ?_
      refine TD_go 4 ?_
      replace h := bindO h
      obtain ⟨v8, hv8, h⟩ := h
      refine TD_conX (d := 25) (e := 900000) [[2]] (okT_octets_Append v3 (IntKind.wrap .u64 s4.1) 1 v8 hv8) (by kernel_rfl) (by kernel_rfl) ?_
      replace h := bindO h
      obtain ⟨v9, hv9, h⟩ := h
      refine TD_call [[], [2]] (ok_siphash_Sum a0 v8 v9 hv9) (by kernel_rfl) (by kernel_rfl) ?_
      refine TD_go 1 ?_
      refine TD_end (by kernel_rfl) ?_
      refine TS_go 5 ?_
      refine TS_cut ⟨[(3, []), (6, []), (7, []), (8, []), (18, []), (9, []), (10, []), (27, [])], [(3, (3, [])), (6, (6, [])), (17, (17, [])), (8, (8, []))]⟩ (.mk [.code (codeAt [1, 1, 1, 1, 0, 1, 0, 0, 1, 1, 0, 0, 1, 1, 1, 0] (bodyOf Try.f69)), .blk 2, .blk 1, .code (codeAt [1, 1, 1, 1, 0, 1, 0, 0, 1, 1, 1] (bodyOf Try.f69))] .normal ⟨[(3, .c (.box 3 0)), (6, .c (.box 6 0)), (7, .c (.slc 1 19 (List.length v3) (List.map (ecI .u8) v3))), (8, .c (.box 8 0)), (18, .c (.lit (.int .i64 (s4.1)))), (9, .c (.lit (.int .i64 (s4.1)))), (10, .c (.lit (.int .u64 (v9)))), (27, .c (.lit (.int .i64 (0))))], [(3, .box [.lit (.int .u8 ((a0.getD 0 0))), .lit (.int .u8 ((a0.getD 1 0))), .lit (.int .u8 ((a0.getD 2 0))), .lit (.int .u8 ((a0.getD 3 0))), .lit (.int .u8 ((a0.getD 4 0))), .lit (.int .u8 ((a0.getD 5 0))), .lit (.int .u8 ((a0.getD 6 0))), .lit (.int .u8 ((a0.getD 7 0))), .lit (.int .u8 ((a0.getD 8 0))), .lit (.int .u8 ((a0.getD 9 0))), .lit (.int .u8 ((a0.getD 10 0))), .lit (.int .u8 ((a0.getD 11 0))), .lit (.int .u8 ((a0.getD 12 0))), .lit (.int .u8 ((a0.getD 13 0))), .lit (.int .u8 ((a0.getD 14 0))), .lit (.int .u8 ((a0.getD 15 0)))]), (6, .box [.lit (.int .u8 (0)), .lit (.int .u8 (0)), .lit (.int .u8 (0)), .lit (.int .u8 (0)), .lit (.int .u8 (0)), .lit (.int .u8 (0)), .lit (.int .u8 (0)), .lit (.int .u8 (0)), .lit (.int .u8 (0)), .lit (.int .u8 (0)), .lit (.int .u8 (0)), .lit (.int .u8 (0)), .lit (.int .u8 (0)), .lit (.int .u8 (0)), .lit (.int .u8 (0)), .lit (.int .u8 (0))]), (17, .spare 5 1 (List.length v3)), (8, .box [.lit (.int .u8 ((s4.2.getD 0 0))), .lit (.int .u8 ((s4.2.getD 1 0))), .lit (.int .u8 ((s4.2.getD 2 0))), .lit (.int .u8 ((s4.2.getD 3 0))), .lit (.int .u8 ((s4.2.getD 4 0))), .lit (.int .u8 ((s4.2.getD 5 0))), .lit (.int .u8 ((s4.2.getD 6 0))), .lit (.int .u8 ((s4.2.getD 7 0))), .lit (.int .u8 ((s4.2.getD 8 0))), .lit (.int .u8 ((s4.2.getD 9 0))), .lit (.int .u8 ((s4.2.getD 10 0))), .lit (.int .u8 ((s4.2.getD 11 0))), .lit (.int .u8 ((s4.2.getD 12 0))), .lit (.int .u8 ((s4.2.getD 13 0))), .lit (.int .u8 ((s4.2.getD 14 0))), .lit (.int .u8 ((s4.2.getD 15 0)))])]⟩) (by kernel_rfl) (by kernel_rfl) ?_
      replace h := bindO h
      obtain ⟨y12, hl2, hK2⟩ := h
      refine TS_loopB (F_siphash_Derive_l2 s4 v9) ⟨[(3, []), (6, []), (7, []), (8, []), (9, []), (10, []), (18, []), (27, [])], [(3, (3, [])), (6, (6, [])), (17, (17, [])), (8, (8, []))]⟩ (fun (s10 : Int × (List Int)) => [(27, .c (.lit (.int .i64 (s10.1))))]) (fun (s10 : Int × (List Int)) => [(8, .box (arrS .u8 16 s10.2))]) (0, s4.2) y12 (.exit 2) (fun (b : (List Int)) => b) ⟨[(3, []), (6, []), (7, []), (8, []), (18, [])], [(3, (3, [])), (6, (6, [])), (17, (17, [])), (8, (8, []))]⟩ (fun (b11 : (List Int)) => []) (fun (b11 : (List Int)) => [(8, .box (arrS .u8 16 b11))]) hl2 (by kernel_rfl) (by kernel_rfl) ?_ ?_
      · intro s10 x h hy2
        unfold F_siphash_Derive_l2 at h
        refine TS_go 5 ?_
        replace h := condO h
        rcases h with ⟨hb13, h⟩ | ⟨hb13, h⟩
        · refine TS_know 28 (b := true) hb13 (by kernel_rfl) (by kernel_rfl) ?_
          refine TS_T (by kernel_rfl) rfl ?_
          refine TS_go 16 ?_
          replace h := chkO h
          obtain ⟨hc14, h⟩ := h
          refine TS_num (op := .shr) (k := .u64) (k' := .i64) (m := v9) (i := IntKind.wrap .i64 (8 * s10.1)) (of_decide_eq_true hc14) rfl (by simp) (by kernel_rfl) (by kernel_rfl) ?_
          refine TS_go 1 ?_
          replace h := chkO h
          obtain ⟨hc15, h⟩ := h
          refine TS_idxA 8 0 16 (i := IntKind.wrap .i64 ((IntKind.wrap .i64 (8 * s4.1)) + s10.1)) hc15 (by kernel_rfl) (by kernel_rfl) ?_
          refine TS_stA (k := .u8) (d := 8) 0 16 (i := IntKind.wrap .i64 ((IntKind.wrap .i64 (8 * s4.1)) + s10.1)) (v := IntKind.wrap .u8 (ishr .u64 v9 (IntKind.wrap .i64 (8 * s10.1)))) s10.2 (pre := []) (post := []) hc15 (by kernel_rfl) (by kernel_rfl) (by kernel_rfl) ?_
          refine TS_go 6 ?_
          obtain rfl := Option.some.inj h
          exact TS_againB _ ⟨[(3, []), (6, []), (7, []), (8, []), (9, []), (10, []), (18, []), (27, [])], [(3, (3, [])), (6, (6, [])), (17, (17, [])), (8, (8, []))]⟩ rfl (by kernel_rfl) (by kernel_rfl)
        · refine TS_know 28 (b := false) hb13 (by kernel_rfl) (by kernel_rfl) ?_
          refine TS_F (by kernel_rfl) rfl ?_
          refine TS_go 2 ?_
          obtain rfl := Option.some.inj h
          exact TS_brkB s10.2 ⟨[(3, []), (6, []), (7, []), (8, []), (18, [])], [(3, (3, [])), (6, (6, [])), (17, (17, [])), (8, (8, []))]⟩ rfl (by kernel_rfl) (by kernel_rfl) (by kernel_rfl)
      · intro b11 hb
        subst y12
        have h := hK2
        refine TS_go 6 ?_
        obtain rfl := Option.some.inj h
        exact TS_againB _ ⟨[(3, []), (6, []), (7, []), (8, []), (18, [])], [(3, (3, [])), (6, (6, [])), (17, (17, [])), (8, (8, []))]⟩ rfl (by kernel_rfl) (by kernel_rfl)
    · refine TS_know 19 (b := false) hb7 (by kernel_rfl) (by kernel_rfl) ?_
      refine TS_F (by kernel_rfl) rfl ?_
      refine TS_go 2 ?_
      obtain rfl := Option.some.inj h
      exact TS_brkB s4.2 ⟨[(6, []), (8, [])], [(6, (6, [])), (8, (8, []))]⟩ rfl (by kernel_rfl) (by kernel_rfl) (by kernel_rfl)
  · intro b5 hb
    subst y6
    have h := hK1
    refine TS_go 7 ?_
    obtain rfl := Option.some.inj h
    exact TS_ret (by kernel_rfl) (by kernel_rfl) (by kernel_rfl)

/-- multihop/siphash.Tag -/
noncomputable def F_siphash_Tag_l1 (a2 : Int) (v3 : Int) (s5 : Int × (List Int)) : Option ((Int × (List Int)) ⊕ ((List Int))) :=
  bif (decide (s5.1 < a2)) then
    bif decide (0 ≤ (IntKind.wrap .i64 (8 * s5.1))) then
      (idx (Cut.app .whole s5.2) s5.1).bind fun e10 =>
      (s5.2[(0 + Int.toNat s5.1)]?).bind fun e11 =>
      some (Sum.inl (IntKind.wrap .i64 (s5.1 + 1), (List.set s5.2 (0 + Int.toNat s5.1) (IntKind.wrap .u8 (ishr .u64 v3 (IntKind.wrap .i64 (8 * s5.1)))))))
    else none
  else
    some (Sum.inr s5.2)
noncomputable def F_siphash_Tag (a0 : List Int) (a1 : List Int) (a2 : Int) : Option ((List Int) × Bool) :=
  bif (decide (a2 < 1)) then
    some ((([] : List Int), false))
  else
    bif (decide (a2 > 8)) then
      some ((([] : List Int), false))
    else
      (F_siphash_Sum a0 a1).bind fun v3 =>
      (mkO 1 a2 a2).bind fun n4 =>
      (loopO (F_siphash_Tag_l1 a2 v3) (0, (List.replicate n4 (0 : Int)))).bind fun b6 =>
      some ((b6, true))
set_option maxRecDepth 100000 in
set_option maxHeartbeats 40000000 in
theorem okT_siphash_Tag (a0 : List Int) (a1 : List Int) (a2 : Int) (r : (List Int) × Bool) (h : F_siphash_Tag a0 a1 a2 = some r) : Con Try.prog 70 [.agg (arrS .u8 16 a0), .c (eS 1 (ecI .u8) (a1)), .c (.lit (.int .i64 (a2)))] [] (.tup [(false, [.slc 1 900002 (List.length r.1) (List.map (ecI .u8) r.1)]), (false, [.lit (.bool (r.2))])]) [(900000, .spare 5 1 (List.length r.1))] := by
  unfold F_siphash_Tag at h
  refine con_of [] [(900000, [])] 36 Try.func70 rfl rfl (by kernel_rfl) (fun K => ?_)
  refine TS_go 12 ?_
  replace h := condO h
  rcases h with ⟨hb1, h⟩ | ⟨hb1, h⟩
  · refine TS_know 12 (b := true) hb1 (by kernel_rfl) (by kernel_rfl) ?_
    refine TS_know 13 (b := true) hb1 (by kernel_rfl) (by kernel_rfl) ?_
    refine TS_go 4 ?_
    refine TS_T (by kernel_rfl) rfl ?_
    refine TS_go 5 ?_
    refine TS_nilT 6 600000 5 1 (by kernel_rfl) ?_
    refine TS_fitU ⟨[(6, []), (7, [])], [(600000, (900000, []))]⟩ (by kernel_rfl) ?_
    refine TS_go 2 ?_
    obtain rfl := Option.some.inj h
    exact TS_ret (by kernel_rfl) (by kernel_rfl) (by kernel_rfl)
  · refine TS_know 12 (b := false) hb1 (by kernel_rfl) (by kernel_rfl) ?_
    refine TS_know 13 (b := false) hb1 (by kernel_rfl) (by kernel_rfl) ?_
    refine TS_go 4 ?_
    replace h := condO h
    rcases h with ⟨hb2, h⟩ | ⟨hb2, h⟩
    · refine TS_know 15 (b := true) hb2 (by kernel_rfl) (by kernel_rfl) ?_
      refine TS_know 16 (b := true) hb2 (by kernel_rfl) (by kernel_rfl) ?_
      refine TS_T (by kernel_rfl) rfl ?_
      refine TS_go 5 ?_
      refine TS_nilT 6 600000 5 1 (by kernel_rfl) ?_
      refine TS_fitU ⟨[(6, []), (7, [])], [(600000, (900000, []))]⟩ (by kernel_rfl) ?_
      refine TS_go 2 ?_
      obtain rfl := Option.some.inj h
      exact TS_ret (by kernel_rfl) (by kernel_rfl) (by kernel_rfl)
    · refine TS_know 15 (b := false) hb2 (by kernel_rfl) (by kernel_rfl) ?_
      refine TS_know 16 (b := false) hb2 (by kernel_rfl) (by kernel_rfl) ?_
      refine TS_F (by kernel_rfl) rfl ?_
      refine TS_go 5 ?_
      replace h := bindO h
      obtain ⟨v3, hv3, h⟩ := h
      refine TS_call [] (ok_siphash_Sum a0 a1 v3 hv3) (by kernel_rfl) (by kernel_rfl) ?_
      refine TS_go 5 ?_
      replace h := bindO h
      obtain ⟨n4, hn4, h⟩ := h
      refine TS_makeR 21 5 1 (ecI .u8) (0 : Int) [] (cs := [.lit (.int .u8 (0))]) (l := a2) (c := a2) hn4 (by kernel_rfl) (by kernel_rfl) (by kernel_rfl) ?_
      refine TS_go 9 ?_
      refine TS_cut ⟨[(8, []), (9, []), (22, []), (23, [])], [(21, (21, []))]⟩ (.mk [.code (codeAt [1, 1, 1, 1, 0, 1, 0] (bodyOf Try.f70)), .blk 0, .code (codeAt [1, 1, 1, 1, 1] (bodyOf Try.f70))] .normal ⟨[(8, .c (.lit (.int .u64 (v3)))), (9, .c (.own 21)), (22, .c (.lit (.int .i64 (a2)))), (23, .c (.lit (.int .i64 (0))))], [(21, .row 5 1 (List.length (List.replicate n4 (0 : Int))) (List.map (ecI .u8) (List.replicate n4 (0 : Int))))]⟩) (by kernel_rfl) (by kernel_rfl) ?_
      replace h := bindO h
      obtain ⟨y7, hl1, hK1⟩ := h
      refine TS_loopB (F_siphash_Tag_l1 a2 v3) ⟨[(8, []), (9, []), (22, []), (23, [])], [(21, (21, []))]⟩ (fun (s5 : Int × (List Int)) => [(23, .c (.lit (.int .i64 (s5.1))))]) (fun (s5 : Int × (List Int)) => [(21, .row 5 1 (List.length s5.2) (List.map (ecI .u8) s5.2))]) (0, (List.replicate n4 (0 : Int))) y7 (.exit 0) (fun (b : (List Int)) => b) ⟨[(9, [])], [(21, (21, []))]⟩ (fun (b6 : (List Int)) => []) (fun (b6 : (List Int)) => [(21, .row 5 1 (List.length b6) (List.map (ecI .u8) b6))]) hl1 (by kernel_rfl) (by kernel_rfl) ?_ ?_
      · intro s5 x h hy1
        unfold F_siphash_Tag_l1 at h
        refine TS_go 5 ?_
        replace h := condO h
        rcases h with ⟨hb8, h⟩ | ⟨hb8, h⟩
        · refine TS_know 24 (b := true) hb8 (by kernel_rfl) (by kernel_rfl) ?_
          refine TS_T (by kernel_rfl) rfl ?_
          refine TS_go 14 ?_
          replace h := chkO h
          obtain ⟨hc9, h⟩ := h
          refine TS_num (op := .shr) (k := .u64) (k' := .i64) (m := v3) (i := IntKind.wrap .i64 (8 * s5.1)) (of_decide_eq_true hc9) rfl (by simp) (by kernel_rfl) (by kernel_rfl) ?_
          refine TS_go 1 ?_
          replace h := bindO h
          obtain ⟨e10, he10, h⟩ := h
          refine TS_idxR 21 1 0 (ecI .u8) .whole he10 (by kernel_rfl) (by kernel_rfl) ?_
          replace h := bindO h
          obtain ⟨e11, he11, h⟩ := h
          refine TS_stE 21 5 1 (List.length s5.2) (0 + Int.toNat s5.1) 0 (ecI .u8) (ds := [.lit (.int .u8 (IntKind.wrap .u8 (ishr .u64 v3 (IntKind.wrap .i64 (8 * s5.1)))))]) (IntKind.wrap .u8 (ishr .u64 v3 (IntKind.wrap .i64 (8 * s5.1)))) he11 (by kernel_rfl) (by kernel_rfl) (by kernel_rfl) (by kernel_rfl) ?_
          refine TS_go 6 ?_
          obtain rfl := Option.some.inj h
          exact TS_againB _ ⟨[(8, []), (9, []), (22, []), (23, [])], [(21, (21, []))]⟩ rfl (by kernel_rfl) (by kernel_rfl)
        · refine TS_know 24 (b := false) hb8 (by kernel_rfl) (by kernel_rfl) ?_
          refine TS_F (by kernel_rfl) rfl ?_
          refine TS_go 2 ?_
          obtain rfl := Option.some.inj h
          exact TS_brkB s5.2 ⟨[(9, [])], [(21, (21, []))]⟩ rfl (by kernel_rfl) (by kernel_rfl) (by kernel_rfl)
      · intro b6 hb
        subst y7
        have h := hK1
        refine TS_go 7 ?_
        refine TS_settle 21 (by kernel_rfl) ?_
        refine TS_fitU ⟨[(6, []), (7, [])], [(21, (900000, []))]⟩ (by kernel_rfl) ?_
        refine TS_go 1 ?_
        obtain rfl := Option.some.inj h
        exact TS_ret (by kernel_rfl) (by kernel_rfl) (by kernel_rfl)
theorem ok_siphash_Tag (a0 : List Int) (a1 : List Int) (a2 : Int) (r : (List Int) × Bool) (h : F_siphash_Tag a0 a1 a2 = some r) : Con Try.prog 70 [.agg (arrS .u8 16 a0), .c (eS 1 (ecI .u8) (a1)), .c (.lit (.int .i64 (a2)))] [] (.tup [(false, [eS 1 (ecI .u8) (r.1)]), (false, [.lit (.bool (r.2))])]) [] :=
  con_drop [[2]] [] (okT_siphash_Tag a0 a1 a2 r h) (by kernel_rfl) (by kernel_rfl) (by kernel_rfl)

/-- multihop/management.tag -/
noncomputable def F_management_tag (a0 : List Int) (a1 : Int) (a2 : List Int) : Option ((List Int)) :=
  (F_siphash_Derive a0 ([115, 101, 116, 116, 105, 110, 103, 115] : List UInt8) (IntKind.wrap .u64 a1)).bind fun v1 =>
  (F_octets_Append ([] : List Int) (IntKind.wrap .u64 a1) 4).bind fun v2 =>
  (appO 1 v2 (Cut.app .whole a2)).bind fun l3 =>
  (F_siphash_Tag v1 l3 8).bind fun v4 =>
  some ((cpA 8 [0, 0, 0, 0, 0, 0, 0, 0] (Cut.app .whole v4.1)))
set_option maxRecDepth 100000 in
set_option maxHeartbeats 40000000 in
theorem ok_management_tag (a0 : List Int) (a1 : Int) (a2 : List Int) (r : (List Int)) (h : F_management_tag a0 a1 a2 = some r) : Con Try.prog 49 [.agg (arrS .u8 16 a0), .c (.lit (.int .i64 (a1))), .c (eS 1 (ecI .u8) (a2))] [] (.agg (arrS .u8 8 r)) [] := by
  unfold F_management_tag at h
  refine con_of [] [] 32 Try.func49 rfl rfl (by kernel_rfl) (fun K => ?_)
  refine TS_go 10 ?_
  replace h := bindO h
  obtain ⟨v1, hv1, h⟩ := h
  refine TS_call [] (ok_siphash_Derive a0 ([115, 101, 116, 116, 105, 110, 103, 115] : List UInt8) (IntKind.wrap .u64 a1) v1 hv1) (by kernel_rfl) (by kernel_rfl) ?_
  refine TS_go 7 ?_
  replace h := bindO h
  obtain ⟨v2, hv2, h⟩ := h
  refine TS_con [[2]] [(18, 900000)] none (okT_octets_Append ([] : List Int) (IntKind.wrap .u64 a1) 4 v2 hv2) (by kernel_rfl) (by kernel_rfl) (by kernel_rfl) ?_
  refine TS_go 6 ?_
  replace h := bindO h
  obtain ⟨l3, hl3, h⟩ := h
  refine TS_appT (d := 18) (e := 5) (sz := 1) (N := List.length v2) (ecI .u8) (fun _ => by kernel_rfl) (l1 := v2) (l2 := a2) (c := .whole) hl3 (by kernel_rfl) (by kernel_rfl) ?_
  refine TS_go 6 ?_
  replace h := bindO h
  obtain ⟨v4, hv4, h⟩ := h
  refine TS_con [[], [2]] [(25, 900000)] none (okT_siphash_Tag v1 l3 8 v4 hv4) (by kernel_rfl) (by kernel_rfl) (by kernel_rfl) ?_
  refine TS_go 12 ?_
  refine TS_win 11 0 8 (a := 0) (b := 8) (by decide) (by decide) (by kernel_rfl) (by kernel_rfl) ?_
  refine TS_go 1 ?_
  refine TS_cpW (k := .u8) 11 0 8 [0, 0, 0, 0, 0, 0, 0, 0] v4.1 .whole (pre := []) (post := []) (by kernel_rfl) (by kernel_rfl) (by kernel_rfl) ?_
  refine TS_go 7 ?_
  obtain rfl := Option.some.inj h
  exact TS_ret (by kernel_rfl) (by kernel_rfl) (by kernel_rfl)

/-- multihop/management.Check -/
noncomputable def F_management_Check (a0 : List Int) (a1 : S_Settings) : Option (Bool) :=
  (F_management_Valid a1).bind fun v1 =>
  bif v1 then
    bif (a1.Version != 0) then
      (F_management_tag a0 a1.Version a1.Data).bind fun v4 =>
      some ((arrEq 8 a1.Tag v4))
    else
      some (false)
  else
    some (false)
set_option maxRecDepth 100000 in
set_option maxHeartbeats 40000000 in
theorem ok_management_Check (a0 : List Int) (a1 : S_Settings) (r : Bool) (h : F_management_Check a0 a1 = some r) : Con Try.prog 21 [.agg (arrS .u8 16 a0), .agg (S_Settings.cs a1)] [] (.c (.lit (.bool (r)))) [] := by
  unfold F_management_Check at h
  refine con_of [] [] 23 Try.func21 rfl rfl (by kernel_rfl) (fun K => ?_)
  refine TS_go 7 ?_
  refine TS_draw (by kernel_rfl) ?_
  refine TD_go 1 ?_
  replace h := bindO h
  obtain ⟨v1, hv1, h⟩ := h
  refine TD_call [] (ok_management_Valid a1 v1 hv1) (by kernel_rfl) (by kernel_rfl) ?_
  refine TD_go 1 ?_
  replace h := condO h
  rcases h with ⟨hb2, h⟩ | ⟨hb2, h⟩
  · subst hb2
    refine TD_go 4 ?_
    replace h := condO h
    rcases h with ⟨hb3, h⟩ | ⟨hb3, h⟩
    · refine TD_know 12 (b := true) hb3 trivial (by kernel_rfl) (by kernel_rfl) ?_
      refine TD_go 7 ?_
      replace h := bindO h
      obtain ⟨v4, hv4, h⟩ := h
      refine TD_call [] (ok_management_tag a0 a1.Version a1.Data v4 hv4) (by kernel_rfl) (by kernel_rfl) ?_
      refine TD_go 3 ?_
      refine TD_end (by kernel_rfl) ?_
      refine TS_go 1 ?_
      obtain rfl := Option.some.inj h
      exact TS_ret (by kernel_rfl) (by kernel_rfl) (by kernel_rfl)
    · refine TD_know 12 (b := false) hb3 trivial (by kernel_rfl) (by kernel_rfl) ?_
      refine TD_go 11 ?_
      refine TD_end (by kernel_rfl) ?_
      refine TS_go 1 ?_
      obtain rfl := Option.some.inj h
      exact TS_ret (by kernel_rfl) (by kernel_rfl) (by kernel_rfl)
  · subst hb2
    refine TD_go 16 ?_
    refine TD_end (by kernel_rfl) ?_
    refine TS_go 1 ?_
    obtain rfl := Option.some.inj h
    exact TS_ret (by kernel_rfl) (by kernel_rfl) (by kernel_rfl)

/-- multihop/management.Take -/
noncomputable def F_management_Take (a0 : S_Settings) (a1 : List Int) (a2 : S_Settings) : Option (S_Settings × Int) :=
  (F_management_Valid a0).bind fun v1 =>
  bif v1 then
    (F_management_Valid a2).bind fun v3 =>
    bif v3 then
      bif (decide (a2.Version ≤ a0.Version)) then
        some (((S_Settings.mk 0 ([] : List Int) [0, 0, 0, 0, 0, 0, 0, 0]), 16))
      else
        (F_management_Check a1 a2).bind fun v6 =>
        bif v6 then
          (appO 1 ([] : List Int) (Cut.app .whole a2.Data)).bind fun l8 =>
          some (((S_Settings.mk a2.Version l8 a2.Tag), 0))
        else
          some (((S_Settings.mk 0 ([] : List Int) [0, 0, 0, 0, 0, 0, 0, 0]), 12))
    else
      some (((S_Settings.mk 0 ([] : List Int) [0, 0, 0, 0, 0, 0, 0, 0]), 1))
  else
    some (((S_Settings.mk 0 ([] : List Int) [0, 0, 0, 0, 0, 0, 0, 0]), 1))
set_option maxRecDepth 100000 in
set_option maxHeartbeats 40000000 in
theorem ok_management_Take (a0 : S_Settings) (a1 : List Int) (a2 : S_Settings) (r : S_Settings × Int) (h : F_management_Take a0 a1 a2 = some r) : Con Try.prog 14 [.agg (S_Settings.cs a0), .agg (arrS .u8 16 a1), .agg (S_Settings.cs a2)] [] (.tup [(true, S_Settings.cs r.1), (false, [.lit (.int .i64 (r.2))])]) [] := by
  unfold F_management_Take at h
  refine con_of [[0, 2]] [] 33 Try.func14 rfl rfl (by kernel_rfl) (fun K => ?_)
  refine TS_go 12 ?_
  replace h := bindO h
  obtain ⟨v1, hv1, h⟩ := h
  refine TS_call [] (ok_management_Valid a0 v1 hv1) (by kernel_rfl) (by kernel_rfl) ?_
  refine TS_go 2 ?_
  replace h := condO h
  rcases h with ⟨hb2, h⟩ | ⟨hb2, h⟩
  · subst hb2
    refine TS_go 1 ?_
    replace h := bindO h
    obtain ⟨v3, hv3, h⟩ := h
    refine TS_call [] (ok_management_Valid a2 v3 hv3) (by kernel_rfl) (by kernel_rfl) ?_
    refine TS_go 3 ?_
    replace h := condO h
    rcases h with ⟨hb4, h⟩ | ⟨hb4, h⟩
    · subst hb4
      refine TS_F (by kernel_rfl) rfl ?_
      refine TS_go 10 ?_
      replace h := condO h
      rcases h with ⟨hb5, h⟩ | ⟨hb5, h⟩
      · refine TS_know 21 (b := true) hb5 (by kernel_rfl) (by kernel_rfl) ?_
        refine TS_T (by kernel_rfl) rfl ?_
        refine TS_go 8 ?_
        obtain rfl := Option.some.inj h
        exact TS_ret (by kernel_rfl) (by kernel_rfl) (by kernel_rfl)
      · refine TS_know 21 (b := false) hb5 (by kernel_rfl) (by kernel_rfl) ?_
        refine TS_F (by kernel_rfl) rfl ?_
        refine TS_go 6 ?_
        replace h := bindO h
        obtain ⟨v6, hv6, h⟩ := h
        refine TS_call [] (ok_management_Check a1 a2 v6 hv6) (by kernel_rfl) (by kernel_rfl) ?_
        refine TS_go 2 ?_
        replace h := condO h
        rcases h with ⟨hb7, h⟩ | ⟨hb7, h⟩
        · subst hb7
          refine TS_F (by kernel_rfl) rfl ?_
          refine TS_go 5 ?_
          replace h := bindO h
          obtain ⟨l8, hl8, h⟩ := h
          refine TS_appNT 30 5 1 (ecI .u8) (fun _ => by kernel_rfl) (l2 := a2.Data) .whole hl8 (by kernel_rfl) (by kernel_rfl) ?_
          refine TS_go 10 ?_
          obtain rfl := Option.some.inj h
          exact TS_ret (by kernel_rfl) (by kernel_rfl) (by kernel_rfl)
        · subst hb7
          refine TS_T (by kernel_rfl) rfl ?_
          refine TS_go 8 ?_
          obtain rfl := Option.some.inj h
          exact TS_ret (by kernel_rfl) (by kernel_rfl) (by kernel_rfl)
    · subst hb4
      refine TS_T (by kernel_rfl) rfl ?_
      refine TS_go 8 ?_
      obtain rfl := Option.some.inj h
      exact TS_ret (by kernel_rfl) (by kernel_rfl) (by kernel_rfl)
  · subst hb2
    refine TS_go 5 ?_
    refine TS_T (by kernel_rfl) rfl ?_
    refine TS_go 8 ?_
    obtain rfl := Option.some.inj h
    exact TS_ret (by kernel_rfl) (by kernel_rfl) (by kernel_rfl)

/-- multihop/management.Sign -/
noncomputable def F_management_Sign (a0 : List Int) (a1 : Int) (a2 : List Int) : Option (S_Settings × Int) :=
  bif (decide (a1 < 1)) then
    some (((S_Settings.mk 0 ([] : List Int) [0, 0, 0, 0, 0, 0, 0, 0]), 2))
  else
    bif (decide (a1 > 1073741824)) then
      some (((S_Settings.mk 0 ([] : List Int) [0, 0, 0, 0, 0, 0, 0, 0]), 2))
    else
      bif (decide ((List.length a2 : Int) > 64)) then
        some (((S_Settings.mk 0 ([] : List Int) [0, 0, 0, 0, 0, 0, 0, 0]), 3))
      else
        (appO 1 ([] : List Int) (Cut.app .whole a2)).bind fun l4 =>
        (F_management_tag a0 a1 a2).bind fun v5 =>
        some (((S_Settings.mk a1 l4 v5), 0))
set_option maxRecDepth 100000 in
set_option maxHeartbeats 40000000 in
theorem ok_management_Sign (a0 : List Int) (a1 : Int) (a2 : List Int) (r : S_Settings × Int) (h : F_management_Sign a0 a1 a2 = some r) : Con Try.prog 18 [.agg (arrS .u8 16 a0), .c (.lit (.int .i64 (a1))), .c (eS 1 (ecI .u8) (a2))] [] (.tup [(true, S_Settings.cs r.1), (false, [.lit (.int .i64 (r.2))])]) [] := by
  unfold F_management_Sign at h
  refine con_of [[0, 2]] [] 29 Try.func18 rfl rfl (by kernel_rfl) (fun K => ?_)
  refine TS_go 12 ?_
  replace h := condO h
  rcases h with ⟨hb1, h⟩ | ⟨hb1, h⟩
  · refine TS_know 10 (b := true) hb1 (by kernel_rfl) (by kernel_rfl) ?_
    refine TS_know 11 (b := true) hb1 (by kernel_rfl) (by kernel_rfl) ?_
    refine TS_go 4 ?_
    refine TS_T (by kernel_rfl) rfl ?_
    refine TS_go 8 ?_
    obtain rfl := Option.some.inj h
    exact TS_ret (by kernel_rfl) (by kernel_rfl) (by kernel_rfl)
  · refine TS_know 10 (b := false) hb1 (by kernel_rfl) (by kernel_rfl) ?_
    refine TS_know 11 (b := false) hb1 (by kernel_rfl) (by kernel_rfl) ?_
    refine TS_go 4 ?_
    replace h := condO h
    rcases h with ⟨hb2, h⟩ | ⟨hb2, h⟩
    · refine TS_know 13 (b := true) hb2 (by kernel_rfl) (by kernel_rfl) ?_
      refine TS_know 14 (b := true) hb2 (by kernel_rfl) (by kernel_rfl) ?_
      refine TS_T (by kernel_rfl) rfl ?_
      refine TS_go 8 ?_
      obtain rfl := Option.some.inj h
      exact TS_ret (by kernel_rfl) (by kernel_rfl) (by kernel_rfl)
    · refine TS_know 13 (b := false) hb2 (by kernel_rfl) (by kernel_rfl) ?_
      refine TS_know 14 (b := false) hb2 (by kernel_rfl) (by kernel_rfl) ?_
      refine TS_F (by kernel_rfl) rfl ?_
      refine TS_go 8 ?_
      replace h := condO h
      rcases h with ⟨hb3, h⟩ | ⟨hb3, h⟩
      · refine TS_know 18 (b := true) hb3 (by kernel_rfl) (by kernel_rfl) ?_
        refine TS_T (by kernel_rfl) rfl ?_
        refine TS_go 8 ?_
        obtain rfl := Option.some.inj h
        exact TS_ret (by kernel_rfl) (by kernel_rfl) (by kernel_rfl)
      · refine TS_know 18 (b := false) hb3 (by kernel_rfl) (by kernel_rfl) ?_
        refine TS_F (by kernel_rfl) rfl ?_
        refine TS_go 4 ?_
        replace h := bindO h
        obtain ⟨l4, hl4, h⟩ := h
        refine TS_appNT 21 5 1 (ecI .u8) (fun _ => by kernel_rfl) (l2 := a2) .whole hl4 (by kernel_rfl) (by kernel_rfl) ?_
        refine TS_go 9 ?_
        replace h := bindO h
        obtain ⟨v5, hv5, h⟩ := h
        refine TS_call [] (ok_management_tag a0 a1 a2 v5 hv5) (by kernel_rfl) (by kernel_rfl) ?_
        refine TS_go 5 ?_
        obtain rfl := Option.some.inj h
        exact TS_ret (by kernel_rfl) (by kernel_rfl) (by kernel_rfl)

/-- multihop/management.ValidReports -/
noncomputable def F_management_ValidReports_l1 (a0 : List S_Diagnostic) (s2 : Int × Int) : Option ((Int × Int) ⊕ ((Unit) ⊕ (Bool))) :=
  bif (decide (s2.2 < (List.length a0 : Int))) then
    (idx a0 s2.2).bind fun e6 =>
    bif (decide (e6.Node ≤ s2.1)) then
      some (Sum.inr (Sum.inr false))
    else
      (F_management_validNumber e6.Number).bind fun v8 =>
      bif v8 then
        bif (decide ((List.length e6.Data : Int) > 64)) then
          some (Sum.inr (Sum.inr false))
        else
          some (Sum.inl (e6.Node, IntKind.wrap .i64 (s2.2 + 1)))
      else
        some (Sum.inr (Sum.inr false))
  else
    some (Sum.inr (Sum.inl ()))
noncomputable def F_management_ValidReports (a0 : List S_Diagnostic) : Option (Bool) :=
  bif (decide ((List.length a0 : Int) > 64)) then
    some (false)
  else
    (loopO (F_management_ValidReports_l1 a0) (0, 0)).bind (Sum.elim (fun b3 =>
      some (true)
    ) (fun w11 => some w11))
set_option maxRecDepth 100000 in
set_option maxHeartbeats 40000000 in
theorem ok_management_ValidReports (a0 : List S_Diagnostic) (r : Bool) (h : F_management_ValidReports a0 = some r) : Con Try.prog 33 [.c (eS 3 S_Diagnostic.cs (a0))] [] (.c (.lit (.bool (r)))) [] := by
  unfold F_management_ValidReports at h
  refine con_of [] [] 34 Try.func33 rfl rfl (by kernel_rfl) (fun K => ?_)
  refine TS_go 11 ?_
  replace h := condO h
  rcases h with ⟨hb1, h⟩ | ⟨hb1, h⟩
  · refine TS_know 8 (b := true) hb1 (by kernel_rfl) (by kernel_rfl) ?_
    refine TS_T (by kernel_rfl) rfl ?_
    refine TS_go 6 ?_
    obtain rfl := Option.some.inj h
    exact TS_ret (by kernel_rfl) (by kernel_rfl) (by kernel_rfl)
  · refine TS_know 8 (b := false) hb1 (by kernel_rfl) (by kernel_rfl) ?_
    refine TS_F (by kernel_rfl) rfl ?_
    refine TS_go 13 ?_
    refine TS_cut ⟨[(3, []), (9, []), (10, []), (11, [])], []⟩ (.mk [.code (codeAt [1, 1, 1, 0, 1, 0] (bodyOf Try.f33)), .blk 0, .code (codeAt [1, 1, 1, 1] (bodyOf Try.f33))] .normal ⟨[(3, .c (.lit (.int .u64 (0)))), (9, .c (.slc 3 0 (List.length a0) (List.map S_Diagnostic.cs a0))), (10, .c (.lit (.int .i64 ((List.length a0 : Int))))), (11, .c (.lit (.int .i64 (0))))], []⟩) (by kernel_rfl) (by kernel_rfl) ?_
    replace h := bindO h
    obtain ⟨y4, hl1, hK1⟩ := h
    refine TS_loopB (F_management_ValidReports_l1 a0) ⟨[(3, []), (9, []), (10, []), (11, [])], []⟩ (fun (s2 : Int × Int) => [(3, .c (.lit (.int .u64 (s2.1)))), (11, .c (.lit (.int .i64 (s2.2))))]) (fun (s2 : Int × Int) => []) (0, 0) y4 (.exit 0) (fun (b : Unit) => (Sum.inl b : (Unit) ⊕ (Bool))) ⟨[], []⟩ (fun (b3 : Unit) => []) (fun (b3 : Unit) => []) hl1 (by kernel_rfl) (by kernel_rfl) ?_ ?_
    · intro s2 x h hy1
      unfold F_management_ValidReports_l1 at h
      refine TS_go 5 ?_
      replace h := condO h
      rcases h with ⟨hb5, h⟩ | ⟨hb5, h⟩
      · refine TS_know 12 (b := true) hb5 (by kernel_rfl) (by kernel_rfl) ?_
        refine TS_T (by kernel_rfl) rfl ?_
        refine TS_go 5 ?_
        replace h := bindO h
        obtain ⟨e6, he6, h⟩ := h
        refine TS_idx S_Diagnostic.cs he6 (by kernel_rfl) (by kernel_rfl) ?_
        refine TS_go 12 ?_
        replace h := condO h
        rcases h with ⟨hb7, h⟩ | ⟨hb7, h⟩
        · refine TS_know 18 (b := true) hb7 (by kernel_rfl) (by kernel_rfl) ?_
          refine TS_know 19 (b := true) hb7 (by kernel_rfl) (by kernel_rfl) ?_
          refine TS_go 12 ?_
          refine TS_T (by kernel_rfl) rfl ?_
          refine TS_go 8 ?_
          obtain rfl := Option.some.inj h
          have hy1q := hy1 _ rfl
          subst hy1q
          replace h := (elimR hK1)
          refine TS_retB rfl (by kernel_rfl) ?_
          refine TS_go 2 ?_
          obtain rfl := Option.some.inj h
          exact TS_ret (by kernel_rfl) (by kernel_rfl) (by kernel_rfl)
        · refine TS_know 18 (b := false) hb7 (by kernel_rfl) (by kernel_rfl) ?_
          refine TS_know 19 (b := false) hb7 (by kernel_rfl) (by kernel_rfl) ?_
          refine TS_go 2 ?_
          replace h := bindO h
          obtain ⟨v8, hv8, h⟩ := h
          refine TS_call [] (ok_management_validNumber e6.Number v8 hv8) (by kernel_rfl) (by kernel_rfl) ?_
          refine TS_go 3 ?_
          replace h := condO h
          rcases h with ⟨hb9, h⟩ | ⟨hb9, h⟩
          · subst hb9
            refine TS_go 6 ?_
            replace h := condO h
            rcases h with ⟨hb10, h⟩ | ⟨hb10, h⟩
            · refine TS_know 29 (b := true) hb10 (by kernel_rfl) (by kernel_rfl) ?_
              refine TS_know 30 (b := true) hb10 (by kernel_rfl) (by kernel_rfl) ?_
              refine TS_T (by kernel_rfl) rfl ?_
              refine TS_go 8 ?_
              obtain rfl := Option.some.inj h
              have hy1q := hy1 _ rfl
              subst hy1q
              replace h := (elimR hK1)
              refine TS_retB rfl (by kernel_rfl) ?_
              refine TS_go 2 ?_
              obtain rfl := Option.some.inj h
              exact TS_ret (by kernel_rfl) (by kernel_rfl) (by kernel_rfl)
            · refine TS_know 29 (b := false) hb10 (by kernel_rfl) (by kernel_rfl) ?_
              refine TS_know 30 (b := false) hb10 (by kernel_rfl) (by kernel_rfl) ?_
              refine TS_F (by kernel_rfl) rfl ?_
              refine TS_go 11 ?_
              obtain rfl := Option.some.inj h
              exact TS_againB _ ⟨[(3, []), (9, []), (10, []), (11, [])], []⟩ rfl (by kernel_rfl) (by kernel_rfl)
          · subst hb9
            refine TS_go 6 ?_
            refine TS_T (by kernel_rfl) rfl ?_
            refine TS_go 8 ?_
            obtain rfl := Option.some.inj h
            have hy1q := hy1 _ rfl
            subst hy1q
            replace h := (elimR hK1)
            refine TS_retB rfl (by kernel_rfl) ?_
            refine TS_go 2 ?_
            obtain rfl := Option.some.inj h
            exact TS_ret (by kernel_rfl) (by kernel_rfl) (by kernel_rfl)
      · refine TS_know 12 (b := false) hb5 (by kernel_rfl) (by kernel_rfl) ?_
        refine TS_F (by kernel_rfl) rfl ?_
        refine TS_go 2 ?_
        obtain rfl := Option.some.inj h
        exact TS_brkB () ⟨[], []⟩ rfl (by kernel_rfl) (by kernel_rfl) (by kernel_rfl)
    · intro b3 hb
      subst y4
      have h := elimL hK1
      refine TS_go 6 ?_
      obtain rfl := Option.some.inj h
      exact TS_ret (by kernel_rfl) (by kernel_rfl) (by kernel_rfl)

/-- multihop/management.clone -/
noncomputable def F_management_clone (a0 : S_Diagnostic) : Option (S_Diagnostic) :=
  (appO 1 ([] : List Int) (Cut.app .whole a0.Data)).bind fun l1 =>
  some ((S_Diagnostic.mk a0.Node a0.Number l1))
set_option maxRecDepth 100000 in
set_option maxHeartbeats 40000000 in
theorem ok_management_clone (a0 : S_Diagnostic) (r : S_Diagnostic) (h : F_management_clone a0 = some r) : Con Try.prog 71 [.agg (S_Diagnostic.cs a0)] [] (.agg (S_Diagnostic.cs r)) [] := by
  unfold F_management_clone at h
  refine con_of [[0, 0, 2]] [] 8 Try.func71 rfl rfl (by kernel_rfl) (fun K => ?_)
  refine TS_go 9 ?_
  replace h := bindO h
  obtain ⟨l1, hl1, h⟩ := h
  refine TS_appNT 5 5 1 (ecI .u8) (fun _ => by kernel_rfl) (l2 := a0.Data) .whole hl1 (by kernel_rfl) (by kernel_rfl) ?_
  refine TS_go 9 ?_
  obtain rfl := Option.some.inj h
  exact TS_ret (by kernel_rfl) (by kernel_rfl) (by kernel_rfl)

/-- cmp.isNaN[int] -/
noncomputable def F_cmp_isNaN_int (a0 : Int) : Option (Bool) :=
  some ((a0 != a0))
set_option maxRecDepth 100000 in
set_option maxHeartbeats 40000000 in
theorem ok_cmp_isNaN_int (a0 : Int) (r : Bool) (h : F_cmp_isNaN_int a0 = some r) : Con Try.prog 85 [.c (.lit (.int .i64 (a0)))] [] (.c (.lit (.bool (r)))) [] := by
  unfold F_cmp_isNaN_int at h
  refine con_of [] [] 6 Try.func85 rfl rfl (by kernel_rfl) (fun K => ?_)
  refine TS_go 12 ?_
  obtain rfl := Option.some.inj h
  exact TS_ret (by kernel_rfl) (by kernel_rfl) (by kernel_rfl)

/-- cmp.Compare[int] -/
noncomputable def F_cmp_Compare_int (a0 : Int) (a1 : Int) : Option (Int) :=
  (F_cmp_isNaN_int a0).bind fun v1 =>
  (F_cmp_isNaN_int a1).bind fun v2 =>
  bif v1 then
    bif v2 then
      some (0)
    else
      some ((-1))
  else
    bif v2 then
      some (1)
    else
      bif (decide (a0 < a1)) then
        some ((-1))
      else
        bif (decide (a0 > a1)) then
          some (1)
        else
          some (0)
set_option maxRecDepth 100000 in
set_option maxHeartbeats 40000000 in
theorem ok_cmp_Compare_int (a0 : Int) (a1 : Int) (r : Int) (h : F_cmp_Compare_int a0 a1 = some r) : Con Try.prog 77 [.c (.lit (.int .i64 (a0))), .c (.lit (.int .i64 (a1)))] [] (.c (.lit (.int .i64 (r)))) [] := by
  unfold F_cmp_Compare_int at h
  refine con_of [] [] 20 Try.func77 rfl rfl (by kernel_rfl) (fun K => ?_)
  refine TS_go 7 ?_
  replace h := bindO h
  obtain ⟨v1, hv1, h⟩ := h
  refine TS_call [] (ok_cmp_isNaN_int a0 v1 hv1) (by kernel_rfl) (by kernel_rfl) ?_
  refine TS_go 5 ?_
  replace h := bindO h
  obtain ⟨v2, hv2, h⟩ := h
  refine TS_call [] (ok_cmp_isNaN_int a1 v2 hv2) (by kernel_rfl) (by kernel_rfl) ?_
  refine TS_go 7 ?_
  replace h := condO h
  rcases h with ⟨hb3, h⟩ | ⟨hb3, h⟩
  · subst hb3
    refine TS_T (by kernel_rfl) rfl ?_
    refine TS_go 5 ?_
    replace h := condO h
    rcases h with ⟨hb4, h⟩ | ⟨hb4, h⟩
    · subst hb4
      refine TS_T (by kernel_rfl) rfl ?_
      refine TS_go 7 ?_
      obtain rfl := Option.some.inj h
      exact TS_ret (by kernel_rfl) (by kernel_rfl) (by kernel_rfl)
    · subst hb4
      refine TS_F (by kernel_rfl) rfl ?_
      refine TS_go 7 ?_
      obtain rfl := Option.some.inj h
      exact TS_ret (by kernel_rfl) (by kernel_rfl) (by kernel_rfl)
  · subst hb3
    refine TS_F (by kernel_rfl) rfl ?_
    refine TS_go 6 ?_
    replace h := condO h
    rcases h with ⟨hb5, h⟩ | ⟨hb5, h⟩
    · subst hb5
      refine TS_T (by kernel_rfl) rfl ?_
      refine TS_go 6 ?_
      obtain rfl := Option.some.inj h
      exact TS_ret (by kernel_rfl) (by kernel_rfl) (by kernel_rfl)
    · subst hb5
      refine TS_F (by kernel_rfl) rfl ?_
      refine TS_go 8 ?_
      replace h := condO h
      rcases h with ⟨hb6, h⟩ | ⟨hb6, h⟩
      · refine TS_know 16 (b := true) hb6 (by kernel_rfl) (by kernel_rfl) ?_
        refine TS_T (by kernel_rfl) rfl ?_
        refine TS_go 6 ?_
        obtain rfl := Option.some.inj h
        exact TS_ret (by kernel_rfl) (by kernel_rfl) (by kernel_rfl)
      · refine TS_know 16 (b := false) hb6 (by kernel_rfl) (by kernel_rfl) ?_
        refine TS_F (by kernel_rfl) rfl ?_
        refine TS_go 8 ?_
        replace h := condO h
        rcases h with ⟨hb7, h⟩ | ⟨hb7, h⟩
        · refine TS_know 19 (b := true) hb7 (by kernel_rfl) (by kernel_rfl) ?_
          refine TS_T (by kernel_rfl) rfl ?_
          refine TS_go 6 ?_
          obtain rfl := Option.some.inj h
          exact TS_ret (by kernel_rfl) (by kernel_rfl) (by kernel_rfl)
        · refine TS_know 19 (b := false) hb7 (by kernel_rfl) (by kernel_rfl) ?_
          refine TS_F (by kernel_rfl) rfl ?_
          refine TS_go 6 ?_
          obtain rfl := Option.some.inj h
          exact TS_ret (by kernel_rfl) (by kernel_rfl) (by kernel_rfl)

end Go.Proofs.Ytcjoflgnifafiaa
