/-
  Written by cc3.py: what the Go functions compute, as plain functions, and that they do.
-/
import Derived.Test.YtcjoflgnifafiaaCe1
namespace Go.Proofs.Ytcjoflgnifafiaa
open Go.RowKit
attribute [local irreducible] TS go TD goD

/-- bytes.Compare -/
noncomputable def F_bytes_Compare (a0 : List Int) (a1 : List Int) : Option (Int) :=
  some ((cmpB (Cut.app .whole a0) (Cut.app .whole a1)))
set_option maxRecDepth 100000 in
set_option maxHeartbeats 40000000 in
theorem ok_bytes_Compare (a0 : List Int) (a1 : List Int) (r : Int) (h : F_bytes_Compare a0 a1 = some r) : Con Try.prog 78 [.c (eS 1 (ecI .u8) (a0)), .c (eS 1 (ecI .u8) (a1))] [] (.c (.lit (.int .i64 (r)))) [] := by
  unfold F_bytes_Compare at h
  refine con_of [] [] 8 Try.func78 rfl rfl (by kernel_rfl) (fun K => ?_)
  refine TS_go 8 ?_
  refine TS_cmp 86 a0 a1 .whole .whole ext_86 (by kernel_rfl) (by kernel_rfl) ?_
  refine TS_go 3 ?_
  obtain rfl := Option.some.inj h
  exact TS_ret (by kernel_rfl) (by kernel_rfl) (by kernel_rfl)

/-- cmp.Or[int] -/
noncomputable def F_cmp_Or_int_l1 (a0 : List Int) (s1 : Int) : Option ((Int) ⊕ ((Unit) ⊕ (Int))) :=
  bif (decide (s1 < (List.length a0 : Int))) then
    (idx a0 s1).bind fun e5 =>
    bif (e5 != 0) then
      some (Sum.inr (Sum.inr e5))
    else
      some (Sum.inl (IntKind.wrap .i64 (s1 + 1)))
  else
    some (Sum.inr (Sum.inl ()))
noncomputable def F_cmp_Or_int (a0 : List Int) : Option (Int) :=
  (loopO (F_cmp_Or_int_l1 a0) 0).bind (Sum.elim (fun b2 =>
    some (0)
  ) (fun w7 => some w7))
set_option maxRecDepth 100000 in
set_option maxHeartbeats 40000000 in
theorem ok_cmp_Or_int (a0 : List Int) (r : Int) (h : F_cmp_Or_int a0 = some r) : Con Try.prog 76 [.c (eS 1 (ecI .i64) (a0))] [] (.c (.lit (.int .i64 (r)))) [] := by
  unfold F_cmp_Or_int at h
  refine con_of [] [] 18 Try.func76 rfl rfl (by kernel_rfl) (fun K => ?_)
  refine TS_go 16 ?_
  refine TS_cut ⟨[(3, []), (6, []), (7, []), (8, [])], []⟩ (.mk [.code (codeAt [1, 1, 0, 1, 0] (bodyOf Try.f76)), .blk 0, .code (codeAt [1, 1, 1] (bodyOf Try.f76))] .normal ⟨[(3, .c (.lit (.int .i64 (0)))), (6, .c (.slc 1 0 (List.length a0) (List.map (ecI .i64) a0))), (7, .c (.lit (.int .i64 ((List.length a0 : Int))))), (8, .c (.lit (.int .i64 (0))))], []⟩) (by kernel_rfl) (by kernel_rfl) ?_
  replace h := bindO h
  obtain ⟨y3, hl1, hK1⟩ := h
  refine TS_loopB (F_cmp_Or_int_l1 a0) ⟨[(3, []), (6, []), (7, []), (8, [])], []⟩ (fun (s1 : Int) => [(8, .c (.lit (.int .i64 (s1))))]) (fun (s1 : Int) => []) 0 y3 (.exit 0) (fun (b : Unit) => (Sum.inl b : (Unit) ⊕ (Int))) ⟨[(3, [])], []⟩ (fun (b2 : Unit) => []) (fun (b2 : Unit) => []) hl1 (by kernel_rfl) (by kernel_rfl) ?_ ?_
  · intro s1 x h hy1
    unfold F_cmp_Or_int_l1 at h
    refine TS_go 5 ?_
    replace h := condO h
    rcases h with ⟨hb4, h⟩ | ⟨hb4, h⟩
    · refine TS_know 9 (b := true) hb4 (by kernel_rfl) (by kernel_rfl) ?_
      refine TS_T (by kernel_rfl) rfl ?_
      refine TS_go 5 ?_
      replace h := bindO h
      obtain ⟨e5, he5, h⟩ := h
      refine TS_idx (ecI .i64) he5 (by kernel_rfl) (by kernel_rfl) ?_
      refine TS_go 9 ?_
      replace h := condO h
      rcases h with ⟨hb6, h⟩ | ⟨hb6, h⟩
      · refine TS_know 14 (b := true) hb6 (by kernel_rfl) (by kernel_rfl) ?_
        refine TS_T (by kernel_rfl) rfl ?_
        refine TS_go 8 ?_
        obtain rfl := Option.some.inj h
        have hy1q := hy1 _ rfl
        subst hy1q
        replace h := (elimR hK1)
        refine TS_retB rfl (by kernel_rfl) ?_
        refine TS_go 2 ?_
        obtain rfl := Option.some.inj h
        exact TS_ret (by kernel_rfl) (by kernel_rfl) (by kernel_rfl)
      · refine TS_know 14 (b := false) hb6 (by kernel_rfl) (by kernel_rfl) ?_
        refine TS_F (by kernel_rfl) rfl ?_
        refine TS_go 6 ?_
        obtain rfl := Option.some.inj h
        exact TS_againB _ ⟨[(3, []), (6, []), (7, []), (8, [])], []⟩ rfl (by kernel_rfl) (by kernel_rfl)
    · refine TS_know 9 (b := false) hb4 (by kernel_rfl) (by kernel_rfl) ?_
      refine TS_F (by kernel_rfl) rfl ?_
      refine TS_go 2 ?_
      obtain rfl := Option.some.inj h
      exact TS_brkB () ⟨[(3, [])], []⟩ rfl (by kernel_rfl) (by kernel_rfl) (by kernel_rfl)
  · intro b2 hb
    subst y3
    have h := elimL hK1
    refine TS_go 7 ?_
    obtain rfl := Option.some.inj h
    exact TS_ret (by kernel_rfl) (by kernel_rfl) (by kernel_rfl)

/-- multihop/management.better -/
noncomputable def F_management_better (a0 : S_Diagnostic) (a1 : S_Diagnostic) : Option (Bool) :=
  (F_cmp_Compare_int a0.Number a1.Number).bind fun v1 =>
  (F_bytes_Compare a0.Data a1.Data).bind fun v2 =>
  (F_cmp_Or_int ([v1, v2] : List Int)).bind fun v3 =>
  some ((decide (v3 > 0)))
set_option maxRecDepth 100000 in
set_option maxHeartbeats 40000000 in
theorem ok_management_better (a0 : S_Diagnostic) (a1 : S_Diagnostic) (r : Bool) (h : F_management_better a0 a1 = some r) : Con Try.prog 72 [.agg (S_Diagnostic.cs a0), .agg (S_Diagnostic.cs a1)] [] (.c (.lit (.bool (r)))) [] := by
  unfold F_management_better at h
  refine con_of [] [] 18 Try.func72 rfl rfl (by kernel_rfl) (fun K => ?_)
  refine TS_go 7 ?_
  refine TS_draw (by kernel_rfl) ?_
  refine TD_go 4 ?_
  replace h := bindO h
  obtain ⟨v1, hv1, h⟩ := h
  refine TD_call [] (ok_cmp_Compare_int a0.Number a1.Number v1 hv1) (by kernel_rfl) (by kernel_rfl) ?_
  refine TD_go 4 ?_
  replace h := bindO h
  obtain ⟨v2, hv2, h⟩ := h
  refine TD_call [] (ok_bytes_Compare a0.Data a1.Data v2 hv2) (by kernel_rfl) (by kernel_rfl) ?_
  refine TD_litNT 15 3 1 (ecI .i64) [] ([v1, v2] : List Int) (by kernel_rfl) (by kernel_rfl) ?_
  replace h := bindO h
  obtain ⟨v3, hv3, h⟩ := h
  refine TD_call [[2]] (ok_cmp_Or_int ([v1, v2] : List Int) v3 hv3) (by kernel_rfl) (by kernel_rfl) ?_
  refine TD_go 2 ?_
  refine TD_end (by kernel_rfl) ?_
  refine TS_go 1 ?_
  obtain rfl := Option.some.inj h
  exact TS_ret (by kernel_rfl) (by kernel_rfl) (by kernel_rfl)

/-- multihop/management.union -/
noncomputable def F_management_union_j2 (s1 : (List S_Diagnostic) × (List S_Diagnostic) × (List S_Diagnostic)) (v30 : S_Diagnostic) : Option (((List S_Diagnostic) × (List S_Diagnostic) × (List S_Diagnostic)) ⊕ ((List S_Diagnostic))) :=
  (F_management_clone v30).bind fun v31 =>
  (appO 40 s1.2.2 (Cut.app .whole ([v31] : List S_Diagnostic))).bind fun l32 =>
  (subO s1.1 1 (List.length s1.1 : Int)).bind fun l33 =>
  (subO s1.2.1 1 (List.length s1.2.1 : Int)).bind fun l34 =>
  some (Sum.inl (l33, l34, l32))
noncomputable def F_management_union_j3 (s1 : (List S_Diagnostic) × (List S_Diagnostic) × (List S_Diagnostic)) (v59 : S_Diagnostic) : Option (((List S_Diagnostic) × (List S_Diagnostic) × (List S_Diagnostic)) ⊕ ((List S_Diagnostic))) :=
  (F_management_clone v59).bind fun v60 =>
  (appO 40 s1.2.2 (Cut.app .whole ([v60] : List S_Diagnostic))).bind fun l61 =>
  (subO s1.1 1 (List.length s1.1 : Int)).bind fun l62 =>
  (subO s1.2.1 1 (List.length s1.2.1 : Int)).bind fun l63 =>
  some (Sum.inl (l62, l63, l61))
noncomputable def F_management_union_l1  (s1 : (List S_Diagnostic) × (List S_Diagnostic) × (List S_Diagnostic)) : Option (((List S_Diagnostic) × (List S_Diagnostic) × (List S_Diagnostic)) ⊕ ((List S_Diagnostic))) :=
  bif (decide ((List.length s1.1 : Int) > 0)) then
    bif ((List.length s1.2.1 : Int) == 0) then
      (idx s1.1 0).bind fun e6 =>
      (F_management_clone e6).bind fun v7 =>
      (appO 40 s1.2.2 (Cut.app .whole ([v7] : List S_Diagnostic))).bind fun l8 =>
      (subO s1.1 1 (List.length s1.1 : Int)).bind fun l9 =>
      some (Sum.inl (l9, s1.2.1, l8))
    else
      (idx s1.1 0).bind fun e10 =>
      (idx s1.2.1 0).bind fun e11 =>
      bif (decide (e10.Node < e11.Node)) then
        (idx s1.1 0).bind fun e13 =>
        (F_management_clone e13).bind fun v14 =>
        (appO 40 s1.2.2 (Cut.app .whole ([v14] : List S_Diagnostic))).bind fun l15 =>
        (subO s1.1 1 (List.length s1.1 : Int)).bind fun l16 =>
        some (Sum.inl (l16, s1.2.1, l15))
      else
        bif ((List.length s1.1 : Int) == 0) then
          (idx s1.2.1 0).bind fun e18 =>
          (F_management_clone e18).bind fun v19 =>
          (appO 40 s1.2.2 (Cut.app .whole ([v19] : List S_Diagnostic))).bind fun l20 =>
          (subO s1.2.1 1 (List.length s1.2.1 : Int)).bind fun l21 =>
          some (Sum.inl (s1.1, l21, l20))
        else
          (idx s1.2.1 0).bind fun e22 =>
          (idx s1.1 0).bind fun e23 =>
          bif (decide (e22.Node < e23.Node)) then
            (idx s1.2.1 0).bind fun e25 =>
            (F_management_clone e25).bind fun v26 =>
            (appO 40 s1.2.2 (Cut.app .whole ([v26] : List S_Diagnostic))).bind fun l27 =>
            (subO s1.2.1 1 (List.length s1.2.1 : Int)).bind fun l28 =>
            some (Sum.inl (s1.1, l28, l27))
          else
            (idx s1.1 0).bind fun e29 =>
            (idx s1.2.1 0).bind fun e35 =>
            (idx s1.1 0).bind fun e36 =>
            (F_management_better e35 e36).bind fun v37 =>
            bif v37 then
              (idx s1.2.1 0).bind fun e39 =>
              (F_management_union_j2 s1) e39
            else
              (F_management_union_j2 s1) e29
  else
    bif (decide ((List.length s1.2.1 : Int) > 0)) then
      bif ((List.length s1.2.1 : Int) == 0) then
        (idx s1.1 0).bind fun e42 =>
        (F_management_clone e42).bind fun v43 =>
        (appO 40 s1.2.2 (Cut.app .whole ([v43] : List S_Diagnostic))).bind fun l44 =>
        (subO s1.1 1 (List.length s1.1 : Int)).bind fun l45 =>
        some (Sum.inl (l45, s1.2.1, l44))
      else
        bif ((List.length s1.1 : Int) == 0) then
          (idx s1.2.1 0).bind fun e47 =>
          (F_management_clone e47).bind fun v48 =>
          (appO 40 s1.2.2 (Cut.app .whole ([v48] : List S_Diagnostic))).bind fun l49 =>
          (subO s1.2.1 1 (List.length s1.2.1 : Int)).bind fun l50 =>
          some (Sum.inl (s1.1, l50, l49))
        else
          (idx s1.2.1 0).bind fun e51 =>
          (idx s1.1 0).bind fun e52 =>
          bif (decide (e51.Node < e52.Node)) then
            (idx s1.2.1 0).bind fun e54 =>
            (F_management_clone e54).bind fun v55 =>
            (appO 40 s1.2.2 (Cut.app .whole ([v55] : List S_Diagnostic))).bind fun l56 =>
            (subO s1.2.1 1 (List.length s1.2.1 : Int)).bind fun l57 =>
            some (Sum.inl (s1.1, l57, l56))
          else
            (idx s1.1 0).bind fun e58 =>
            (idx s1.2.1 0).bind fun e64 =>
            (idx s1.1 0).bind fun e65 =>
            (F_management_better e64 e65).bind fun v66 =>
            bif v66 then
              (idx s1.2.1 0).bind fun e68 =>
              (F_management_union_j3 s1) e68
            else
              (F_management_union_j3 s1) e58
    else
      some (Sum.inr s1.2.2)
noncomputable def F_management_union (a0 : List S_Diagnostic) (a1 : List S_Diagnostic) : Option ((List S_Diagnostic)) :=
  (loopO (F_management_union_l1) (a0, a1, ([] : List S_Diagnostic))).bind fun b2 =>
  some (b2)
set_option maxRecDepth 100000 in
set_option maxHeartbeats 40000000 in
theorem okT_management_union (a0 : List S_Diagnostic) (a1 : List S_Diagnostic) (r : (List S_Diagnostic)) (h : F_management_union a0 a1 = some r) : Con Try.prog 55 [.c (eS 3 S_Diagnostic.cs (a0)), .c (eS 3 S_Diagnostic.cs (a1))] [] (.c (.slc 3 900002 (List.length r) (List.map S_Diagnostic.cs r))) [(900000, .spare 56 3 (List.length r))] := by
  unfold F_management_union at h
  refine con_of [] [(900000, [])] 91 Try.func55 rfl rfl (by kernel_rfl) (fun K => ?_)
  refine TS_go 10 ?_
  refine TS_nilT 5 600000 56 3 (by kernel_rfl) ?_
  refine TS_cut ⟨[(0, []), (1, []), (5, [])], [(600000, (600000, []))]⟩ (.mk [.code (codeAt [1, 1, 0, 0] (bodyOf Try.f55)), .blk 0, .code (codeAt [1, 1, 1] (bodyOf Try.f55))] .normal ⟨[(0, .c (.slc 3 0 (List.length a0) (List.map S_Diagnostic.cs a0))), (1, .c (.slc 3 0 (List.length a1) (List.map S_Diagnostic.cs a1))), (5, .c (.slc 3 600002 (List.length ([] : List S_Diagnostic)) (List.map S_Diagnostic.cs ([] : List S_Diagnostic))))], [(600000, .spare 56 3 (List.length ([] : List S_Diagnostic)))]⟩) (by kernel_rfl) (by kernel_rfl) ?_
  replace h := bindO h
  obtain ⟨y3, hl1, hK1⟩ := h
  refine TS_loopB (F_management_union_l1) ⟨[(0, []), (1, []), (5, [])], [(600000, (600000, []))]⟩ (fun (s1 : (List S_Diagnostic) × (List S_Diagnostic) × (List S_Diagnostic)) => [(0, .c (eS 3 S_Diagnostic.cs (s1.1))), (1, .c (eS 3 S_Diagnostic.cs (s1.2.1))), (5, .c (.slc 3 600002 (List.length s1.2.2) (List.map S_Diagnostic.cs s1.2.2)))]) (fun (s1 : (List S_Diagnostic) × (List S_Diagnostic) × (List S_Diagnostic)) => [(600000, .spare 56 3 (List.length s1.2.2))]) (a0, a1, ([] : List S_Diagnostic)) y3 (.exit 0) (fun (b : (List S_Diagnostic)) => b) ⟨[(5, [])], [(600000, (600000, []))]⟩ (fun (b2 : (List S_Diagnostic)) => [(5, .c (.slc 3 600002 (List.length b2) (List.map S_Diagnostic.cs b2)))]) (fun (b2 : (List S_Diagnostic)) => [(600000, .spare 56 3 (List.length b2))]) hl1 (by kernel_rfl) (by kernel_rfl) ?_ ?_
  · intro s1 x h hy1
    unfold F_management_union_l1 at h
    refine TS_go 7 ?_
    replace h := condO h
    rcases h with ⟨hb4, h⟩ | ⟨hb4, h⟩
    · refine TS_know 9 (b := true) hb4 (by kernel_rfl) (by kernel_rfl) ?_
      refine TS_know 10 (b := true) hb4 (by kernel_rfl) (by kernel_rfl) ?_
      refine TS_go 5 ?_
      refine TS_T (by kernel_rfl) rfl ?_
      refine TS_go 4 ?_
      refine TS_draw (by kernel_rfl) ?_
      refine TD_go 3 ?_
      replace h := condO h
      rcases h with ⟨hb5, h⟩ | ⟨hb5, h⟩
      · refine TD_know 41 (b := true) hb5 trivial (by kernel_rfl) (by kernel_rfl) ?_
        refine TD_go 16 ?_
        refine TD_end (by kernel_rfl) ?_
        refine TS_T (by kernel_rfl) rfl ?_
        refine TS_go 4 ?_
        replace h := bindO h
        obtain ⟨e6, he6, h⟩ := h
        refine TS_idx S_Diagnostic.cs he6 (by kernel_rfl) (by kernel_rfl) ?_
        refine TS_go 1 ?_
        replace h := bindO h
        obtain ⟨v7, hv7, h⟩ := h
        refine TS_call [] (ok_management_clone e6 v7 hv7) (by kernel_rfl) (by kernel_rfl) ?_
        refine TS_litNT 62 56 3 S_Diagnostic.cs [0, 0, 2] ([v7] : List S_Diagnostic) (by kernel_rfl) (by kernel_rfl) ?_
        replace h := bindO h
        obtain ⟨l8, hl8, h⟩ := h
        refine TS_appT (d := 600000) (e := 56) (sz := 3) (N := List.length s1.2.2) S_Diagnostic.cs (fun _ => by kernel_rfl) (l1 := s1.2.2) (l2 := ([v7] : List S_Diagnostic)) (c := .whole) hl8 (by kernel_rfl) (by kernel_rfl) ?_
        refine TS_go 4 ?_
        replace h := bindO h
        obtain ⟨l9, hl9, h⟩ := h
        refine TS_sub S_Diagnostic.cs 3 hl9 (by kernel_rfl) (by kernel_rfl) ?_
        refine TS_go 4 ?_
        obtain rfl := Option.some.inj h
        exact TS_againB _ ⟨[(0, []), (1, []), (5, [])], [(600000, (600000, []))]⟩ rfl (by kernel_rfl) (by kernel_rfl)
      · refine TD_know 41 (b := false) hb5 trivial (by kernel_rfl) (by kernel_rfl) ?_
        refine TD_go 2 ?_
        refine TD_know 44 (b := true) hb4 trivial (by kernel_rfl) (by kernel_rfl) ?_
        refine TD_go 2 ?_
        replace h := bindO h
        obtain ⟨e10, he10, h⟩ := h
        refine TD_idx S_Diagnostic.cs he10 (by kernel_rfl) (by kernel_rfl) ?_
        refine TD_go 3 ?_
        replace h := bindO h
        obtain ⟨e11, he11, h⟩ := h
        refine TD_idx S_Diagnostic.cs he11 (by kernel_rfl) (by kernel_rfl) ?_
        refine TD_go 6 ?_
        refine TD_end (by kernel_rfl) ?_
        replace h := condO h
        rcases h with ⟨hb12, h⟩ | ⟨hb12, h⟩
        · refine TS_know 40 (b := false) hb5 (by kernel_rfl) (by kernel_rfl) ?_
          refine TS_know 54 (b := true) hb12 (by kernel_rfl) (by kernel_rfl) ?_
          refine TS_know 55 (b := true) hb12 (by kernel_rfl) (by kernel_rfl) ?_
          refine TS_know 56 (b := true) hb12 (by kernel_rfl) (by kernel_rfl) ?_
          refine TS_know 37 (b := true) hb12 (by kernel_rfl) (by kernel_rfl) ?_
          refine TS_T (by kernel_rfl) rfl ?_
          refine TS_go 4 ?_
          replace h := bindO h
          obtain ⟨e13, he13, h⟩ := h
          refine TS_idx S_Diagnostic.cs he13 (by kernel_rfl) (by kernel_rfl) ?_
          refine TS_go 1 ?_
          replace h := bindO h
          obtain ⟨v14, hv14, h⟩ := h
          refine TS_call [] (ok_management_clone e13 v14 hv14) (by kernel_rfl) (by kernel_rfl) ?_
          refine TS_litNT 62 56 3 S_Diagnostic.cs [0, 0, 2] ([v14] : List S_Diagnostic) (by kernel_rfl) (by kernel_rfl) ?_
          replace h := bindO h
          obtain ⟨l15, hl15, h⟩ := h
          refine TS_appT (d := 600000) (e := 56) (sz := 3) (N := List.length s1.2.2) S_Diagnostic.cs (fun _ => by kernel_rfl) (l1 := s1.2.2) (l2 := ([v14] : List S_Diagnostic)) (c := .whole) hl15 (by kernel_rfl) (by kernel_rfl) ?_
          refine TS_go 4 ?_
          replace h := bindO h
          obtain ⟨l16, hl16, h⟩ := h
          refine TS_sub S_Diagnostic.cs 3 hl16 (by kernel_rfl) (by kernel_rfl) ?_
          refine TS_go 4 ?_
          obtain rfl := Option.some.inj h
          exact TS_againB _ ⟨[(0, []), (1, []), (5, [])], [(600000, (600000, []))]⟩ rfl (by kernel_rfl) (by kernel_rfl)
        · refine TS_know 40 (b := false) hb5 (by kernel_rfl) (by kernel_rfl) ?_
          refine TS_know 54 (b := false) hb12 (by kernel_rfl) (by kernel_rfl) ?_
          refine TS_know 55 (b := false) hb12 (by kernel_rfl) (by kernel_rfl) ?_
          refine TS_know 56 (b := false) hb12 (by kernel_rfl) (by kernel_rfl) ?_
          refine TS_know 37 (b := false) hb12 (by kernel_rfl) (by kernel_rfl) ?_
          refine TS_F (by kernel_rfl) rfl ?_
          refine TS_go 1 ?_
          refine TS_draw (by kernel_rfl) ?_
          refine TD_go 3 ?_
          replace h := condO h
          rcases h with ⟨hb17, h⟩ | ⟨hb17, h⟩
          · refine TD_know 70 (b := true) hb17 trivial (by kernel_rfl) (by kernel_rfl) ?_
            refine TD_go 11 ?_
            refine TD_end (by kernel_rfl) ?_
            refine TS_T (by kernel_rfl) rfl ?_
            refine TS_go 4 ?_
            replace h := bindO h
            obtain ⟨e18, he18, h⟩ := h
            refine TS_idx S_Diagnostic.cs he18 (by kernel_rfl) (by kernel_rfl) ?_
            refine TS_go 1 ?_
            replace h := bindO h
            obtain ⟨v19, hv19, h⟩ := h
            refine TS_call [] (ok_management_clone e18 v19 hv19) (by kernel_rfl) (by kernel_rfl) ?_
            refine TS_litNT 86 56 3 S_Diagnostic.cs [0, 0, 2] ([v19] : List S_Diagnostic) (by kernel_rfl) (by kernel_rfl) ?_
            replace h := bindO h
            obtain ⟨l20, hl20, h⟩ := h
            refine TS_appT (d := 600000) (e := 56) (sz := 3) (N := List.length s1.2.2) S_Diagnostic.cs (fun _ => by kernel_rfl) (l1 := s1.2.2) (l2 := ([v19] : List S_Diagnostic)) (c := .whole) hl20 (by kernel_rfl) (by kernel_rfl) ?_
            refine TS_go 4 ?_
            replace h := bindO h
            obtain ⟨l21, hl21, h⟩ := h
            refine TS_sub S_Diagnostic.cs 3 hl21 (by kernel_rfl) (by kernel_rfl) ?_
            refine TS_go 4 ?_
            obtain rfl := Option.some.inj h
            exact TS_againB _ ⟨[(0, []), (1, []), (5, [])], [(600000, (600000, []))]⟩ rfl (by kernel_rfl) (by kernel_rfl)
          · refine TD_know 70 (b := false) hb17 trivial (by kernel_rfl) (by kernel_rfl) ?_
            refine TD_go 1 ?_
            replace h := bindO h
            obtain ⟨e22, he22, h⟩ := h
            refine TD_idx S_Diagnostic.cs he22 (by kernel_rfl) (by kernel_rfl) ?_
            refine TD_go 3 ?_
            replace h := bindO h
            obtain ⟨e23, he23, h⟩ := h
            refine TD_idx S_Diagnostic.cs he23 (by kernel_rfl) (by kernel_rfl) ?_
            refine TD_go 5 ?_
            refine TD_end (by kernel_rfl) ?_
            replace h := condO h
            rcases h with ⟨hb24, h⟩ | ⟨hb24, h⟩
            · refine TS_know 69 (b := false) hb17 (by kernel_rfl) (by kernel_rfl) ?_
              refine TS_know 79 (b := true) hb24 (by kernel_rfl) (by kernel_rfl) ?_
              refine TS_know 80 (b := true) hb24 (by kernel_rfl) (by kernel_rfl) ?_
              refine TS_know 66 (b := true) hb24 (by kernel_rfl) (by kernel_rfl) ?_
              refine TS_T (by kernel_rfl) rfl ?_
              refine TS_go 4 ?_
              replace h := bindO h
              obtain ⟨e25, he25, h⟩ := h
              refine TS_idx S_Diagnostic.cs he25 (by kernel_rfl) (by kernel_rfl) ?_
              refine TS_go 1 ?_
              replace h := bindO h
              obtain ⟨v26, hv26, h⟩ := h
              refine TS_call [] (ok_management_clone e25 v26 hv26) (by kernel_rfl) (by kernel_rfl) ?_
              refine TS_litNT 86 56 3 S_Diagnostic.cs [0, 0, 2] ([v26] : List S_Diagnostic) (by kernel_rfl) (by kernel_rfl) ?_
              replace h := bindO h
              obtain ⟨l27, hl27, h⟩ := h
              refine TS_appT (d := 600000) (e := 56) (sz := 3) (N := List.length s1.2.2) S_Diagnostic.cs (fun _ => by kernel_rfl) (l1 := s1.2.2) (l2 := ([v26] : List S_Diagnostic)) (c := .whole) hl27 (by kernel_rfl) (by kernel_rfl) ?_
              refine TS_go 4 ?_
              replace h := bindO h
              obtain ⟨l28, hl28, h⟩ := h
              refine TS_sub S_Diagnostic.cs 3 hl28 (by kernel_rfl) (by kernel_rfl) ?_
              refine TS_go 4 ?_
              obtain rfl := Option.some.inj h
              exact TS_againB _ ⟨[(0, []), (1, []), (5, [])], [(600000, (600000, []))]⟩ rfl (by kernel_rfl) (by kernel_rfl)
            · refine TS_know 69 (b := false) hb17 (by kernel_rfl) (by kernel_rfl) ?_
              refine TS_know 79 (b := false) hb24 (by kernel_rfl) (by kernel_rfl) ?_
              refine TS_know 80 (b := false) hb24 (by kernel_rfl) (by kernel_rfl) ?_
              refine TS_know 66 (b := false) hb24 (by kernel_rfl) (by kernel_rfl) ?_
              refine TS_F (by kernel_rfl) rfl ?_
              refine TS_go 3 ?_
              replace h := bindO h
              obtain ⟨e29, he29, h⟩ := h
              refine TS_idx S_Diagnostic.cs he29 (by kernel_rfl) (by kernel_rfl) ?_
              refine TS_go 4 ?_
              refine TS_cut ⟨[(0, []), (1, []), (5, []), (6, [])], [(600000, (600000, [])), (6, (6, []))]⟩ (.mk [.code (codeAt [1, 1, 0, 0, 0, 1, 0, 0, 1, 1, 1, 1, 1] (bodyOf Try.f55)), .blk 2, .blk 1] .normal ⟨[(0, .c (.slc 3 0 (List.length s1.1) (List.map S_Diagnostic.cs s1.1))), (1, .c (.slc 3 0 (List.length s1.2.1) (List.map S_Diagnostic.cs s1.2.1))), (5, .c (.slc 3 600002 (List.length s1.2.2) (List.map S_Diagnostic.cs s1.2.2))), (6, .c (.box 6 0))], [(600000, .spare 56 3 (List.length s1.2.2)), (6, .box [.lit (.int .u64 (e29.Node)), .lit (.int .i64 (e29.Number)), .slc 1 0 (List.length e29.Data) (List.map (ecI .u8) e29.Data)])]⟩) (by kernel_rfl) (by kernel_rfl) ?_
              refine TS_joinB ⟨[(0, []), (1, []), (5, []), (6, [])], [(600000, (600000, [])), (6, (6, []))]⟩ (fun (v30 : S_Diagnostic) => []) (fun (v30 : S_Diagnostic) => [(6, .box (S_Diagnostic.cs v30))]) (F_management_union_j2 s1) x ?_ ?_
              · clear h
                intro v30 h
                unfold F_management_union_j2 at h
                refine TS_go 4 ?_
                replace h := bindO h
                obtain ⟨v31, hv31, h⟩ := h
                refine TS_call [] (ok_management_clone v30 v31 hv31) (by kernel_rfl) (by kernel_rfl) ?_
                refine TS_litNT 31 56 3 S_Diagnostic.cs [0, 0, 2] ([v31] : List S_Diagnostic) (by kernel_rfl) (by kernel_rfl) ?_
                replace h := bindO h
                obtain ⟨l32, hl32, h⟩ := h
                refine TS_appT (d := 600000) (e := 56) (sz := 3) (N := List.length s1.2.2) S_Diagnostic.cs (fun _ => by kernel_rfl) (l1 := s1.2.2) (l2 := ([v31] : List S_Diagnostic)) (c := .whole) hl32 (by kernel_rfl) (by kernel_rfl) ?_
                refine TS_go 2 ?_
                refine TS_draw (by kernel_rfl) ?_
                refine TD_go 1 ?_
                replace h := bindO h
                obtain ⟨l33, hl33, h⟩ := h
                refine TD_sub S_Diagnostic.cs 3 hl33 (by kernel_rfl) (by kernel_rfl) ?_
                refine TD_go 1 ?_
                replace h := bindO h
                obtain ⟨l34, hl34, h⟩ := h
                refine TD_sub S_Diagnostic.cs 3 hl34 (by kernel_rfl) (by kernel_rfl) ?_
                refine TD_go 2 ?_
                refine TD_end (by kernel_rfl) ?_
                refine TS_go 2 ?_
                obtain rfl := Option.some.inj h
                exact TS_againB _ ⟨[(0, []), (1, []), (5, [])], [(600000, (600000, []))]⟩ rfl (by kernel_rfl) (by kernel_rfl)
              · refine TS_go 1 ?_
                refine TS_draw (by kernel_rfl) ?_
                refine TD_go 1 ?_
                replace h := bindO h
                obtain ⟨e35, he35, h⟩ := h
                refine TD_idx S_Diagnostic.cs he35 (by kernel_rfl) (by kernel_rfl) ?_
                refine TD_go 2 ?_
                replace h := bindO h
                obtain ⟨e36, he36, h⟩ := h
                refine TD_idx S_Diagnostic.cs he36 (by kernel_rfl) (by kernel_rfl) ?_
                refine TD_go 1 ?_
                replace h := bindO h
                obtain ⟨v37, hv37, h⟩ := h
                refine TD_call [] (ok_management_better e35 e36 v37 hv37) (by kernel_rfl) (by kernel_rfl) ?_
                refine TD_end (by kernel_rfl) ?_
                replace h := condO h
                rcases h with ⟨hb38, h⟩ | ⟨hb38, h⟩
                · subst hb38
                  refine TS_T (by kernel_rfl) rfl ?_
                  refine TS_go 2 ?_
                  replace h := bindO h
                  obtain ⟨e39, he39, h⟩ := h
                  refine TS_idx S_Diagnostic.cs he39 (by kernel_rfl) (by kernel_rfl) ?_
                  refine TS_go 3 ?_
                  exact TS_meet e39 ⟨[(0, []), (1, []), (5, []), (6, [])], [(600000, (600000, [])), (6, (6, []))]⟩ h (by kernel_rfl) (by kernel_rfl)
                · subst hb38
                  refine TS_F (by kernel_rfl) rfl ?_
                  refine TS_go 1 ?_
                  exact TS_meet e29 ⟨[(0, []), (1, []), (5, []), (6, [])], [(600000, (600000, [])), (6, (6, []))]⟩ h (by kernel_rfl) (by kernel_rfl)
    · refine TS_know 9 (b := false) hb4 (by kernel_rfl) (by kernel_rfl) ?_
      refine TS_know 10 (b := false) hb4 (by kernel_rfl) (by kernel_rfl) ?_
      refine TS_go 5 ?_
      replace h := condO h
      rcases h with ⟨hb40, h⟩ | ⟨hb40, h⟩
      · refine TS_know 13 (b := true) hb40 (by kernel_rfl) (by kernel_rfl) ?_
        refine TS_know 14 (b := true) hb40 (by kernel_rfl) (by kernel_rfl) ?_
        refine TS_T (by kernel_rfl) rfl ?_
        refine TS_go 4 ?_
        refine TS_draw (by kernel_rfl) ?_
        refine TD_go 3 ?_
        replace h := condO h
        rcases h with ⟨hb41, h⟩ | ⟨hb41, h⟩
        · refine TD_know 41 (b := true) hb41 trivial (by kernel_rfl) (by kernel_rfl) ?_
          refine TD_go 16 ?_
          refine TD_end (by kernel_rfl) ?_
          refine TS_T (by kernel_rfl) rfl ?_
          refine TS_go 4 ?_
          replace h := bindO h
          obtain ⟨e42, he42, h⟩ := h
          refine TS_idx S_Diagnostic.cs he42 (by kernel_rfl) (by kernel_rfl) ?_
          refine TS_go 1 ?_
          replace h := bindO h
          obtain ⟨v43, hv43, h⟩ := h
          refine TS_call [] (ok_management_clone e42 v43 hv43) (by kernel_rfl) (by kernel_rfl) ?_
          refine TS_litNT 62 56 3 S_Diagnostic.cs [0, 0, 2] ([v43] : List S_Diagnostic) (by kernel_rfl) (by kernel_rfl) ?_
          replace h := bindO h
          obtain ⟨l44, hl44, h⟩ := h
          refine TS_appT (d := 600000) (e := 56) (sz := 3) (N := List.length s1.2.2) S_Diagnostic.cs (fun _ => by kernel_rfl) (l1 := s1.2.2) (l2 := ([v43] : List S_Diagnostic)) (c := .whole) hl44 (by kernel_rfl) (by kernel_rfl) ?_
          refine TS_go 4 ?_
          replace h := bindO h
          obtain ⟨l45, hl45, h⟩ := h
          refine TS_sub S_Diagnostic.cs 3 hl45 (by kernel_rfl) (by kernel_rfl) ?_
          refine TS_go 4 ?_
          obtain rfl := Option.some.inj h
          exact TS_againB _ ⟨[(0, []), (1, []), (5, [])], [(600000, (600000, []))]⟩ rfl (by kernel_rfl) (by kernel_rfl)
        · refine TD_know 41 (b := false) hb41 trivial (by kernel_rfl) (by kernel_rfl) ?_
          refine TD_go 2 ?_
          refine TD_know 44 (b := false) hb4 trivial (by kernel_rfl) (by kernel_rfl) ?_
          refine TD_go 13 ?_
          refine TD_end (by kernel_rfl) ?_
          refine TS_F (by kernel_rfl) rfl ?_
          refine TS_go 1 ?_
          refine TS_draw (by kernel_rfl) ?_
          refine TD_go 3 ?_
          replace h := condO h
          rcases h with ⟨hb46, h⟩ | ⟨hb46, h⟩
          · refine TD_know 70 (b := true) hb46 trivial (by kernel_rfl) (by kernel_rfl) ?_
            refine TD_go 11 ?_
            refine TD_end (by kernel_rfl) ?_
            refine TS_T (by kernel_rfl) rfl ?_
            refine TS_go 4 ?_
            replace h := bindO h
            obtain ⟨e47, he47, h⟩ := h
            refine TS_idx S_Diagnostic.cs he47 (by kernel_rfl) (by kernel_rfl) ?_
            refine TS_go 1 ?_
            replace h := bindO h
            obtain ⟨v48, hv48, h⟩ := h
            refine TS_call [] (ok_management_clone e47 v48 hv48) (by kernel_rfl) (by kernel_rfl) ?_
            refine TS_litNT 86 56 3 S_Diagnostic.cs [0, 0, 2] ([v48] : List S_Diagnostic) (by kernel_rfl) (by kernel_rfl) ?_
            replace h := bindO h
            obtain ⟨l49, hl49, h⟩ := h
            refine TS_appT (d := 600000) (e := 56) (sz := 3) (N := List.length s1.2.2) S_Diagnostic.cs (fun _ => by kernel_rfl) (l1 := s1.2.2) (l2 := ([v48] : List S_Diagnostic)) (c := .whole) hl49 (by kernel_rfl) (by kernel_rfl) ?_
            refine TS_go 4 ?_
            replace h := bindO h
            obtain ⟨l50, hl50, h⟩ := h
            refine TS_sub S_Diagnostic.cs 3 hl50 (by kernel_rfl) (by kernel_rfl) ?_
            refine TS_go 4 ?_
            obtain rfl := Option.some.inj h
            exact TS_againB _ ⟨[(0, []), (1, []), (5, [])], [(600000, (600000, []))]⟩ rfl (by kernel_rfl) (by kernel_rfl)
          · refine TD_know 70 (b := false) hb46 trivial (by kernel_rfl) (by kernel_rfl) ?_
            refine TD_go 1 ?_
            replace h := bindO h
            obtain ⟨e51, he51, h⟩ := h
            refine TD_idx S_Diagnostic.cs he51 (by kernel_rfl) (by kernel_rfl) ?_
            refine TD_go 3 ?_
            replace h := bindO h
            obtain ⟨e52, he52, h⟩ := h
            refine TD_idx S_Diagnostic.cs he52 (by kernel_rfl) (by kernel_rfl) ?_
            refine TD_go 5 ?_
            refine TD_end (by kernel_rfl) ?_
            replace h := condO h
            rcases h with ⟨hb53, h⟩ | ⟨hb53, h⟩
            · refine TS_know 40 (b := false) hb41 (by kernel_rfl) (by kernel_rfl) ?_
              refine TS_know 69 (b := false) hb46 (by kernel_rfl) (by kernel_rfl) ?_
              refine TS_know 79 (b := true) hb53 (by kernel_rfl) (by kernel_rfl) ?_
              refine TS_know 80 (b := true) hb53 (by kernel_rfl) (by kernel_rfl) ?_
              refine TS_know 66 (b := true) hb53 (by kernel_rfl) (by kernel_rfl) ?_
              refine TS_T (by kernel_rfl) rfl ?_
              refine TS_go 4 ?_
              replace h := bindO h
              obtain ⟨e54, he54, h⟩ := h
              refine TS_idx S_Diagnostic.cs he54 (by kernel_rfl) (by kernel_rfl) ?_
              refine TS_go 1 ?_
              replace h := bindO h
              obtain ⟨v55, hv55, h⟩ := h
              refine TS_call [] (ok_management_clone e54 v55 hv55) (by kernel_rfl) (by kernel_rfl) ?_
              refine TS_litNT 86 56 3 S_Diagnostic.cs [0, 0, 2] ([v55] : List S_Diagnostic) (by kernel_rfl) (by kernel_rfl) ?_
              replace h := bindO h
              obtain ⟨l56, hl56, h⟩ := h
              refine TS_appT (d := 600000) (e := 56) (sz := 3) (N := List.length s1.2.2) S_Diagnostic.cs (fun _ => by kernel_rfl) (l1 := s1.2.2) (l2 := ([v55] : List S_Diagnostic)) (c := .whole) hl56 (by kernel_rfl) (by kernel_rfl) ?_
              refine TS_go 4 ?_
              replace h := bindO h
              obtain ⟨l57, hl57, h⟩ := h
              refine TS_sub S_Diagnostic.cs 3 hl57 (by kernel_rfl) (by kernel_rfl) ?_
              refine TS_go 4 ?_
              obtain rfl := Option.some.inj h
              exact TS_againB _ ⟨[(0, []), (1, []), (5, [])], [(600000, (600000, []))]⟩ rfl (by kernel_rfl) (by kernel_rfl)
            · refine TS_know 40 (b := false) hb41 (by kernel_rfl) (by kernel_rfl) ?_
              refine TS_know 69 (b := false) hb46 (by kernel_rfl) (by kernel_rfl) ?_
              refine TS_know 79 (b := false) hb53 (by kernel_rfl) (by kernel_rfl) ?_
              refine TS_know 80 (b := false) hb53 (by kernel_rfl) (by kernel_rfl) ?_
              refine TS_know 66 (b := false) hb53 (by kernel_rfl) (by kernel_rfl) ?_
              refine TS_F (by kernel_rfl) rfl ?_
              refine TS_go 3 ?_
              replace h := bindO h
              obtain ⟨e58, he58, h⟩ := h
              refine TS_idx S_Diagnostic.cs he58 (by kernel_rfl) (by kernel_rfl) ?_
              refine TS_go 4 ?_
              refine TS_cut ⟨[(0, []), (1, []), (5, []), (6, [])], [(600000, (600000, [])), (6, (6, []))]⟩ (.mk [.code (codeAt [1, 1, 0, 0, 0, 1, 0, 0, 1, 1, 1, 1, 1] (bodyOf Try.f55)), .blk 2, .blk 1] .normal ⟨[(0, .c (.slc 3 0 (List.length s1.1) (List.map S_Diagnostic.cs s1.1))), (1, .c (.slc 3 0 (List.length s1.2.1) (List.map S_Diagnostic.cs s1.2.1))), (5, .c (.slc 3 600002 (List.length s1.2.2) (List.map S_Diagnostic.cs s1.2.2))), (6, .c (.box 6 0))], [(600000, .spare 56 3 (List.length s1.2.2)), (6, .box [.lit (.int .u64 (e58.Node)), .lit (.int .i64 (e58.Number)), .slc 1 0 (List.length e58.Data) (List.map (ecI .u8) e58.Data)])]⟩) (by kernel_rfl) (by kernel_rfl) ?_
              refine TS_joinB ⟨[(0, []), (1, []), (5, []), (6, [])], [(600000, (600000, [])), (6, (6, []))]⟩ (fun (v59 : S_Diagnostic) => []) (fun (v59 : S_Diagnostic) => [(6, .box (S_Diagnostic.cs v59))]) (F_management_union_j3 s1) x ?_ ?_
              · clear h
                intro v59 h
                unfold F_management_union_j3 at h
                refine TS_go 4 ?_
                replace h := bindO h
                obtain ⟨v60, hv60, h⟩ := h
                refine TS_call [] (ok_management_clone v59 v60 hv60) (by kernel_rfl) (by kernel_rfl) ?_
                refine TS_litNT 31 56 3 S_Diagnostic.cs [0, 0, 2] ([v60] : List S_Diagnostic) (by kernel_rfl) (by kernel_rfl) ?_
                replace h := bindO h
                obtain ⟨l61, hl61, h⟩ := h
                refine TS_appT (d := 600000) (e := 56) (sz := 3) (N := List.length s1.2.2) S_Diagnostic.cs (fun _ => by kernel_rfl) (l1 := s1.2.2) (l2 := ([v60] : List S_Diagnostic)) (c := .whole) hl61 (by kernel_rfl) (by kernel_rfl) ?_
                refine TS_go 2 ?_
                refine TS_draw (by kernel_rfl) ?_
                refine TD_go 1 ?_
                replace h := bindO h
                obtain ⟨l62, hl62, h⟩ := h
                refine TD_sub S_Diagnostic.cs 3 hl62 (by kernel_rfl) (by kernel_rfl) ?_
                refine TD_go 1 ?_
                replace h := bindO h
                obtain ⟨l63, hl63, h⟩ := h
                refine TD_sub S_Diagnostic.cs 3 hl63 (by kernel_rfl) (by kernel_rfl) ?_
                refine TD_go 2 ?_
                refine TD_end (by kernel_rfl) ?_
                refine TS_go 2 ?_
                obtain rfl := Option.some.inj h
                exact TS_againB _ ⟨[(0, []), (1, []), (5, [])], [(600000, (600000, []))]⟩ rfl (by kernel_rfl) (by kernel_rfl)
              · refine TS_go 1 ?_
                refine TS_draw (by kernel_rfl) ?_
                refine TD_go 1 ?_
                replace h := bindO h
                obtain ⟨e64, he64, h⟩ := h
                refine TD_idx S_Diagnostic.cs he64 (by kernel_rfl) (by kernel_rfl) ?_
                refine TD_go 2 ?_
                replace h := bindO h
                obtain ⟨e65, he65, h⟩ := h
                refine TD_idx S_Diagnostic.cs he65 (by kernel_rfl) (by kernel_rfl) ?_
                refine TD_go 1 ?_
                replace h := bindO h
                obtain ⟨v66, hv66, h⟩ := h
                refine TD_call [] (ok_management_better e64 e65 v66 hv66) (by kernel_rfl) (by kernel_rfl) ?_
                refine TD_end (by kernel_rfl) ?_
                replace h := condO h
                rcases h with ⟨hb67, h⟩ | ⟨hb67, h⟩
                · subst hb67
                  refine TS_T (by kernel_rfl) rfl ?_
                  refine TS_go 2 ?_
                  replace h := bindO h
                  obtain ⟨e68, he68, h⟩ := h
                  refine TS_idx S_Diagnostic.cs he68 (by kernel_rfl) (by kernel_rfl) ?_
                  refine TS_go 3 ?_
                  exact TS_meet e68 ⟨[(0, []), (1, []), (5, []), (6, [])], [(600000, (600000, [])), (6, (6, []))]⟩ h (by kernel_rfl) (by kernel_rfl)
                · subst hb67
                  refine TS_F (by kernel_rfl) rfl ?_
                  refine TS_go 1 ?_
                  exact TS_meet e58 ⟨[(0, []), (1, []), (5, []), (6, [])], [(600000, (600000, [])), (6, (6, []))]⟩ h (by kernel_rfl) (by kernel_rfl)
      · refine TS_know 13 (b := false) hb40 (by kernel_rfl) (by kernel_rfl) ?_
        refine TS_know 14 (b := false) hb40 (by kernel_rfl) (by kernel_rfl) ?_
        refine TS_F (by kernel_rfl) rfl ?_
        refine TS_go 2 ?_
        obtain rfl := Option.some.inj h
        exact TS_brkB s1.2.2 ⟨[(5, [])], [(600000, (600000, []))]⟩ rfl (by kernel_rfl) (by kernel_rfl) (by kernel_rfl)
  · intro b2 hb
    subst y3
    have h := hK1
    refine TS_go 6 ?_
    refine TS_fitU ⟨[(4, [])], [(600000, (900000, []))]⟩ (by kernel_rfl) ?_
    refine TS_go 1 ?_
    obtain rfl := Option.some.inj h
    exact TS_ret (by kernel_rfl) (by kernel_rfl) (by kernel_rfl)
theorem ok_management_union (a0 : List S_Diagnostic) (a1 : List S_Diagnostic) (r : (List S_Diagnostic)) (h : F_management_union a0 a1 = some r) : Con Try.prog 55 [.c (eS 3 S_Diagnostic.cs (a0)), .c (eS 3 S_Diagnostic.cs (a1))] [] (.c (eS 3 S_Diagnostic.cs (r))) [] :=
  con_drop [[4]] [] (okT_management_union a0 a1 r h) (by kernel_rfl) (by kernel_rfl) (by kernel_rfl)

/-- multihop/management.limited -/
noncomputable def F_management_limited (a0 : List S_Diagnostic) : Option ((List S_Diagnostic) × Int) :=
  bif (decide ((List.length a0 : Int) > 64)) then
    some ((([] : List S_Diagnostic), 10))
  else
    some ((a0, 0))
set_option maxRecDepth 100000 in
set_option maxHeartbeats 40000000 in
theorem ok_management_limited (a0 : List S_Diagnostic) (r : (List S_Diagnostic) × Int) (h : F_management_limited a0 = some r) : Con Try.prog 54 [.c (eS 3 S_Diagnostic.cs (a0))] [] (.tup [(false, [eS 3 S_Diagnostic.cs (r.1)]), (false, [.lit (.int .i64 (r.2))])]) [] := by
  unfold F_management_limited at h
  refine con_of [[4]] [] 8 Try.func54 rfl rfl (by kernel_rfl) (fun K => ?_)
  refine TS_go 12 ?_
  replace h := condO h
  rcases h with ⟨hb1, h⟩ | ⟨hb1, h⟩
  · refine TS_know 6 (b := true) hb1 (by kernel_rfl) (by kernel_rfl) ?_
    refine TS_T (by kernel_rfl) rfl ?_
    refine TS_go 7 ?_
    obtain rfl := Option.some.inj h
    exact TS_ret (by kernel_rfl) (by kernel_rfl) (by kernel_rfl)
  · refine TS_know 6 (b := false) hb1 (by kernel_rfl) (by kernel_rfl) ?_
    refine TS_F (by kernel_rfl) rfl ?_
    refine TS_go 8 ?_
    obtain rfl := Option.some.inj h
    exact TS_ret (by kernel_rfl) (by kernel_rfl) (by kernel_rfl)

/-- multihop/management.Report -/
noncomputable def F_management_Report_j1  (v8 : (List S_Diagnostic) × Int) : Option ((List S_Diagnostic) × Int) :=
  some ((v8.1, v8.2))
noncomputable def F_management_Report (a0 : List S_Diagnostic) (a1 : S_Diagnostic) : Option ((List S_Diagnostic) × Int) :=
  (F_management_ValidReports a0).bind fun v1 =>
  bif v1 then
    bif (a1.Node == 0) then
      some ((([] : List S_Diagnostic), 1))
    else
      bif (decide ((List.length a1.Data : Int) > 64)) then
        some ((([] : List S_Diagnostic), 1))
      else
        (F_management_validNumber a1.Number).bind fun v5 =>
        bif v5 then
          (F_management_union a0 ([a1] : List S_Diagnostic)).bind fun v7 =>
          bif (decide ((List.length v7 : Int) > 64)) then
            (F_management_Report_j1) (([] : List S_Diagnostic), 10)
          else
            (F_management_Report_j1) (v7, 0)
        else
          some ((([] : List S_Diagnostic), 2))
  else
    some ((([] : List S_Diagnostic), 1))
set_option maxRecDepth 100000 in
set_option maxHeartbeats 40000000 in
theorem ok_management_Report (a0 : List S_Diagnostic) (a1 : S_Diagnostic) (r : (List S_Diagnostic) × Int) (h : F_management_Report a0 a1 = some r) : Con Try.prog 34 [.c (eS 3 S_Diagnostic.cs (a0)), .agg (S_Diagnostic.cs a1)] [] (.tup [(false, [eS 3 S_Diagnostic.cs (r.1)]), (false, [.lit (.int .i64 (r.2))])]) [] := by
  unfold F_management_Report at h
  refine con_of [[4]] [] 31 Try.func34 rfl rfl (by kernel_rfl) (fun K => ?_)
  refine TS_go 10 ?_
  replace h := bindO h
  obtain ⟨v1, hv1, h⟩ := h
  refine TS_call [] (ok_management_ValidReports a0 v1 hv1) (by kernel_rfl) (by kernel_rfl) ?_
  refine TS_go 2 ?_
  replace h := condO h
  rcases h with ⟨hb2, h⟩ | ⟨hb2, h⟩
  · subst hb2
    refine TS_go 5 ?_
    replace h := condO h
    rcases h with ⟨hb3, h⟩ | ⟨hb3, h⟩
    · refine TS_know 12 (b := true) hb3 (by kernel_rfl) (by kernel_rfl) ?_
      refine TS_know 13 (b := true) hb3 (by kernel_rfl) (by kernel_rfl) ?_
      refine TS_know 14 (b := true) hb3 (by kernel_rfl) (by kernel_rfl) ?_
      refine TS_go 6 ?_
      refine TS_T (by kernel_rfl) rfl ?_
      refine TS_go 7 ?_
      obtain rfl := Option.some.inj h
      exact TS_ret (by kernel_rfl) (by kernel_rfl) (by kernel_rfl)
    · refine TS_know 12 (b := false) hb3 (by kernel_rfl) (by kernel_rfl) ?_
      refine TS_know 13 (b := false) hb3 (by kernel_rfl) (by kernel_rfl) ?_
      refine TS_know 14 (b := false) hb3 (by kernel_rfl) (by kernel_rfl) ?_
      refine TS_go 6 ?_
      replace h := condO h
      rcases h with ⟨hb4, h⟩ | ⟨hb4, h⟩
      · refine TS_know 18 (b := true) hb4 (by kernel_rfl) (by kernel_rfl) ?_
        refine TS_know 19 (b := true) hb4 (by kernel_rfl) (by kernel_rfl) ?_
        refine TS_T (by kernel_rfl) rfl ?_
        refine TS_go 7 ?_
        obtain rfl := Option.some.inj h
        exact TS_ret (by kernel_rfl) (by kernel_rfl) (by kernel_rfl)
      · refine TS_know 18 (b := false) hb4 (by kernel_rfl) (by kernel_rfl) ?_
        refine TS_know 19 (b := false) hb4 (by kernel_rfl) (by kernel_rfl) ?_
        refine TS_F (by kernel_rfl) rfl ?_
        refine TS_go 6 ?_
        replace h := bindO h
        obtain ⟨v5, hv5, h⟩ := h
        refine TS_call [] (ok_management_validNumber a1.Number v5 hv5) (by kernel_rfl) (by kernel_rfl) ?_
        refine TS_go 2 ?_
        replace h := condO h
        rcases h with ⟨hb6, h⟩ | ⟨hb6, h⟩
        · subst hb6
          refine TS_F (by kernel_rfl) rfl ?_
          refine TS_go 5 ?_
          refine TS_litNT 26 56 3 S_Diagnostic.cs [0, 0, 2] ([a1] : List S_Diagnostic) (by kernel_rfl) (by kernel_rfl) ?_
          replace h := bindO h
          obtain ⟨v7, hv7, h⟩ := h
          refine TS_con [[], [4]] [(27, 900000)] none (okT_management_union a0 ([a1] : List S_Diagnostic) v7 hv7) (by kernel_rfl) (by kernel_rfl) (by kernel_rfl) ?_
          refine TS_cut ⟨[(27, [])], [(27, (27, []))]⟩ (.mk [opsFr (codeAt [1, 1, 1, 0] (bodyOf Try.f34)) 4, .code (codeAt [1, 1, 1, 1] (bodyOf Try.f34))] .normal ⟨[(27, .c (.slc 3 29 (List.length v7) (List.map S_Diagnostic.cs v7)))], [(27, .spare 56 3 (List.length v7))]⟩) (by kernel_rfl) (by kernel_rfl) ?_
          refine TS_bump 2000 (by kernel_rfl) ?_
          refine TS_inlJ 8 Try.func54 rfl rfl ⟨[], []⟩ (fun (v8 : (List S_Diagnostic) × Int) => [(28, .tup [(false, [.slc 3 0 (List.length v8.1) (List.map S_Diagnostic.cs v8.1)]), (false, [.lit (.int .i64 (v8.2))])])]) (fun (v8 : (List S_Diagnostic) × Int) => []) (F_management_Report_j1) r (by kernel_rfl) ?_ (fun K10 => ?_)
          · clear h
            intro v8 h
            unfold F_management_Report_j1 at h
            refine TS_go 6 ?_
            obtain rfl := Option.some.inj h
            exact TS_ret (by kernel_rfl) (by kernel_rfl) (by kernel_rfl)
          · refine TS_go 12 ?_
            replace h := condO h
            rcases h with ⟨hb9, h⟩ | ⟨hb9, h⟩
            · refine TS_know 6 (b := true) hb9 (by kernel_rfl) (by kernel_rfl) ?_
              refine TS_T (by kernel_rfl) rfl ?_
              refine TS_go 7 ?_
              exact TS_inlM (([] : List S_Diagnostic), 10) ⟨[(28, [4])], []⟩ h (by kernel_rfl) (by kernel_rfl) (by kernel_rfl)
            · refine TS_know 6 (b := false) hb9 (by kernel_rfl) (by kernel_rfl) ?_
              refine TS_F (by kernel_rfl) rfl ?_
              refine TS_go 8 ?_
              exact TS_inlM (v7, 0) ⟨[(28, [4])], []⟩ h (by kernel_rfl) (by kernel_rfl) (by kernel_rfl)
        · subst hb6
          refine TS_T (by kernel_rfl) rfl ?_
          refine TS_go 7 ?_
          obtain rfl := Option.some.inj h
          exact TS_ret (by kernel_rfl) (by kernel_rfl) (by kernel_rfl)
  · subst hb2
    refine TS_go 11 ?_
    refine TS_T (by kernel_rfl) rfl ?_
    refine TS_go 7 ?_
    obtain rfl := Option.some.inj h
    exact TS_ret (by kernel_rfl) (by kernel_rfl) (by kernel_rfl)

/-- multihop/multihoplaw39.known -/
noncomputable def F_law39_known  : Option (Bool) :=
  (F_management_Sign [1, 0, 0, 0, 0, 0, 0, 0, 0, 0, 0, 0, 0, 0, 0, 0] 3 ([7] : List Int)).bind fun v1 =>
  (F_management_Take (S_Settings.mk 0 ([] : List Int) [0, 0, 0, 0, 0, 0, 0, 0]) [1, 0, 0, 0, 0, 0, 0, 0, 0, 0, 0, 0, 0, 0, 0, 0] v1.1).bind fun v2 =>
  (F_management_Take v2.1 [1, 0, 0, 0, 0, 0, 0, 0, 0, 0, 0, 0, 0, 0, 0, 0] v1.1).bind fun v3 =>
  (F_management_Report ([] : List S_Diagnostic) (S_Diagnostic.mk 4 5 ([] : List Int))).bind fun v4 =>
  bif (v1.2 == 0) then
    bif (v2.2 == 0) then
      bif (v3.2 == 16) then
        bif (v4.2 == 0) then
          bif ((List.length v4.1 : Int) == 1) then
            bif (v2.1.Version == 3) then
              (F_management_Check [1, 0, 0, 0, 0, 0, 0, 0, 0, 0, 0, 0, 0, 0, 0, 0] v2.1).bind fun v11 =>
              some (v11)
            else
              some (false)
          else
            some (false)
        else
          some (false)
      else
        some (false)
    else
      some (false)
  else
    some (false)
set_option maxRecDepth 100000 in
set_option maxHeartbeats 40000000 in
theorem ok_law39_known  (r : Bool) (h : F_law39_known  = some r) : Con Try.prog 15 [] [] (.c (.lit (.bool (r)))) [] := by
  unfold F_law39_known at h
  refine con_of [] [] 63 Try.func15 rfl rfl (by kernel_rfl) (fun K => ?_)
  refine TS_go 7 ?_
  refine TS_litNT 11 5 1 (ecI .u8) [] ([7] : List Int) (by kernel_rfl) (by kernel_rfl) ?_
  replace h := bindO h
  obtain ⟨v1, hv1, h⟩ := h
  refine TS_call [[], [], [2]] (ok_management_Sign [1, 0, 0, 0, 0, 0, 0, 0, 0, 0, 0, 0, 0, 0, 0, 0] 3 ([7] : List Int) v1 hv1) (by kernel_rfl) (by kernel_rfl) ?_
  refine TS_go 12 ?_
  replace h := bindO h
  obtain ⟨v2, hv2, h⟩ := h
  refine TS_call [[0, 2]] (ok_management_Take (S_Settings.mk 0 ([] : List Int) [0, 0, 0, 0, 0, 0, 0, 0]) [1, 0, 0, 0, 0, 0, 0, 0, 0, 0, 0, 0, 0, 0, 0, 0] v1.1 v2 hv2) (by kernel_rfl) (by kernel_rfl) ?_
  refine TS_go 12 ?_
  replace h := bindO h
  obtain ⟨v3, hv3, h⟩ := h
  refine TS_call [] (ok_management_Take v2.1 [1, 0, 0, 0, 0, 0, 0, 0, 0, 0, 0, 0, 0, 0, 0, 0] v1.1 v3 hv3) (by kernel_rfl) (by kernel_rfl) ?_
  refine TS_go 10 ?_
  replace h := bindO h
  obtain ⟨v4, hv4, h⟩ := h
  refine TS_call [[4], [0, 0, 2]] (ok_management_Report ([] : List S_Diagnostic) (S_Diagnostic.mk 4 5 ([] : List Int)) v4 hv4) (by kernel_rfl) (by kernel_rfl) ?_
  refine TS_go 11 ?_
  replace h := condO h
  rcases h with ⟨hb5, h⟩ | ⟨hb5, h⟩
  · refine TS_know 35 (b := true) hb5 (by kernel_rfl) (by kernel_rfl) ?_
    refine TS_know 36 (b := true) hb5 (by kernel_rfl) (by kernel_rfl) ?_
    refine TS_go 4 ?_
    replace h := condO h
    rcases h with ⟨hb6, h⟩ | ⟨hb6, h⟩
    · refine TS_know 38 (b := true) hb6 (by kernel_rfl) (by kernel_rfl) ?_
      refine TS_know 39 (b := true) hb6 (by kernel_rfl) (by kernel_rfl) ?_
      refine TS_know 40 (b := true) hb6 (by kernel_rfl) (by kernel_rfl) ?_
      refine TS_go 4 ?_
      replace h := condO h
      rcases h with ⟨hb7, h⟩ | ⟨hb7, h⟩
      · refine TS_know 42 (b := true) hb7 (by kernel_rfl) (by kernel_rfl) ?_
        refine TS_know 43 (b := true) hb7 (by kernel_rfl) (by kernel_rfl) ?_
        refine TS_know 44 (b := true) hb7 (by kernel_rfl) (by kernel_rfl) ?_
        refine TS_go 4 ?_
        replace h := condO h
        rcases h with ⟨hb8, h⟩ | ⟨hb8, h⟩
        · refine TS_know 46 (b := true) hb8 (by kernel_rfl) (by kernel_rfl) ?_
          refine TS_know 47 (b := true) hb8 (by kernel_rfl) (by kernel_rfl) ?_
          refine TS_know 48 (b := true) hb8 (by kernel_rfl) (by kernel_rfl) ?_
          refine TS_go 5 ?_
          replace h := condO h
          rcases h with ⟨hb9, h⟩ | ⟨hb9, h⟩
          · refine TS_know 51 (b := true) hb9 (by kernel_rfl) (by kernel_rfl) ?_
            refine TS_know 52 (b := true) hb9 (by kernel_rfl) (by kernel_rfl) ?_
            refine TS_know 53 (b := true) hb9 (by kernel_rfl) (by kernel_rfl) ?_
            refine TS_go 5 ?_
            replace h := condO h
            rcases h with ⟨hb10, h⟩ | ⟨hb10, h⟩
            · refine TS_know 56 (b := true) hb10 (by kernel_rfl) (by kernel_rfl) ?_
              refine TS_know 57 (b := true) hb10 (by kernel_rfl) (by kernel_rfl) ?_
              refine TS_know 58 (b := true) hb10 (by kernel_rfl) (by kernel_rfl) ?_
              refine TS_go 2 ?_
              replace h := bindO h
              obtain ⟨v11, hv11, h⟩ := h
              refine TS_call [] (ok_management_Check [1, 0, 0, 0, 0, 0, 0, 0, 0, 0, 0, 0, 0, 0, 0, 0] v2.1 v11 hv11) (by kernel_rfl) (by kernel_rfl) ?_
              refine TS_go 4 ?_
              obtain rfl := Option.some.inj h
              exact TS_ret (by kernel_rfl) (by kernel_rfl) (by kernel_rfl)
            · refine TS_know 56 (b := false) hb10 (by kernel_rfl) (by kernel_rfl) ?_
              refine TS_know 57 (b := false) hb10 (by kernel_rfl) (by kernel_rfl) ?_
              refine TS_know 58 (b := false) hb10 (by kernel_rfl) (by kernel_rfl) ?_
              refine TS_go 7 ?_
              obtain rfl := Option.some.inj h
              exact TS_ret (by kernel_rfl) (by kernel_rfl) (by kernel_rfl)
          · refine TS_know 51 (b := false) hb9 (by kernel_rfl) (by kernel_rfl) ?_
            refine TS_know 52 (b := false) hb9 (by kernel_rfl) (by kernel_rfl) ?_
            refine TS_know 53 (b := false) hb9 (by kernel_rfl) (by kernel_rfl) ?_
            refine TS_go 12 ?_
            obtain rfl := Option.some.inj h
            exact TS_ret (by kernel_rfl) (by kernel_rfl) (by kernel_rfl)
        · refine TS_know 46 (b := false) hb8 (by kernel_rfl) (by kernel_rfl) ?_
          refine TS_know 47 (b := false) hb8 (by kernel_rfl) (by kernel_rfl) ?_
          refine TS_know 48 (b := false) hb8 (by kernel_rfl) (by kernel_rfl) ?_
          refine TS_go 17 ?_
          obtain rfl := Option.some.inj h
          exact TS_ret (by kernel_rfl) (by kernel_rfl) (by kernel_rfl)
      · refine TS_know 42 (b := false) hb7 (by kernel_rfl) (by kernel_rfl) ?_
        refine TS_know 43 (b := false) hb7 (by kernel_rfl) (by kernel_rfl) ?_
        refine TS_know 44 (b := false) hb7 (by kernel_rfl) (by kernel_rfl) ?_
        refine TS_go 21 ?_
        obtain rfl := Option.some.inj h
        exact TS_ret (by kernel_rfl) (by kernel_rfl) (by kernel_rfl)
    · refine TS_know 38 (b := false) hb6 (by kernel_rfl) (by kernel_rfl) ?_
      refine TS_know 39 (b := false) hb6 (by kernel_rfl) (by kernel_rfl) ?_
      refine TS_know 40 (b := false) hb6 (by kernel_rfl) (by kernel_rfl) ?_
      refine TS_go 25 ?_
      obtain rfl := Option.some.inj h
      exact TS_ret (by kernel_rfl) (by kernel_rfl) (by kernel_rfl)
  · refine TS_know 35 (b := false) hb5 (by kernel_rfl) (by kernel_rfl) ?_
    refine TS_know 36 (b := false) hb5 (by kernel_rfl) (by kernel_rfl) ?_
    refine TS_go 29 ?_
    obtain rfl := Option.some.inj h
    exact TS_ret (by kernel_rfl) (by kernel_rfl) (by kernel_rfl)

/-- multihop/multihoplaw39.SettingsRise -/
noncomputable def F_law39_SettingsRise_j3 (v7 : Int) (s2 : Int × Int × S_multihopmade_Tape × S_Settings) (v6 : S_Settings × S_multihopmade_Tape) (v9 : S_Settings) : Option ((Int × Int × S_multihopmade_Tape × S_Settings) ⊕ ((Unit) ⊕ (Bool))) :=
  bif (v9.Version != v7) then
    some (Sum.inr (Sum.inr false))
  else
    some (Sum.inl (v7, IntKind.wrap .i64 (s2.2.1 + 1), v6.2, v9))
noncomputable def F_law39_SettingsRise_j2 (s2 : Int × Int × S_multihopmade_Tape × S_Settings) (a0 : List Int) (v6 : S_Settings × S_multihopmade_Tape) (v7 : Int) : Option ((Int × Int × S_multihopmade_Tape × S_Settings) ⊕ ((Unit) ⊕ (Bool))) :=
  (F_management_Take s2.2.2.2 a0 v6.1).bind fun v8 =>
  bif (v8.2 == 0) then
    bif (decide (v8.1.Version ≤ s2.2.2.2.Version)) then
      some (Sum.inr (Sum.inr false))
    else
      (F_law39_SettingsRise_j3 v7 s2 v6) v8.1
  else
    (F_law39_SettingsRise_j3 v7 s2 v6) s2.2.2.2
noncomputable def F_law39_SettingsRise_l1 (a0 : List Int) (s2 : Int × Int × S_multihopmade_Tape × S_Settings) : Option ((Int × Int × S_multihopmade_Tape × S_Settings) ⊕ ((Unit) ⊕ (Bool))) :=
  bif (decide (s2.2.1 < 15)) then
    (F_world_Settings s2.2.2.1 a0).bind fun v6 =>
    (F_ref39_Check a0 v6.1).bind fun v13 =>
    bif v13 then
      (F_law39_SettingsRise_j2 s2 a0 v6) (if s2.1 < v6.1.Version then v6.1.Version else s2.1)
    else
      (F_law39_SettingsRise_j2 s2 a0 v6) s2.1
  else
    some (Sum.inr (Sum.inl ()))
noncomputable def F_law39_SettingsRise (a0 : List Int) (a1 : List Int) : Option (Bool) :=
  (F_made_New a1).bind fun v1 =>
  (loopO (F_law39_SettingsRise_l1 a0) (0, 0, v1, (S_Settings.mk 0 ([] : List Int) [0, 0, 0, 0, 0, 0, 0, 0]))).bind (Sum.elim (fun b3 =>
    (F_law39_known ).bind fun v16 =>
    some (v16)
  ) (fun w15 => some w15))
set_option maxRecDepth 100000 in
set_option maxHeartbeats 40000000 in
theorem ok_law39_SettingsRise (a0 : List Int) (a1 : List Int) (r : Bool) (h : F_law39_SettingsRise a0 a1 = some r) : Con Try.prog 3 [.agg (arrS .u8 16 a0), .c (eS 1 (ecI .i64) (a1))] [] (.c (.lit (.bool (r)))) [] := by
  unfold F_law39_SettingsRise at h
  refine con_of [] [] 48 Try.func3 rfl rfl (by kernel_rfl) (fun K => ?_)
  refine TS_go 8 ?_
  replace h := bindO h
  obtain ⟨v1, hv1, h⟩ := h
  refine TS_con [] [(13, 10)] none (ok_made_New a1 v1 hv1) (by kernel_rfl) (by kernel_rfl) (by kernel_rfl) ?_
  refine TS_go 16 ?_
  refine TS_cut ⟨[(2, []), (5, []), (6, []), (7, []), (8, [])], [(2, (2, [])), (13, (13, [])), (6, (6, []))]⟩ (.mk [.code (codeAt [1, 1, 1, 1, 0, 1, 0] (bodyOf Try.f3)), .blk 0, .code (codeAt [1, 1, 1, 1, 1] (bodyOf Try.f3))] .normal ⟨[(2, .c (.box 2 0)), (5, .c (.box 13 0)), (6, .c (.box 6 0)), (7, .c (.lit (.int .i64 (0)))), (8, .c (.lit (.int .i64 (0))))], [(2, .box [.lit (.int .u8 ((a0.getD 0 0))), .lit (.int .u8 ((a0.getD 1 0))), .lit (.int .u8 ((a0.getD 2 0))), .lit (.int .u8 ((a0.getD 3 0))), .lit (.int .u8 ((a0.getD 4 0))), .lit (.int .u8 ((a0.getD 5 0))), .lit (.int .u8 ((a0.getD 6 0))), .lit (.int .u8 ((a0.getD 7 0))), .lit (.int .u8 ((a0.getD 8 0))), .lit (.int .u8 ((a0.getD 9 0))), .lit (.int .u8 ((a0.getD 10 0))), .lit (.int .u8 ((a0.getD 11 0))), .lit (.int .u8 ((a0.getD 12 0))), .lit (.int .u8 ((a0.getD 13 0))), .lit (.int .u8 ((a0.getD 14 0))), .lit (.int .u8 ((a0.getD 15 0)))]), (13, .box [.slc 1 0 (List.length v1.l) (List.map (ecI .i64) v1.l), .lit (.int .i64 (v1.at_))]), (6, .box [.lit (.int .i64 (0)), .lit (.slice none 0 0), .lit (.int .u8 (0)), .lit (.int .u8 (0)), .lit (.int .u8 (0)), .lit (.int .u8 (0)), .lit (.int .u8 (0)), .lit (.int .u8 (0)), .lit (.int .u8 (0)), .lit (.int .u8 (0))])]⟩) (by kernel_rfl) (by kernel_rfl) ?_
  replace h := bindO h
  obtain ⟨y4, hl1, hK1⟩ := h
  refine TS_loopB (F_law39_SettingsRise_l1 a0) ⟨[(2, []), (5, []), (6, []), (7, []), (8, [])], [(2, (2, [])), (13, (13, [])), (6, (6, [0, 2]))]⟩ (fun (s2 : Int × Int × S_multihopmade_Tape × S_Settings) => [(7, .c (.lit (.int .i64 (s2.1)))), (8, .c (.lit (.int .i64 (s2.2.1))))]) (fun (s2 : Int × Int × S_multihopmade_Tape × S_Settings) => [(13, .box (S_multihopmade_Tape.cs s2.2.2.1)), (6, .box (S_Settings.cs s2.2.2.2))]) (0, 0, v1, (S_Settings.mk 0 ([] : List Int) [0, 0, 0, 0, 0, 0, 0, 0])) y4 (.exit 0) (fun (b : Unit) => (Sum.inl b : (Unit) ⊕ (Bool))) ⟨[], []⟩ (fun (b3 : Unit) => []) (fun (b3 : Unit) => []) hl1 (by kernel_rfl) (by kernel_rfl) ?_ ?_
  · intro s2 x h hy1
    unfold F_law39_SettingsRise_l1 at h
    refine TS_go 6 ?_
    replace h := condO h
    rcases h with ⟨hb5, h⟩ | ⟨hb5, h⟩
    · refine TS_know 15 (b := true) hb5 (by kernel_rfl) (by kernel_rfl) ?_
      refine TS_T (by kernel_rfl) rfl ?_
      refine TS_go 7 ?_
      replace h := bindO h
      obtain ⟨v6, hv6, h⟩ := h
      refine TS_con [] [] (some (13, 0)) (ok_world_Settings s2.2.2.1 a0 v6 hv6) (by kernel_rfl) (by kernel_rfl) (by kernel_rfl) ?_
      refine TS_go 3 ?_
      refine TS_cut ⟨[(2, []), (5, []), (6, []), (7, []), (8, []), (9, [])], [(2, (2, [])), (13, (13, [])), (6, (6, [])), (9, (9, []))]⟩ (.mk [.code (codeAt [1, 1, 1, 1, 0, 1, 0, 0, 1, 0, 0, 1] (bodyOf Try.f3)), .blk 1, .code (codeAt [1, 1, 1, 1, 0, 1, 0, 0, 1, 1] (bodyOf Try.f3))] .normal ⟨[(2, .c (.box 2 0)), (5, .c (.box 13 0)), (6, .c (.box 6 0)), (7, .c (.lit (.int .i64 (s2.1)))), (8, .c (.lit (.int .i64 (s2.2.1)))), (9, .c (.box 9 0))], [(2, .box [.lit (.int .u8 ((a0.getD 0 0))), .lit (.int .u8 ((a0.getD 1 0))), .lit (.int .u8 ((a0.getD 2 0))), .lit (.int .u8 ((a0.getD 3 0))), .lit (.int .u8 ((a0.getD 4 0))), .lit (.int .u8 ((a0.getD 5 0))), .lit (.int .u8 ((a0.getD 6 0))), .lit (.int .u8 ((a0.getD 7 0))), .lit (.int .u8 ((a0.getD 8 0))), .lit (.int .u8 ((a0.getD 9 0))), .lit (.int .u8 ((a0.getD 10 0))), .lit (.int .u8 ((a0.getD 11 0))), .lit (.int .u8 ((a0.getD 12 0))), .lit (.int .u8 ((a0.getD 13 0))), .lit (.int .u8 ((a0.getD 14 0))), .lit (.int .u8 ((a0.getD 15 0)))]), (13, .box [.slc 1 0 (List.length v6.2.l) (List.map (ecI .i64) v6.2.l), .lit (.int .i64 (v6.2.at_))]), (6, .box [.lit (.int .i64 (s2.2.2.2.Version)), .slc 1 0 (List.length s2.2.2.2.Data) (List.map (ecI .u8) s2.2.2.2.Data), .lit (.int .u8 ((s2.2.2.2.Tag.getD 0 0))), .lit (.int .u8 ((s2.2.2.2.Tag.getD 1 0))), .lit (.int .u8 ((s2.2.2.2.Tag.getD 2 0))), .lit (.int .u8 ((s2.2.2.2.Tag.getD 3 0))), .lit (.int .u8 ((s2.2.2.2.Tag.getD 4 0))), .lit (.int .u8 ((s2.2.2.2.Tag.getD 5 0))), .lit (.int .u8 ((s2.2.2.2.Tag.getD 6 0))), .lit (.int .u8 ((s2.2.2.2.Tag.getD 7 0)))]), (9, .box [.lit (.int .i64 (v6.1.Version)), .slc 1 0 (List.length v6.1.Data) (List.map (ecI .u8) v6.1.Data), .lit (.int .u8 ((v6.1.Tag.getD 0 0))), .lit (.int .u8 ((v6.1.Tag.getD 1 0))), .lit (.int .u8 ((v6.1.Tag.getD 2 0))), .lit (.int .u8 ((v6.1.Tag.getD 3 0))), .lit (.int .u8 ((v6.1.Tag.getD 4 0))), .lit (.int .u8 ((v6.1.Tag.getD 5 0))), .lit (.int .u8 ((v6.1.Tag.getD 6 0))), .lit (.int .u8 ((v6.1.Tag.getD 7 0)))])]⟩) (by kernel_rfl) (by kernel_rfl) ?_
      refine TS_joinB ⟨[(2, []), (5, []), (6, []), (7, []), (8, []), (9, [])], [(2, (2, [])), (13, (13, [])), (6, (6, [])), (9, (9, []))]⟩ (fun (v7 : Int) => [(7, .c (.lit (.int .i64 (v7))))]) (fun (v7 : Int) => []) (F_law39_SettingsRise_j2 s2 a0 v6) x ?_ ?_
      · clear h
        intro v7 h
        unfold F_law39_SettingsRise_j2 at h
        refine TS_go 5 ?_
        replace h := bindO h
        obtain ⟨v8, hv8, h⟩ := h
        refine TS_call [] (ok_management_Take s2.2.2.2 a0 v6.1 v8 hv8) (by kernel_rfl) (by kernel_rfl) ?_
        refine TS_go 7 ?_
        refine TS_cut ⟨[(2, []), (5, []), (6, []), (7, []), (8, []), (10, []), (11, [])], [(2, (2, [])), (13, (13, [])), (6, (6, [])), (10, (10, []))]⟩ (.mk [.code (codeAt [1, 1, 1, 1, 0, 1, 0, 0, 1, 0, 0, 1, 1, 1] (bodyOf Try.f3)), .blk 1, .code (codeAt [1, 1, 1, 1, 0, 1, 0, 0, 1, 1] (bodyOf Try.f3))] .normal ⟨[(2, .c (.box 2 0)), (5, .c (.box 13 0)), (6, .c (.box 6 0)), (7, .c (.lit (.int .i64 (v7)))), (8, .c (.lit (.int .i64 (s2.2.1)))), (10, .c (.box 10 0)), (11, .c (.lit (.int .i64 (v8.2))))], [(2, .box [.lit (.int .u8 ((a0.getD 0 0))), .lit (.int .u8 ((a0.getD 1 0))), .lit (.int .u8 ((a0.getD 2 0))), .lit (.int .u8 ((a0.getD 3 0))), .lit (.int .u8 ((a0.getD 4 0))), .lit (.int .u8 ((a0.getD 5 0))), .lit (.int .u8 ((a0.getD 6 0))), .lit (.int .u8 ((a0.getD 7 0))), .lit (.int .u8 ((a0.getD 8 0))), .lit (.int .u8 ((a0.getD 9 0))), .lit (.int .u8 ((a0.getD 10 0))), .lit (.int .u8 ((a0.getD 11 0))), .lit (.int .u8 ((a0.getD 12 0))), .lit (.int .u8 ((a0.getD 13 0))), .lit (.int .u8 ((a0.getD 14 0))), .lit (.int .u8 ((a0.getD 15 0)))]), (13, .box [.slc 1 0 (List.length v6.2.l) (List.map (ecI .i64) v6.2.l), .lit (.int .i64 (v6.2.at_))]), (6, .box [.lit (.int .i64 (s2.2.2.2.Version)), .slc 1 0 (List.length s2.2.2.2.Data) (List.map (ecI .u8) s2.2.2.2.Data), .lit (.int .u8 ((s2.2.2.2.Tag.getD 0 0))), .lit (.int .u8 ((s2.2.2.2.Tag.getD 1 0))), .lit (.int .u8 ((s2.2.2.2.Tag.getD 2 0))), .lit (.int .u8 ((s2.2.2.2.Tag.getD 3 0))), .lit (.int .u8 ((s2.2.2.2.Tag.getD 4 0))), .lit (.int .u8 ((s2.2.2.2.Tag.getD 5 0))), .lit (.int .u8 ((s2.2.2.2.Tag.getD 6 0))), .lit (.int .u8 ((s2.2.2.2.Tag.getD 7 0)))]), (10, .box [.lit (.int .i64 (v8.1.Version)), .slc 1 0 (List.length v8.1.Data) (List.map (ecI .u8) v8.1.Data), .lit (.int .u8 ((v8.1.Tag.getD 0 0))), .lit (.int .u8 ((v8.1.Tag.getD 1 0))), .lit (.int .u8 ((v8.1.Tag.getD 2 0))), .lit (.int .u8 ((v8.1.Tag.getD 3 0))), .lit (.int .u8 ((v8.1.Tag.getD 4 0))), .lit (.int .u8 ((v8.1.Tag.getD 5 0))), .lit (.int .u8 ((v8.1.Tag.getD 6 0))), .lit (.int .u8 ((v8.1.Tag.getD 7 0)))])]⟩) (by kernel_rfl) (by kernel_rfl) ?_
        refine TS_joinB ⟨[(2, []), (5, []), (6, []), (7, []), (8, [])], [(2, (2, [])), (13, (13, [])), (6, (6, []))]⟩ (fun (v9 : S_Settings) => []) (fun (v9 : S_Settings) => [(6, .box (S_Settings.cs v9))]) (F_law39_SettingsRise_j3 v7 s2 v6) x ?_ ?_
        · clear h
          intro v9 h
          unfold F_law39_SettingsRise_j3 at h
          refine TS_go 7 ?_
          replace h := condO h
          rcases h with ⟨hb10, h⟩ | ⟨hb10, h⟩
          · refine TS_know 46 (b := true) hb10 (by kernel_rfl) (by kernel_rfl) ?_
            refine TS_T (by kernel_rfl) rfl ?_
            refine TS_go 7 ?_
            obtain rfl := Option.some.inj h
            have hy1q := hy1 _ rfl
            subst hy1q
            replace h := (elimR hK1)
            refine TS_retB rfl (by kernel_rfl) ?_
            refine TS_go 2 ?_
            obtain rfl := Option.some.inj h
            exact TS_ret (by kernel_rfl) (by kernel_rfl) (by kernel_rfl)
          · refine TS_know 46 (b := false) hb10 (by kernel_rfl) (by kernel_rfl) ?_
            refine TS_F (by kernel_rfl) rfl ?_
            refine TS_go 7 ?_
            obtain rfl := Option.some.inj h
            exact TS_againB _ ⟨[(2, []), (5, []), (6, []), (7, []), (8, [])], [(2, (2, [])), (13, (13, [])), (6, (6, []))]⟩ rfl (by kernel_rfl) (by kernel_rfl)
        · refine TS_go 5 ?_
          replace h := condO h
          rcases h with ⟨hb11, h⟩ | ⟨hb11, h⟩
          · refine TS_know 36 (b := true) hb11 (by kernel_rfl) (by kernel_rfl) ?_
            refine TS_T (by kernel_rfl) rfl ?_
            refine TS_go 9 ?_
            replace h := condO h
            rcases h with ⟨hb12, h⟩ | ⟨hb12, h⟩
            · refine TS_know 41 (b := true) hb12 (by kernel_rfl) (by kernel_rfl) ?_
              refine TS_T (by kernel_rfl) rfl ?_
              refine TS_go 6 ?_
              refine TS_outJ (by kernel_rfl) ?_
              refine TS_go 2 ?_
              obtain rfl := Option.some.inj h
              have hy1q := hy1 _ rfl
              subst hy1q
              replace h := (elimR hK1)
              refine TS_retB rfl (by kernel_rfl) ?_
              refine TS_go 2 ?_
              obtain rfl := Option.some.inj h
              exact TS_ret (by kernel_rfl) (by kernel_rfl) (by kernel_rfl)
            · refine TS_know 41 (b := false) hb12 (by kernel_rfl) (by kernel_rfl) ?_
              refine TS_F (by kernel_rfl) rfl ?_
              refine TS_go 5 ?_
              exact TS_meet v8.1 ⟨[(2, []), (5, []), (6, []), (7, []), (8, [])], [(2, (2, [])), (13, (13, [])), (6, (6, []))]⟩ h (by kernel_rfl) (by kernel_rfl)
          · refine TS_know 36 (b := false) hb11 (by kernel_rfl) (by kernel_rfl) ?_
            refine TS_F (by kernel_rfl) rfl ?_
            refine TS_go 1 ?_
            exact TS_meet s2.2.2.2 ⟨[(2, []), (5, []), (6, []), (7, []), (8, [])], [(2, (2, [])), (13, (13, [])), (6, (6, []))]⟩ h (by kernel_rfl) (by kernel_rfl)
      · refine TS_go 4 ?_
        replace h := bindO h
        obtain ⟨v13, hv13, h⟩ := h
        refine TS_call [] (ok_ref39_Check a0 v6.1 v13 hv13) (by kernel_rfl) (by kernel_rfl) ?_
        refine TS_go 1 ?_
        replace h := condO h
        rcases h with ⟨hb14, h⟩ | ⟨hb14, h⟩
        · subst hb14
          refine TS_T (by kernel_rfl) rfl ?_
          refine TS_go 7 ?_
          exact TS_meet (if s2.1 < v6.1.Version then v6.1.Version else s2.1) ⟨[(2, []), (5, []), (6, []), (7, []), (8, []), (9, [])], [(2, (2, [])), (13, (13, [])), (6, (6, [])), (9, (9, []))]⟩ h (by kernel_rfl) (by kernel_rfl)
        · subst hb14
          refine TS_F (by kernel_rfl) rfl ?_
          refine TS_go 1 ?_
          exact TS_meet s2.1 ⟨[(2, []), (5, []), (6, []), (7, []), (8, []), (9, [])], [(2, (2, [])), (13, (13, [])), (6, (6, [])), (9, (9, []))]⟩ h (by kernel_rfl) (by kernel_rfl)
    · refine TS_know 15 (b := false) hb5 (by kernel_rfl) (by kernel_rfl) ?_
      refine TS_F (by kernel_rfl) rfl ?_
      refine TS_go 2 ?_
      obtain rfl := Option.some.inj h
      exact TS_brkB () ⟨[], []⟩ rfl (by kernel_rfl) (by kernel_rfl) (by kernel_rfl)
  · intro b3 hb
    subst y4
    have h := elimL hK1
    refine TS_go 3 ?_
    replace h := bindO h
    obtain ⟨v16, hv16, h⟩ := h
    refine TS_call [] (ok_law39_known  v16 hv16) (by kernel_rfl) (by kernel_rfl) ?_
    refine TS_go 3 ?_
    obtain rfl := Option.some.inj h
    exact TS_ret (by kernel_rfl) (by kernel_rfl) (by kernel_rfl)

/-- multihop/multihopmade.Mod -/
noncomputable def F_made_Mod_j1  (v2 : Int) : Option (Int) :=
  some (v2)
noncomputable def F_made_Mod (a0 : Int) (a1 : Int) : Option (Int) :=
  bif decide (a1 ≠ 0) then
    bif (decide ((Int.tmod a0 a1) < 0)) then
      (F_made_Mod_j1) (IntKind.wrap .i64 ((Int.tmod a0 a1) + a1))
    else
      (F_made_Mod_j1) (Int.tmod a0 a1)
  else none
set_option maxRecDepth 100000 in
set_option maxHeartbeats 40000000 in
theorem ok_made_Mod (a0 : Int) (a1 : Int) (r : Int) (h : F_made_Mod a0 a1 = some r) : Con Try.prog 16 [.c (.lit (.int .i64 (a0))), .c (.lit (.int .i64 (a1)))] [] (.c (.lit (.int .i64 (r)))) [] := by
  unfold F_made_Mod at h
  refine con_of [] [] 14 Try.func16 rfl rfl (by kernel_rfl) (fun K => ?_)
  refine TS_go 8 ?_
  replace h := chkO h
  obtain ⟨hc1, h⟩ := h
  refine TS_num (op := .rem) (k := .i64) (k' := .i64) (m := a0) (i := a1) (of_decide_eq_true hc1) rfl (by simp) (by kernel_rfl) (by kernel_rfl) ?_
  refine TS_go 2 ?_
  refine TS_cut ⟨[(0, []), (1, [])], []⟩ (.mk [.code (codeAt [1, 1] (bodyOf Try.f16))] .normal ⟨[(0, .c (.lit (.int .i64 (Int.tmod a0 a1)))), (1, .c (.lit (.int .i64 (a1))))], []⟩) (by kernel_rfl) (by kernel_rfl) ?_
  refine TS_joinB ⟨[(0, [])], []⟩ (fun (v2 : Int) => [(0, .c (.lit (.int .i64 (v2))))]) (fun (v2 : Int) => []) (F_made_Mod_j1) r ?_ ?_
  · clear h
    intro v2 h
    unfold F_made_Mod_j1 at h
    refine TS_go 6 ?_
    obtain rfl := Option.some.inj h
    exact TS_ret (by kernel_rfl) (by kernel_rfl) (by kernel_rfl)
  · refine TS_go 5 ?_
    replace h := condO h
    rcases h with ⟨hb3, h⟩ | ⟨hb3, h⟩
    · refine TS_know 9 (b := true) hb3 (by kernel_rfl) (by kernel_rfl) ?_
      refine TS_T (by kernel_rfl) rfl ?_
      refine TS_go 6 ?_
      exact TS_meet (IntKind.wrap .i64 ((Int.tmod a0 a1) + a1)) ⟨[(0, [])], []⟩ h (by kernel_rfl) (by kernel_rfl)
    · refine TS_know 9 (b := false) hb3 (by kernel_rfl) (by kernel_rfl) ?_
      refine TS_F (by kernel_rfl) rfl ?_
      refine TS_go 1 ?_
      exact TS_meet (Int.tmod a0 a1) ⟨[(0, [])], []⟩ h (by kernel_rfl) (by kernel_rfl)

/-- bytes.Equal -/
noncomputable def F_bytes_Equal (a0 : List Int) (a1 : List Int) : Option (Bool) :=
  some (((u8L (Cut.app .whole a0)) == (u8L (Cut.app .whole a1))))
set_option maxRecDepth 100000 in
set_option maxHeartbeats 40000000 in
theorem ok_bytes_Equal (a0 : List Int) (a1 : List Int) (r : Bool) (h : F_bytes_Equal a0 a1 = some r) : Con Try.prog 39 [.c (eS 1 (ecI .u8) (a0)), .c (eS 1 (ecI .u8) (a1))] [] (.c (.lit (.bool (r)))) [] := by
  unfold F_bytes_Equal at h
  refine con_of [] [] 10 Try.func39 rfl rfl (by kernel_rfl) (fun K => ?_)
  refine TS_go 7 ?_
  refine TS_b2s a0 .whole (by kernel_rfl) (by kernel_rfl) ?_
  refine TS_go 1 ?_
  refine TS_b2s a1 .whole (by kernel_rfl) (by kernel_rfl) ?_
  refine TS_str .eql (u8L (Cut.app .whole a0)) (u8L (Cut.app .whole a1)) rfl (by kernel_rfl) (by kernel_rfl) ?_
  refine TS_go 3 ?_
  obtain rfl := Option.some.inj h
  exact TS_ret (by kernel_rfl) (by kernel_rfl) (by kernel_rfl)

/-- multihop/multihopworld.SameSettings -/
noncomputable def F_world_SameSettings (a0 : S_Settings) (a1 : S_Settings) : Option (Bool) :=
  bif (a0.Version == a1.Version) then
    bif (arrEq 8 a0.Tag a1.Tag) then
      (F_bytes_Equal a0.Data a1.Data).bind fun v3 =>
      some (v3)
    else
      some (false)
  else
    some (false)
set_option maxRecDepth 100000 in
set_option maxHeartbeats 40000000 in
theorem ok_world_SameSettings (a0 : S_Settings) (a1 : S_Settings) (r : Bool) (h : F_world_SameSettings a0 a1 = some r) : Con Try.prog 20 [.agg (S_Settings.cs a0), .agg (S_Settings.cs a1)] [] (.c (.lit (.bool (r)))) [] := by
  unfold F_world_SameSettings at h
  refine con_of [] [] 24 Try.func20 rfl rfl (by kernel_rfl) (fun K => ?_)
  refine TS_go 14 ?_
  replace h := condO h
  rcases h with ⟨hb1, h⟩ | ⟨hb1, h⟩
  · refine TS_know 9 (b := true) hb1 (by kernel_rfl) (by kernel_rfl) ?_
    refine TS_know 10 (b := true) hb1 (by kernel_rfl) (by kernel_rfl) ?_
    refine TS_go 7 ?_
    replace h := condO h
    rcases h with ⟨hb2, h⟩ | ⟨hb2, h⟩
    · refine TS_know 15 (b := true) hb2 (by kernel_rfl) (by kernel_rfl) ?_
      refine TS_know 16 (b := true) hb2 (by kernel_rfl) (by kernel_rfl) ?_
      refine TS_know 17 (b := true) hb2 (by kernel_rfl) (by kernel_rfl) ?_
      refine TS_go 4 ?_
      replace h := bindO h
      obtain ⟨v3, hv3, h⟩ := h
      refine TS_call [] (ok_bytes_Equal a0.Data a1.Data v3 hv3) (by kernel_rfl) (by kernel_rfl) ?_
      refine TS_go 4 ?_
      obtain rfl := Option.some.inj h
      exact TS_ret (by kernel_rfl) (by kernel_rfl) (by kernel_rfl)
    · refine TS_know 15 (b := false) hb2 (by kernel_rfl) (by kernel_rfl) ?_
      refine TS_know 16 (b := false) hb2 (by kernel_rfl) (by kernel_rfl) ?_
      refine TS_know 17 (b := false) hb2 (by kernel_rfl) (by kernel_rfl) ?_
      refine TS_go 9 ?_
      obtain rfl := Option.some.inj h
      exact TS_ret (by kernel_rfl) (by kernel_rfl) (by kernel_rfl)
  · refine TS_know 9 (b := false) hb1 (by kernel_rfl) (by kernel_rfl) ?_
    refine TS_know 10 (b := false) hb1 (by kernel_rfl) (by kernel_rfl) ?_
    refine TS_go 16 ?_
    obtain rfl := Option.some.inj h
    exact TS_ret (by kernel_rfl) (by kernel_rfl) (by kernel_rfl)

/-- multihop/multihoplaw39.SettingsSign -/
noncomputable def F_law39_SettingsSign_l1 (a1 : Int) (v6 : Int) (v7 : Int × S_multihopmade_Tape) (a0 : List Int) (a2 : List Int) (s8 : Int) : Option ((Int) ⊕ ((Unit) ⊕ (Bool))) :=
  bif (decide (s8 < (List.length ([a1, IntKind.wrap .i64 (1 + v6), IntKind.wrap .i64 (1073741824 + v7.1), 0] : List Int) : Int))) then
    (idx ([a1, IntKind.wrap .i64 (1 + v6), IntKind.wrap .i64 (1073741824 + v7.1), 0] : List Int) s8).bind fun e12 =>
    (F_management_Sign a0 e12 a2).bind fun v13 =>
    (F_ref39_Sign a0 e12 a2).bind fun v14 =>
    bif (v13.2 != v14.2) then
      some (Sum.inr (Sum.inr false))
    else
      (F_world_SameSettings v13.1 v14.1).bind fun v16 =>
      bif v16 then
        bif (v13.2 == 0) then
          (F_management_Check a0 v13.1).bind fun v19 =>
          bif v19 then
            some (Sum.inl (IntKind.wrap .i64 (s8 + 1)))
          else
            some (Sum.inr (Sum.inr false))
        else
          some (Sum.inl (IntKind.wrap .i64 (s8 + 1)))
      else
        some (Sum.inr (Sum.inr false))
  else
    some (Sum.inr (Sum.inl ()))
noncomputable def F_law39_SettingsSign_l2 (a3 : S_Settings) (v22 : S_Settings × S_multihopmade_Tape) (a0 : List Int) (s23 : Int) : Option ((Int) ⊕ ((Unit) ⊕ (Bool))) :=
  bif (decide (s23 < (List.length ([a3, v22.1, (S_Settings.mk 0 a3.Data a3.Tag), (S_Settings.mk 0 ([] : List Int) [0, 0, 0, 0, 0, 0, 0, 0])] : List S_Settings) : Int))) then
    (idx ([a3, v22.1, (S_Settings.mk 0 a3.Data a3.Tag), (S_Settings.mk 0 ([] : List Int) [0, 0, 0, 0, 0, 0, 0, 0])] : List S_Settings) s23).bind fun e27 =>
    (F_management_Valid e27).bind fun v28 =>
    (F_ref39_Valid e27).bind fun v29 =>
    bif (v28 == v29) then
      (F_management_Check a0 e27).bind fun v31 =>
      (F_ref39_Check a0 e27).bind fun v32 =>
      bif (v31 == v32) then
        (F_management_Check [9, 0, 0, 0, 0, 0, 0, 0, 0, 0, 0, 0, 0, 0, 0, 0] e27).bind fun v34 =>
        (F_ref39_Check [9, 0, 0, 0, 0, 0, 0, 0, 0, 0, 0, 0, 0, 0, 0, 0] e27).bind fun v35 =>
        bif (v34 == v35) then
          some (Sum.inl (IntKind.wrap .i64 (s23 + 1)))
        else
          some (Sum.inr (Sum.inr false))
      else
        some (Sum.inr (Sum.inr false))
    else
      some (Sum.inr (Sum.inr false))
  else
    some (Sum.inr (Sum.inl ()))
noncomputable def F_law39_SettingsSign (a0 : List Int) (a1 : Int) (a2 : List Int) (a3 : S_Settings) (a4 : List Int) : Option (Bool) :=
  bif (decide ((List.length a2 : Int) > 200)) then
    (F_law39_known ).bind fun v2 =>
    some (v2)
  else
    bif (decide ((List.length a3.Data : Int) > 200)) then
      (F_law39_known ).bind fun v4 =>
      some (v4)
    else
      (F_made_New a4).bind fun v5 =>
      (F_made_Mod a1 10).bind fun v6 =>
      (F_made_Tape_Next v5 2).bind fun v7 =>
      (loopO (F_law39_SettingsSign_l1 a1 v6 v7 a0 a2) 0).bind (Sum.elim (fun b9 =>
        (F_world_Settings v7.2 a0).bind fun v22 =>
        (loopO (F_law39_SettingsSign_l2 a3 v22 a0) 0).bind (Sum.elim (fun b24 =>
          (F_law39_known ).bind fun v38 =>
          some (v38)
        ) (fun w37 => some w37))
      ) (fun w21 => some w21))
set_option maxRecDepth 100000 in
set_option maxHeartbeats 40000000 in
theorem ok_law39_SettingsSign (a0 : List Int) (a1 : Int) (a2 : List Int) (a3 : S_Settings) (a4 : List Int) (r : Bool) (h : F_law39_SettingsSign a0 a1 a2 a3 a4 = some r) : Con Try.prog 4 [.agg (arrS .u8 16 a0), .c (.lit (.int .i64 (a1))), .c (eS 1 (ecI .u8) (a2)), .agg (S_Settings.cs a3), .c (eS 1 (ecI .i64) (a4))] [] (.c (.lit (.bool (r)))) [] := by
  unfold F_law39_SettingsSign at h
  refine con_of [] [] 121 Try.func4 rfl rfl (by kernel_rfl) (fun K => ?_)
  refine TS_go 13 ?_
  replace h := condO h
  rcases h with ⟨hb1, h⟩ | ⟨hb1, h⟩
  · refine TS_know 24 (b := true) hb1 (by kernel_rfl) (by kernel_rfl) ?_
    refine TS_know 25 (b := true) hb1 (by kernel_rfl) (by kernel_rfl) ?_
    refine TS_go 6 ?_
    refine TS_T (by kernel_rfl) rfl ?_
    refine TS_go 2 ?_
    replace h := bindO h
    obtain ⟨v2, hv2, h⟩ := h
    refine TS_call [] (ok_law39_known  v2 hv2) (by kernel_rfl) (by kernel_rfl) ?_
    refine TS_go 4 ?_
    obtain rfl := Option.some.inj h
    exact TS_ret (by kernel_rfl) (by kernel_rfl) (by kernel_rfl)
  · refine TS_know 24 (b := false) hb1 (by kernel_rfl) (by kernel_rfl) ?_
    refine TS_know 25 (b := false) hb1 (by kernel_rfl) (by kernel_rfl) ?_
    refine TS_go 6 ?_
    replace h := condO h
    rcases h with ⟨hb3, h⟩ | ⟨hb3, h⟩
    · refine TS_know 29 (b := true) hb3 (by kernel_rfl) (by kernel_rfl) ?_
      refine TS_know 30 (b := true) hb3 (by kernel_rfl) (by kernel_rfl) ?_
      refine TS_T (by kernel_rfl) rfl ?_
      refine TS_go 2 ?_
      replace h := bindO h
      obtain ⟨v4, hv4, h⟩ := h
      refine TS_call [] (ok_law39_known  v4 hv4) (by kernel_rfl) (by kernel_rfl) ?_
      refine TS_go 4 ?_
      obtain rfl := Option.some.inj h
      exact TS_ret (by kernel_rfl) (by kernel_rfl) (by kernel_rfl)
    · refine TS_know 29 (b := false) hb3 (by kernel_rfl) (by kernel_rfl) ?_
      refine TS_know 30 (b := false) hb3 (by kernel_rfl) (by kernel_rfl) ?_
      refine TS_F (by kernel_rfl) rfl ?_
      refine TS_go 4 ?_
      replace h := bindO h
      obtain ⟨v5, hv5, h⟩ := h
      refine TS_con [] [(33, 10)] none (ok_made_New a4 v5 hv5) (by kernel_rfl) (by kernel_rfl) (by kernel_rfl) ?_
      refine TS_go 7 ?_
      replace h := bindO h
      obtain ⟨v6, hv6, h⟩ := h
      refine TS_call [] (ok_made_Mod a1 10 v6 hv6) (by kernel_rfl) (by kernel_rfl) ?_
      refine TS_go 2 ?_
      replace h := bindO h
      obtain ⟨v7, hv7, h⟩ := h
      refine TS_con [] [] (some (33, 0)) (ok_made_Tape_Next v5 2 v7 hv7) (by kernel_rfl) (by kernel_rfl) (by kernel_rfl) ?_
      refine TS_go 1 ?_
      refine TS_litNT 41 3 1 (ecI .i64) [] ([a1, IntKind.wrap .i64 (1 + v6), IntKind.wrap .i64 (1073741824 + v7.1), 0] : List Int) (by kernel_rfl) (by kernel_rfl) ?_
      refine TS_go 4 ?_
      refine TS_cut ⟨[(2, []), (5, []), (8, []), (11, []), (41, []), (42, []), (43, [])], [(5, (5, [])), (8, (8, [])), (33, (33, [])), (41, (41, []))]⟩ (.mk [.code (codeAt [1, 1, 1, 0, 1, 0] (bodyOf Try.f4)), .blk 0, .code (codeAt [1, 1, 1, 1] (bodyOf Try.f4))] .normal ⟨[(2, .c (.slc 1 0 (List.length a2) (List.map (ecI .u8) a2))), (5, .c (.box 5 0)), (8, .c (.box 8 0)), (11, .c (.box 33 0)), (41, .c (.slc 1 43 (List.length ([a1, IntKind.wrap .i64 (1 + v6), IntKind.wrap .i64 (1073741824 + v7.1), 0] : List Int)) (List.map (ecI .i64) ([a1, IntKind.wrap .i64 (1 + v6), IntKind.wrap .i64 (1073741824 + v7.1), 0] : List Int)))), (42, .c (.lit (.int .i64 ((List.length ([a1, IntKind.wrap .i64 (1 + v6), IntKind.wrap .i64 (1073741824 + v7.1), 0] : List Int) : Int))))), (43, .c (.lit (.int .i64 (0))))], [(5, .box [.lit (.int .u8 ((a0.getD 0 0))), .lit (.int .u8 ((a0.getD 1 0))), .lit (.int .u8 ((a0.getD 2 0))), .lit (.int .u8 ((a0.getD 3 0))), .lit (.int .u8 ((a0.getD 4 0))), .lit (.int .u8 ((a0.getD 5 0))), .lit (.int .u8 ((a0.getD 6 0))), .lit (.int .u8 ((a0.getD 7 0))), .lit (.int .u8 ((a0.getD 8 0))), .lit (.int .u8 ((a0.getD 9 0))), .lit (.int .u8 ((a0.getD 10 0))), .lit (.int .u8 ((a0.getD 11 0))), .lit (.int .u8 ((a0.getD 12 0))), .lit (.int .u8 ((a0.getD 13 0))), .lit (.int .u8 ((a0.getD 14 0))), .lit (.int .u8 ((a0.getD 15 0)))]), (8, .box [.lit (.int .i64 (a3.Version)), .slc 1 0 (List.length a3.Data) (List.map (ecI .u8) a3.Data), .lit (.int .u8 ((a3.Tag.getD 0 0))), .lit (.int .u8 ((a3.Tag.getD 1 0))), .lit (.int .u8 ((a3.Tag.getD 2 0))), .lit (.int .u8 ((a3.Tag.getD 3 0))), .lit (.int .u8 ((a3.Tag.getD 4 0))), .lit (.int .u8 ((a3.Tag.getD 5 0))), .lit (.int .u8 ((a3.Tag.getD 6 0))), .lit (.int .u8 ((a3.Tag.getD 7 0)))]), (33, .box [.slc 1 0 (List.length v7.2.l) (List.map (ecI .i64) v7.2.l), .lit (.int .i64 (v7.2.at_))]), (41, .spare 3 1 (List.length ([a1, IntKind.wrap .i64 (1 + v6), IntKind.wrap .i64 (1073741824 + v7.1), 0] : List Int)))]⟩) (by kernel_rfl) (by kernel_rfl) ?_
      replace h := bindO h
      obtain ⟨y10, hl1, hK1⟩ := h
      refine TS_loopB (F_law39_SettingsSign_l1 a1 v6 v7 a0 a2) ⟨[(2, []), (5, []), (8, []), (11, []), (41, []), (42, []), (43, [])], [(5, (5, [])), (8, (8, [])), (33, (33, [])), (41, (41, []))]⟩ (fun (s8 : Int) => [(43, .c (.lit (.int .i64 (s8))))]) (fun (s8 : Int) => []) 0 y10 (.exit 0) (fun (b : Unit) => (Sum.inl b : (Unit) ⊕ (Bool))) ⟨[(5, []), (8, []), (11, [])], [(5, (5, [])), (8, (8, [])), (33, (33, []))]⟩ (fun (b9 : Unit) => []) (fun (b9 : Unit) => []) hl1 (by kernel_rfl) (by kernel_rfl) ?_ ?_
      · intro s8 x h hy1
        unfold F_law39_SettingsSign_l1 at h
        refine TS_go 5 ?_
        replace h := condO h
        rcases h with ⟨hb11, h⟩ | ⟨hb11, h⟩
        · refine TS_know 44 (b := true) hb11 (by kernel_rfl) (by kernel_rfl) ?_
          refine TS_T (by kernel_rfl) rfl ?_
          refine TS_go 5 ?_
          replace h := bindO h
          obtain ⟨e12, he12, h⟩ := h
          refine TS_idx (ecI .i64) he12 (by kernel_rfl) (by kernel_rfl) ?_
          refine TS_go 8 ?_
          replace h := bindO h
          obtain ⟨v13, hv13, h⟩ := h
          refine TS_call [] (ok_management_Sign a0 e12 a2 v13 hv13) (by kernel_rfl) (by kernel_rfl) ?_
          refine TS_go 12 ?_
          replace h := bindO h
          obtain ⟨v14, hv14, h⟩ := h
          refine TS_call [] (ok_ref39_Sign a0 e12 a2 v14 hv14) (by kernel_rfl) (by kernel_rfl) ?_
          refine TS_go 13 ?_
          replace h := condO h
          rcases h with ⟨hb15, h⟩ | ⟨hb15, h⟩
          · refine TS_know 63 (b := true) hb15 (by kernel_rfl) (by kernel_rfl) ?_
            refine TS_know 64 (b := true) hb15 (by kernel_rfl) (by kernel_rfl) ?_
            refine TS_go 16 ?_
            refine TS_T (by kernel_rfl) rfl ?_
            refine TS_go 7 ?_
            obtain rfl := Option.some.inj h
            have hy1q := hy1 _ rfl
            subst hy1q
            replace h := (elimR hK1)
            refine TS_retB rfl (by kernel_rfl) ?_
            refine TS_go 2 ?_
            obtain rfl := Option.some.inj h
            exact TS_ret (by kernel_rfl) (by kernel_rfl) (by kernel_rfl)
          · refine TS_know 63 (b := false) hb15 (by kernel_rfl) (by kernel_rfl) ?_
            refine TS_know 64 (b := false) hb15 (by kernel_rfl) (by kernel_rfl) ?_
            refine TS_go 2 ?_
            replace h := bindO h
            obtain ⟨v16, hv16, h⟩ := h
            refine TS_call [] (ok_world_SameSettings v13.1 v14.1 v16 hv16) (by kernel_rfl) (by kernel_rfl) ?_
            refine TS_go 3 ?_
            replace h := condO h
            rcases h with ⟨hb17, h⟩ | ⟨hb17, h⟩
            · subst hb17
              refine TS_go 3 ?_
              replace h := condO h
              rcases h with ⟨hb18, h⟩ | ⟨hb18, h⟩
              · refine TS_know 72 (b := true) hb18 (by kernel_rfl) (by kernel_rfl) ?_
                refine TS_know 73 (b := true) hb18 (by kernel_rfl) (by kernel_rfl) ?_
                refine TS_go 2 ?_
                replace h := bindO h
                obtain ⟨v19, hv19, h⟩ := h
                refine TS_call [] (ok_management_Check a0 v13.1 v19 hv19) (by kernel_rfl) (by kernel_rfl) ?_
                refine TS_go 4 ?_
                replace h := condO h
                rcases h with ⟨hb20, h⟩ | ⟨hb20, h⟩
                · subst hb20
                  refine TS_F (by kernel_rfl) rfl ?_
                  refine TS_go 6 ?_
                  obtain rfl := Option.some.inj h
                  exact TS_againB _ ⟨[(2, []), (5, []), (8, []), (11, []), (41, []), (42, []), (43, [])], [(5, (5, [])), (8, (8, [])), (33, (33, [])), (41, (41, []))]⟩ rfl (by kernel_rfl) (by kernel_rfl)
                · subst hb20
                  refine TS_T (by kernel_rfl) rfl ?_
                  refine TS_go 7 ?_
                  obtain rfl := Option.some.inj h
                  have hy1q := hy1 _ rfl
                  subst hy1q
                  replace h := (elimR hK1)
                  refine TS_retB rfl (by kernel_rfl) ?_
                  refine TS_go 2 ?_
                  obtain rfl := Option.some.inj h
                  exact TS_ret (by kernel_rfl) (by kernel_rfl) (by kernel_rfl)
              · refine TS_know 72 (b := false) hb18 (by kernel_rfl) (by kernel_rfl) ?_
                refine TS_know 73 (b := false) hb18 (by kernel_rfl) (by kernel_rfl) ?_
                refine TS_go 7 ?_
                refine TS_F (by kernel_rfl) rfl ?_
                refine TS_go 6 ?_
                obtain rfl := Option.some.inj h
                exact TS_againB _ ⟨[(2, []), (5, []), (8, []), (11, []), (41, []), (42, []), (43, [])], [(5, (5, [])), (8, (8, [])), (33, (33, [])), (41, (41, []))]⟩ rfl (by kernel_rfl) (by kernel_rfl)
            · subst hb17
              refine TS_go 10 ?_
              refine TS_T (by kernel_rfl) rfl ?_
              refine TS_go 7 ?_
              obtain rfl := Option.some.inj h
              have hy1q := hy1 _ rfl
              subst hy1q
              replace h := (elimR hK1)
              refine TS_retB rfl (by kernel_rfl) ?_
              refine TS_go 2 ?_
              obtain rfl := Option.some.inj h
              exact TS_ret (by kernel_rfl) (by kernel_rfl) (by kernel_rfl)
        · refine TS_know 44 (b := false) hb11 (by kernel_rfl) (by kernel_rfl) ?_
          refine TS_F (by kernel_rfl) rfl ?_
          refine TS_go 2 ?_
          obtain rfl := Option.some.inj h
          exact TS_brkB () ⟨[(5, []), (8, []), (11, [])], [(5, (5, [])), (8, (8, [])), (33, (33, []))]⟩ rfl (by kernel_rfl) (by kernel_rfl) (by kernel_rfl)
      · intro b9 hb
        subst y10
        have h := elimL hK1
        refine TS_go 5 ?_
        replace h := bindO h
        obtain ⟨v22, hv22, h⟩ := h
        refine TS_con [] [] (some (33, 0)) (ok_world_Settings v7.2 a0 v22 hv22) (by kernel_rfl) (by kernel_rfl) (by kernel_rfl) ?_
        refine TS_go 21 ?_
        refine TS_litNT 90 30 10 S_Settings.cs [0, 2] ([a3, v22.1, (S_Settings.mk 0 a3.Data a3.Tag), (S_Settings.mk 0 ([] : List Int) [0, 0, 0, 0, 0, 0, 0, 0])] : List S_Settings) (by kernel_rfl) (by kernel_rfl) ?_
        refine TS_go 4 ?_
        refine TS_cut ⟨[(5, []), (90, []), (91, []), (92, [])], [(5, (5, [])), (90, (90, []))]⟩ (.mk [.code (codeAt [1, 1, 1, 1, 1, 1, 1, 0, 1, 0] (bodyOf Try.f4)), .blk 2, .code (codeAt [1, 1, 1, 1, 1, 1, 1, 1] (bodyOf Try.f4))] .normal ⟨[(5, .c (.box 5 0)), (90, .c (.slc 10 92 (List.length ([a3, v22.1, (S_Settings.mk 0 a3.Data a3.Tag), (S_Settings.mk 0 ([] : List Int) [0, 0, 0, 0, 0, 0, 0, 0])] : List S_Settings)) (List.map S_Settings.cs ([a3, v22.1, (S_Settings.mk 0 a3.Data a3.Tag), (S_Settings.mk 0 ([] : List Int) [0, 0, 0, 0, 0, 0, 0, 0])] : List S_Settings)))), (91, .c (.lit (.int .i64 ((List.length ([a3, v22.1, (S_Settings.mk 0 a3.Data a3.Tag), (S_Settings.mk 0 ([] : List Int) [0, 0, 0, 0, 0, 0, 0, 0])] : List S_Settings) : Int))))), (92, .c (.lit (.int .i64 (0))))], [(5, .box [.lit (.int .u8 ((a0.getD 0 0))), .lit (.int .u8 ((a0.getD 1 0))), .lit (.int .u8 ((a0.getD 2 0))), .lit (.int .u8 ((a0.getD 3 0))), .lit (.int .u8 ((a0.getD 4 0))), .lit (.int .u8 ((a0.getD 5 0))), .lit (.int .u8 ((a0.getD 6 0))), .lit (.int .u8 ((a0.getD 7 0))), .lit (.int .u8 ((a0.getD 8 0))), .lit (.int .u8 ((a0.getD 9 0))), .lit (.int .u8 ((a0.getD 10 0))), .lit (.int .u8 ((a0.getD 11 0))), .lit (.int .u8 ((a0.getD 12 0))), .lit (.int .u8 ((a0.getD 13 0))), .lit (.int .u8 ((a0.getD 14 0))), .lit (.int .u8 ((a0.getD 15 0)))]), (90, .spare 30 10 (List.length ([a3, v22.1, (S_Settings.mk 0 a3.Data a3.Tag), (S_Settings.mk 0 ([] : List Int) [0, 0, 0, 0, 0, 0, 0, 0])] : List S_Settings)))]⟩) (by kernel_rfl) (by kernel_rfl) ?_
        replace h := bindO h
        obtain ⟨y25, hl2, hK2⟩ := h
        refine TS_loopB (F_law39_SettingsSign_l2 a3 v22 a0) ⟨[(5, []), (90, []), (91, []), (92, [])], [(5, (5, [])), (90, (90, []))]⟩ (fun (s23 : Int) => [(92, .c (.lit (.int .i64 (s23))))]) (fun (s23 : Int) => []) 0 y25 (.exit 2) (fun (b : Unit) => (Sum.inl b : (Unit) ⊕ (Bool))) ⟨[], []⟩ (fun (b24 : Unit) => []) (fun (b24 : Unit) => []) hl2 (by kernel_rfl) (by kernel_rfl) ?_ ?_
        · intro s23 x h hy2
          unfold F_law39_SettingsSign_l2 at h
          refine TS_go 5 ?_
          replace h := condO h
          rcases h with ⟨hb26, h⟩ | ⟨hb26, h⟩
          · refine TS_know 93 (b := true) hb26 (by kernel_rfl) (by kernel_rfl) ?_
            refine TS_T (by kernel_rfl) rfl ?_
            refine TS_go 5 ?_
            replace h := bindO h
            obtain ⟨e27, he27, h⟩ := h
            refine TS_idx S_Settings.cs he27 (by kernel_rfl) (by kernel_rfl) ?_
            refine TS_go 5 ?_
            refine TS_draw (by kernel_rfl) ?_
            refine TD_go 1 ?_
            replace h := bindO h
            obtain ⟨v28, hv28, h⟩ := h
            refine TD_call [] (ok_management_Valid e27 v28 hv28) (by kernel_rfl) (by kernel_rfl) ?_
            refine TD_go 1 ?_
            replace h := bindO h
            obtain ⟨v29, hv29, h⟩ := h
            refine TD_call [] (ok_ref39_Valid e27 v29 hv29) (by kernel_rfl) (by kernel_rfl) ?_
            refine TD_go 1 ?_
            replace h := condO h
            rcases h with ⟨hb30, h⟩ | ⟨hb30, h⟩
            · refine TD_know 101 (b := false) (notF hb30) trivial (by kernel_rfl) (by kernel_rfl) ?_
              refine TD_go 2 ?_
              replace h := bindO h
              obtain ⟨v31, hv31, h⟩ := h
              refine TD_call [] (ok_management_Check a0 e27 v31 hv31) (by kernel_rfl) (by kernel_rfl) ?_
              refine TD_go 2 ?_
              replace h := bindO h
              obtain ⟨v32, hv32, h⟩ := h
              refine TD_call [] (ok_ref39_Check a0 e27 v32 hv32) (by kernel_rfl) (by kernel_rfl) ?_
              refine TD_go 2 ?_
              replace h := condO h
              rcases h with ⟨hb33, h⟩ | ⟨hb33, h⟩
              · refine TD_know 110 (b := false) (notF hb33) trivial (by kernel_rfl) (by kernel_rfl) ?_
                refine TD_go 2 ?_
                replace h := bindO h
                obtain ⟨v34, hv34, h⟩ := h
                refine TD_call [] (ok_management_Check [9, 0, 0, 0, 0, 0, 0, 0, 0, 0, 0, 0, 0, 0, 0, 0] e27 v34 hv34) (by kernel_rfl) (by kernel_rfl) ?_
                refine TD_go 2 ?_
                replace h := bindO h
                obtain ⟨v35, hv35, h⟩ := h
                refine TD_call [] (ok_ref39_Check [9, 0, 0, 0, 0, 0, 0, 0, 0, 0, 0, 0, 0, 0, 0, 0] e27 v35 hv35) (by kernel_rfl) (by kernel_rfl) ?_
                refine TD_go 2 ?_
                refine TD_end (by kernel_rfl) ?_
                replace h := condO h
                rcases h with ⟨hb36, h⟩ | ⟨hb36, h⟩
                · refine TS_know 100 (b := false) (notF hb30) (by kernel_rfl) (by kernel_rfl) ?_
                  refine TS_know 108 (b := false) (notF hb33) (by kernel_rfl) (by kernel_rfl) ?_
                  refine TS_know 109 (b := false) (notF hb33) (by kernel_rfl) (by kernel_rfl) ?_
                  refine TS_know 117 (b := false) (notF hb36) (by kernel_rfl) (by kernel_rfl) ?_
                  refine TS_know 118 (b := false) (notF hb36) (by kernel_rfl) (by kernel_rfl) ?_
                  refine TS_F (by kernel_rfl) rfl ?_
                  refine TS_go 6 ?_
                  obtain rfl := Option.some.inj h
                  exact TS_againB _ ⟨[(5, []), (90, []), (91, []), (92, [])], [(5, (5, [])), (90, (90, []))]⟩ rfl (by kernel_rfl) (by kernel_rfl)
                · refine TS_know 100 (b := false) (notF hb30) (by kernel_rfl) (by kernel_rfl) ?_
                  refine TS_know 108 (b := false) (notF hb33) (by kernel_rfl) (by kernel_rfl) ?_
                  refine TS_know 109 (b := false) (notF hb33) (by kernel_rfl) (by kernel_rfl) ?_
                  refine TS_know 117 (b := true) (notT hb36) (by kernel_rfl) (by kernel_rfl) ?_
                  refine TS_know 118 (b := true) (notT hb36) (by kernel_rfl) (by kernel_rfl) ?_
                  refine TS_T (by kernel_rfl) rfl ?_
                  refine TS_go 7 ?_
                  obtain rfl := Option.some.inj h
                  have hy2q := hy2 _ rfl
                  subst hy2q
                  replace h := (elimR hK2)
                  refine TS_retB rfl (by kernel_rfl) ?_
                  refine TS_go 2 ?_
                  obtain rfl := Option.some.inj h
                  exact TS_ret (by kernel_rfl) (by kernel_rfl) (by kernel_rfl)
              · refine TD_know 110 (b := true) (notT hb33) trivial (by kernel_rfl) (by kernel_rfl) ?_
                refine TD_go 8 ?_
                refine TD_end (by kernel_rfl) ?_
                refine TS_T (by kernel_rfl) rfl ?_
                refine TS_go 7 ?_
                obtain rfl := Option.some.inj h
                have hy2q := hy2 _ rfl
                subst hy2q
                replace h := (elimR hK2)
                refine TS_retB rfl (by kernel_rfl) ?_
                refine TS_go 2 ?_
                obtain rfl := Option.some.inj h
                exact TS_ret (by kernel_rfl) (by kernel_rfl) (by kernel_rfl)
            · refine TD_know 101 (b := true) (notT hb30) trivial (by kernel_rfl) (by kernel_rfl) ?_
              refine TD_go 17 ?_
              refine TD_end (by kernel_rfl) ?_
              refine TS_T (by kernel_rfl) rfl ?_
              refine TS_go 7 ?_
              obtain rfl := Option.some.inj h
              have hy2q := hy2 _ rfl
              subst hy2q
              replace h := (elimR hK2)
              refine TS_retB rfl (by kernel_rfl) ?_
              refine TS_go 2 ?_
              obtain rfl := Option.some.inj h
              exact TS_ret (by kernel_rfl) (by kernel_rfl) (by kernel_rfl)
          · refine TS_know 93 (b := false) hb26 (by kernel_rfl) (by kernel_rfl) ?_
            refine TS_F (by kernel_rfl) rfl ?_
            refine TS_go 2 ?_
            obtain rfl := Option.some.inj h
            exact TS_brkB () ⟨[], []⟩ rfl (by kernel_rfl) (by kernel_rfl) (by kernel_rfl)
        · intro b24 hb
          subst y25
          have h := elimL hK2
          refine TS_go 3 ?_
          replace h := bindO h
          obtain ⟨v38, hv38, h⟩ := h
          refine TS_call [] (ok_law39_known  v38 hv38) (by kernel_rfl) (by kernel_rfl) ?_
          refine TS_go 3 ?_
          obtain rfl := Option.some.inj h
          exact TS_ret (by kernel_rfl) (by kernel_rfl) (by kernel_rfl)

/-- multihop/multihopref39.Take -/
noncomputable def F_ref39_Take (a0 : S_Settings) (a1 : List Int) (a2 : S_Settings) : Option (S_Settings × Int) :=
  (F_ref39_Valid a0).bind fun v1 =>
  bif v1 then
    (F_ref39_Valid a2).bind fun v3 =>
    bif v3 then
      bif (decide (a2.Version ≤ a0.Version)) then
        some (((S_Settings.mk 0 ([] : List Int) [0, 0, 0, 0, 0, 0, 0, 0]), 16))
      else
        (F_ref39_Check a1 a2).bind fun v6 =>
        bif v6 then
          (F_ref39_Copy a2).bind fun v8 =>
          some ((v8, 0))
        else
          some (((S_Settings.mk 0 ([] : List Int) [0, 0, 0, 0, 0, 0, 0, 0]), 12))
    else
      some (((S_Settings.mk 0 ([] : List Int) [0, 0, 0, 0, 0, 0, 0, 0]), 1))
  else
    some (((S_Settings.mk 0 ([] : List Int) [0, 0, 0, 0, 0, 0, 0, 0]), 1))
set_option maxRecDepth 100000 in
set_option maxHeartbeats 40000000 in
theorem ok_ref39_Take (a0 : S_Settings) (a1 : List Int) (a2 : S_Settings) (r : S_Settings × Int) (h : F_ref39_Take a0 a1 a2 = some r) : Con Try.prog 53 [.agg (S_Settings.cs a0), .agg (arrS .u8 16 a1), .agg (S_Settings.cs a2)] [] (.tup [(true, S_Settings.cs r.1), (false, [.lit (.int .i64 (r.2))])]) [] := by
  unfold F_ref39_Take at h
  refine con_of [[0, 2]] [] 30 Try.func53 rfl rfl (by kernel_rfl) (fun K => ?_)
  refine TS_go 12 ?_
  replace h := bindO h
  obtain ⟨v1, hv1, h⟩ := h
  refine TS_call [] (ok_ref39_Valid a0 v1 hv1) (by kernel_rfl) (by kernel_rfl) ?_
  refine TS_go 2 ?_
  replace h := condO h
  rcases h with ⟨hb2, h⟩ | ⟨hb2, h⟩
  · subst hb2
    refine TS_go 1 ?_
    replace h := bindO h
    obtain ⟨v3, hv3, h⟩ := h
    refine TS_call [] (ok_ref39_Valid a2 v3 hv3) (by kernel_rfl) (by kernel_rfl) ?_
    refine TS_go 3 ?_
    replace h := condO h
    rcases h with ⟨hb4, h⟩ | ⟨hb4, h⟩
    · subst hb4
      refine TS_F (by kernel_rfl) rfl ?_
      refine TS_go 10 ?_
      replace h := condO h
      rcases h with ⟨hb5, h⟩ | ⟨hb5, h⟩
      · refine TS_know 21 (b := true) hb5 (by kernel_rfl) (by kernel_rfl) ?_
        refine TS_T (by kernel_rfl) rfl ?_
        refine TS_go 8 ?_
        obtain rfl := Option.some.inj h
        exact TS_ret (by kernel_rfl) (by kernel_rfl) (by kernel_rfl)
      · refine TS_know 21 (b := false) hb5 (by kernel_rfl) (by kernel_rfl) ?_
        refine TS_F (by kernel_rfl) rfl ?_
        refine TS_go 6 ?_
        replace h := bindO h
        obtain ⟨v6, hv6, h⟩ := h
        refine TS_call [] (ok_ref39_Check a1 a2 v6 hv6) (by kernel_rfl) (by kernel_rfl) ?_
        refine TS_go 2 ?_
        replace h := condO h
        rcases h with ⟨hb7, h⟩ | ⟨hb7, h⟩
        · subst hb7
          refine TS_F (by kernel_rfl) rfl ?_
          refine TS_go 4 ?_
          replace h := bindO h
          obtain ⟨v8, hv8, h⟩ := h
          refine TS_call [] (ok_ref39_Copy a2 v8 hv8) (by kernel_rfl) (by kernel_rfl) ?_
          refine TS_go 4 ?_
          obtain rfl := Option.some.inj h
          exact TS_ret (by kernel_rfl) (by kernel_rfl) (by kernel_rfl)
        · subst hb7
          refine TS_T (by kernel_rfl) rfl ?_
          refine TS_go 8 ?_
          obtain rfl := Option.some.inj h
          exact TS_ret (by kernel_rfl) (by kernel_rfl) (by kernel_rfl)
    · subst hb4
      refine TS_T (by kernel_rfl) rfl ?_
      refine TS_go 8 ?_
      obtain rfl := Option.some.inj h
      exact TS_ret (by kernel_rfl) (by kernel_rfl) (by kernel_rfl)
  · subst hb2
    refine TS_go 5 ?_
    refine TS_T (by kernel_rfl) rfl ?_
    refine TS_go 8 ?_
    obtain rfl := Option.some.inj h
    exact TS_ret (by kernel_rfl) (by kernel_rfl) (by kernel_rfl)

/-- multihop/multihoplaw39.takes -/
noncomputable def F_law39_takes (a0 : S_Settings) (a1 : List Int) (a2 : S_Settings) : Option (Bool) :=
  (F_management_Take a0 a1 a2).bind fun v1 =>
  (F_ref39_Take a0 a1 a2).bind fun v2 =>
  bif (v1.2 == v2.2) then
    (F_world_SameSettings v1.1 v2.1).bind fun v4 =>
    some (v4)
  else
    some (false)
set_option maxRecDepth 100000 in
set_option maxHeartbeats 40000000 in
theorem ok_law39_takes (a0 : S_Settings) (a1 : List Int) (a2 : S_Settings) (r : Bool) (h : F_law39_takes a0 a1 a2 = some r) : Con Try.prog 24 [.agg (S_Settings.cs a0), .agg (arrS .u8 16 a1), .agg (S_Settings.cs a2)] [] (.c (.lit (.bool (r)))) [] := by
  unfold F_law39_takes at h
  refine con_of [] [] 33 Try.func24 rfl rfl (by kernel_rfl) (fun K => ?_)
  refine TS_go 12 ?_
  replace h := bindO h
  obtain ⟨v1, hv1, h⟩ := h
  refine TS_call [] (ok_management_Take a0 a1 a2 v1 hv1) (by kernel_rfl) (by kernel_rfl) ?_
  refine TS_go 12 ?_
  replace h := bindO h
  obtain ⟨v2, hv2, h⟩ := h
  refine TS_call [] (ok_ref39_Take a0 a1 a2 v2 hv2) (by kernel_rfl) (by kernel_rfl) ?_
  refine TS_go 13 ?_
  replace h := condO h
  rcases h with ⟨hb3, h⟩ | ⟨hb3, h⟩
  · refine TS_know 27 (b := true) hb3 (by kernel_rfl) (by kernel_rfl) ?_
    refine TS_know 28 (b := true) hb3 (by kernel_rfl) (by kernel_rfl) ?_
    refine TS_go 2 ?_
    replace h := bindO h
    obtain ⟨v4, hv4, h⟩ := h
    refine TS_call [] (ok_world_SameSettings v1.1 v2.1 v4 hv4) (by kernel_rfl) (by kernel_rfl) ?_
    refine TS_go 4 ?_
    obtain rfl := Option.some.inj h
    exact TS_ret (by kernel_rfl) (by kernel_rfl) (by kernel_rfl)
  · refine TS_know 27 (b := false) hb3 (by kernel_rfl) (by kernel_rfl) ?_
    refine TS_know 28 (b := false) hb3 (by kernel_rfl) (by kernel_rfl) ?_
    refine TS_go 7 ?_
    obtain rfl := Option.some.inj h
    exact TS_ret (by kernel_rfl) (by kernel_rfl) (by kernel_rfl)

/-- multihop/multihoplaw39.SettingsTake -/
noncomputable def F_law39_SettingsTake_l1 (a2 : List Int) (a0 : S_Settings) (a1 : S_Settings) (s6 : Int × S_multihopmade_Tape) : Option ((Int × S_multihopmade_Tape) ⊕ ((Unit) ⊕ (Bool))) :=
  bif (decide (s6.1 < 5)) then
    (F_world_Settings s6.2 a2).bind fun v10 =>
    (F_world_Settings v10.2 a2).bind fun v11 =>
    (F_law39_takes v10.1 a2 v11.1).bind fun v12 =>
    bif v12 then
      (F_law39_takes a0 a2 v11.1).bind fun v14 =>
      bif v14 then
        (F_law39_takes v10.1 a2 a1).bind fun v16 =>
        bif v16 then
          some (Sum.inl (IntKind.wrap .i64 (s6.1 + 1), v11.2))
        else
          some (Sum.inr (Sum.inr false))
      else
        some (Sum.inr (Sum.inr false))
    else
      some (Sum.inr (Sum.inr false))
  else
    some (Sum.inr (Sum.inl ()))
noncomputable def F_law39_SettingsTake (a0 : S_Settings) (a1 : S_Settings) (a2 : List Int) (a3 : List Int) : Option (Bool) :=
  bif (decide ((List.length a0.Data : Int) > 200)) then
    (F_law39_known ).bind fun v2 =>
    some (v2)
  else
    bif (decide ((List.length a1.Data : Int) > 200)) then
      (F_law39_known ).bind fun v4 =>
      some (v4)
    else
      (F_made_New a3).bind fun v5 =>
      (loopO (F_law39_SettingsTake_l1 a2 a0 a1) (0, v5)).bind (Sum.elim (fun b7 =>
        (F_law39_takes a0 a2 a1).bind fun v19 =>
        bif v19 then
          (F_law39_known ).bind fun v21 =>
          some (v21)
        else
          some (false)
      ) (fun w18 => some w18))
set_option maxRecDepth 100000 in
set_option maxHeartbeats 40000000 in
theorem ok_law39_SettingsTake (a0 : S_Settings) (a1 : S_Settings) (a2 : List Int) (a3 : List Int) (r : Bool) (h : F_law39_SettingsTake a0 a1 a2 a3 = some r) : Con Try.prog 5 [.agg (S_Settings.cs a0), .agg (S_Settings.cs a1), .agg (arrS .u8 16 a2), .c (eS 1 (ecI .i64) (a3))] [] (.c (.lit (.bool (r)))) [] := by
  unfold F_law39_SettingsTake at h
  refine con_of [] [] 62 Try.func5 rfl rfl (by kernel_rfl) (fun K => ?_)
  refine TS_go 15 ?_
  replace h := condO h
  rcases h with ⟨hb1, h⟩ | ⟨hb1, h⟩
  · refine TS_know 16 (b := true) hb1 (by kernel_rfl) (by kernel_rfl) ?_
    refine TS_know 17 (b := true) hb1 (by kernel_rfl) (by kernel_rfl) ?_
    refine TS_go 6 ?_
    refine TS_T (by kernel_rfl) rfl ?_
    refine TS_go 2 ?_
    replace h := bindO h
    obtain ⟨v2, hv2, h⟩ := h
    refine TS_call [] (ok_law39_known  v2 hv2) (by kernel_rfl) (by kernel_rfl) ?_
    refine TS_go 4 ?_
    obtain rfl := Option.some.inj h
    exact TS_ret (by kernel_rfl) (by kernel_rfl) (by kernel_rfl)
  · refine TS_know 16 (b := false) hb1 (by kernel_rfl) (by kernel_rfl) ?_
    refine TS_know 17 (b := false) hb1 (by kernel_rfl) (by kernel_rfl) ?_
    refine TS_go 6 ?_
    replace h := condO h
    rcases h with ⟨hb3, h⟩ | ⟨hb3, h⟩
    · refine TS_know 21 (b := true) hb3 (by kernel_rfl) (by kernel_rfl) ?_
      refine TS_know 22 (b := true) hb3 (by kernel_rfl) (by kernel_rfl) ?_
      refine TS_T (by kernel_rfl) rfl ?_
      refine TS_go 2 ?_
      replace h := bindO h
      obtain ⟨v4, hv4, h⟩ := h
      refine TS_call [] (ok_law39_known  v4 hv4) (by kernel_rfl) (by kernel_rfl) ?_
      refine TS_go 4 ?_
      obtain rfl := Option.some.inj h
      exact TS_ret (by kernel_rfl) (by kernel_rfl) (by kernel_rfl)
    · refine TS_know 21 (b := false) hb3 (by kernel_rfl) (by kernel_rfl) ?_
      refine TS_know 22 (b := false) hb3 (by kernel_rfl) (by kernel_rfl) ?_
      refine TS_F (by kernel_rfl) rfl ?_
      refine TS_go 4 ?_
      replace h := bindO h
      obtain ⟨v5, hv5, h⟩ := h
      refine TS_con [] [(25, 10)] none (ok_made_New a3 v5 hv5) (by kernel_rfl) (by kernel_rfl) (by kernel_rfl) ?_
      refine TS_go 8 ?_
      refine TS_cut ⟨[(4, []), (5, []), (6, []), (9, []), (10, [])], [(4, (4, [])), (5, (5, [])), (6, (6, [])), (25, (25, []))]⟩ (.mk [.code (codeAt [1, 1, 1, 0, 1, 0] (bodyOf Try.f5)), .blk 0, .code (codeAt [1, 1, 1, 1] (bodyOf Try.f5))] .normal ⟨[(4, .c (.box 4 0)), (5, .c (.box 5 0)), (6, .c (.box 6 0)), (9, .c (.box 25 0)), (10, .c (.lit (.int .i64 (0))))], [(4, .box [.lit (.int .i64 (a0.Version)), .slc 1 0 (List.length a0.Data) (List.map (ecI .u8) a0.Data), .lit (.int .u8 ((a0.Tag.getD 0 0))), .lit (.int .u8 ((a0.Tag.getD 1 0))), .lit (.int .u8 ((a0.Tag.getD 2 0))), .lit (.int .u8 ((a0.Tag.getD 3 0))), .lit (.int .u8 ((a0.Tag.getD 4 0))), .lit (.int .u8 ((a0.Tag.getD 5 0))), .lit (.int .u8 ((a0.Tag.getD 6 0))), .lit (.int .u8 ((a0.Tag.getD 7 0)))]), (5, .box [.lit (.int .i64 (a1.Version)), .slc 1 0 (List.length a1.Data) (List.map (ecI .u8) a1.Data), .lit (.int .u8 ((a1.Tag.getD 0 0))), .lit (.int .u8 ((a1.Tag.getD 1 0))), .lit (.int .u8 ((a1.Tag.getD 2 0))), .lit (.int .u8 ((a1.Tag.getD 3 0))), .lit (.int .u8 ((a1.Tag.getD 4 0))), .lit (.int .u8 ((a1.Tag.getD 5 0))), .lit (.int .u8 ((a1.Tag.getD 6 0))), .lit (.int .u8 ((a1.Tag.getD 7 0)))]), (6, .box [.lit (.int .u8 ((a2.getD 0 0))), .lit (.int .u8 ((a2.getD 1 0))), .lit (.int .u8 ((a2.getD 2 0))), .lit (.int .u8 ((a2.getD 3 0))), .lit (.int .u8 ((a2.getD 4 0))), .lit (.int .u8 ((a2.getD 5 0))), .lit (.int .u8 ((a2.getD 6 0))), .lit (.int .u8 ((a2.getD 7 0))), .lit (.int .u8 ((a2.getD 8 0))), .lit (.int .u8 ((a2.getD 9 0))), .lit (.int .u8 ((a2.getD 10 0))), .lit (.int .u8 ((a2.getD 11 0))), .lit (.int .u8 ((a2.getD 12 0))), .lit (.int .u8 ((a2.getD 13 0))), .lit (.int .u8 ((a2.getD 14 0))), .lit (.int .u8 ((a2.getD 15 0)))]), (25, .box [.slc 1 0 (List.length v5.l) (List.map (ecI .i64) v5.l), .lit (.int .i64 (v5.at_))])]⟩) (by kernel_rfl) (by kernel_rfl) ?_
      replace h := bindO h
      obtain ⟨y8, hl1, hK1⟩ := h
      refine TS_loopB (F_law39_SettingsTake_l1 a2 a0 a1) ⟨[(4, []), (5, []), (6, []), (9, []), (10, [])], [(4, (4, [])), (5, (5, [])), (6, (6, [])), (25, (25, []))]⟩ (fun (s6 : Int × S_multihopmade_Tape) => [(10, .c (.lit (.int .i64 (s6.1))))]) (fun (s6 : Int × S_multihopmade_Tape) => [(25, .box (S_multihopmade_Tape.cs s6.2))]) (0, v5) y8 (.exit 0) (fun (b : Unit) => (Sum.inl b : (Unit) ⊕ (Bool))) ⟨[(4, []), (5, []), (6, [])], [(4, (4, [])), (5, (5, [])), (6, (6, []))]⟩ (fun (b7 : Unit) => []) (fun (b7 : Unit) => []) hl1 (by kernel_rfl) (by kernel_rfl) ?_ ?_
      · intro s6 x h hy1
        unfold F_law39_SettingsTake_l1 at h
        refine TS_go 6 ?_
        replace h := condO h
        rcases h with ⟨hb9, h⟩ | ⟨hb9, h⟩
        · refine TS_know 27 (b := true) hb9 (by kernel_rfl) (by kernel_rfl) ?_
          refine TS_T (by kernel_rfl) rfl ?_
          refine TS_go 4 ?_
          refine TS_draw (by kernel_rfl) ?_
          refine TD_go 2 ?_
          replace h := bindO h
          obtain ⟨v10, hv10, h⟩ := h
          refine TD_con (_h := []) (_h' := []) [] 25 0 [.slc 1 0 (List.length s6.2.l) (List.map (ecI .i64) s6.2.l), .lit (.int .i64 (s6.2.at_))] _ _ (ok_world_Settings s6.2 a2 v10 hv10) (by kernel_rfl) (by kernel_rfl) (by kernel_rfl) (by kernel_rfl) ?_
          refine TD_go 2 ?_
          replace h := bindO h
          obtain ⟨v11, hv11, h⟩ := h
          refine TD_con (_h := []) (_h' := []) [] 25 0 [.slc 1 0 (List.length v10.2.l) (List.map (ecI .i64) v10.2.l), .lit (.int .i64 (v10.2.at_))] _ _ (ok_world_Settings v10.2 a2 v11 hv11) (by kernel_rfl) (by kernel_rfl) (by kernel_rfl) (by kernel_rfl) ?_
          refine TD_go 4 ?_
          refine TD_end (by kernel_rfl) ?_
          refine TS_go 5 ?_
          replace h := bindO h
          obtain ⟨v12, hv12, h⟩ := h
          refine TS_call [] (ok_law39_takes v10.1 a2 v11.1 v12 hv12) (by kernel_rfl) (by kernel_rfl) ?_
          refine TS_go 2 ?_
          replace h := condO h
          rcases h with ⟨hb13, h⟩ | ⟨hb13, h⟩
          · subst hb13
            refine TS_go 3 ?_
            replace h := bindO h
            obtain ⟨v14, hv14, h⟩ := h
            refine TS_call [] (ok_law39_takes a0 a2 v11.1 v14 hv14) (by kernel_rfl) (by kernel_rfl) ?_
            refine TS_go 3 ?_
            replace h := condO h
            rcases h with ⟨hb15, h⟩ | ⟨hb15, h⟩
            · subst hb15
              refine TS_go 3 ?_
              replace h := bindO h
              obtain ⟨v16, hv16, h⟩ := h
              refine TS_call [] (ok_law39_takes v10.1 a2 a1 v16 hv16) (by kernel_rfl) (by kernel_rfl) ?_
              refine TS_go 3 ?_
              replace h := condO h
              rcases h with ⟨hb17, h⟩ | ⟨hb17, h⟩
              · subst hb17
                refine TS_F (by kernel_rfl) rfl ?_
                refine TS_go 7 ?_
                obtain rfl := Option.some.inj h
                exact TS_againB _ ⟨[(4, []), (5, []), (6, []), (9, []), (10, [])], [(4, (4, [])), (5, (5, [])), (6, (6, [])), (25, (25, []))]⟩ rfl (by kernel_rfl) (by kernel_rfl)
              · subst hb17
                refine TS_T (by kernel_rfl) rfl ?_
                refine TS_go 7 ?_
                obtain rfl := Option.some.inj h
                have hy1q := hy1 _ rfl
                subst hy1q
                replace h := (elimR hK1)
                refine TS_retB rfl (by kernel_rfl) ?_
                refine TS_go 2 ?_
                obtain rfl := Option.some.inj h
                exact TS_ret (by kernel_rfl) (by kernel_rfl) (by kernel_rfl)
            · subst hb15
              refine TS_go 7 ?_
              refine TS_T (by kernel_rfl) rfl ?_
              refine TS_go 7 ?_
              obtain rfl := Option.some.inj h
              have hy1q := hy1 _ rfl
              subst hy1q
              replace h := (elimR hK1)
              refine TS_retB rfl (by kernel_rfl) ?_
              refine TS_go 2 ?_
              obtain rfl := Option.some.inj h
              exact TS_ret (by kernel_rfl) (by kernel_rfl) (by kernel_rfl)
          · subst hb13
            refine TS_go 14 ?_
            refine TS_T (by kernel_rfl) rfl ?_
            refine TS_go 7 ?_
            obtain rfl := Option.some.inj h
            have hy1q := hy1 _ rfl
            subst hy1q
            replace h := (elimR hK1)
            refine TS_retB rfl (by kernel_rfl) ?_
            refine TS_go 2 ?_
            obtain rfl := Option.some.inj h
            exact TS_ret (by kernel_rfl) (by kernel_rfl) (by kernel_rfl)
        · refine TS_know 27 (b := false) hb9 (by kernel_rfl) (by kernel_rfl) ?_
          refine TS_F (by kernel_rfl) rfl ?_
          refine TS_go 2 ?_
          obtain rfl := Option.some.inj h
          exact TS_brkB () ⟨[(4, []), (5, []), (6, [])], [(4, (4, [])), (5, (5, [])), (6, (6, []))]⟩ rfl (by kernel_rfl) (by kernel_rfl) (by kernel_rfl)
      · intro b7 hb
        subst y8
        have h := elimL hK1
        refine TS_go 6 ?_
        replace h := bindO h
        obtain ⟨v19, hv19, h⟩ := h
        refine TS_call [] (ok_law39_takes a0 a2 a1 v19 hv19) (by kernel_rfl) (by kernel_rfl) ?_
        refine TS_go 1 ?_
        replace h := condO h
        rcases h with ⟨hb20, h⟩ | ⟨hb20, h⟩
        · subst hb20
          replace h := bindO h
          obtain ⟨v21, hv21, h⟩ := h
          refine TS_call [] (ok_law39_known  v21 hv21) (by kernel_rfl) (by kernel_rfl) ?_
          refine TS_go 4 ?_
          obtain rfl := Option.some.inj h
          exact TS_ret (by kernel_rfl) (by kernel_rfl) (by kernel_rfl)
        · subst hb20
          refine TS_go 5 ?_
          obtain rfl := Option.some.inj h
          exact TS_ret (by kernel_rfl) (by kernel_rfl) (by kernel_rfl)

/-- multihop/multihopworld.EUI -/
noncomputable def F_world_EUI (a0 : S_multihopmade_Tape) : Option (Int × S_multihopmade_Tape) :=
  (F_made_Tape_Next a0 5).bind fun v1 =>
  some ((IntKind.wrap .u64 (IntKind.wrap .i64 (1 + v1.1)), v1.2))
set_option maxRecDepth 100000 in
set_option maxHeartbeats 40000000 in
theorem ok_world_EUI (a0 : S_multihopmade_Tape) (r : Int × S_multihopmade_Tape) (h : F_world_EUI a0 = some r) : Con Try.prog 29 [.c (.box 1000000 0)] [(1000000, .box (S_multihopmade_Tape.cs a0))] (.c (.lit (.int .u64 (r.1)))) [(1000000, .box (S_multihopmade_Tape.cs r.2))] := by
  unfold F_world_EUI at h
  refine con_of [] [(1000000, [2])] 7 Try.func29 rfl rfl (by kernel_rfl) (fun K => ?_)
  refine TS_go 7 ?_
  replace h := bindO h
  obtain ⟨v1, hv1, h⟩ := h
  refine TS_con [] [] (some (1000000, 0)) (ok_made_Tape_Next a0 5 v1 hv1) (by kernel_rfl) (by kernel_rfl) (by kernel_rfl) ?_
  refine TS_go 5 ?_
  obtain rfl := Option.some.inj h
  exact TS_ret (by kernel_rfl) (by kernel_rfl) (by kernel_rfl)

/-- multihop/multihopref39.validReport -/
noncomputable def F_ref39_validReport (a0 : S_Diagnostic) : Option (Bool) :=
  bif (a0.Node != 0) then
    some ((decide ((List.length a0.Data : Int) ≤ 64)))
  else
    some (false)
set_option maxRecDepth 100000 in
set_option maxHeartbeats 40000000 in
theorem ok_ref39_validReport (a0 : S_Diagnostic) (r : Bool) (h : F_ref39_validReport a0 = some r) : Con Try.prog 61 [.agg (S_Diagnostic.cs a0)] [] (.c (.lit (.bool (r)))) [] := by
  unfold F_ref39_validReport at h
  refine con_of [] [] 12 Try.func61 rfl rfl (by kernel_rfl) (fun K => ?_)
  refine TS_go 11 ?_
  replace h := condO h
  rcases h with ⟨hb1, h⟩ | ⟨hb1, h⟩
  · refine TS_know 5 (b := true) hb1 (by kernel_rfl) (by kernel_rfl) ?_
    refine TS_know 6 (b := true) hb1 (by kernel_rfl) (by kernel_rfl) ?_
    refine TS_go 8 ?_
    obtain rfl := Option.some.inj h
    exact TS_ret (by kernel_rfl) (by kernel_rfl) (by kernel_rfl)
  · refine TS_know 5 (b := false) hb1 (by kernel_rfl) (by kernel_rfl) ?_
    refine TS_know 6 (b := false) hb1 (by kernel_rfl) (by kernel_rfl) ?_
    refine TS_go 8 ?_
    obtain rfl := Option.some.inj h
    exact TS_ret (by kernel_rfl) (by kernel_rfl) (by kernel_rfl)

/-- multihop/multihopref39.ValidReports -/
noncomputable def F_ref39_ValidReports_l1 (a0 : List S_Diagnostic) (s2 : Int) : Option ((Int) ⊕ ((Unit) ⊕ (Bool))) :=
  bif (decide (s2 < (List.length a0 : Int))) then
    (idx a0 s2).bind fun e6 =>
    (F_ref39_validReport e6).bind fun v7 =>
    bif v7 then
      bif (decide (e6.Number < 0)) then
        some (Sum.inr (Sum.inr false))
      else
        bif (decide (e6.Number > 1073741824)) then
          some (Sum.inr (Sum.inr false))
        else
          bif (decide (s2 > 0)) then
            (idx a0 (IntKind.wrap .i64 (s2 - 1))).bind fun e12 =>
            bif (decide (e12.Node ≥ e6.Node)) then
              some (Sum.inr (Sum.inr false))
            else
              some (Sum.inl (IntKind.wrap .i64 (s2 + 1)))
          else
            some (Sum.inl (IntKind.wrap .i64 (s2 + 1)))
    else
      some (Sum.inr (Sum.inr false))
  else
    some (Sum.inr (Sum.inl ()))
noncomputable def F_ref39_ValidReports (a0 : List S_Diagnostic) : Option (Bool) :=
  bif (decide ((List.length a0 : Int) > 64)) then
    some (false)
  else
    (loopO (F_ref39_ValidReports_l1 a0) 0).bind (Sum.elim (fun b3 =>
      some (true)
    ) (fun w14 => some w14))
set_option maxRecDepth 100000 in
set_option maxHeartbeats 40000000 in
theorem ok_ref39_ValidReports (a0 : List S_Diagnostic) (r : Bool) (h : F_ref39_ValidReports a0 = some r) : Con Try.prog 36 [.c (eS 3 S_Diagnostic.cs (a0))] [] (.c (.lit (.bool (r)))) [] := by
  unfold F_ref39_ValidReports at h
  refine con_of [] [] 44 Try.func36 rfl rfl (by kernel_rfl) (fun K => ?_)
  refine TS_go 11 ?_
  replace h := condO h
  rcases h with ⟨hb1, h⟩ | ⟨hb1, h⟩
  · refine TS_know 7 (b := true) hb1 (by kernel_rfl) (by kernel_rfl) ?_
    refine TS_T (by kernel_rfl) rfl ?_
    refine TS_go 6 ?_
    obtain rfl := Option.some.inj h
    exact TS_ret (by kernel_rfl) (by kernel_rfl) (by kernel_rfl)
  · refine TS_know 7 (b := false) hb1 (by kernel_rfl) (by kernel_rfl) ?_
    refine TS_F (by kernel_rfl) rfl ?_
    refine TS_go 9 ?_
    refine TS_cut ⟨[(0, []), (8, []), (9, []), (10, [])], []⟩ (.mk [.code (codeAt [1, 1, 0, 1, 0] (bodyOf Try.f36)), .blk 0, .code (codeAt [1, 1, 1] (bodyOf Try.f36))] .normal ⟨[(0, .c (.slc 3 0 (List.length a0) (List.map S_Diagnostic.cs a0))), (8, .c (.slc 3 0 (List.length a0) (List.map S_Diagnostic.cs a0))), (9, .c (.lit (.int .i64 ((List.length a0 : Int))))), (10, .c (.lit (.int .i64 (0))))], []⟩) (by kernel_rfl) (by kernel_rfl) ?_
    replace h := bindO h
    obtain ⟨y4, hl1, hK1⟩ := h
    refine TS_loopB (F_ref39_ValidReports_l1 a0) ⟨[(0, []), (8, []), (9, []), (10, [])], []⟩ (fun (s2 : Int) => [(10, .c (.lit (.int .i64 (s2))))]) (fun (s2 : Int) => []) 0 y4 (.exit 0) (fun (b : Unit) => (Sum.inl b : (Unit) ⊕ (Bool))) ⟨[], []⟩ (fun (b3 : Unit) => []) (fun (b3 : Unit) => []) hl1 (by kernel_rfl) (by kernel_rfl) ?_ ?_
    · intro s2 x h hy1
      unfold F_ref39_ValidReports_l1 at h
      refine TS_go 5 ?_
      replace h := condO h
      rcases h with ⟨hb5, h⟩ | ⟨hb5, h⟩
      · refine TS_know 11 (b := true) hb5 (by kernel_rfl) (by kernel_rfl) ?_
        refine TS_T (by kernel_rfl) rfl ?_
        refine TS_go 6 ?_
        replace h := bindO h
        obtain ⟨e6, he6, h⟩ := h
        refine TS_idx S_Diagnostic.cs he6 (by kernel_rfl) (by kernel_rfl) ?_
        refine TS_go 6 ?_
        refine TS_draw (by kernel_rfl) ?_
        refine TD_go 1 ?_
        replace h := bindO h
        obtain ⟨v7, hv7, h⟩ := h
        refine TD_call [] (ok_ref39_validReport e6 v7 hv7) (by kernel_rfl) (by kernel_rfl) ?_
        refine TD_go 2 ?_
        replace h := condO h
        rcases h with ⟨hb8, h⟩ | ⟨hb8, h⟩
        · subst hb8
          refine TD_go 4 ?_
          replace h := condO h
          rcases h with ⟨hb9, h⟩ | ⟨hb9, h⟩
          · refine TD_know 23 (b := true) hb9 trivial (by kernel_rfl) (by kernel_rfl) ?_
            refine TD_go 19 ?_
            refine TD_end (by kernel_rfl) ?_
            refine TS_T (by kernel_rfl) rfl ?_
            refine TS_go 7 ?_
            obtain rfl := Option.some.inj h
            have hy1q := hy1 _ rfl
            subst hy1q
            replace h := (elimR hK1)
            refine TS_retB rfl (by kernel_rfl) ?_
            refine TS_go 2 ?_
            obtain rfl := Option.some.inj h
            exact TS_ret (by kernel_rfl) (by kernel_rfl) (by kernel_rfl)
          · refine TD_know 23 (b := false) hb9 trivial (by kernel_rfl) (by kernel_rfl) ?_
            refine TD_go 4 ?_
            replace h := condO h
            rcases h with ⟨hb10, h⟩ | ⟨hb10, h⟩
            · refine TD_know 28 (b := true) hb10 trivial (by kernel_rfl) (by kernel_rfl) ?_
              refine TD_go 14 ?_
              refine TD_end (by kernel_rfl) ?_
              refine TS_T (by kernel_rfl) rfl ?_
              refine TS_go 7 ?_
              obtain rfl := Option.some.inj h
              have hy1q := hy1 _ rfl
              subst hy1q
              replace h := (elimR hK1)
              refine TS_retB rfl (by kernel_rfl) ?_
              refine TS_go 2 ?_
              obtain rfl := Option.some.inj h
              exact TS_ret (by kernel_rfl) (by kernel_rfl) (by kernel_rfl)
            · refine TD_know 28 (b := false) hb10 trivial (by kernel_rfl) (by kernel_rfl) ?_
              refine TD_go 2 ?_
              replace h := condO h
              rcases h with ⟨hb11, h⟩ | ⟨hb11, h⟩
              · refine TD_know 31 (b := true) hb11 trivial (by kernel_rfl) (by kernel_rfl) ?_
                refine TD_go 3 ?_
                replace h := bindO h
                obtain ⟨e12, he12, h⟩ := h
                refine TD_idx S_Diagnostic.cs he12 (by kernel_rfl) (by kernel_rfl) ?_
                refine TD_go 7 ?_
                refine TD_end (by kernel_rfl) ?_
                replace h := condO h
                rcases h with ⟨hb13, h⟩ | ⟨hb13, h⟩
                · refine TS_know 21 (b := false) hb9 (by kernel_rfl) (by kernel_rfl) ?_
                  refine TS_know 22 (b := false) hb9 (by kernel_rfl) (by kernel_rfl) ?_
                  refine TS_know 26 (b := false) hb10 (by kernel_rfl) (by kernel_rfl) ?_
                  refine TS_know 27 (b := false) hb10 (by kernel_rfl) (by kernel_rfl) ?_
                  refine TS_know 30 (b := true) hb11 (by kernel_rfl) (by kernel_rfl) ?_
                  refine TS_know 40 (b := true) hb13 (by kernel_rfl) (by kernel_rfl) ?_
                  refine TS_know 41 (b := true) hb13 (by kernel_rfl) (by kernel_rfl) ?_
                  refine TS_know 42 (b := true) hb13 (by kernel_rfl) (by kernel_rfl) ?_
                  refine TS_T (by kernel_rfl) rfl ?_
                  refine TS_go 7 ?_
                  obtain rfl := Option.some.inj h
                  have hy1q := hy1 _ rfl
                  subst hy1q
                  replace h := (elimR hK1)
                  refine TS_retB rfl (by kernel_rfl) ?_
                  refine TS_go 2 ?_
                  obtain rfl := Option.some.inj h
                  exact TS_ret (by kernel_rfl) (by kernel_rfl) (by kernel_rfl)
                · refine TS_know 21 (b := false) hb9 (by kernel_rfl) (by kernel_rfl) ?_
                  refine TS_know 22 (b := false) hb9 (by kernel_rfl) (by kernel_rfl) ?_
                  refine TS_know 26 (b := false) hb10 (by kernel_rfl) (by kernel_rfl) ?_
                  refine TS_know 27 (b := false) hb10 (by kernel_rfl) (by kernel_rfl) ?_
                  refine TS_know 30 (b := true) hb11 (by kernel_rfl) (by kernel_rfl) ?_
                  refine TS_know 40 (b := false) hb13 (by kernel_rfl) (by kernel_rfl) ?_
                  refine TS_know 41 (b := false) hb13 (by kernel_rfl) (by kernel_rfl) ?_
                  refine TS_know 42 (b := false) hb13 (by kernel_rfl) (by kernel_rfl) ?_
                  refine TS_F (by kernel_rfl) rfl ?_
                  refine TS_go 6 ?_
                  obtain rfl := Option.some.inj h
                  exact TS_againB _ ⟨[(0, []), (8, []), (9, []), (10, [])], []⟩ rfl (by kernel_rfl) (by kernel_rfl)
              · refine TD_know 31 (b := false) hb11 trivial (by kernel_rfl) (by kernel_rfl) ?_
                refine TD_go 11 ?_
                refine TD_end (by kernel_rfl) ?_
                refine TS_F (by kernel_rfl) rfl ?_
                refine TS_go 6 ?_
                obtain rfl := Option.some.inj h
                exact TS_againB _ ⟨[(0, []), (8, []), (9, []), (10, [])], []⟩ rfl (by kernel_rfl) (by kernel_rfl)
        · subst hb8
          refine TD_go 24 ?_
          refine TD_end (by kernel_rfl) ?_
          refine TS_T (by kernel_rfl) rfl ?_
          refine TS_go 7 ?_
          obtain rfl := Option.some.inj h
          have hy1q := hy1 _ rfl
          subst hy1q
          replace h := (elimR hK1)
          refine TS_retB rfl (by kernel_rfl) ?_
          refine TS_go 2 ?_
          obtain rfl := Option.some.inj h
          exact TS_ret (by kernel_rfl) (by kernel_rfl) (by kernel_rfl)
      · refine TS_know 11 (b := false) hb5 (by kernel_rfl) (by kernel_rfl) ?_
        refine TS_F (by kernel_rfl) rfl ?_
        refine TS_go 2 ?_
        obtain rfl := Option.some.inj h
        exact TS_brkB () ⟨[], []⟩ rfl (by kernel_rfl) (by kernel_rfl) (by kernel_rfl)
    · intro b3 hb
      subst y4
      have h := elimL hK1
      refine TS_go 6 ?_
      obtain rfl := Option.some.inj h
      exact TS_ret (by kernel_rfl) (by kernel_rfl) (by kernel_rfl)

/-- multihop/multihopref39.copyReport -/
noncomputable def F_ref39_copyReport (a0 : S_Diagnostic) : Option (S_Diagnostic) :=
  (appO 1 ([] : List Int) (Cut.app .whole a0.Data)).bind fun l1 =>
  some ((S_Diagnostic.mk a0.Node a0.Number l1))
set_option maxRecDepth 100000 in
set_option maxHeartbeats 40000000 in
theorem ok_ref39_copyReport (a0 : S_Diagnostic) (r : S_Diagnostic) (h : F_ref39_copyReport a0 = some r) : Con Try.prog 59 [.agg (S_Diagnostic.cs a0)] [] (.agg (S_Diagnostic.cs r)) [] := by
  unfold F_ref39_copyReport at h
  refine con_of [[0, 0, 2]] [] 8 Try.func59 rfl rfl (by kernel_rfl) (fun K => ?_)
  refine TS_go 9 ?_
  replace h := bindO h
  obtain ⟨l1, hl1, h⟩ := h
  refine TS_appNT 5 5 1 (ecI .u8) (fun _ => by kernel_rfl) (l2 := a0.Data) .whole hl1 (by kernel_rfl) (by kernel_rfl) ?_
  refine TS_go 9 ?_
  obtain rfl := Option.some.inj h
  exact TS_ret (by kernel_rfl) (by kernel_rfl) (by kernel_rfl)

/-- multihop/multihopref39.Better -/
noncomputable def F_ref39_Better (a0 : S_Diagnostic) (a1 : S_Diagnostic) : Option (Bool) :=
  bif (decide (a0.Number > a1.Number)) then
    some (true)
  else
    bif (a0.Number == a1.Number) then
      some ((!(Go.Op.bytesLess (u8L (Cut.app .whole a0.Data)) (u8L (Cut.app .whole a1.Data)) || (u8L (Cut.app .whole a0.Data)) == (u8L (Cut.app .whole a1.Data)))))
    else
      some (false)
set_option maxRecDepth 100000 in
set_option maxHeartbeats 40000000 in
theorem ok_ref39_Better (a0 : S_Diagnostic) (a1 : S_Diagnostic) (r : Bool) (h : F_ref39_Better a0 a1 = some r) : Con Try.prog 60 [.agg (S_Diagnostic.cs a0), .agg (S_Diagnostic.cs a1)] [] (.c (.lit (.bool (r)))) [] := by
  unfold F_ref39_Better at h
  refine con_of [] [] 26 Try.func60 rfl rfl (by kernel_rfl) (fun K => ?_)
  refine TS_go 14 ?_
  replace h := condO h
  rcases h with ⟨hb1, h⟩ | ⟨hb1, h⟩
  · refine TS_know 9 (b := true) hb1 (by kernel_rfl) (by kernel_rfl) ?_
    refine TS_know 10 (b := true) hb1 (by kernel_rfl) (by kernel_rfl) ?_
    refine TS_go 18 ?_
    obtain rfl := Option.some.inj h
    exact TS_ret (by kernel_rfl) (by kernel_rfl) (by kernel_rfl)
  · refine TS_know 9 (b := false) hb1 (by kernel_rfl) (by kernel_rfl) ?_
    refine TS_know 10 (b := false) hb1 (by kernel_rfl) (by kernel_rfl) ?_
    refine TS_go 6 ?_
    replace h := condO h
    rcases h with ⟨hb2, h⟩ | ⟨hb2, h⟩
    · refine TS_know 15 (b := true) hb2 (by kernel_rfl) (by kernel_rfl) ?_
      refine TS_know 16 (b := true) hb2 (by kernel_rfl) (by kernel_rfl) ?_
      refine TS_go 2 ?_
      refine TS_b2s a0.Data .whole (by kernel_rfl) (by kernel_rfl) ?_
      refine TS_go 2 ?_
      refine TS_b2s a1.Data .whole (by kernel_rfl) (by kernel_rfl) ?_
      refine TS_str .gtr (u8L (Cut.app .whole a0.Data)) (u8L (Cut.app .whole a1.Data)) rfl (by kernel_rfl) (by kernel_rfl) ?_
      refine TS_go 5 ?_
      obtain rfl := Option.some.inj h
      exact TS_ret (by kernel_rfl) (by kernel_rfl) (by kernel_rfl)
    · refine TS_know 15 (b := false) hb2 (by kernel_rfl) (by kernel_rfl) ?_
      refine TS_know 16 (b := false) hb2 (by kernel_rfl) (by kernel_rfl) ?_
      refine TS_go 12 ?_
      obtain rfl := Option.some.inj h
      exact TS_ret (by kernel_rfl) (by kernel_rfl) (by kernel_rfl)

end Go.Proofs.Ytcjoflgnifafiaa
