/-
  Written by cc3.py: what the Go functions compute, as plain functions, and that they do.
-/
import Derived.Test.YtcjoflgnifafiaaCe2
namespace Go.Proofs.Ytcjoflgnifafiaa
open Go.RowKit
attribute [local irreducible] TS go TD goD

/-- multihop/multihopref39.Merge -/
noncomputable def F_ref39_Merge_j2 (s5 : (List S_Diagnostic) × Int × Int) (v30 : S_Diagnostic) : Option (((List S_Diagnostic) × Int × Int) ⊕ ((List S_Diagnostic))) :=
  (F_ref39_copyReport v30).bind fun v31 =>
  (appO 40 s5.1 (Cut.app .whole ([v31] : List S_Diagnostic))).bind fun l32 =>
  some (Sum.inl (l32, IntKind.wrap .i64 (s5.2.1 + 1), IntKind.wrap .i64 (s5.2.2 + 1)))
noncomputable def F_ref39_Merge_j3 (s5 : (List S_Diagnostic) × Int × Int) (v53 : S_Diagnostic) : Option (((List S_Diagnostic) × Int × Int) ⊕ ((List S_Diagnostic))) :=
  (F_ref39_copyReport v53).bind fun v54 =>
  (appO 40 s5.1 (Cut.app .whole ([v54] : List S_Diagnostic))).bind fun l55 =>
  some (Sum.inl (l55, IntKind.wrap .i64 (s5.2.1 + 1), IntKind.wrap .i64 (s5.2.2 + 1)))
noncomputable def F_ref39_Merge_l1 (a0 : List S_Diagnostic) (a1 : List S_Diagnostic) (s5 : (List S_Diagnostic) × Int × Int) : Option (((List S_Diagnostic) × Int × Int) ⊕ ((List S_Diagnostic))) :=
  bif (decide (s5.2.1 < (List.length a0 : Int))) then
    bif (s5.2.2 == (List.length a1 : Int)) then
      (idx a0 s5.2.1).bind fun e10 =>
      (F_ref39_copyReport e10).bind fun v11 =>
      (appO 40 s5.1 (Cut.app .whole ([v11] : List S_Diagnostic))).bind fun l12 =>
      some (Sum.inl (l12, IntKind.wrap .i64 (s5.2.1 + 1), s5.2.2))
    else
      (idx a0 s5.2.1).bind fun e13 =>
      (idx a1 s5.2.2).bind fun e14 =>
      bif (decide (e13.Node < e14.Node)) then
        (idx a0 s5.2.1).bind fun e16 =>
        (F_ref39_copyReport e16).bind fun v17 =>
        (appO 40 s5.1 (Cut.app .whole ([v17] : List S_Diagnostic))).bind fun l18 =>
        some (Sum.inl (l18, IntKind.wrap .i64 (s5.2.1 + 1), s5.2.2))
      else
        bif (s5.2.1 == (List.length a0 : Int)) then
          (idx a1 s5.2.2).bind fun e20 =>
          (F_ref39_copyReport e20).bind fun v21 =>
          (appO 40 s5.1 (Cut.app .whole ([v21] : List S_Diagnostic))).bind fun l22 =>
          some (Sum.inl (l22, s5.2.1, IntKind.wrap .i64 (s5.2.2 + 1)))
        else
          (idx a1 s5.2.2).bind fun e23 =>
          (idx a0 s5.2.1).bind fun e24 =>
          bif (decide (e23.Node < e24.Node)) then
            (idx a1 s5.2.2).bind fun e26 =>
            (F_ref39_copyReport e26).bind fun v27 =>
            (appO 40 s5.1 (Cut.app .whole ([v27] : List S_Diagnostic))).bind fun l28 =>
            some (Sum.inl (l28, s5.2.1, IntKind.wrap .i64 (s5.2.2 + 1)))
          else
            (idx a0 s5.2.1).bind fun e29 =>
            (idx a1 s5.2.2).bind fun e33 =>
            (F_ref39_Better e33 e29).bind fun v34 =>
            bif v34 then
              (idx a1 s5.2.2).bind fun e36 =>
              (F_ref39_Merge_j2 s5) e36
            else
              (F_ref39_Merge_j2 s5) e29
  else
    bif (decide (s5.2.2 < (List.length a1 : Int))) then
      bif (s5.2.2 == (List.length a1 : Int)) then
        (idx a0 s5.2.1).bind fun e39 =>
        (F_ref39_copyReport e39).bind fun v40 =>
        (appO 40 s5.1 (Cut.app .whole ([v40] : List S_Diagnostic))).bind fun l41 =>
        some (Sum.inl (l41, IntKind.wrap .i64 (s5.2.1 + 1), s5.2.2))
      else
        bif (s5.2.1 == (List.length a0 : Int)) then
          (idx a1 s5.2.2).bind fun e43 =>
          (F_ref39_copyReport e43).bind fun v44 =>
          (appO 40 s5.1 (Cut.app .whole ([v44] : List S_Diagnostic))).bind fun l45 =>
          some (Sum.inl (l45, s5.2.1, IntKind.wrap .i64 (s5.2.2 + 1)))
        else
          (idx a1 s5.2.2).bind fun e46 =>
          (idx a0 s5.2.1).bind fun e47 =>
          bif (decide (e46.Node < e47.Node)) then
            (idx a1 s5.2.2).bind fun e49 =>
            (F_ref39_copyReport e49).bind fun v50 =>
            (appO 40 s5.1 (Cut.app .whole ([v50] : List S_Diagnostic))).bind fun l51 =>
            some (Sum.inl (l51, s5.2.1, IntKind.wrap .i64 (s5.2.2 + 1)))
          else
            (idx a0 s5.2.1).bind fun e52 =>
            (idx a1 s5.2.2).bind fun e56 =>
            (F_ref39_Better e56 e52).bind fun v57 =>
            bif v57 then
              (idx a1 s5.2.2).bind fun e59 =>
              (F_ref39_Merge_j3 s5) e59
            else
              (F_ref39_Merge_j3 s5) e52
    else
      some (Sum.inr s5.1)
noncomputable def F_ref39_Merge (a0 : List S_Diagnostic) (a1 : List S_Diagnostic) : Option ((List S_Diagnostic) × Int) :=
  (F_ref39_ValidReports a0).bind fun v1 =>
  bif v1 then
    (F_ref39_ValidReports a1).bind fun v3 =>
    bif v3 then
      (loopO (F_ref39_Merge_l1 a0 a1) (([] : List S_Diagnostic), 0, 0)).bind fun b6 =>
      bif (decide ((List.length b6 : Int) > 64)) then
        some ((([] : List S_Diagnostic), 10))
      else
        some ((b6, 0))
    else
      some ((([] : List S_Diagnostic), 1))
  else
    some ((([] : List S_Diagnostic), 1))
set_option maxRecDepth 100000 in
set_option maxHeartbeats 40000000 in
theorem okT_ref39_Merge (a0 : List S_Diagnostic) (a1 : List S_Diagnostic) (r : (List S_Diagnostic) × Int) (h : F_ref39_Merge a0 a1 = some r) : Con Try.prog 32 [.c (eS 3 S_Diagnostic.cs (a0)), .c (eS 3 S_Diagnostic.cs (a1))] [] (.tup [(false, [.slc 3 900002 (List.length r.1) (List.map S_Diagnostic.cs r.1)]), (false, [.lit (.int .i64 (r.2))])]) [(900000, .spare 56 3 (List.length r.1))] := by
  unfold F_ref39_Merge at h
  refine con_of [] [(900000, [])] 117 Try.func32 rfl rfl (by kernel_rfl) (fun K => ?_)
  refine TS_go 9 ?_
  replace h := bindO h
  obtain ⟨v1, hv1, h⟩ := h
  refine TS_call [] (ok_ref39_ValidReports a0 v1 hv1) (by kernel_rfl) (by kernel_rfl) ?_
  refine TS_go 2 ?_
  replace h := condO h
  rcases h with ⟨hb2, h⟩ | ⟨hb2, h⟩
  · subst hb2
    refine TS_go 1 ?_
    replace h := bindO h
    obtain ⟨v3, hv3, h⟩ := h
    refine TS_call [] (ok_ref39_ValidReports a1 v3 hv3) (by kernel_rfl) (by kernel_rfl) ?_
    refine TS_go 3 ?_
    replace h := condO h
    rcases h with ⟨hb4, h⟩ | ⟨hb4, h⟩
    · subst hb4
      refine TS_F (by kernel_rfl) rfl ?_
      refine TS_go 12 ?_
      refine TS_nilT 6 600000 56 3 (by kernel_rfl) ?_
      refine TS_cut ⟨[(0, []), (1, []), (6, []), (7, []), (8, [])], [(600000, (600000, []))]⟩ (.mk [.code (codeAt [1, 1, 1, 1, 0, 0] (bodyOf Try.f32)), .blk 0, .code (codeAt [1, 1, 1, 1, 1] (bodyOf Try.f32))] .normal ⟨[(0, .c (.slc 3 0 (List.length a0) (List.map S_Diagnostic.cs a0))), (1, .c (.slc 3 0 (List.length a1) (List.map S_Diagnostic.cs a1))), (6, .c (.slc 3 600002 (List.length ([] : List S_Diagnostic)) (List.map S_Diagnostic.cs ([] : List S_Diagnostic)))), (7, .c (.lit (.int .i64 (0)))), (8, .c (.lit (.int .i64 (0))))], [(600000, .spare 56 3 (List.length ([] : List S_Diagnostic)))]⟩) (by kernel_rfl) (by kernel_rfl) ?_
      replace h := bindO h
      obtain ⟨y7, hl1, hK1⟩ := h
      refine TS_loopB (F_ref39_Merge_l1 a0 a1) ⟨[(0, []), (1, []), (6, []), (7, []), (8, [])], [(600000, (600000, []))]⟩ (fun (s5 : (List S_Diagnostic) × Int × Int) => [(6, .c (.slc 3 600002 (List.length s5.1) (List.map S_Diagnostic.cs s5.1))), (7, .c (.lit (.int .i64 (s5.2.1)))), (8, .c (.lit (.int .i64 (s5.2.2))))]) (fun (s5 : (List S_Diagnostic) × Int × Int) => [(600000, .spare 56 3 (List.length s5.1))]) (([] : List S_Diagnostic), 0, 0) y7 (.exit 0) (fun (b : (List S_Diagnostic)) => b) ⟨[(6, [])], [(600000, (600000, []))]⟩ (fun (b6 : (List S_Diagnostic)) => [(6, .c (.slc 3 600002 (List.length b6) (List.map S_Diagnostic.cs b6)))]) (fun (b6 : (List S_Diagnostic)) => [(600000, .spare 56 3 (List.length b6))]) hl1 (by kernel_rfl) (by kernel_rfl) ?_ ?_
      · intro s5 x h hy1
        unfold F_ref39_Merge_l1 at h
        refine TS_go 8 ?_
        replace h := condO h
        rcases h with ⟨hb8, h⟩ | ⟨hb8, h⟩
        · refine TS_know 21 (b := true) hb8 (by kernel_rfl) (by kernel_rfl) ?_
          refine TS_know 22 (b := true) hb8 (by kernel_rfl) (by kernel_rfl) ?_
          refine TS_go 6 ?_
          refine TS_T (by kernel_rfl) rfl ?_
          refine TS_go 4 ?_
          refine TS_draw (by kernel_rfl) ?_
          refine TD_go 4 ?_
          replace h := condO h
          rcases h with ⟨hb9, h⟩ | ⟨hb9, h⟩
          · refine TD_know 56 (b := true) hb9 trivial (by kernel_rfl) (by kernel_rfl) ?_
            refine TD_go 19 ?_
            refine TD_end (by kernel_rfl) ?_
            refine TS_T (by kernel_rfl) rfl ?_
            refine TS_go 5 ?_
            replace h := bindO h
            obtain ⟨e10, he10, h⟩ := h
            refine TS_idx S_Diagnostic.cs he10 (by kernel_rfl) (by kernel_rfl) ?_
            refine TS_go 1 ?_
            replace h := bindO h
            obtain ⟨v11, hv11, h⟩ := h
            refine TS_call [] (ok_ref39_copyReport e10 v11 hv11) (by kernel_rfl) (by kernel_rfl) ?_
            refine TS_litNT 81 56 3 S_Diagnostic.cs [0, 0, 2] ([v11] : List S_Diagnostic) (by kernel_rfl) (by kernel_rfl) ?_
            replace h := bindO h
            obtain ⟨l12, hl12, h⟩ := h
            refine TS_appT (d := 600000) (e := 56) (sz := 3) (N := List.length s5.1) S_Diagnostic.cs (fun _ => by kernel_rfl) (l1 := s5.1) (l2 := ([v11] : List S_Diagnostic)) (c := .whole) hl12 (by kernel_rfl) (by kernel_rfl) ?_
            refine TS_go 9 ?_
            obtain rfl := Option.some.inj h
            exact TS_againB _ ⟨[(0, []), (1, []), (6, []), (7, []), (8, [])], [(600000, (600000, []))]⟩ rfl (by kernel_rfl) (by kernel_rfl)
          · refine TD_know 56 (b := false) hb9 trivial (by kernel_rfl) (by kernel_rfl) ?_
            refine TD_go 3 ?_
            refine TD_know 60 (b := true) hb8 trivial (by kernel_rfl) (by kernel_rfl) ?_
            refine TD_go 3 ?_
            replace h := bindO h
            obtain ⟨e13, he13, h⟩ := h
            refine TD_idx S_Diagnostic.cs he13 (by kernel_rfl) (by kernel_rfl) ?_
            refine TD_go 4 ?_
            replace h := bindO h
            obtain ⟨e14, he14, h⟩ := h
            refine TD_idx S_Diagnostic.cs he14 (by kernel_rfl) (by kernel_rfl) ?_
            refine TD_go 6 ?_
            refine TD_end (by kernel_rfl) ?_
            replace h := condO h
            rcases h with ⟨hb15, h⟩ | ⟨hb15, h⟩
            · refine TS_know 55 (b := false) hb9 (by kernel_rfl) (by kernel_rfl) ?_
              refine TS_know 72 (b := true) hb15 (by kernel_rfl) (by kernel_rfl) ?_
              refine TS_know 73 (b := true) hb15 (by kernel_rfl) (by kernel_rfl) ?_
              refine TS_know 74 (b := true) hb15 (by kernel_rfl) (by kernel_rfl) ?_
              refine TS_know 51 (b := true) hb15 (by kernel_rfl) (by kernel_rfl) ?_
              refine TS_T (by kernel_rfl) rfl ?_
              refine TS_go 5 ?_
              replace h := bindO h
              obtain ⟨e16, he16, h⟩ := h
              refine TS_idx S_Diagnostic.cs he16 (by kernel_rfl) (by kernel_rfl) ?_
              refine TS_go 1 ?_
              replace h := bindO h
              obtain ⟨v17, hv17, h⟩ := h
              refine TS_call [] (ok_ref39_copyReport e16 v17 hv17) (by kernel_rfl) (by kernel_rfl) ?_
              refine TS_litNT 81 56 3 S_Diagnostic.cs [0, 0, 2] ([v17] : List S_Diagnostic) (by kernel_rfl) (by kernel_rfl) ?_
              replace h := bindO h
              obtain ⟨l18, hl18, h⟩ := h
              refine TS_appT (d := 600000) (e := 56) (sz := 3) (N := List.length s5.1) S_Diagnostic.cs (fun _ => by kernel_rfl) (l1 := s5.1) (l2 := ([v17] : List S_Diagnostic)) (c := .whole) hl18 (by kernel_rfl) (by kernel_rfl) ?_
              refine TS_go 9 ?_
              obtain rfl := Option.some.inj h
              exact TS_againB _ ⟨[(0, []), (1, []), (6, []), (7, []), (8, [])], [(600000, (600000, []))]⟩ rfl (by kernel_rfl) (by kernel_rfl)
            · refine TS_know 55 (b := false) hb9 (by kernel_rfl) (by kernel_rfl) ?_
              refine TS_know 72 (b := false) hb15 (by kernel_rfl) (by kernel_rfl) ?_
              refine TS_know 73 (b := false) hb15 (by kernel_rfl) (by kernel_rfl) ?_
              refine TS_know 74 (b := false) hb15 (by kernel_rfl) (by kernel_rfl) ?_
              refine TS_know 51 (b := false) hb15 (by kernel_rfl) (by kernel_rfl) ?_
              refine TS_F (by kernel_rfl) rfl ?_
              refine TS_go 1 ?_
              refine TS_draw (by kernel_rfl) ?_
              refine TD_go 4 ?_
              replace h := condO h
              rcases h with ⟨hb19, h⟩ | ⟨hb19, h⟩
              · refine TD_know 90 (b := true) hb19 trivial (by kernel_rfl) (by kernel_rfl) ?_
                refine TD_go 13 ?_
                refine TD_end (by kernel_rfl) ?_
                refine TS_T (by kernel_rfl) rfl ?_
                refine TS_go 5 ?_
                replace h := bindO h
                obtain ⟨e20, he20, h⟩ := h
                refine TS_idx S_Diagnostic.cs he20 (by kernel_rfl) (by kernel_rfl) ?_
                refine TS_go 1 ?_
                replace h := bindO h
                obtain ⟨v21, hv21, h⟩ := h
                refine TS_call [] (ok_ref39_copyReport e20 v21 hv21) (by kernel_rfl) (by kernel_rfl) ?_
                refine TS_litNT 109 56 3 S_Diagnostic.cs [0, 0, 2] ([v21] : List S_Diagnostic) (by kernel_rfl) (by kernel_rfl) ?_
                replace h := bindO h
                obtain ⟨l22, hl22, h⟩ := h
                refine TS_appT (d := 600000) (e := 56) (sz := 3) (N := List.length s5.1) S_Diagnostic.cs (fun _ => by kernel_rfl) (l1 := s5.1) (l2 := ([v21] : List S_Diagnostic)) (c := .whole) hl22 (by kernel_rfl) (by kernel_rfl) ?_
                refine TS_go 9 ?_
                obtain rfl := Option.some.inj h
                exact TS_againB _ ⟨[(0, []), (1, []), (6, []), (7, []), (8, [])], [(600000, (600000, []))]⟩ rfl (by kernel_rfl) (by kernel_rfl)
              · refine TD_know 90 (b := false) hb19 trivial (by kernel_rfl) (by kernel_rfl) ?_
                refine TD_go 2 ?_
                replace h := bindO h
                obtain ⟨e23, he23, h⟩ := h
                refine TD_idx S_Diagnostic.cs he23 (by kernel_rfl) (by kernel_rfl) ?_
                refine TD_go 4 ?_
                replace h := bindO h
                obtain ⟨e24, he24, h⟩ := h
                refine TD_idx S_Diagnostic.cs he24 (by kernel_rfl) (by kernel_rfl) ?_
                refine TD_go 5 ?_
                refine TD_end (by kernel_rfl) ?_
                replace h := condO h
                rcases h with ⟨hb25, h⟩ | ⟨hb25, h⟩
                · refine TS_know 89 (b := false) hb19 (by kernel_rfl) (by kernel_rfl) ?_
                  refine TS_know 101 (b := true) hb25 (by kernel_rfl) (by kernel_rfl) ?_
                  refine TS_know 102 (b := true) hb25 (by kernel_rfl) (by kernel_rfl) ?_
                  refine TS_know 85 (b := true) hb25 (by kernel_rfl) (by kernel_rfl) ?_
                  refine TS_T (by kernel_rfl) rfl ?_
                  refine TS_go 5 ?_
                  replace h := bindO h
                  obtain ⟨e26, he26, h⟩ := h
                  refine TS_idx S_Diagnostic.cs he26 (by kernel_rfl) (by kernel_rfl) ?_
                  refine TS_go 1 ?_
                  replace h := bindO h
                  obtain ⟨v27, hv27, h⟩ := h
                  refine TS_call [] (ok_ref39_copyReport e26 v27 hv27) (by kernel_rfl) (by kernel_rfl) ?_
                  refine TS_litNT 109 56 3 S_Diagnostic.cs [0, 0, 2] ([v27] : List S_Diagnostic) (by kernel_rfl) (by kernel_rfl) ?_
                  replace h := bindO h
                  obtain ⟨l28, hl28, h⟩ := h
                  refine TS_appT (d := 600000) (e := 56) (sz := 3) (N := List.length s5.1) S_Diagnostic.cs (fun _ => by kernel_rfl) (l1 := s5.1) (l2 := ([v27] : List S_Diagnostic)) (c := .whole) hl28 (by kernel_rfl) (by kernel_rfl) ?_
                  refine TS_go 9 ?_
                  obtain rfl := Option.some.inj h
                  exact TS_againB _ ⟨[(0, []), (1, []), (6, []), (7, []), (8, [])], [(600000, (600000, []))]⟩ rfl (by kernel_rfl) (by kernel_rfl)
                · refine TS_know 89 (b := false) hb19 (by kernel_rfl) (by kernel_rfl) ?_
                  refine TS_know 101 (b := false) hb25 (by kernel_rfl) (by kernel_rfl) ?_
                  refine TS_know 102 (b := false) hb25 (by kernel_rfl) (by kernel_rfl) ?_
                  refine TS_know 85 (b := false) hb25 (by kernel_rfl) (by kernel_rfl) ?_
                  refine TS_F (by kernel_rfl) rfl ?_
                  refine TS_go 4 ?_
                  replace h := bindO h
                  obtain ⟨e29, he29, h⟩ := h
                  refine TS_idx S_Diagnostic.cs he29 (by kernel_rfl) (by kernel_rfl) ?_
                  refine TS_go 4 ?_
                  refine TS_cut ⟨[(0, []), (1, []), (6, []), (7, []), (8, []), (9, [])], [(600000, (600000, [])), (9, (9, []))]⟩ (.mk [.code (codeAt [1, 1, 1, 1, 0, 0, 0, 1, 0, 0, 1, 1, 1, 1, 1] (bodyOf Try.f32)), .blk 2, .blk 1] .normal ⟨[(0, .c (.slc 3 0 (List.length a0) (List.map S_Diagnostic.cs a0))), (1, .c (.slc 3 0 (List.length a1) (List.map S_Diagnostic.cs a1))), (6, .c (.slc 3 600002 (List.length s5.1) (List.map S_Diagnostic.cs s5.1))), (7, .c (.lit (.int .i64 (s5.2.1)))), (8, .c (.lit (.int .i64 (s5.2.2)))), (9, .c (.box 9 0))], [(600000, .spare 56 3 (List.length s5.1)), (9, .box [.lit (.int .u64 (e29.Node)), .lit (.int .i64 (e29.Number)), .slc 1 0 (List.length e29.Data) (List.map (ecI .u8) e29.Data)])]⟩) (by kernel_rfl) (by kernel_rfl) ?_
                  refine TS_joinB ⟨[(0, []), (1, []), (6, []), (7, []), (8, []), (9, [])], [(600000, (600000, [])), (9, (9, []))]⟩ (fun (v30 : S_Diagnostic) => []) (fun (v30 : S_Diagnostic) => [(9, .box (S_Diagnostic.cs v30))]) (F_ref39_Merge_j2 s5) x ?_ ?_
                  · clear h
                    intro v30 h
                    unfold F_ref39_Merge_j2 at h
                    refine TS_go 4 ?_
                    replace h := bindO h
                    obtain ⟨v31, hv31, h⟩ := h
                    refine TS_call [] (ok_ref39_copyReport v30 v31 hv31) (by kernel_rfl) (by kernel_rfl) ?_
                    refine TS_litNT 45 56 3 S_Diagnostic.cs [0, 0, 2] ([v31] : List S_Diagnostic) (by kernel_rfl) (by kernel_rfl) ?_
                    replace h := bindO h
                    obtain ⟨l32, hl32, h⟩ := h
                    refine TS_appT (d := 600000) (e := 56) (sz := 3) (N := List.length s5.1) S_Diagnostic.cs (fun _ => by kernel_rfl) (l1 := s5.1) (l2 := ([v31] : List S_Diagnostic)) (c := .whole) hl32 (by kernel_rfl) (by kernel_rfl) ?_
                    refine TS_go 15 ?_
                    obtain rfl := Option.some.inj h
                    exact TS_againB _ ⟨[(0, []), (1, []), (6, []), (7, []), (8, [])], [(600000, (600000, []))]⟩ rfl (by kernel_rfl) (by kernel_rfl)
                  · refine TS_go 1 ?_
                    refine TS_draw (by kernel_rfl) ?_
                    refine TD_go 2 ?_
                    replace h := bindO h
                    obtain ⟨e33, he33, h⟩ := h
                    refine TD_idx S_Diagnostic.cs he33 (by kernel_rfl) (by kernel_rfl) ?_
                    refine TD_go 2 ?_
                    replace h := bindO h
                    obtain ⟨v34, hv34, h⟩ := h
                    refine TD_call [] (ok_ref39_Better e33 e29 v34 hv34) (by kernel_rfl) (by kernel_rfl) ?_
                    refine TD_end (by kernel_rfl) ?_
                    replace h := condO h
                    rcases h with ⟨hb35, h⟩ | ⟨hb35, h⟩
                    · subst hb35
                      refine TS_T (by kernel_rfl) rfl ?_
                      refine TS_go 3 ?_
                      replace h := bindO h
                      obtain ⟨e36, he36, h⟩ := h
                      refine TS_idx S_Diagnostic.cs he36 (by kernel_rfl) (by kernel_rfl) ?_
                      refine TS_go 3 ?_
                      exact TS_meet e36 ⟨[(0, []), (1, []), (6, []), (7, []), (8, []), (9, [])], [(600000, (600000, [])), (9, (9, []))]⟩ h (by kernel_rfl) (by kernel_rfl)
                    · subst hb35
                      refine TS_F (by kernel_rfl) rfl ?_
                      refine TS_go 1 ?_
                      exact TS_meet e29 ⟨[(0, []), (1, []), (6, []), (7, []), (8, []), (9, [])], [(600000, (600000, [])), (9, (9, []))]⟩ h (by kernel_rfl) (by kernel_rfl)
        · refine TS_know 21 (b := false) hb8 (by kernel_rfl) (by kernel_rfl) ?_
          refine TS_know 22 (b := false) hb8 (by kernel_rfl) (by kernel_rfl) ?_
          refine TS_go 6 ?_
          replace h := condO h
          rcases h with ⟨hb37, h⟩ | ⟨hb37, h⟩
          · refine TS_know 26 (b := true) hb37 (by kernel_rfl) (by kernel_rfl) ?_
            refine TS_know 27 (b := true) hb37 (by kernel_rfl) (by kernel_rfl) ?_
            refine TS_T (by kernel_rfl) rfl ?_
            refine TS_go 4 ?_
            refine TS_draw (by kernel_rfl) ?_
            refine TD_go 4 ?_
            replace h := condO h
            rcases h with ⟨hb38, h⟩ | ⟨hb38, h⟩
            · refine TD_know 56 (b := true) hb38 trivial (by kernel_rfl) (by kernel_rfl) ?_
              refine TD_go 19 ?_
              refine TD_end (by kernel_rfl) ?_
              refine TS_T (by kernel_rfl) rfl ?_
              refine TS_go 5 ?_
              replace h := bindO h
              obtain ⟨e39, he39, h⟩ := h
              refine TS_idx S_Diagnostic.cs he39 (by kernel_rfl) (by kernel_rfl) ?_
              refine TS_go 1 ?_
              replace h := bindO h
              obtain ⟨v40, hv40, h⟩ := h
              refine TS_call [] (ok_ref39_copyReport e39 v40 hv40) (by kernel_rfl) (by kernel_rfl) ?_
              refine TS_litNT 81 56 3 S_Diagnostic.cs [0, 0, 2] ([v40] : List S_Diagnostic) (by kernel_rfl) (by kernel_rfl) ?_
              replace h := bindO h
              obtain ⟨l41, hl41, h⟩ := h
              refine TS_appT (d := 600000) (e := 56) (sz := 3) (N := List.length s5.1) S_Diagnostic.cs (fun _ => by kernel_rfl) (l1 := s5.1) (l2 := ([v40] : List S_Diagnostic)) (c := .whole) hl41 (by kernel_rfl) (by kernel_rfl) ?_
              refine TS_go 9 ?_
              obtain rfl := Option.some.inj h
              exact TS_againB _ ⟨[(0, []), (1, []), (6, []), (7, []), (8, [])], [(600000, (600000, []))]⟩ rfl (by kernel_rfl) (by kernel_rfl)
            · refine TD_know 56 (b := false) hb38 trivial (by kernel_rfl) (by kernel_rfl) ?_
              refine TD_go 3 ?_
              refine TD_know 60 (b := false) hb8 trivial (by kernel_rfl) (by kernel_rfl) ?_
              refine TD_go 15 ?_
              refine TD_end (by kernel_rfl) ?_
              refine TS_F (by kernel_rfl) rfl ?_
              refine TS_go 1 ?_
              refine TS_draw (by kernel_rfl) ?_
              refine TD_go 4 ?_
              replace h := condO h
              rcases h with ⟨hb42, h⟩ | ⟨hb42, h⟩
              · refine TD_know 90 (b := true) hb42 trivial (by kernel_rfl) (by kernel_rfl) ?_
                refine TD_go 13 ?_
                refine TD_end (by kernel_rfl) ?_
                refine TS_T (by kernel_rfl) rfl ?_
                refine TS_go 5 ?_
                replace h := bindO h
                obtain ⟨e43, he43, h⟩ := h
                refine TS_idx S_Diagnostic.cs he43 (by kernel_rfl) (by kernel_rfl) ?_
                refine TS_go 1 ?_
                replace h := bindO h
                obtain ⟨v44, hv44, h⟩ := h
                refine TS_call [] (ok_ref39_copyReport e43 v44 hv44) (by kernel_rfl) (by kernel_rfl) ?_
                refine TS_litNT 109 56 3 S_Diagnostic.cs [0, 0, 2] ([v44] : List S_Diagnostic) (by kernel_rfl) (by kernel_rfl) ?_
                replace h := bindO h
                obtain ⟨l45, hl45, h⟩ := h
                refine TS_appT (d := 600000) (e := 56) (sz := 3) (N := List.length s5.1) S_Diagnostic.cs (fun _ => by kernel_rfl) (l1 := s5.1) (l2 := ([v44] : List S_Diagnostic)) (c := .whole) hl45 (by kernel_rfl) (by kernel_rfl) ?_
                refine TS_go 9 ?_
                obtain rfl := Option.some.inj h
                exact TS_againB _ ⟨[(0, []), (1, []), (6, []), (7, []), (8, [])], [(600000, (600000, []))]⟩ rfl (by kernel_rfl) (by kernel_rfl)
              · refine TD_know 90 (b := false) hb42 trivial (by kernel_rfl) (by kernel_rfl) ?_
                refine TD_go 2 ?_
                replace h := bindO h
                obtain ⟨e46, he46, h⟩ := h
                refine TD_idx S_Diagnostic.cs he46 (by kernel_rfl) (by kernel_rfl) ?_
                refine TD_go 4 ?_
                replace h := bindO h
                obtain ⟨e47, he47, h⟩ := h
                refine TD_idx S_Diagnostic.cs he47 (by kernel_rfl) (by kernel_rfl) ?_
                refine TD_go 5 ?_
                refine TD_end (by kernel_rfl) ?_
                replace h := condO h
                rcases h with ⟨hb48, h⟩ | ⟨hb48, h⟩
                · refine TS_know 55 (b := false) hb38 (by kernel_rfl) (by kernel_rfl) ?_
                  refine TS_know 89 (b := false) hb42 (by kernel_rfl) (by kernel_rfl) ?_
                  refine TS_know 101 (b := true) hb48 (by kernel_rfl) (by kernel_rfl) ?_
                  refine TS_know 102 (b := true) hb48 (by kernel_rfl) (by kernel_rfl) ?_
                  refine TS_know 85 (b := true) hb48 (by kernel_rfl) (by kernel_rfl) ?_
                  refine TS_T (by kernel_rfl) rfl ?_
                  refine TS_go 5 ?_
                  replace h := bindO h
                  obtain ⟨e49, he49, h⟩ := h
                  refine TS_idx S_Diagnostic.cs he49 (by kernel_rfl) (by kernel_rfl) ?_
                  refine TS_go 1 ?_
                  replace h := bindO h
                  obtain ⟨v50, hv50, h⟩ := h
                  refine TS_call [] (ok_ref39_copyReport e49 v50 hv50) (by kernel_rfl) (by kernel_rfl) ?_
                  refine TS_litNT 109 56 3 S_Diagnostic.cs [0, 0, 2] ([v50] : List S_Diagnostic) (by kernel_rfl) (by kernel_rfl) ?_
                  replace h := bindO h
                  obtain ⟨l51, hl51, h⟩ := h
                  refine TS_appT (d := 600000) (e := 56) (sz := 3) (N := List.length s5.1) S_Diagnostic.cs (fun _ => by kernel_rfl) (l1 := s5.1) (l2 := ([v50] : List S_Diagnostic)) (c := .whole) hl51 (by kernel_rfl) (by kernel_rfl) ?_
                  refine TS_go 9 ?_
                  obtain rfl := Option.some.inj h
                  exact TS_againB _ ⟨[(0, []), (1, []), (6, []), (7, []), (8, [])], [(600000, (600000, []))]⟩ rfl (by kernel_rfl) (by kernel_rfl)
                · refine TS_know 55 (b := false) hb38 (by kernel_rfl) (by kernel_rfl) ?_
                  refine TS_know 89 (b := false) hb42 (by kernel_rfl) (by kernel_rfl) ?_
                  refine TS_know 101 (b := false) hb48 (by kernel_rfl) (by kernel_rfl) ?_
                  refine TS_know 102 (b := false) hb48 (by kernel_rfl) (by kernel_rfl) ?_
                  refine TS_know 85 (b := false) hb48 (by kernel_rfl) (by kernel_rfl) ?_
                  refine TS_F (by kernel_rfl) rfl ?_
                  refine TS_go 4 ?_
                  replace h := bindO h
                  obtain ⟨e52, he52, h⟩ := h
                  refine TS_idx S_Diagnostic.cs he52 (by kernel_rfl) (by kernel_rfl) ?_
                  refine TS_go 4 ?_
                  refine TS_cut ⟨[(0, []), (1, []), (6, []), (7, []), (8, []), (9, [])], [(600000, (600000, [])), (9, (9, []))]⟩ (.mk [.code (codeAt [1, 1, 1, 1, 0, 0, 0, 1, 0, 0, 1, 1, 1, 1, 1] (bodyOf Try.f32)), .blk 2, .blk 1] .normal ⟨[(0, .c (.slc 3 0 (List.length a0) (List.map S_Diagnostic.cs a0))), (1, .c (.slc 3 0 (List.length a1) (List.map S_Diagnostic.cs a1))), (6, .c (.slc 3 600002 (List.length s5.1) (List.map S_Diagnostic.cs s5.1))), (7, .c (.lit (.int .i64 (s5.2.1)))), (8, .c (.lit (.int .i64 (s5.2.2)))), (9, .c (.box 9 0))], [(600000, .spare 56 3 (List.length s5.1)), (9, .box [.lit (.int .u64 (e52.Node)), .lit (.int .i64 (e52.Number)), .slc 1 0 (List.length e52.Data) (List.map (ecI .u8) e52.Data)])]⟩) (by kernel_rfl) (by kernel_rfl) ?_
                  refine TS_joinB ⟨[(0, []), (1, []), (6, []), (7, []), (8, []), (9, [])], [(600000, (600000, [])), (9, (9, []))]⟩ (fun (v53 : S_Diagnostic) => []) (fun (v53 : S_Diagnostic) => [(9, .box (S_Diagnostic.cs v53))]) (F_ref39_Merge_j3 s5) x ?_ ?_
                  · clear h
                    intro v53 h
                    unfold F_ref39_Merge_j3 at h
                    refine TS_go 4 ?_
                    replace h := bindO h
                    obtain ⟨v54, hv54, h⟩ := h
                    refine TS_call [] (ok_ref39_copyReport v53 v54 hv54) (by kernel_rfl) (by kernel_rfl) ?_
                    refine TS_litNT 45 56 3 S_Diagnostic.cs [0, 0, 2] ([v54] : List S_Diagnostic) (by kernel_rfl) (by kernel_rfl) ?_
                    replace h := bindO h
                    obtain ⟨l55, hl55, h⟩ := h
                    refine TS_appT (d := 600000) (e := 56) (sz := 3) (N := List.length s5.1) S_Diagnostic.cs (fun _ => by kernel_rfl) (l1 := s5.1) (l2 := ([v54] : List S_Diagnostic)) (c := .whole) hl55 (by kernel_rfl) (by kernel_rfl) ?_
                    refine TS_go 15 ?_
                    obtain rfl := Option.some.inj h
                    exact TS_againB _ ⟨[(0, []), (1, []), (6, []), (7, []), (8, [])], [(600000, (600000, []))]⟩ rfl (by kernel_rfl) (by kernel_rfl)
                  · refine TS_go 1 ?_
                    refine TS_draw (by kernel_rfl) ?_
                    refine TD_go 2 ?_
                    replace h := bindO h
                    obtain ⟨e56, he56, h⟩ := h
                    refine TD_idx S_Diagnostic.cs he56 (by kernel_rfl) (by kernel_rfl) ?_
                    refine TD_go 2 ?_
                    replace h := bindO h
                    obtain ⟨v57, hv57, h⟩ := h
                    refine TD_call [] (ok_ref39_Better e56 e52 v57 hv57) (by kernel_rfl) (by kernel_rfl) ?_
                    refine TD_end (by kernel_rfl) ?_
                    replace h := condO h
                    rcases h with ⟨hb58, h⟩ | ⟨hb58, h⟩
                    · subst hb58
                      refine TS_T (by kernel_rfl) rfl ?_
                      refine TS_go 3 ?_
                      replace h := bindO h
                      obtain ⟨e59, he59, h⟩ := h
                      refine TS_idx S_Diagnostic.cs he59 (by kernel_rfl) (by kernel_rfl) ?_
                      refine TS_go 3 ?_
                      exact TS_meet e59 ⟨[(0, []), (1, []), (6, []), (7, []), (8, []), (9, [])], [(600000, (600000, [])), (9, (9, []))]⟩ h (by kernel_rfl) (by kernel_rfl)
                    · subst hb58
                      refine TS_F (by kernel_rfl) rfl ?_
                      refine TS_go 1 ?_
                      exact TS_meet e52 ⟨[(0, []), (1, []), (6, []), (7, []), (8, []), (9, [])], [(600000, (600000, [])), (9, (9, []))]⟩ h (by kernel_rfl) (by kernel_rfl)
          · refine TS_know 26 (b := false) hb37 (by kernel_rfl) (by kernel_rfl) ?_
            refine TS_know 27 (b := false) hb37 (by kernel_rfl) (by kernel_rfl) ?_
            refine TS_F (by kernel_rfl) rfl ?_
            refine TS_go 2 ?_
            obtain rfl := Option.some.inj h
            exact TS_brkB s5.1 ⟨[(6, [])], [(600000, (600000, []))]⟩ rfl (by kernel_rfl) (by kernel_rfl) (by kernel_rfl)
      · intro b6 hb
        subst y7
        have h := hK1
        refine TS_go 8 ?_
        replace h := condO h
        rcases h with ⟨hb61, h⟩ | ⟨hb61, h⟩
        · refine TS_know 115 (b := true) hb61 (by kernel_rfl) (by kernel_rfl) ?_
          refine TS_T (by kernel_rfl) rfl ?_
          refine TS_go 5 ?_
          refine TS_nilT 4 600001 56 3 (by kernel_rfl) ?_
          refine TS_fitU ⟨[(4, []), (5, [])], [(600001, (900000, []))]⟩ (by kernel_rfl) ?_
          refine TS_go 2 ?_
          obtain rfl := Option.some.inj h
          exact TS_ret (by kernel_rfl) (by kernel_rfl) (by kernel_rfl)
        · refine TS_know 115 (b := false) hb61 (by kernel_rfl) (by kernel_rfl) ?_
          refine TS_F (by kernel_rfl) rfl ?_
          refine TS_go 7 ?_
          refine TS_fitU ⟨[(4, []), (5, [])], [(600000, (900000, []))]⟩ (by kernel_rfl) ?_
          refine TS_go 1 ?_
          obtain rfl := Option.some.inj h
          exact TS_ret (by kernel_rfl) (by kernel_rfl) (by kernel_rfl)
    · subst hb4
      refine TS_T (by kernel_rfl) rfl ?_
      refine TS_go 5 ?_
      refine TS_nilT 4 600000 56 3 (by kernel_rfl) ?_
      refine TS_fitU ⟨[(4, []), (5, [])], [(600000, (900000, []))]⟩ (by kernel_rfl) ?_
      refine TS_go 2 ?_
      obtain rfl := Option.some.inj h
      exact TS_ret (by kernel_rfl) (by kernel_rfl) (by kernel_rfl)
  · subst hb2
    refine TS_go 5 ?_
    refine TS_T (by kernel_rfl) rfl ?_
    refine TS_go 5 ?_
    refine TS_nilT 4 600000 56 3 (by kernel_rfl) ?_
    refine TS_fitU ⟨[(4, []), (5, [])], [(600000, (900000, []))]⟩ (by kernel_rfl) ?_
    refine TS_go 2 ?_
    obtain rfl := Option.some.inj h
    exact TS_ret (by kernel_rfl) (by kernel_rfl) (by kernel_rfl)
theorem ok_ref39_Merge (a0 : List S_Diagnostic) (a1 : List S_Diagnostic) (r : (List S_Diagnostic) × Int) (h : F_ref39_Merge a0 a1 = some r) : Con Try.prog 32 [.c (eS 3 S_Diagnostic.cs (a0)), .c (eS 3 S_Diagnostic.cs (a1))] [] (.tup [(false, [eS 3 S_Diagnostic.cs (r.1)]), (false, [.lit (.int .i64 (r.2))])]) [] :=
  con_drop [[4]] [] (okT_ref39_Merge a0 a1 r h) (by kernel_rfl) (by kernel_rfl) (by kernel_rfl)

/-- multihop/multihopref39.Report -/
noncomputable def F_ref39_Report (a0 : List S_Diagnostic) (a1 : S_Diagnostic) : Option ((List S_Diagnostic) × Int) :=
  (F_ref39_ValidReports a0).bind fun v1 =>
  bif v1 then
    (F_ref39_validReport a1).bind fun v3 =>
    bif v3 then
      bif (decide (a1.Number < 0)) then
        some ((([] : List S_Diagnostic), 2))
      else
        bif (decide (a1.Number > 1073741824)) then
          some ((([] : List S_Diagnostic), 2))
        else
          (F_ref39_Merge a0 ([a1] : List S_Diagnostic)).bind fun v7 =>
          some ((v7.1, v7.2))
    else
      some ((([] : List S_Diagnostic), 1))
  else
    some ((([] : List S_Diagnostic), 1))
set_option maxRecDepth 100000 in
set_option maxHeartbeats 40000000 in
theorem okT_ref39_Report (a0 : List S_Diagnostic) (a1 : S_Diagnostic) (r : (List S_Diagnostic) × Int) (h : F_ref39_Report a0 a1 = some r) : Con Try.prog 35 [.c (eS 3 S_Diagnostic.cs (a0)), .agg (S_Diagnostic.cs a1)] [] (.tup [(false, [.slc 3 900002 (List.length r.1) (List.map S_Diagnostic.cs r.1)]), (false, [.lit (.int .i64 (r.2))])]) [(900000, .spare 56 3 (List.length r.1))] := by
  unfold F_ref39_Report at h
  refine con_of [] [(900000, [])] 28 Try.func35 rfl rfl (by kernel_rfl) (fun K => ?_)
  refine TS_go 10 ?_
  replace h := bindO h
  obtain ⟨v1, hv1, h⟩ := h
  refine TS_call [] (ok_ref39_ValidReports a0 v1 hv1) (by kernel_rfl) (by kernel_rfl) ?_
  refine TS_go 2 ?_
  replace h := condO h
  rcases h with ⟨hb2, h⟩ | ⟨hb2, h⟩
  · subst hb2
    refine TS_go 1 ?_
    replace h := bindO h
    obtain ⟨v3, hv3, h⟩ := h
    refine TS_call [] (ok_ref39_validReport a1 v3 hv3) (by kernel_rfl) (by kernel_rfl) ?_
    refine TS_go 3 ?_
    replace h := condO h
    rcases h with ⟨hb4, h⟩ | ⟨hb4, h⟩
    · subst hb4
      refine TS_F (by kernel_rfl) rfl ?_
      refine TS_go 8 ?_
      replace h := condO h
      rcases h with ⟨hb5, h⟩ | ⟨hb5, h⟩
      · refine TS_know 16 (b := true) hb5 (by kernel_rfl) (by kernel_rfl) ?_
        refine TS_know 17 (b := true) hb5 (by kernel_rfl) (by kernel_rfl) ?_
        refine TS_go 5 ?_
        refine TS_T (by kernel_rfl) rfl ?_
        refine TS_go 5 ?_
        refine TS_nilT 4 600000 56 3 (by kernel_rfl) ?_
        refine TS_fitU ⟨[(4, []), (5, [])], [(600000, (900000, []))]⟩ (by kernel_rfl) ?_
        refine TS_go 2 ?_
        obtain rfl := Option.some.inj h
        exact TS_ret (by kernel_rfl) (by kernel_rfl) (by kernel_rfl)
      · refine TS_know 16 (b := false) hb5 (by kernel_rfl) (by kernel_rfl) ?_
        refine TS_know 17 (b := false) hb5 (by kernel_rfl) (by kernel_rfl) ?_
        refine TS_go 5 ?_
        replace h := condO h
        rcases h with ⟨hb6, h⟩ | ⟨hb6, h⟩
        · refine TS_know 20 (b := true) hb6 (by kernel_rfl) (by kernel_rfl) ?_
          refine TS_know 21 (b := true) hb6 (by kernel_rfl) (by kernel_rfl) ?_
          refine TS_T (by kernel_rfl) rfl ?_
          refine TS_go 5 ?_
          refine TS_nilT 4 600000 56 3 (by kernel_rfl) ?_
          refine TS_fitU ⟨[(4, []), (5, [])], [(600000, (900000, []))]⟩ (by kernel_rfl) ?_
          refine TS_go 2 ?_
          obtain rfl := Option.some.inj h
          exact TS_ret (by kernel_rfl) (by kernel_rfl) (by kernel_rfl)
        · refine TS_know 20 (b := false) hb6 (by kernel_rfl) (by kernel_rfl) ?_
          refine TS_know 21 (b := false) hb6 (by kernel_rfl) (by kernel_rfl) ?_
          refine TS_F (by kernel_rfl) rfl ?_
          refine TS_go 5 ?_
          refine TS_litNT 24 56 3 S_Diagnostic.cs [0, 0, 2] ([a1] : List S_Diagnostic) (by kernel_rfl) (by kernel_rfl) ?_
          replace h := bindO h
          obtain ⟨v7, hv7, h⟩ := h
          refine TS_con [[], [4]] [(25, 900000)] none (okT_ref39_Merge a0 ([a1] : List S_Diagnostic) v7 hv7) (by kernel_rfl) (by kernel_rfl) (by kernel_rfl) ?_
          refine TS_go 5 ?_
          refine TS_fitU ⟨[(4, []), (5, [])], [(25, (900000, []))]⟩ (by kernel_rfl) ?_
          refine TS_go 1 ?_
          obtain rfl := Option.some.inj h
          exact TS_ret (by kernel_rfl) (by kernel_rfl) (by kernel_rfl)
    · subst hb4
      refine TS_T (by kernel_rfl) rfl ?_
      refine TS_go 5 ?_
      refine TS_nilT 4 600000 56 3 (by kernel_rfl) ?_
      refine TS_fitU ⟨[(4, []), (5, [])], [(600000, (900000, []))]⟩ (by kernel_rfl) ?_
      refine TS_go 2 ?_
      obtain rfl := Option.some.inj h
      exact TS_ret (by kernel_rfl) (by kernel_rfl) (by kernel_rfl)
  · subst hb2
    refine TS_go 5 ?_
    refine TS_T (by kernel_rfl) rfl ?_
    refine TS_go 5 ?_
    refine TS_nilT 4 600000 56 3 (by kernel_rfl) ?_
    refine TS_fitU ⟨[(4, []), (5, [])], [(600000, (900000, []))]⟩ (by kernel_rfl) ?_
    refine TS_go 2 ?_
    obtain rfl := Option.some.inj h
    exact TS_ret (by kernel_rfl) (by kernel_rfl) (by kernel_rfl)
theorem ok_ref39_Report (a0 : List S_Diagnostic) (a1 : S_Diagnostic) (r : (List S_Diagnostic) × Int) (h : F_ref39_Report a0 a1 = some r) : Con Try.prog 35 [.c (eS 3 S_Diagnostic.cs (a0)), .agg (S_Diagnostic.cs a1)] [] (.tup [(false, [eS 3 S_Diagnostic.cs (r.1)]), (false, [.lit (.int .i64 (r.2))])]) [] :=
  con_drop [[4]] [] (okT_ref39_Report a0 a1 r h) (by kernel_rfl) (by kernel_rfl) (by kernel_rfl)

/-- multihop/multihopworld.Reports -/
noncomputable def F_world_Reports_j2 (s2 : (List S_Diagnostic) × Int × S_multihopmade_Tape) (v6 : (List S_Diagnostic) × S_multihopmade_Tape) : Option (((List S_Diagnostic) × Int × S_multihopmade_Tape) ⊕ ((List S_Diagnostic) × S_multihopmade_Tape)) :=
  some (Sum.inl (v6.1, IntKind.wrap .i64 (s2.2.1 - 1), v6.2))
noncomputable def F_world_Reports_l1  (s2 : (List S_Diagnostic) × Int × S_multihopmade_Tape) : Option (((List S_Diagnostic) × Int × S_multihopmade_Tape) ⊕ ((List S_Diagnostic) × S_multihopmade_Tape)) :=
  bif (decide (s2.2.1 > 0)) then
    (F_world_EUI s2.2.2).bind fun v7 =>
    (F_made_Tape_Next v7.2 4).bind fun v8 =>
    (F_made_Tape_Bytes v8.2 6).bind fun v9 =>
    (F_ref39_Report s2.1 (S_Diagnostic.mk v7.1 v8.1 v9.1)).bind fun v10 =>
    bif (v10.2 == 0) then
      (F_world_Reports_j2 s2) (v10.1, v9.2)
    else
      (F_world_Reports_j2 s2) (s2.1, v9.2)
  else
    some (Sum.inr (s2.1, s2.2.2))
noncomputable def F_world_Reports (a0 : S_multihopmade_Tape) : Option ((List S_Diagnostic) × S_multihopmade_Tape) :=
  (F_made_Tape_Next a0 6).bind fun v1 =>
  (loopO (F_world_Reports_l1) (([] : List S_Diagnostic), v1.1, v1.2)).bind fun b3 =>
  some ((b3.1, b3.2))
set_option maxRecDepth 100000 in
set_option maxHeartbeats 40000000 in
theorem okT_world_Reports (a0 : S_multihopmade_Tape) (r : (List S_Diagnostic) × S_multihopmade_Tape) (h : F_world_Reports a0 = some r) : Con Try.prog 25 [.c (.box 1000000 0)] [(1000000, .box (S_multihopmade_Tape.cs a0))] (.c (.slc 3 900002 (List.length r.1) (List.map S_Diagnostic.cs r.1))) [(1000000, .box (S_multihopmade_Tape.cs r.2)), (900000, .spare 56 3 (List.length r.1))] := by
  unfold F_world_Reports at h
  refine con_of [] [(1000000, [2]), (900000, [])] 29 Try.func25 rfl rfl (by kernel_rfl) (fun K => ?_)
  refine TS_go 12 ?_
  replace h := bindO h
  obtain ⟨v1, hv1, h⟩ := h
  refine TS_con [] [] (some (1000000, 0)) (ok_made_Tape_Next a0 6 v1 hv1) (by kernel_rfl) (by kernel_rfl) (by kernel_rfl) ?_
  refine TS_go 3 ?_
  refine TS_nilT 3 600000 56 3 (by kernel_rfl) ?_
  refine TS_cut ⟨[(0, []), (3, []), (4, [])], [(1000000, (1000000, [])), (600000, (600000, []))]⟩ (.mk [.code (codeAt [1, 1, 0, 1, 0] (bodyOf Try.f25)), .blk 0, .code (codeAt [1, 1, 1] (bodyOf Try.f25))] .normal ⟨[(0, .c (.box 1000000 0)), (3, .c (.slc 3 600002 (List.length ([] : List S_Diagnostic)) (List.map S_Diagnostic.cs ([] : List S_Diagnostic)))), (4, .c (.lit (.int .i64 (v1.1))))], [(1000000, .box [.slc 1 0 (List.length v1.2.l) (List.map (ecI .i64) v1.2.l), .lit (.int .i64 (v1.2.at_))]), (600000, .spare 56 3 (List.length ([] : List S_Diagnostic)))]⟩) (by kernel_rfl) (by kernel_rfl) ?_
  replace h := bindO h
  obtain ⟨y4, hl1, hK1⟩ := h
  refine TS_loopB (F_world_Reports_l1) ⟨[(0, []), (3, []), (4, [])], [(1000000, (1000000, [])), (600000, (600000, []))]⟩ (fun (s2 : (List S_Diagnostic) × Int × S_multihopmade_Tape) => [(3, .c (.slc 3 600002 (List.length s2.1) (List.map S_Diagnostic.cs s2.1))), (4, .c (.lit (.int .i64 (s2.2.1))))]) (fun (s2 : (List S_Diagnostic) × Int × S_multihopmade_Tape) => [(1000000, .box (S_multihopmade_Tape.cs s2.2.2)), (600000, .spare 56 3 (List.length s2.1))]) (([] : List S_Diagnostic), v1.1, v1.2) y4 (.exit 0) (fun (b : (List S_Diagnostic) × S_multihopmade_Tape) => b) ⟨[(3, [])], [(1000000, (1000000, [])), (600000, (600000, []))]⟩ (fun (b3 : (List S_Diagnostic) × S_multihopmade_Tape) => [(3, .c (.slc 3 600002 (List.length b3.1) (List.map S_Diagnostic.cs b3.1)))]) (fun (b3 : (List S_Diagnostic) × S_multihopmade_Tape) => [(1000000, .box (S_multihopmade_Tape.cs b3.2)), (600000, .spare 56 3 (List.length b3.1))]) hl1 (by kernel_rfl) (by kernel_rfl) ?_ ?_
  · intro s2 x h hy1
    unfold F_world_Reports_l1 at h
    refine TS_go 6 ?_
    replace h := condO h
    rcases h with ⟨hb5, h⟩ | ⟨hb5, h⟩
    · refine TS_know 10 (b := true) hb5 (by kernel_rfl) (by kernel_rfl) ?_
      refine TS_T (by kernel_rfl) rfl ?_
      refine TS_go 1 ?_
      refine TS_cut ⟨[(0, []), (3, []), (4, [])], [(1000000, (1000000, [])), (600000, (600000, []))]⟩ (.mk [.code (codeAt [1, 1, 0, 1, 0, 0, 1] (bodyOf Try.f25))] .normal ⟨[(0, .c (.box 1000000 0)), (3, .c (.slc 3 600002 (List.length s2.1) (List.map S_Diagnostic.cs s2.1))), (4, .c (.lit (.int .i64 (s2.2.1))))], [(1000000, .box [.slc 1 0 (List.length s2.2.2.l) (List.map (ecI .i64) s2.2.2.l), .lit (.int .i64 (s2.2.2.at_))]), (600000, .spare 56 3 (List.length s2.1))]⟩) (by kernel_rfl) (by kernel_rfl) ?_
      refine TS_joinB ⟨[(0, []), (3, []), (4, [])], [(1000000, (1000000, [])), (600000, (600000, []))]⟩ (fun (v6 : (List S_Diagnostic) × S_multihopmade_Tape) => [(3, .c (.slc 3 600002 (List.length v6.1) (List.map S_Diagnostic.cs v6.1)))]) (fun (v6 : (List S_Diagnostic) × S_multihopmade_Tape) => [(1000000, .box (S_multihopmade_Tape.cs v6.2)), (600000, .spare 56 3 (List.length v6.1))]) (F_world_Reports_j2 s2) x ?_ ?_
      · clear h
        intro v6 h
        unfold F_world_Reports_j2 at h
        refine TS_go 5 ?_
        obtain rfl := Option.some.inj h
        exact TS_againB _ ⟨[(0, []), (3, []), (4, [])], [(1000000, (1000000, [])), (600000, (600000, []))]⟩ rfl (by kernel_rfl) (by kernel_rfl)
      · refine TS_go 5 ?_
        replace h := bindO h
        obtain ⟨v7, hv7, h⟩ := h
        refine TS_con [] [] (some (1000000, 0)) (ok_world_EUI s2.2.2 v7 hv7) (by kernel_rfl) (by kernel_rfl) (by kernel_rfl) ?_
        refine TS_go 1 ?_
        replace h := bindO h
        obtain ⟨v8, hv8, h⟩ := h
        refine TS_con [] [] (some (1000000, 0)) (ok_made_Tape_Next v7.2 4 v8 hv8) (by kernel_rfl) (by kernel_rfl) (by kernel_rfl) ?_
        refine TS_go 1 ?_
        replace h := bindO h
        obtain ⟨v9, hv9, h⟩ := h
        refine TS_con [] [(20, 900000)] (some (1000000, 0)) (okT_made_Tape_Bytes v8.2 6 v9 hv9) (by kernel_rfl) (by kernel_rfl) (by kernel_rfl) ?_
        refine TS_go 1 ?_
        replace h := bindO h
        obtain ⟨v10, hv10, h⟩ := h
        refine TS_con [[4], [0, 0, 2]] [(22, 900000)] none (okT_ref39_Report s2.1 (S_Diagnostic.mk v7.1 v8.1 v9.1) v10 hv10) (by kernel_rfl) (by kernel_rfl) (by kernel_rfl) ?_
        refine TS_go 11 ?_
        replace h := condO h
        rcases h with ⟨hb11, h⟩ | ⟨hb11, h⟩
        · refine TS_know 26 (b := true) hb11 (by kernel_rfl) (by kernel_rfl) ?_
          refine TS_T (by kernel_rfl) rfl ?_
          refine TS_go 5 ?_
          exact TS_meet (v10.1, v9.2) ⟨[(0, []), (3, []), (4, [])], [(1000000, (1000000, [])), (22, (600000, []))]⟩ h (by kernel_rfl) (by kernel_rfl)
        · refine TS_know 26 (b := false) hb11 (by kernel_rfl) (by kernel_rfl) ?_
          refine TS_F (by kernel_rfl) rfl ?_
          refine TS_go 2 ?_
          exact TS_meet (s2.1, v9.2) ⟨[(0, []), (3, []), (4, [])], [(1000000, (1000000, [])), (600000, (600000, []))]⟩ h (by kernel_rfl) (by kernel_rfl)
    · refine TS_know 10 (b := false) hb5 (by kernel_rfl) (by kernel_rfl) ?_
      refine TS_F (by kernel_rfl) rfl ?_
      refine TS_go 2 ?_
      obtain rfl := Option.some.inj h
      exact TS_brkB (s2.1, s2.2.2) ⟨[(3, [])], [(1000000, (1000000, [])), (600000, (600000, []))]⟩ rfl (by kernel_rfl) (by kernel_rfl) (by kernel_rfl)
  · intro b3 hb
    subst y4
    have h := hK1
    refine TS_go 6 ?_
    refine TS_fitU ⟨[(2, [])], [(600000, (900000, [])), (1000000, (1000000, []))]⟩ (by kernel_rfl) ?_
    refine TS_go 1 ?_
    obtain rfl := Option.some.inj h
    exact TS_ret (by kernel_rfl) (by kernel_rfl) (by kernel_rfl)
theorem ok_world_Reports (a0 : S_multihopmade_Tape) (r : (List S_Diagnostic) × S_multihopmade_Tape) (h : F_world_Reports a0 = some r) : Con Try.prog 25 [.c (.box 1000000 0)] [(1000000, .box (S_multihopmade_Tape.cs a0))] (.c (eS 3 S_Diagnostic.cs (r.1))) [(1000000, .box (S_multihopmade_Tape.cs r.2))] :=
  con_drop [[4]] [(1000000, [])] (okT_world_Reports a0 r h) (by kernel_rfl) (by kernel_rfl) (by kernel_rfl)

/-- multihop/management.Merge -/
noncomputable def F_management_Merge_j1  (v6 : (List S_Diagnostic) × Int) : Option ((List S_Diagnostic) × Int) :=
  some ((v6.1, v6.2))
noncomputable def F_management_Merge (a0 : List S_Diagnostic) (a1 : List S_Diagnostic) : Option ((List S_Diagnostic) × Int) :=
  (F_management_ValidReports a0).bind fun v1 =>
  bif v1 then
    (F_management_ValidReports a1).bind fun v3 =>
    bif v3 then
      (F_management_union a0 a1).bind fun v5 =>
      bif (decide ((List.length v5 : Int) > 64)) then
        (F_management_Merge_j1) (([] : List S_Diagnostic), 10)
      else
        (F_management_Merge_j1) (v5, 0)
    else
      some ((([] : List S_Diagnostic), 1))
  else
    some ((([] : List S_Diagnostic), 1))
set_option maxRecDepth 100000 in
set_option maxHeartbeats 40000000 in
theorem ok_management_Merge (a0 : List S_Diagnostic) (a1 : List S_Diagnostic) (r : (List S_Diagnostic) × Int) (h : F_management_Merge a0 a1 = some r) : Con Try.prog 26 [.c (eS 3 S_Diagnostic.cs (a0)), .c (eS 3 S_Diagnostic.cs (a1))] [] (.tup [(false, [eS 3 S_Diagnostic.cs (r.1)]), (false, [.lit (.int .i64 (r.2))])]) [] := by
  unfold F_management_Merge at h
  refine con_of [[4]] [] 20 Try.func26 rfl rfl (by kernel_rfl) (fun K => ?_)
  refine TS_go 9 ?_
  replace h := bindO h
  obtain ⟨v1, hv1, h⟩ := h
  refine TS_call [] (ok_management_ValidReports a0 v1 hv1) (by kernel_rfl) (by kernel_rfl) ?_
  refine TS_go 2 ?_
  replace h := condO h
  rcases h with ⟨hb2, h⟩ | ⟨hb2, h⟩
  · subst hb2
    refine TS_go 1 ?_
    replace h := bindO h
    obtain ⟨v3, hv3, h⟩ := h
    refine TS_call [] (ok_management_ValidReports a1 v3 hv3) (by kernel_rfl) (by kernel_rfl) ?_
    refine TS_go 3 ?_
    replace h := condO h
    rcases h with ⟨hb4, h⟩ | ⟨hb4, h⟩
    · subst hb4
      refine TS_F (by kernel_rfl) rfl ?_
      refine TS_go 5 ?_
      replace h := bindO h
      obtain ⟨v5, hv5, h⟩ := h
      refine TS_con [] [(16, 900000)] none (okT_management_union a0 a1 v5 hv5) (by kernel_rfl) (by kernel_rfl) (by kernel_rfl) ?_
      refine TS_cut ⟨[(16, [])], [(16, (16, []))]⟩ (.mk [opsFr (codeAt [1, 1, 0] (bodyOf Try.f26)) 3, .code (codeAt [1, 1, 1] (bodyOf Try.f26))] .normal ⟨[(16, .c (.slc 3 18 (List.length v5) (List.map S_Diagnostic.cs v5)))], [(16, .spare 56 3 (List.length v5))]⟩) (by kernel_rfl) (by kernel_rfl) ?_
      refine TS_bump 2000 (by kernel_rfl) ?_
      refine TS_inlJ 8 Try.func54 rfl rfl ⟨[], []⟩ (fun (v6 : (List S_Diagnostic) × Int) => [(17, .tup [(false, [.slc 3 0 (List.length v6.1) (List.map S_Diagnostic.cs v6.1)]), (false, [.lit (.int .i64 (v6.2))])])]) (fun (v6 : (List S_Diagnostic) × Int) => []) (F_management_Merge_j1) r (by kernel_rfl) ?_ (fun K8 => ?_)
      · clear h
        intro v6 h
        unfold F_management_Merge_j1 at h
        refine TS_go 6 ?_
        obtain rfl := Option.some.inj h
        exact TS_ret (by kernel_rfl) (by kernel_rfl) (by kernel_rfl)
      · refine TS_go 12 ?_
        replace h := condO h
        rcases h with ⟨hb7, h⟩ | ⟨hb7, h⟩
        · refine TS_know 6 (b := true) hb7 (by kernel_rfl) (by kernel_rfl) ?_
          refine TS_T (by kernel_rfl) rfl ?_
          refine TS_go 7 ?_
          exact TS_inlM (([] : List S_Diagnostic), 10) ⟨[(17, [4])], []⟩ h (by kernel_rfl) (by kernel_rfl) (by kernel_rfl)
        · refine TS_know 6 (b := false) hb7 (by kernel_rfl) (by kernel_rfl) ?_
          refine TS_F (by kernel_rfl) rfl ?_
          refine TS_go 8 ?_
          exact TS_inlM (v5, 0) ⟨[(17, [4])], []⟩ h (by kernel_rfl) (by kernel_rfl) (by kernel_rfl)
    · subst hb4
      refine TS_T (by kernel_rfl) rfl ?_
      refine TS_go 7 ?_
      obtain rfl := Option.some.inj h
      exact TS_ret (by kernel_rfl) (by kernel_rfl) (by kernel_rfl)
  · subst hb2
    refine TS_go 5 ?_
    refine TS_T (by kernel_rfl) rfl ?_
    refine TS_go 7 ?_
    obtain rfl := Option.some.inj h
    exact TS_ret (by kernel_rfl) (by kernel_rfl) (by kernel_rfl)

/-- multihop/multihopworld.sameReport -/
noncomputable def F_world_sameReport (a0 : S_Diagnostic) (a1 : S_Diagnostic) : Option (Bool) :=
  bif (a0.Node == a1.Node) then
    bif (a0.Number == a1.Number) then
      (F_bytes_Equal a0.Data a1.Data).bind fun v3 =>
      some (v3)
    else
      some (false)
  else
    some (false)
set_option maxRecDepth 100000 in
set_option maxHeartbeats 40000000 in
theorem ok_world_sameReport (a0 : S_Diagnostic) (a1 : S_Diagnostic) (r : Bool) (h : F_world_sameReport a0 a1 = some r) : Con Try.prog 57 [.agg (S_Diagnostic.cs a0), .agg (S_Diagnostic.cs a1)] [] (.c (.lit (.bool (r)))) [] := by
  unfold F_world_sameReport at h
  refine con_of [] [] 24 Try.func57 rfl rfl (by kernel_rfl) (fun K => ?_)
  refine TS_go 14 ?_
  replace h := condO h
  rcases h with ⟨hb1, h⟩ | ⟨hb1, h⟩
  · refine TS_know 9 (b := true) hb1 (by kernel_rfl) (by kernel_rfl) ?_
    refine TS_know 10 (b := true) hb1 (by kernel_rfl) (by kernel_rfl) ?_
    refine TS_go 7 ?_
    replace h := condO h
    rcases h with ⟨hb2, h⟩ | ⟨hb2, h⟩
    · refine TS_know 15 (b := true) hb2 (by kernel_rfl) (by kernel_rfl) ?_
      refine TS_know 16 (b := true) hb2 (by kernel_rfl) (by kernel_rfl) ?_
      refine TS_know 17 (b := true) hb2 (by kernel_rfl) (by kernel_rfl) ?_
      refine TS_go 4 ?_
      replace h := bindO h
      obtain ⟨v3, hv3, h⟩ := h
      refine TS_call [] (ok_bytes_Equal a0.Data a1.Data v3 hv3) (by kernel_rfl) (by kernel_rfl) ?_
      refine TS_go 4 ?_
      obtain rfl := Option.some.inj h
      exact TS_ret (by kernel_rfl) (by kernel_rfl) (by kernel_rfl)
    · refine TS_know 15 (b := false) hb2 (by kernel_rfl) (by kernel_rfl) ?_
      refine TS_know 16 (b := false) hb2 (by kernel_rfl) (by kernel_rfl) ?_
      refine TS_know 17 (b := false) hb2 (by kernel_rfl) (by kernel_rfl) ?_
      refine TS_go 9 ?_
      obtain rfl := Option.some.inj h
      exact TS_ret (by kernel_rfl) (by kernel_rfl) (by kernel_rfl)
  · refine TS_know 9 (b := false) hb1 (by kernel_rfl) (by kernel_rfl) ?_
    refine TS_know 10 (b := false) hb1 (by kernel_rfl) (by kernel_rfl) ?_
    refine TS_go 16 ?_
    obtain rfl := Option.some.inj h
    exact TS_ret (by kernel_rfl) (by kernel_rfl) (by kernel_rfl)

/-- slices.EqualFunc[[]multihop/api.Diagnostic[]multihop/api.Diagnosticmultihop/api.Diagnosticmultihop/api.Diagnostic] -/
noncomputable def F_slices_EqualFunc_api_Diagnostic_api_Diagnostic_api_Diagnostic_api_Diagnostic_F572_l1 (a0 : List S_Diagnostic) (a1 : List S_Diagnostic) (s2 : Int) : Option ((Int) ⊕ ((Unit) ⊕ (Bool))) :=
  bif (decide (s2 < (List.length a0 : Int))) then
    (idx a0 s2).bind fun e6 =>
    (idx a1 s2).bind fun e7 =>
    (F_world_sameReport e6 e7).bind fun v8 =>
    bif v8 then
      some (Sum.inl (IntKind.wrap .i64 (s2 + 1)))
    else
      some (Sum.inr (Sum.inr false))
  else
    some (Sum.inr (Sum.inl ()))
noncomputable def F_slices_EqualFunc_api_Diagnostic_api_Diagnostic_api_Diagnostic_api_Diagnostic_F572 (a0 : List S_Diagnostic) (a1 : List S_Diagnostic) : Option (Bool) :=
  bif ((List.length a0 : Int) != (List.length a1 : Int)) then
    some (false)
  else
    (loopO (F_slices_EqualFunc_api_Diagnostic_api_Diagnostic_api_Diagnostic_api_Diagnostic_F572_l1 a0 a1) 0).bind (Sum.elim (fun b3 =>
      some (true)
    ) (fun w10 => some w10))
set_option maxRecDepth 100000 in
set_option maxHeartbeats 40000000 in
theorem ok_slices_EqualFunc_api_Diagnostic_api_Diagnostic_api_Diagnostic_api_Diagnostic_F572 (a0 : List S_Diagnostic) (a1 : List S_Diagnostic) (r : Bool) (h : F_slices_EqualFunc_api_Diagnostic_api_Diagnostic_api_Diagnostic_api_Diagnostic_F572 a0 a1 = some r) : Con Try.prog 56 [.c (eS 3 S_Diagnostic.cs (a0)), .c (eS 3 S_Diagnostic.cs (a1)), .c (.lit (.func (.func 57) #[] #[]))] [] (.c (.lit (.bool (r)))) [] := by
  unfold F_slices_EqualFunc_api_Diagnostic_api_Diagnostic_api_Diagnostic_api_Diagnostic_F572 at h
  refine con_of [] [] 32 Try.func56 rfl rfl (by kernel_rfl) (fun K => ?_)
  refine TS_go 13 ?_
  replace h := condO h
  rcases h with ⟨hb1, h⟩ | ⟨hb1, h⟩
  · refine TS_know 14 (b := true) hb1 (by kernel_rfl) (by kernel_rfl) ?_
    refine TS_T (by kernel_rfl) rfl ?_
    refine TS_go 6 ?_
    obtain rfl := Option.some.inj h
    exact TS_ret (by kernel_rfl) (by kernel_rfl) (by kernel_rfl)
  · refine TS_know 14 (b := false) hb1 (by kernel_rfl) (by kernel_rfl) ?_
    refine TS_F (by kernel_rfl) rfl ?_
    refine TS_go 9 ?_
    refine TS_cut ⟨[(1, []), (2, []), (15, []), (16, []), (17, [])], []⟩ (.mk [.code (codeAt [1, 1, 0, 1, 0] (bodyOf Try.f56)), .blk 0, .code (codeAt [1, 1, 1] (bodyOf Try.f56))] .normal ⟨[(1, .c (.slc 3 0 (List.length a1) (List.map S_Diagnostic.cs a1))), (2, .c (.lit (.func (.func 57) #[] #[]))), (15, .c (.slc 3 0 (List.length a0) (List.map S_Diagnostic.cs a0))), (16, .c (.lit (.int .i64 ((List.length a0 : Int))))), (17, .c (.lit (.int .i64 (0))))], []⟩) (by kernel_rfl) (by kernel_rfl) ?_
    replace h := bindO h
    obtain ⟨y4, hl1, hK1⟩ := h
    refine TS_loopB (F_slices_EqualFunc_api_Diagnostic_api_Diagnostic_api_Diagnostic_api_Diagnostic_F572_l1 a0 a1) ⟨[(1, []), (2, []), (15, []), (16, []), (17, [])], []⟩ (fun (s2 : Int) => [(17, .c (.lit (.int .i64 (s2))))]) (fun (s2 : Int) => []) 0 y4 (.exit 0) (fun (b : Unit) => (Sum.inl b : (Unit) ⊕ (Bool))) ⟨[], []⟩ (fun (b3 : Unit) => []) (fun (b3 : Unit) => []) hl1 (by kernel_rfl) (by kernel_rfl) ?_ ?_
    · intro s2 x h hy1
      unfold F_slices_EqualFunc_api_Diagnostic_api_Diagnostic_api_Diagnostic_api_Diagnostic_F572_l1 at h
      refine TS_go 5 ?_
      replace h := condO h
      rcases h with ⟨hb5, h⟩ | ⟨hb5, h⟩
      · refine TS_know 18 (b := true) hb5 (by kernel_rfl) (by kernel_rfl) ?_
        refine TS_T (by kernel_rfl) rfl ?_
        refine TS_go 6 ?_
        replace h := bindO h
        obtain ⟨e6, he6, h⟩ := h
        refine TS_idx S_Diagnostic.cs he6 (by kernel_rfl) (by kernel_rfl) ?_
        refine TS_go 9 ?_
        replace h := bindO h
        obtain ⟨e7, he7, h⟩ := h
        refine TS_idx S_Diagnostic.cs he7 (by kernel_rfl) (by kernel_rfl) ?_
        refine TS_go 9 ?_
        replace h := bindO h
        obtain ⟨v8, hv8, h⟩ := h
        refine TS_call [] (ok_world_sameReport e6 e7 v8 hv8) (by kernel_rfl) (by kernel_rfl) ?_
        refine TS_go 2 ?_
        replace h := condO h
        rcases h with ⟨hb9, h⟩ | ⟨hb9, h⟩
        · subst hb9
          refine TS_F (by kernel_rfl) rfl ?_
          refine TS_go 6 ?_
          obtain rfl := Option.some.inj h
          exact TS_againB _ ⟨[(1, []), (2, []), (15, []), (16, []), (17, [])], []⟩ rfl (by kernel_rfl) (by kernel_rfl)
        · subst hb9
          refine TS_T (by kernel_rfl) rfl ?_
          refine TS_go 7 ?_
          obtain rfl := Option.some.inj h
          have hy1q := hy1 _ rfl
          subst hy1q
          replace h := (elimR hK1)
          refine TS_retB rfl (by kernel_rfl) ?_
          refine TS_go 2 ?_
          obtain rfl := Option.some.inj h
          exact TS_ret (by kernel_rfl) (by kernel_rfl) (by kernel_rfl)
      · refine TS_know 18 (b := false) hb5 (by kernel_rfl) (by kernel_rfl) ?_
        refine TS_F (by kernel_rfl) rfl ?_
        refine TS_go 2 ?_
        obtain rfl := Option.some.inj h
        exact TS_brkB () ⟨[], []⟩ rfl (by kernel_rfl) (by kernel_rfl) (by kernel_rfl)
    · intro b3 hb
      subst y4
      have h := elimL hK1
      refine TS_go 6 ?_
      obtain rfl := Option.some.inj h
      exact TS_ret (by kernel_rfl) (by kernel_rfl) (by kernel_rfl)

/-- multihop/multihopworld.SameReports -/
noncomputable def F_world_SameReports (a0 : List S_Diagnostic) (a1 : List S_Diagnostic) : Option (Bool) :=
  (F_slices_EqualFunc_api_Diagnostic_api_Diagnostic_api_Diagnostic_api_Diagnostic_F572 a0 a1).bind fun v1 =>
  some (v1)
set_option maxRecDepth 100000 in
set_option maxHeartbeats 40000000 in
theorem ok_world_SameReports (a0 : List S_Diagnostic) (a1 : List S_Diagnostic) (r : Bool) (h : F_world_SameReports a0 a1 = some r) : Con Try.prog 27 [.c (eS 3 S_Diagnostic.cs (a0)), .c (eS 3 S_Diagnostic.cs (a1))] [] (.c (.lit (.bool (r)))) [] := by
  unfold F_world_SameReports at h
  refine con_of [] [] 8 Try.func27 rfl rfl (by kernel_rfl) (fun K => ?_)
  refine TS_go 8 ?_
  replace h := bindO h
  obtain ⟨v1, hv1, h⟩ := h
  refine TS_call [] (ok_slices_EqualFunc_api_Diagnostic_api_Diagnostic_api_Diagnostic_api_Diagnostic_F572 a0 a1 v1 hv1) (by kernel_rfl) (by kernel_rfl) ?_
  refine TS_go 3 ?_
  obtain rfl := Option.some.inj h
  exact TS_ret (by kernel_rfl) (by kernel_rfl) (by kernel_rfl)

/-- multihop/multihoplaw39.ReportsJoin -/
noncomputable def F_law39_ReportsJoin (a0 : List Int) : Option (Bool) :=
  (F_made_New a0).bind fun v1 =>
  (F_world_Reports v1).bind fun v2 =>
  (F_world_Reports v2.2).bind fun v3 =>
  (F_world_Reports v3.2).bind fun v4 =>
  (F_management_Merge v2.1 v3.1).bind fun v5 =>
  (F_management_Merge v3.1 v2.1).bind fun v6 =>
  (F_management_Merge v3.1 v4.1).bind fun v7 =>
  (F_management_Merge v5.1 v4.1).bind fun v8 =>
  (F_management_Merge v2.1 v7.1).bind fun v9 =>
  (F_management_Merge v2.1 v2.1).bind fun v10 =>
  bif (v5.2 != 0) then
    some (false)
  else
    bif (v6.2 != 0) then
      some (false)
    else
      bif (v7.2 != 0) then
        some (false)
      else
        bif (v8.2 != 0) then
          some (false)
        else
          bif (v9.2 != 0) then
            some (false)
          else
            bif (v10.2 != 0) then
              some (false)
            else
              (F_world_SameReports v5.1 v6.1).bind fun v17 =>
              bif v17 then
                (F_world_SameReports v8.1 v9.1).bind fun v19 =>
                bif v19 then
                  (F_world_SameReports v10.1 v2.1).bind fun v21 =>
                  bif v21 then
                    (F_law39_known ).bind fun v23 =>
                    some (v23)
                  else
                    some (false)
                else
                  some (false)
              else
                some (false)
set_option maxRecDepth 100000 in
set_option maxHeartbeats 40000000 in
theorem ok_law39_ReportsJoin (a0 : List Int) (r : Bool) (h : F_law39_ReportsJoin a0 = some r) : Con Try.prog 6 [.c (eS 1 (ecI .i64) (a0))] [] (.c (.lit (.bool (r)))) [] := by
  unfold F_law39_ReportsJoin at h
  refine con_of [] [] 101 Try.func6 rfl rfl (by kernel_rfl) (fun K => ?_)
  refine TS_go 7 ?_
  replace h := bindO h
  obtain ⟨v1, hv1, h⟩ := h
  refine TS_con [] [(20, 10)] none (ok_made_New a0 v1 hv1) (by kernel_rfl) (by kernel_rfl) (by kernel_rfl) ?_
  refine TS_go 5 ?_
  replace h := bindO h
  obtain ⟨v2, hv2, h⟩ := h
  refine TS_con [] [(22, 900000)] (some (20, 0)) (okT_world_Reports v1 v2 hv2) (by kernel_rfl) (by kernel_rfl) (by kernel_rfl) ?_
  refine TS_go 1 ?_
  replace h := bindO h
  obtain ⟨v3, hv3, h⟩ := h
  refine TS_con [] [(24, 900000)] (some (20, 0)) (okT_world_Reports v2.2 v3 hv3) (by kernel_rfl) (by kernel_rfl) (by kernel_rfl) ?_
  refine TS_go 1 ?_
  replace h := bindO h
  obtain ⟨v4, hv4, h⟩ := h
  refine TS_con [] [(26, 900000)] (some (20, 0)) (okT_world_Reports v3.2 v4 hv4) (by kernel_rfl) (by kernel_rfl) (by kernel_rfl) ?_
  refine TS_go 8 ?_
  replace h := bindO h
  obtain ⟨v5, hv5, h⟩ := h
  refine TS_call [[4], [4]] (ok_management_Merge v2.1 v3.1 v5 hv5) (by kernel_rfl) (by kernel_rfl) ?_
  refine TS_go 10 ?_
  replace h := bindO h
  obtain ⟨v6, hv6, h⟩ := h
  refine TS_call [[4], [4]] (ok_management_Merge v3.1 v2.1 v6 hv6) (by kernel_rfl) (by kernel_rfl) ?_
  refine TS_go 10 ?_
  replace h := bindO h
  obtain ⟨v7, hv7, h⟩ := h
  refine TS_call [[4], [4]] (ok_management_Merge v3.1 v4.1 v7 hv7) (by kernel_rfl) (by kernel_rfl) ?_
  refine TS_go 10 ?_
  replace h := bindO h
  obtain ⟨v8, hv8, h⟩ := h
  refine TS_call [[], [4]] (ok_management_Merge v5.1 v4.1 v8 hv8) (by kernel_rfl) (by kernel_rfl) ?_
  refine TS_go 10 ?_
  replace h := bindO h
  obtain ⟨v9, hv9, h⟩ := h
  refine TS_call [[4]] (ok_management_Merge v2.1 v7.1 v9 hv9) (by kernel_rfl) (by kernel_rfl) ?_
  refine TS_go 10 ?_
  replace h := bindO h
  obtain ⟨v10, hv10, h⟩ := h
  refine TS_call [[4], [4]] (ok_management_Merge v2.1 v2.1 v10 hv10) (by kernel_rfl) (by kernel_rfl) ?_
  refine TS_go 12 ?_
  replace h := condO h
  rcases h with ⟨hb11, h⟩ | ⟨hb11, h⟩
  · refine TS_know 64 (b := true) hb11 (by kernel_rfl) (by kernel_rfl) ?_
    refine TS_know 65 (b := true) hb11 (by kernel_rfl) (by kernel_rfl) ?_
    refine TS_go 20 ?_
    refine TS_T (by kernel_rfl) rfl ?_
    refine TS_go 6 ?_
    obtain rfl := Option.some.inj h
    exact TS_ret (by kernel_rfl) (by kernel_rfl) (by kernel_rfl)
  · refine TS_know 64 (b := false) hb11 (by kernel_rfl) (by kernel_rfl) ?_
    refine TS_know 65 (b := false) hb11 (by kernel_rfl) (by kernel_rfl) ?_
    refine TS_go 4 ?_
    replace h := condO h
    rcases h with ⟨hb12, h⟩ | ⟨hb12, h⟩
    · refine TS_know 67 (b := true) hb12 (by kernel_rfl) (by kernel_rfl) ?_
      refine TS_know 68 (b := true) hb12 (by kernel_rfl) (by kernel_rfl) ?_
      refine TS_know 69 (b := true) hb12 (by kernel_rfl) (by kernel_rfl) ?_
      refine TS_go 16 ?_
      refine TS_T (by kernel_rfl) rfl ?_
      refine TS_go 6 ?_
      obtain rfl := Option.some.inj h
      exact TS_ret (by kernel_rfl) (by kernel_rfl) (by kernel_rfl)
    · refine TS_know 67 (b := false) hb12 (by kernel_rfl) (by kernel_rfl) ?_
      refine TS_know 68 (b := false) hb12 (by kernel_rfl) (by kernel_rfl) ?_
      refine TS_know 69 (b := false) hb12 (by kernel_rfl) (by kernel_rfl) ?_
      refine TS_go 4 ?_
      replace h := condO h
      rcases h with ⟨hb13, h⟩ | ⟨hb13, h⟩
      · refine TS_know 71 (b := true) hb13 (by kernel_rfl) (by kernel_rfl) ?_
        refine TS_know 72 (b := true) hb13 (by kernel_rfl) (by kernel_rfl) ?_
        refine TS_know 73 (b := true) hb13 (by kernel_rfl) (by kernel_rfl) ?_
        refine TS_go 12 ?_
        refine TS_T (by kernel_rfl) rfl ?_
        refine TS_go 6 ?_
        obtain rfl := Option.some.inj h
        exact TS_ret (by kernel_rfl) (by kernel_rfl) (by kernel_rfl)
      · refine TS_know 71 (b := false) hb13 (by kernel_rfl) (by kernel_rfl) ?_
        refine TS_know 72 (b := false) hb13 (by kernel_rfl) (by kernel_rfl) ?_
        refine TS_know 73 (b := false) hb13 (by kernel_rfl) (by kernel_rfl) ?_
        refine TS_go 4 ?_
        replace h := condO h
        rcases h with ⟨hb14, h⟩ | ⟨hb14, h⟩
        · refine TS_know 75 (b := true) hb14 (by kernel_rfl) (by kernel_rfl) ?_
          refine TS_know 76 (b := true) hb14 (by kernel_rfl) (by kernel_rfl) ?_
          refine TS_know 77 (b := true) hb14 (by kernel_rfl) (by kernel_rfl) ?_
          refine TS_go 8 ?_
          refine TS_T (by kernel_rfl) rfl ?_
          refine TS_go 6 ?_
          obtain rfl := Option.some.inj h
          exact TS_ret (by kernel_rfl) (by kernel_rfl) (by kernel_rfl)
        · refine TS_know 75 (b := false) hb14 (by kernel_rfl) (by kernel_rfl) ?_
          refine TS_know 76 (b := false) hb14 (by kernel_rfl) (by kernel_rfl) ?_
          refine TS_know 77 (b := false) hb14 (by kernel_rfl) (by kernel_rfl) ?_
          refine TS_go 4 ?_
          replace h := condO h
          rcases h with ⟨hb15, h⟩ | ⟨hb15, h⟩
          · refine TS_know 79 (b := true) hb15 (by kernel_rfl) (by kernel_rfl) ?_
            refine TS_know 80 (b := true) hb15 (by kernel_rfl) (by kernel_rfl) ?_
            refine TS_know 81 (b := true) hb15 (by kernel_rfl) (by kernel_rfl) ?_
            refine TS_go 4 ?_
            refine TS_T (by kernel_rfl) rfl ?_
            refine TS_go 6 ?_
            obtain rfl := Option.some.inj h
            exact TS_ret (by kernel_rfl) (by kernel_rfl) (by kernel_rfl)
          · refine TS_know 79 (b := false) hb15 (by kernel_rfl) (by kernel_rfl) ?_
            refine TS_know 80 (b := false) hb15 (by kernel_rfl) (by kernel_rfl) ?_
            refine TS_know 81 (b := false) hb15 (by kernel_rfl) (by kernel_rfl) ?_
            refine TS_go 4 ?_
            replace h := condO h
            rcases h with ⟨hb16, h⟩ | ⟨hb16, h⟩
            · refine TS_know 83 (b := true) hb16 (by kernel_rfl) (by kernel_rfl) ?_
              refine TS_know 84 (b := true) hb16 (by kernel_rfl) (by kernel_rfl) ?_
              refine TS_T (by kernel_rfl) rfl ?_
              refine TS_go 6 ?_
              obtain rfl := Option.some.inj h
              exact TS_ret (by kernel_rfl) (by kernel_rfl) (by kernel_rfl)
            · refine TS_know 83 (b := false) hb16 (by kernel_rfl) (by kernel_rfl) ?_
              refine TS_know 84 (b := false) hb16 (by kernel_rfl) (by kernel_rfl) ?_
              refine TS_F (by kernel_rfl) rfl ?_
              refine TS_go 5 ?_
              replace h := bindO h
              obtain ⟨v17, hv17, h⟩ := h
              refine TS_call [] (ok_world_SameReports v5.1 v6.1 v17 hv17) (by kernel_rfl) (by kernel_rfl) ?_
              refine TS_go 1 ?_
              replace h := condO h
              rcases h with ⟨hb18, h⟩ | ⟨hb18, h⟩
              · subst hb18
                refine TS_go 2 ?_
                replace h := bindO h
                obtain ⟨v19, hv19, h⟩ := h
                refine TS_call [] (ok_world_SameReports v8.1 v9.1 v19 hv19) (by kernel_rfl) (by kernel_rfl) ?_
                refine TS_go 2 ?_
                replace h := condO h
                rcases h with ⟨hb20, h⟩ | ⟨hb20, h⟩
                · subst hb20
                  refine TS_go 2 ?_
                  replace h := bindO h
                  obtain ⟨v21, hv21, h⟩ := h
                  refine TS_call [[], [4]] (ok_world_SameReports v10.1 v2.1 v21 hv21) (by kernel_rfl) (by kernel_rfl) ?_
                  refine TS_go 2 ?_
                  replace h := condO h
                  rcases h with ⟨hb22, h⟩ | ⟨hb22, h⟩
                  · subst hb22
                    replace h := bindO h
                    obtain ⟨v23, hv23, h⟩ := h
                    refine TS_call [] (ok_law39_known  v23 hv23) (by kernel_rfl) (by kernel_rfl) ?_
                    refine TS_go 4 ?_
                    obtain rfl := Option.some.inj h
                    exact TS_ret (by kernel_rfl) (by kernel_rfl) (by kernel_rfl)
                  · subst hb22
                    refine TS_go 5 ?_
                    obtain rfl := Option.some.inj h
                    exact TS_ret (by kernel_rfl) (by kernel_rfl) (by kernel_rfl)
                · subst hb20
                  refine TS_go 10 ?_
                  obtain rfl := Option.some.inj h
                  exact TS_ret (by kernel_rfl) (by kernel_rfl) (by kernel_rfl)
              · subst hb18
                refine TS_go 15 ?_
                obtain rfl := Option.some.inj h
                exact TS_ret (by kernel_rfl) (by kernel_rfl) (by kernel_rfl)

/-- multihop/multihoplaw39.small -/
noncomputable def F_law39_small_l1 (a0 : List S_Diagnostic) (s1 : Int × Int) : Option ((Int × Int) ⊕ (Int)) :=
  bif (decide (s1.2 < (List.length a0 : Int))) then
    (idx a0 s1.2).bind fun e5 =>
    some (Sum.inl (IntKind.wrap .i64 (s1.1 + (iquo .i64 (List.length e5.Data : Int) 8)), IntKind.wrap .i64 (s1.2 + 1)))
  else
    some (Sum.inr s1.1)
noncomputable def F_law39_small (a0 : List S_Diagnostic) : Option (Bool) :=
  (loopO (F_law39_small_l1 a0) ((List.length a0 : Int), 0)).bind fun b2 =>
  some ((decide (b2 ≤ 200)))
set_option maxRecDepth 100000 in
set_option maxHeartbeats 40000000 in
theorem ok_law39_small (a0 : List S_Diagnostic) (r : Bool) (h : F_law39_small a0 = some r) : Con Try.prog 28 [.c (eS 3 S_Diagnostic.cs (a0))] [] (.c (.lit (.bool (r)))) [] := by
  unfold F_law39_small at h
  refine con_of [] [] 23 Try.func28 rfl rfl (by kernel_rfl) (fun K => ?_)
  refine TS_go 18 ?_
  refine TS_cut ⟨[(3, []), (8, []), (9, []), (10, [])], []⟩ (.mk [.code (codeAt [1, 1, 0, 1, 0] (bodyOf Try.f28)), .blk 0, .code (codeAt [1, 1, 1] (bodyOf Try.f28))] .normal ⟨[(3, .c (.lit (.int .i64 ((List.length a0 : Int))))), (8, .c (.slc 3 0 (List.length a0) (List.map S_Diagnostic.cs a0))), (9, .c (.lit (.int .i64 ((List.length a0 : Int))))), (10, .c (.lit (.int .i64 (0))))], []⟩) (by kernel_rfl) (by kernel_rfl) ?_
  replace h := bindO h
  obtain ⟨y3, hl1, hK1⟩ := h
  refine TS_loopB (F_law39_small_l1 a0) ⟨[(3, []), (8, []), (9, []), (10, [])], []⟩ (fun (s1 : Int × Int) => [(3, .c (.lit (.int .i64 (s1.1)))), (10, .c (.lit (.int .i64 (s1.2))))]) (fun (s1 : Int × Int) => []) ((List.length a0 : Int), 0) y3 (.exit 0) (fun (b : Int) => b) ⟨[(3, [])], []⟩ (fun (b2 : Int) => [(3, .c (.lit (.int .i64 (b2))))]) (fun (b2 : Int) => []) hl1 (by kernel_rfl) (by kernel_rfl) ?_ ?_
  · intro s1 x h hy1
    unfold F_law39_small_l1 at h
    refine TS_go 5 ?_
    replace h := condO h
    rcases h with ⟨hb4, h⟩ | ⟨hb4, h⟩
    · refine TS_know 11 (b := true) hb4 (by kernel_rfl) (by kernel_rfl) ?_
      refine TS_T (by kernel_rfl) rfl ?_
      refine TS_go 5 ?_
      replace h := bindO h
      obtain ⟨e5, he5, h⟩ := h
      refine TS_idx S_Diagnostic.cs he5 (by kernel_rfl) (by kernel_rfl) ?_
      refine TS_go 18 ?_
      obtain rfl := Option.some.inj h
      exact TS_againB _ ⟨[(3, []), (8, []), (9, []), (10, [])], []⟩ rfl (by kernel_rfl) (by kernel_rfl)
    · refine TS_know 11 (b := false) hb4 (by kernel_rfl) (by kernel_rfl) ?_
      refine TS_F (by kernel_rfl) rfl ?_
      refine TS_go 2 ?_
      obtain rfl := Option.some.inj h
      exact TS_brkB s1.1 ⟨[(3, [])], []⟩ rfl (by kernel_rfl) (by kernel_rfl) (by kernel_rfl)
  · intro b2 hb
    subst y3
    have h := hK1
    refine TS_go 8 ?_
    obtain rfl := Option.some.inj h
    exact TS_ret (by kernel_rfl) (by kernel_rfl) (by kernel_rfl)

/-- slices.Clone[[]multihop/api.Diagnosticmultihop/api.Diagnostic] -/
noncomputable def F_slices_Clone_api_Diagnostic_api_Diagnostic (a0 : List S_Diagnostic) : Option ((List S_Diagnostic)) :=
  (appO 40 ([] : List S_Diagnostic) (Cut.app .whole a0)).bind fun l1 =>
  some (l1)
set_option maxRecDepth 100000 in
set_option maxHeartbeats 40000000 in
theorem okT_slices_Clone_api_Diagnostic_api_Diagnostic (a0 : List S_Diagnostic) (r : (List S_Diagnostic)) (h : F_slices_Clone_api_Diagnostic_api_Diagnostic a0 = some r) : Con Try.prog 58 [.c (eS 3 S_Diagnostic.cs (a0))] [] (.c (.slc 3 900002 (List.length r) (List.map S_Diagnostic.cs r))) [(900000, .spare 56 3 (List.length r))] := by
  unfold F_slices_Clone_api_Diagnostic_api_Diagnostic at h
  refine con_of [] [(900000, [])] 8 Try.func58 rfl rfl (by kernel_rfl) (fun K => ?_)
  refine TS_go 8 ?_
  refine TS_eqN (xs := List.map S_Diagnostic.cs a0) (by kernel_rfl) (by kernel_rfl) ?_ ?_
  · intro hx
    have hx := List.map_eq_nil_iff.1 hx
    subst hx
    replace h : (some (([] : List S_Diagnostic))) = some r := by simpa [appO, Cut.app] using h
    refine TS_go 1 ?_
    refine TS_T (by kernel_rfl) rfl ?_
    refine TS_go 4 ?_
    refine TS_nilT 2 600000 56 3 (by kernel_rfl) ?_
    refine TS_fitU ⟨[(2, [])], [(600000, (900000, []))]⟩ (by kernel_rfl) ?_
    refine TS_go 2 ?_
    obtain rfl := Option.some.inj h
    exact TS_ret (by kernel_rfl) (by kernel_rfl) (by kernel_rfl)
  · refine TS_go 1 ?_
    refine TS_F (by kernel_rfl) rfl ?_
    refine TS_go 3 ?_
    refine TS_litNT 5 56 3 S_Diagnostic.cs [0, 0, 2] ([] : List S_Diagnostic) (by kernel_rfl) (by kernel_rfl) ?_
    refine TS_go 1 ?_
    replace h := bindO h
    obtain ⟨l1, hl1, h⟩ := h
    refine TS_appT (d := 5) (e := 56) (sz := 3) (N := List.length ([] : List S_Diagnostic)) S_Diagnostic.cs (fun _ => by kernel_rfl) (l1 := ([] : List S_Diagnostic)) (l2 := a0) (c := .whole) hl1 (by kernel_rfl) (by kernel_rfl) ?_
    refine TS_go 2 ?_
    refine TS_fitU ⟨[(2, [])], [(5, (900000, []))]⟩ (by kernel_rfl) ?_
    refine TS_go 1 ?_
    obtain rfl := Option.some.inj h
    exact TS_ret (by kernel_rfl) (by kernel_rfl) (by kernel_rfl)
theorem ok_slices_Clone_api_Diagnostic_api_Diagnostic (a0 : List S_Diagnostic) (r : (List S_Diagnostic)) (h : F_slices_Clone_api_Diagnostic_api_Diagnostic a0 = some r) : Con Try.prog 58 [.c (eS 3 S_Diagnostic.cs (a0))] [] (.c (eS 3 S_Diagnostic.cs (r))) [] :=
  con_drop [[4]] [] (okT_slices_Clone_api_Diagnostic_api_Diagnostic a0 r h) (by kernel_rfl) (by kernel_rfl) (by kernel_rfl)

/-- slices.Clone[[]multihop/api.Diagnosticmultihop/api.Diagnostic] -/
noncomputable def F_slices_Clone_api_Diagnostic_api_Diagnostic_R (a0 : List S_Diagnostic) : Option ((List S_Diagnostic)) :=
  (appO 40 (List.take (List.length ([] : List S_Diagnostic)) ([] : List S_Diagnostic)) (Cut.app .whole a0)).bind fun l1 =>
  some (l1)
set_option maxRecDepth 100000 in
set_option maxHeartbeats 40000000 in
theorem okT_slices_Clone_api_Diagnostic_api_Diagnostic_R (a0 : List S_Diagnostic) (r : (List S_Diagnostic)) (h : F_slices_Clone_api_Diagnostic_api_Diagnostic_R a0 = some r) : Con Try.prog 58 [.c (eS 3 S_Diagnostic.cs (a0))] [] (.c (.own 900000)) [(900000, .row 56 3 (List.length r) (List.map S_Diagnostic.cs r))] := by
  unfold F_slices_Clone_api_Diagnostic_api_Diagnostic_R at h
  refine con_of [] [(900000, [])] 8 Try.func58 rfl rfl (by kernel_rfl) (fun K => ?_)
  refine TS_go 8 ?_
  refine TS_eqN (xs := List.map S_Diagnostic.cs a0) (by kernel_rfl) (by kernel_rfl) ?_ ?_
  · intro hx
    have hx := List.map_eq_nil_iff.1 hx
    subst hx
    replace h : (some (([] : List S_Diagnostic))) = some r := by simpa [appO, Cut.app] using h
    refine TS_go 1 ?_
    refine TS_T (by kernel_rfl) rfl ?_
    refine TS_go 4 ?_
    refine TS_nilR 2 600000 56 3 (by kernel_rfl) ?_
    refine TS_fitU ⟨[(2, [])], [(600000, (900000, []))]⟩ (by kernel_rfl) ?_
    refine TS_go 2 ?_
    obtain rfl := Option.some.inj h
    exact TS_ret (by kernel_rfl) (by kernel_rfl) (by kernel_rfl)
  · refine TS_go 1 ?_
    refine TS_F (by kernel_rfl) rfl ?_
    refine TS_go 3 ?_
    refine TS_litNR 5 56 3 S_Diagnostic.cs [0, 0, 2] ([] : List S_Diagnostic) (by kernel_rfl) (by kernel_rfl) ?_
    refine TS_go 1 ?_
    replace h := bindO h
    obtain ⟨l1, hl1, h⟩ := h
    refine TS_appR (d := 5) (e := 56) (sz := 3) (N := List.length ([] : List S_Diagnostic)) (m := (List.length ([] : List S_Diagnostic))) S_Diagnostic.cs (fun _ => by kernel_rfl) (l1 := ([] : List S_Diagnostic)) (l2 := a0) (c := .whole) hl1 (by kernel_rfl) (by kernel_rfl) ?_
    refine TS_go 2 ?_
    refine TS_fitU ⟨[(2, [])], [(5, (900000, []))]⟩ (by kernel_rfl) ?_
    refine TS_go 1 ?_
    obtain rfl := Option.some.inj h
    exact TS_ret (by kernel_rfl) (by kernel_rfl) (by kernel_rfl)

/-- multihop/multihoplaw39.spoiled -/
noncomputable def F_law39_spoiled_j1  (v4 : S_multihopmade_Tape × (List S_Diagnostic)) : Option ((List S_Diagnostic) × S_multihopmade_Tape) :=
  some ((v4.2, v4.1))
noncomputable def F_law39_spoiled (a0 : S_multihopmade_Tape) (a1 : List S_Diagnostic) : Option ((List S_Diagnostic) × S_multihopmade_Tape) :=
  (F_slices_Clone_api_Diagnostic_api_Diagnostic_R a1).bind fun v1 =>
  (appO 40 (List.take (List.length v1) v1) (Cut.app .whole ([(S_Diagnostic.mk 99 0 ([] : List Int))] : List S_Diagnostic))).bind fun l2 =>
  (idx (Cut.app .whole l2) (IntKind.wrap .i64 ((List.length l2 : Int) - 1))).bind fun e3 =>
  (F_made_Tape_Next a0 4).bind fun v5 =>
  bif (v5.1 == 0) then
    (l2[(0 + Int.toNat (IntKind.wrap .i64 ((List.length l2 : Int) - 1)))]?).bind fun e7 =>
    (F_law39_spoiled_j1) (v5.2, (List.set l2 (0 + Int.toNat (IntKind.wrap .i64 ((List.length l2 : Int) - 1))) (S_Diagnostic.mk 0 e7.Number e7.Data)))
  else
    bif (v5.1 == 1) then
      (l2[(0 + Int.toNat (IntKind.wrap .i64 ((List.length l2 : Int) - 1)))]?).bind fun e9 =>
      (F_law39_spoiled_j1) (v5.2, (List.set l2 (0 + Int.toNat (IntKind.wrap .i64 ((List.length l2 : Int) - 1))) (S_Diagnostic.mk e9.Node (-1) e9.Data)))
    else
      bif (v5.1 == 2) then
        (mkO 1 65 65).bind fun n11 =>
        (l2[(0 + Int.toNat (IntKind.wrap .i64 ((List.length l2 : Int) - 1)))]?).bind fun e12 =>
        (F_law39_spoiled_j1) (v5.2, (List.set l2 (0 + Int.toNat (IntKind.wrap .i64 ((List.length l2 : Int) - 1))) (S_Diagnostic.mk e12.Node e12.Number (List.replicate n11 (0 : Int)))))
      else
        (l2[(0 + Int.toNat (IntKind.wrap .i64 ((List.length l2 : Int) - 1)))]?).bind fun e13 =>
        (appO 40 (List.take (List.length l2) l2) (Cut.app .whole ([e13] : List S_Diagnostic))).bind fun l14 =>
        (F_law39_spoiled_j1) (v5.2, l14)
set_option maxRecDepth 100000 in
set_option maxHeartbeats 40000000 in
theorem okT_law39_spoiled (a0 : S_multihopmade_Tape) (a1 : List S_Diagnostic) (r : (List S_Diagnostic) × S_multihopmade_Tape) (h : F_law39_spoiled a0 a1 = some r) : Con Try.prog 31 [.c (.box 1000000 0), .c (eS 3 S_Diagnostic.cs (a1))] [(1000000, .box (S_multihopmade_Tape.cs a0))] (.c (.slc 3 900002 (List.length r.1) (List.map S_Diagnostic.cs r.1))) [(1000000, .box (S_multihopmade_Tape.cs r.2)), (900000, .spare 56 3 (List.length r.1))] := by
  unfold F_law39_spoiled at h
  refine con_of [] [(1000000, [2]), (900000, [])] 42 Try.func31 rfl rfl (by kernel_rfl) (fun K => ?_)
  refine TS_go 7 ?_
  replace h := bindO h
  obtain ⟨v1, hv1, h⟩ := h
  refine TS_con [] [(8, 900000)] none (okT_slices_Clone_api_Diagnostic_api_Diagnostic_R a1 v1 hv1) (by kernel_rfl) (by kernel_rfl) (by kernel_rfl) ?_
  refine TS_go 1 ?_
  refine TS_litNT 10 56 3 S_Diagnostic.cs [0, 0, 2] ([(S_Diagnostic.mk 99 0 ([] : List Int))] : List S_Diagnostic) (by kernel_rfl) (by kernel_rfl) ?_
  replace h := bindO h
  obtain ⟨l2, hl2, h⟩ := h
  refine TS_appR (d := 8) (e := 56) (sz := 3) (N := List.length v1) (m := (List.length v1)) S_Diagnostic.cs (fun _ => by kernel_rfl) (l1 := v1) (l2 := ([(S_Diagnostic.mk 99 0 ([] : List Int))] : List S_Diagnostic)) (c := .whole) hl2 (by kernel_rfl) (by kernel_rfl) ?_
  refine TS_go 8 ?_
  replace h := bindO h
  obtain ⟨e3, he3, h⟩ := h
  refine TS_idxR 8 3 0 S_Diagnostic.cs .whole he3 (by kernel_rfl) (by kernel_rfl) ?_
  refine TS_go 2 ?_
  refine TS_cut ⟨[(0, []), (5, []), (6, [])], [(1000000, (1000000, [])), (8, (8, []))]⟩ (.mk [.code (codeAt [1, 1, 1] (bodyOf Try.f31))] .normal ⟨[(0, .c (.box 1000000 0)), (5, .c (.own 8)), (6, .c (.elt 8 3 (0 + Int.toNat (IntKind.wrap .i64 ((List.length l2 : Int) - 1))) 0))], [(1000000, .box [.slc 1 0 (List.length a0.l) (List.map (ecI .i64) a0.l), .lit (.int .i64 (a0.at_))]), (8, .row 56 3 (List.length l2) (List.map S_Diagnostic.cs l2))]⟩) (by kernel_rfl) (by kernel_rfl) ?_
  refine TS_joinB ⟨[(5, [])], [(1000000, (1000000, [])), (8, (8, []))]⟩ (fun (v4 : S_multihopmade_Tape × (List S_Diagnostic)) => []) (fun (v4 : S_multihopmade_Tape × (List S_Diagnostic)) => [(1000000, .box (S_multihopmade_Tape.cs v4.1)), (8, .row 56 3 (List.length v4.2) (List.map S_Diagnostic.cs v4.2))]) (F_law39_spoiled_j1) r ?_ ?_
  · clear h
    intro v4 h
    unfold F_law39_spoiled_j1 at h
    refine TS_go 5 ?_
    refine TS_settle 8 (by kernel_rfl) ?_
    refine TS_fitU ⟨[(4, [])], [(8, (900000, [])), (1000000, (1000000, []))]⟩ (by kernel_rfl) ?_
    refine TS_go 1 ?_
    obtain rfl := Option.some.inj h
    exact TS_ret (by kernel_rfl) (by kernel_rfl) (by kernel_rfl)
  · refine TS_go 3 ?_
    replace h := bindO h
    obtain ⟨v5, hv5, h⟩ := h
    refine TS_con [] [] (some (1000000, 0)) (ok_made_Tape_Next a0 4 v5 hv5) (by kernel_rfl) (by kernel_rfl) (by kernel_rfl) ?_
    refine TS_go 7 ?_
    replace h := condO h
    rcases h with ⟨hb6, h⟩ | ⟨hb6, h⟩
    · refine TS_know 26 (b := true) hb6 (by kernel_rfl) (by kernel_rfl) ?_
      refine TS_know 25 (b := true) hb6 (by kernel_rfl) (by kernel_rfl) ?_
      refine TS_T (by kernel_rfl) rfl ?_
      refine TS_go 2 ?_
      refine TS_nc 8 3 (0 + Int.toNat (IntKind.wrap .i64 ((List.length l2 : Int) - 1))) 0 (by kernel_rfl) (by kernel_rfl) ?_
      refine TS_go 1 ?_
      replace h := bindO h
      obtain ⟨e7, he7, h⟩ := h
      refine TS_stE 8 56 3 (List.length l2) (0 + Int.toNat (IntKind.wrap .i64 ((List.length l2 : Int) - 1))) 0 S_Diagnostic.cs (ds := [.lit (.int .u64 (0))]) (S_Diagnostic.mk 0 e7.Number e7.Data) he7 (by kernel_rfl) (by kernel_rfl) (by kernel_rfl) (by kernel_rfl) ?_
      refine TS_go 2 ?_
      exact TS_meet (v5.2, (List.set l2 (0 + Int.toNat (IntKind.wrap .i64 ((List.length l2 : Int) - 1))) (S_Diagnostic.mk 0 e7.Number e7.Data))) ⟨[(5, [])], [(1000000, (1000000, [])), (8, (8, []))]⟩ h (by kernel_rfl) (by kernel_rfl)
    · refine TS_know 26 (b := false) hb6 (by kernel_rfl) (by kernel_rfl) ?_
      refine TS_know 25 (b := false) hb6 (by kernel_rfl) (by kernel_rfl) ?_
      refine TS_F (by kernel_rfl) rfl ?_
      refine TS_go 5 ?_
      replace h := condO h
      rcases h with ⟨hb8, h⟩ | ⟨hb8, h⟩
      · refine TS_know 31 (b := true) hb8 (by kernel_rfl) (by kernel_rfl) ?_
        refine TS_know 30 (b := true) hb8 (by kernel_rfl) (by kernel_rfl) ?_
        refine TS_T (by kernel_rfl) rfl ?_
        refine TS_go 2 ?_
        refine TS_nc 8 3 (0 + Int.toNat (IntKind.wrap .i64 ((List.length l2 : Int) - 1))) 0 (by kernel_rfl) (by kernel_rfl) ?_
        refine TS_go 1 ?_
        replace h := bindO h
        obtain ⟨e9, he9, h⟩ := h
        refine TS_stE 8 56 3 (List.length l2) (0 + Int.toNat (IntKind.wrap .i64 ((List.length l2 : Int) - 1))) 1 S_Diagnostic.cs (ds := [.lit (.int .i64 ((-1)))]) (S_Diagnostic.mk e9.Node (-1) e9.Data) he9 (by kernel_rfl) (by kernel_rfl) (by kernel_rfl) (by kernel_rfl) ?_
        refine TS_go 2 ?_
        exact TS_meet (v5.2, (List.set l2 (0 + Int.toNat (IntKind.wrap .i64 ((List.length l2 : Int) - 1))) (S_Diagnostic.mk e9.Node (-1) e9.Data))) ⟨[(5, [])], [(1000000, (1000000, [])), (8, (8, []))]⟩ h (by kernel_rfl) (by kernel_rfl)
      · refine TS_know 31 (b := false) hb8 (by kernel_rfl) (by kernel_rfl) ?_
        refine TS_know 30 (b := false) hb8 (by kernel_rfl) (by kernel_rfl) ?_
        refine TS_F (by kernel_rfl) rfl ?_
        refine TS_go 5 ?_
        replace h := condO h
        rcases h with ⟨hb10, h⟩ | ⟨hb10, h⟩
        · refine TS_know 36 (b := true) hb10 (by kernel_rfl) (by kernel_rfl) ?_
          refine TS_know 35 (b := true) hb10 (by kernel_rfl) (by kernel_rfl) ?_
          refine TS_T (by kernel_rfl) rfl ?_
          refine TS_go 2 ?_
          replace h := bindO h
          obtain ⟨n11, hn11, h⟩ := h
          refine TS_makeT 38 5 1 (ecI .u8) (0 : Int) [] (cs := [.lit (.int .u8 (0))]) (l := 65) (c := 65) hn11 (by kernel_rfl) (by kernel_rfl) (by kernel_rfl) ?_
          refine TS_nc 8 3 (0 + Int.toNat (IntKind.wrap .i64 ((List.length l2 : Int) - 1))) 0 (by kernel_rfl) (by kernel_rfl) ?_
          refine TS_go 1 ?_
          replace h := bindO h
          obtain ⟨e12, he12, h⟩ := h
          refine TS_stE 8 56 3 (List.length l2) (0 + Int.toNat (IntKind.wrap .i64 ((List.length l2 : Int) - 1))) 2 S_Diagnostic.cs (ds := [.slc 1 0 (List.length (List.replicate n11 (0 : Int))) (List.map (ecI .u8) (List.replicate n11 (0 : Int)))]) (S_Diagnostic.mk e12.Node e12.Number (List.replicate n11 (0 : Int))) he12 (by kernel_rfl) (by kernel_rfl) (by kernel_rfl) (by kernel_rfl) ?_
          refine TS_go 2 ?_
          exact TS_meet (v5.2, (List.set l2 (0 + Int.toNat (IntKind.wrap .i64 ((List.length l2 : Int) - 1))) (S_Diagnostic.mk e12.Node e12.Number (List.replicate n11 (0 : Int))))) ⟨[(5, [])], [(1000000, (1000000, [])), (8, (8, []))]⟩ h (by kernel_rfl) (by kernel_rfl)
        · refine TS_know 36 (b := false) hb10 (by kernel_rfl) (by kernel_rfl) ?_
          refine TS_know 35 (b := false) hb10 (by kernel_rfl) (by kernel_rfl) ?_
          refine TS_F (by kernel_rfl) rfl ?_
          refine TS_go 3 ?_
          refine TS_nc 8 3 (0 + Int.toNat (IntKind.wrap .i64 ((List.length l2 : Int) - 1))) 0 (by kernel_rfl) (by kernel_rfl) ?_
          replace h := bindO h
          obtain ⟨e13, he13, h⟩ := h
          refine TS_ldE 56 (0 + Int.toNat (IntKind.wrap .i64 ((List.length l2 : Int) - 1))) 0 S_Diagnostic.cs (v := .agg [.lit (.int .u64 (e13.Node)), .lit (.int .i64 (e13.Number)), .slc 1 0 (List.length e13.Data) (List.map (ecI .u8) e13.Data)]) he13 (by kernel_rfl) (by kernel_rfl) (by kernel_rfl) ?_
          refine TS_litNT 23 56 3 S_Diagnostic.cs [0, 0, 2] ([e13] : List S_Diagnostic) (by kernel_rfl) (by kernel_rfl) ?_
          replace h := bindO h
          obtain ⟨l14, hl14, h⟩ := h
          refine TS_appR (d := 8) (e := 56) (sz := 3) (N := List.length l2) (m := (List.length l2)) S_Diagnostic.cs (fun _ => by kernel_rfl) (l1 := l2) (l2 := ([e13] : List S_Diagnostic)) (c := .whole) hl14 (by kernel_rfl) (by kernel_rfl) ?_
          refine TS_go 3 ?_
          exact TS_meet (v5.2, l14) ⟨[(5, [])], [(1000000, (1000000, [])), (8, (8, []))]⟩ h (by kernel_rfl) (by kernel_rfl)
theorem ok_law39_spoiled (a0 : S_multihopmade_Tape) (a1 : List S_Diagnostic) (r : (List S_Diagnostic) × S_multihopmade_Tape) (h : F_law39_spoiled a0 a1 = some r) : Con Try.prog 31 [.c (.box 1000000 0), .c (eS 3 S_Diagnostic.cs (a1))] [(1000000, .box (S_multihopmade_Tape.cs a0))] (.c (eS 3 S_Diagnostic.cs (r.1))) [(1000000, .box (S_multihopmade_Tape.cs r.2))] :=
  con_drop [[4]] [(1000000, [])] (okT_law39_spoiled a0 a1 r h) (by kernel_rfl) (by kernel_rfl) (by kernel_rfl)

/-- multihop/multihoplaw39.ReportsMerge -/
noncomputable def F_law39_ReportsMerge_l2 (a0 : List S_Diagnostic) (a1 : List S_Diagnostic) (v8 : (List S_Diagnostic) × S_multihopmade_Tape) (v9 : (List S_Diagnostic) × S_multihopmade_Tape) (v13 : (List S_Diagnostic) × S_multihopmade_Tape) (e18 : List S_Diagnostic) (s19 : Int) : Option ((Int) ⊕ ((Unit) ⊕ (Bool))) :=
  bif (decide (s19 < (List.length ([a0, a1, v8.1, v9.1, v13.1] : List (List S_Diagnostic)) : Int))) then
    (idx ([a0, a1, v8.1, v9.1, v13.1] : List (List S_Diagnostic)) s19).bind fun e23 =>
    (F_management_Merge e18 e23).bind fun v24 =>
    (F_ref39_Merge e18 e23).bind fun v25 =>
    bif (v24.2 != v25.2) then
      some (Sum.inr (Sum.inr false))
    else
      (F_world_SameReports v24.1 v25.1).bind fun v27 =>
      bif v27 then
        bif (v24.2 == 0) then
          (F_management_ValidReports v24.1).bind fun v30 =>
          bif v30 then
            some (Sum.inl (IntKind.wrap .i64 (s19 + 1)))
          else
            some (Sum.inr (Sum.inr false))
        else
          some (Sum.inl (IntKind.wrap .i64 (s19 + 1)))
      else
        some (Sum.inr (Sum.inr false))
  else
    some (Sum.inr (Sum.inl ()))
noncomputable def F_law39_ReportsMerge_l3 (a2 : S_Diagnostic) (v10 : Int × S_multihopmade_Tape) (v11 : Int × S_multihopmade_Tape) (v12 : (List Int) × S_multihopmade_Tape) (e18 : List S_Diagnostic) (s33 : Int) : Option ((Int) ⊕ ((Unit) ⊕ (Bool))) :=
  bif (decide (s33 < (List.length ([a2, (S_Diagnostic.mk v10.1 v11.1 v12.1)] : List S_Diagnostic) : Int))) then
    (idx ([a2, (S_Diagnostic.mk v10.1 v11.1 v12.1)] : List S_Diagnostic) s33).bind fun e37 =>
    (F_management_Report e18 e37).bind fun v38 =>
    (F_ref39_Report e18 e37).bind fun v39 =>
    bif (v38.2 != v39.2) then
      some (Sum.inr (Sum.inr false))
    else
      (F_world_SameReports v38.1 v39.1).bind fun v41 =>
      bif v41 then
        some (Sum.inl (IntKind.wrap .i64 (s33 + 1)))
      else
        some (Sum.inr (Sum.inr false))
  else
    some (Sum.inr (Sum.inl ()))
noncomputable def F_law39_ReportsMerge_l1 (a0 : List S_Diagnostic) (a1 : List S_Diagnostic) (v8 : (List S_Diagnostic) × S_multihopmade_Tape) (v9 : (List S_Diagnostic) × S_multihopmade_Tape) (v13 : (List S_Diagnostic) × S_multihopmade_Tape) (a2 : S_Diagnostic) (v10 : Int × S_multihopmade_Tape) (v11 : Int × S_multihopmade_Tape) (v12 : (List Int) × S_multihopmade_Tape) (s14 : Int) : Option ((Int) ⊕ ((Unit) ⊕ (Bool))) :=
  bif (decide (s14 < (List.length ([a0, a1, v8.1, v9.1, v13.1] : List (List S_Diagnostic)) : Int))) then
    (idx ([a0, a1, v8.1, v9.1, v13.1] : List (List S_Diagnostic)) s14).bind fun e18 =>
    (loopO (F_law39_ReportsMerge_l2 a0 a1 v8 v9 v13 e18) 0).bind (Sum.elim (fun b20 =>
      (loopO (F_law39_ReportsMerge_l3 a2 v10 v11 v12 e18) 0).bind (Sum.elim (fun b34 =>
        (F_management_ValidReports e18).bind fun v44 =>
        (F_ref39_ValidReports e18).bind fun v45 =>
        bif (v44 == v45) then
          some (Sum.inl (IntKind.wrap .i64 (s14 + 1)))
        else
          some (Sum.inr (Sum.inr false))
      ) (fun w43 => some (Sum.inr (Sum.inr w43))))
    ) (fun w32 => some (Sum.inr (Sum.inr w32))))
  else
    some (Sum.inr (Sum.inl ()))
noncomputable def F_law39_ReportsMerge (a0 : List S_Diagnostic) (a1 : List S_Diagnostic) (a2 : S_Diagnostic) (a3 : List Int) : Option (Bool) :=
  (F_law39_small a0).bind fun v1 =>
  bif v1 then
    (F_law39_small a1).bind fun v3 =>
    bif v3 then
      bif (decide ((List.length a2.Data : Int) > 200)) then
        (F_law39_known ).bind fun v6 =>
        some (v6)
      else
        (F_made_New a3).bind fun v7 =>
        (F_world_Reports v7).bind fun v8 =>
        (F_world_Reports v8.2).bind fun v9 =>
        (F_world_EUI v9.2).bind fun v10 =>
        (F_made_Tape_Next v10.2 4).bind fun v11 =>
        (F_made_Tape_Bytes v11.2 6).bind fun v12 =>
        (F_law39_spoiled v12.2 v8.1).bind fun v13 =>
        (loopO (F_law39_ReportsMerge_l1 a0 a1 v8 v9 v13 a2 v10 v11 v12) 0).bind (Sum.elim (fun b15 =>
          (F_law39_known ).bind fun v48 =>
          some (v48)
        ) (fun w47 => some w47))
    else
      (F_law39_known ).bind fun v49 =>
      some (v49)
  else
    (F_law39_known ).bind fun v50 =>
    some (v50)
set_option maxRecDepth 100000 in
set_option maxHeartbeats 40000000 in
theorem ok_law39_ReportsMerge (a0 : List S_Diagnostic) (a1 : List S_Diagnostic) (a2 : S_Diagnostic) (a3 : List Int) (r : Bool) (h : F_law39_ReportsMerge a0 a1 a2 a3 = some r) : Con Try.prog 7 [.c (eS 3 S_Diagnostic.cs (a0)), .c (eS 3 S_Diagnostic.cs (a1)), .agg (S_Diagnostic.cs a2), .c (eS 1 (ecI .i64) (a3))] [] (.c (.lit (.bool (r)))) [] := by
  unfold F_law39_ReportsMerge at h
  refine con_of [] [] 144 Try.func7 rfl rfl (by kernel_rfl) (fun K => ?_)
  refine TS_go 9 ?_
  replace h := bindO h
  obtain ⟨v1, hv1, h⟩ := h
  refine TS_call [] (ok_law39_small a0 v1 hv1) (by kernel_rfl) (by kernel_rfl) ?_
  refine TS_go 2 ?_
  replace h := condO h
  rcases h with ⟨hb2, h⟩ | ⟨hb2, h⟩
  · subst hb2
    refine TS_go 1 ?_
    replace h := bindO h
    obtain ⟨v3, hv3, h⟩ := h
    refine TS_call [] (ok_law39_small a1 v3 hv3) (by kernel_rfl) (by kernel_rfl) ?_
    refine TS_go 3 ?_
    replace h := condO h
    rcases h with ⟨hb4, h⟩ | ⟨hb4, h⟩
    · subst hb4
      refine TS_go 6 ?_
      replace h := condO h
      rcases h with ⟨hb5, h⟩ | ⟨hb5, h⟩
      · refine TS_know 40 (b := true) hb5 (by kernel_rfl) (by kernel_rfl) ?_
        refine TS_know 41 (b := true) hb5 (by kernel_rfl) (by kernel_rfl) ?_
        refine TS_T (by kernel_rfl) rfl ?_
        refine TS_go 2 ?_
        replace h := bindO h
        obtain ⟨v6, hv6, h⟩ := h
        refine TS_call [] (ok_law39_known  v6 hv6) (by kernel_rfl) (by kernel_rfl) ?_
        refine TS_go 4 ?_
        obtain rfl := Option.some.inj h
        exact TS_ret (by kernel_rfl) (by kernel_rfl) (by kernel_rfl)
      · refine TS_know 40 (b := false) hb5 (by kernel_rfl) (by kernel_rfl) ?_
        refine TS_know 41 (b := false) hb5 (by kernel_rfl) (by kernel_rfl) ?_
        refine TS_F (by kernel_rfl) rfl ?_
        refine TS_go 4 ?_
        replace h := bindO h
        obtain ⟨v7, hv7, h⟩ := h
        refine TS_con [] [(44, 10)] none (ok_made_New a3 v7 hv7) (by kernel_rfl) (by kernel_rfl) (by kernel_rfl) ?_
        refine TS_go 5 ?_
        replace h := bindO h
        obtain ⟨v8, hv8, h⟩ := h
        refine TS_con [] [(46, 900000)] (some (44, 0)) (okT_world_Reports v7 v8 hv8) (by kernel_rfl) (by kernel_rfl) (by kernel_rfl) ?_
        refine TS_go 1 ?_
        replace h := bindO h
        obtain ⟨v9, hv9, h⟩ := h
        refine TS_con [] [(48, 900000)] (some (44, 0)) (okT_world_Reports v8.2 v9 hv9) (by kernel_rfl) (by kernel_rfl) (by kernel_rfl) ?_
        refine TS_go 6 ?_
        replace h := bindO h
        obtain ⟨v10, hv10, h⟩ := h
        refine TS_con [] [] (some (44, 0)) (ok_world_EUI v9.2 v10 hv10) (by kernel_rfl) (by kernel_rfl) (by kernel_rfl) ?_
        refine TS_go 1 ?_
        replace h := bindO h
        obtain ⟨v11, hv11, h⟩ := h
        refine TS_con [] [] (some (44, 0)) (ok_made_Tape_Next v10.2 4 v11 hv11) (by kernel_rfl) (by kernel_rfl) (by kernel_rfl) ?_
        refine TS_go 1 ?_
        replace h := bindO h
        obtain ⟨v12, hv12, h⟩ := h
        refine TS_con [] [(54, 900000)] (some (44, 0)) (okT_made_Tape_Bytes v11.2 6 v12 hv12) (by kernel_rfl) (by kernel_rfl) (by kernel_rfl) ?_
        refine TS_go 12 ?_
        replace h := bindO h
        obtain ⟨v13, hv13, h⟩ := h
        refine TS_con [[], [4]] [(62, 900000)] (some (44, 0)) (okT_law39_spoiled v12.2 v8.1 v13 hv13) (by kernel_rfl) (by kernel_rfl) (by kernel_rfl) ?_
        refine TS_litNT 63 47 1 (ecS 3 S_Diagnostic.cs) [4] ([a0, a1, v8.1, v9.1, v13.1] : List (List S_Diagnostic)) (by kernel_rfl) (by kernel_rfl) ?_
        refine TS_go 10 ?_
        refine TS_cut ⟨[(6, []), (12, []), (13, []), (64, []), (65, []), (66, [])], [(6, (6, [])), (54, (54, [])), (12, (12, [])), (63, (63, []))]⟩ (.mk [.code (codeAt [1, 1, 1, 1, 1, 1, 0, 1, 0] (bodyOf Try.f7)), .blk 0, .code (codeAt [1, 1, 1, 1, 1, 1, 1] (bodyOf Try.f7))] .normal ⟨[(6, .c (.box 6 0)), (12, .c (.box 12 0)), (13, .c (.slc 1 65 (List.length ([a0, a1, v8.1, v9.1, v13.1] : List (List S_Diagnostic))) (List.map (ecS 3 S_Diagnostic.cs) ([a0, a1, v8.1, v9.1, v13.1] : List (List S_Diagnostic))))), (64, .c (.slc 1 65 (List.length ([a0, a1, v8.1, v9.1, v13.1] : List (List S_Diagnostic))) (List.map (ecS 3 S_Diagnostic.cs) ([a0, a1, v8.1, v9.1, v13.1] : List (List S_Diagnostic))))), (65, .c (.lit (.int .i64 ((List.length ([a0, a1, v8.1, v9.1, v13.1] : List (List S_Diagnostic)) : Int))))), (66, .c (.lit (.int .i64 (0))))], [(6, .box [.lit (.int .u64 (a2.Node)), .lit (.int .i64 (a2.Number)), .slc 1 0 (List.length a2.Data) (List.map (ecI .u8) a2.Data)]), (54, .spare 5 1 (List.length v12.1)), (12, .box [.lit (.int .u64 (v10.1)), .lit (.int .i64 (v11.1)), .slc 1 56 (List.length v12.1) (List.map (ecI .u8) v12.1)]), (63, .spare 47 1 (List.length ([a0, a1, v8.1, v9.1, v13.1] : List (List S_Diagnostic))))]⟩) (by kernel_rfl) (by kernel_rfl) ?_
        replace h := bindO h
        obtain ⟨y16, hl1, hK1⟩ := h
        refine TS_loopB (F_law39_ReportsMerge_l1 a0 a1 v8 v9 v13 a2 v10 v11 v12) ⟨[(6, []), (12, []), (13, []), (64, []), (65, []), (66, [])], [(6, (6, [])), (12, (12, [])), (63, (63, [])), (54, (54, []))]⟩ (fun (s14 : Int) => [(66, .c (.lit (.int .i64 (s14))))]) (fun (s14 : Int) => []) 0 y16 (.exit 0) (fun (b : Unit) => (Sum.inl b : (Unit) ⊕ (Bool))) ⟨[], []⟩ (fun (b15 : Unit) => []) (fun (b15 : Unit) => []) hl1 (by kernel_rfl) (by kernel_rfl) ?_ ?_
        · intro s14 x h hy1
          unfold F_law39_ReportsMerge_l1 at h
          refine TS_go 5 ?_
          replace h := condO h
          rcases h with ⟨hb17, h⟩ | ⟨hb17, h⟩
          · refine TS_know 67 (b := true) hb17 (by kernel_rfl) (by kernel_rfl) ?_
            refine TS_T (by kernel_rfl) rfl ?_
            refine TS_go 5 ?_
            replace h := bindO h
            obtain ⟨e18, he18, h⟩ := h
            refine TS_idx (ecS 3 S_Diagnostic.cs) he18 (by kernel_rfl) (by kernel_rfl) ?_
            refine TS_go 11 ?_
            refine TS_cut ⟨[(6, []), (12, []), (13, []), (64, []), (65, []), (66, []), (15, []), (70, []), (71, []), (72, [])], [(6, (6, [])), (12, (12, [])), (63, (63, [])), (54, (54, []))]⟩ (.mk [.code (codeAt [1, 1, 1, 1, 1, 1, 0, 1, 0, 0, 1, 1, 0, 0, 1, 0, 1, 0] (bodyOf Try.f7)), .blk 2, .code (codeAt [1, 1, 1, 1, 1, 1, 0, 1, 0, 0, 1, 1, 0, 0, 1, 1] (bodyOf Try.f7)), .blk 1, .code (codeAt [1, 1, 1, 1, 1, 1, 0, 1, 0, 0, 1, 1, 1] (bodyOf Try.f7))] .normal ⟨[(6, .c (.box 6 0)), (12, .c (.box 12 0)), (13, .c (.slc 1 65 (List.length ([a0, a1, v8.1, v9.1, v13.1] : List (List S_Diagnostic))) (List.map (ecS 3 S_Diagnostic.cs) ([a0, a1, v8.1, v9.1, v13.1] : List (List S_Diagnostic))))), (64, .c (.slc 1 65 (List.length ([a0, a1, v8.1, v9.1, v13.1] : List (List S_Diagnostic))) (List.map (ecS 3 S_Diagnostic.cs) ([a0, a1, v8.1, v9.1, v13.1] : List (List S_Diagnostic))))), (65, .c (.lit (.int .i64 ((List.length ([a0, a1, v8.1, v9.1, v13.1] : List (List S_Diagnostic)) : Int))))), (66, .c (.lit (.int .i64 (s14)))), (15, .c (.slc 3 0 (List.length e18) (List.map S_Diagnostic.cs e18))), (70, .c (.slc 1 65 (List.length ([a0, a1, v8.1, v9.1, v13.1] : List (List S_Diagnostic))) (List.map (ecS 3 S_Diagnostic.cs) ([a0, a1, v8.1, v9.1, v13.1] : List (List S_Diagnostic))))), (71, .c (.lit (.int .i64 ((List.length ([a0, a1, v8.1, v9.1, v13.1] : List (List S_Diagnostic)) : Int))))), (72, .c (.lit (.int .i64 (0))))], [(6, .box [.lit (.int .u64 (a2.Node)), .lit (.int .i64 (a2.Number)), .slc 1 0 (List.length a2.Data) (List.map (ecI .u8) a2.Data)]), (12, .box [.lit (.int .u64 (v10.1)), .lit (.int .i64 (v11.1)), .slc 1 56 (List.length v12.1) (List.map (ecI .u8) v12.1)]), (63, .spare 47 1 (List.length ([a0, a1, v8.1, v9.1, v13.1] : List (List S_Diagnostic)))), (54, .spare 5 1 (List.length v12.1))]⟩) (by kernel_rfl) (by kernel_rfl) ?_
            replace h := bindO h
            obtain ⟨y21, hl2, hK2⟩ := h
            refine TS_loopB (F_law39_ReportsMerge_l2 a0 a1 v8 v9 v13 e18) ⟨[(6, []), (12, []), (13, []), (15, []), (64, []), (65, []), (66, []), (70, []), (71, []), (72, [])], [(6, (6, [])), (12, (12, [])), (63, (63, [])), (54, (54, []))]⟩ (fun (s19 : Int) => [(72, .c (.lit (.int .i64 (s19))))]) (fun (s19 : Int) => []) 0 y21 (.exit 2) (fun (b : Unit) => (Sum.inl b : (Unit) ⊕ (Bool))) ⟨[(6, []), (12, []), (13, []), (15, []), (64, []), (65, []), (66, [])], [(6, (6, [])), (12, (12, [])), (63, (63, [])), (54, (54, []))]⟩ (fun (b20 : Unit) => []) (fun (b20 : Unit) => []) hl2 (by kernel_rfl) (by kernel_rfl) ?_ ?_
            · intro s19 x h hy2
              unfold F_law39_ReportsMerge_l2 at h
              refine TS_go 5 ?_
              replace h := condO h
              rcases h with ⟨hb22, h⟩ | ⟨hb22, h⟩
              · refine TS_know 73 (b := true) hb22 (by kernel_rfl) (by kernel_rfl) ?_
                refine TS_T (by kernel_rfl) rfl ?_
                refine TS_go 5 ?_
                replace h := bindO h
                obtain ⟨e23, he23, h⟩ := h
                refine TS_idx (ecS 3 S_Diagnostic.cs) he23 (by kernel_rfl) (by kernel_rfl) ?_
                refine TS_go 7 ?_
                replace h := bindO h
                obtain ⟨v24, hv24, h⟩ := h
                refine TS_call [] (ok_management_Merge e18 e23 v24 hv24) (by kernel_rfl) (by kernel_rfl) ?_
                refine TS_go 10 ?_
                replace h := bindO h
                obtain ⟨v25, hv25, h⟩ := h
                refine TS_con [] [(85, 900000)] none (okT_ref39_Merge e18 e23 v25 hv25) (by kernel_rfl) (by kernel_rfl) (by kernel_rfl) ?_
                refine TS_go 12 ?_
                replace h := condO h
                rcases h with ⟨hb26, h⟩ | ⟨hb26, h⟩
                · refine TS_know 90 (b := true) hb26 (by kernel_rfl) (by kernel_rfl) ?_
                  refine TS_know 91 (b := true) hb26 (by kernel_rfl) (by kernel_rfl) ?_
                  refine TS_go 15 ?_
                  refine TS_T (by kernel_rfl) rfl ?_
                  refine TS_go 7 ?_
                  obtain rfl := Option.some.inj h
                  have hy2q := hy2 _ rfl
                  subst hy2q
                  replace h := (elimR hK2)
                  refine TS_retB rfl (by kernel_rfl) ?_
                  refine TS_go 4 ?_
                  obtain rfl := Option.some.inj h
                  have hy1q := hy1 _ rfl
                  subst hy1q
                  replace h := (elimR hK1)
                  refine TS_retB rfl (by kernel_rfl) ?_
                  refine TS_go 2 ?_
                  obtain rfl := Option.some.inj h
                  exact TS_ret (by kernel_rfl) (by kernel_rfl) (by kernel_rfl)
                · refine TS_know 90 (b := false) hb26 (by kernel_rfl) (by kernel_rfl) ?_
                  refine TS_know 91 (b := false) hb26 (by kernel_rfl) (by kernel_rfl) ?_
                  refine TS_go 2 ?_
                  replace h := bindO h
                  obtain ⟨v27, hv27, h⟩ := h
                  refine TS_call [[], [4]] (ok_world_SameReports v24.1 v25.1 v27 hv27) (by kernel_rfl) (by kernel_rfl) ?_
                  refine TS_go 3 ?_
                  replace h := condO h
                  rcases h with ⟨hb28, h⟩ | ⟨hb28, h⟩
                  · subst hb28
                    refine TS_go 3 ?_
                    replace h := condO h
                    rcases h with ⟨hb29, h⟩ | ⟨hb29, h⟩
                    · refine TS_know 99 (b := true) hb29 (by kernel_rfl) (by kernel_rfl) ?_
                      refine TS_know 100 (b := true) hb29 (by kernel_rfl) (by kernel_rfl) ?_
                      refine TS_go 1 ?_
                      replace h := bindO h
                      obtain ⟨v30, hv30, h⟩ := h
                      refine TS_call [] (ok_management_ValidReports v24.1 v30 hv30) (by kernel_rfl) (by kernel_rfl) ?_
                      refine TS_go 4 ?_
                      replace h := condO h
                      rcases h with ⟨hb31, h⟩ | ⟨hb31, h⟩
                      · subst hb31
                        refine TS_F (by kernel_rfl) rfl ?_
                        refine TS_go 6 ?_
                        obtain rfl := Option.some.inj h
                        exact TS_againB _ ⟨[(6, []), (12, []), (13, []), (15, []), (64, []), (65, []), (66, []), (70, []), (71, []), (72, [])], [(6, (6, [])), (12, (12, [])), (63, (63, [])), (54, (54, []))]⟩ rfl (by kernel_rfl) (by kernel_rfl)
                      · subst hb31
                        refine TS_T (by kernel_rfl) rfl ?_
                        refine TS_go 7 ?_
                        obtain rfl := Option.some.inj h
                        have hy2q := hy2 _ rfl
                        subst hy2q
                        replace h := (elimR hK2)
                        refine TS_retB rfl (by kernel_rfl) ?_
                        refine TS_go 4 ?_
                        obtain rfl := Option.some.inj h
                        have hy1q := hy1 _ rfl
                        subst hy1q
                        replace h := (elimR hK1)
                        refine TS_retB rfl (by kernel_rfl) ?_
                        refine TS_go 2 ?_
                        obtain rfl := Option.some.inj h
                        exact TS_ret (by kernel_rfl) (by kernel_rfl) (by kernel_rfl)
                    · refine TS_know 99 (b := false) hb29 (by kernel_rfl) (by kernel_rfl) ?_
                      refine TS_know 100 (b := false) hb29 (by kernel_rfl) (by kernel_rfl) ?_
                      refine TS_go 6 ?_
                      refine TS_F (by kernel_rfl) rfl ?_
                      refine TS_go 6 ?_
                      obtain rfl := Option.some.inj h
                      exact TS_againB _ ⟨[(6, []), (12, []), (13, []), (15, []), (64, []), (65, []), (66, []), (70, []), (71, []), (72, [])], [(6, (6, [])), (12, (12, [])), (63, (63, [])), (54, (54, []))]⟩ rfl (by kernel_rfl) (by kernel_rfl)
                  · subst hb28
                    refine TS_go 9 ?_
                    refine TS_T (by kernel_rfl) rfl ?_
                    refine TS_go 7 ?_
                    obtain rfl := Option.some.inj h
                    have hy2q := hy2 _ rfl
                    subst hy2q
                    replace h := (elimR hK2)
                    refine TS_retB rfl (by kernel_rfl) ?_
                    refine TS_go 4 ?_
                    obtain rfl := Option.some.inj h
                    have hy1q := hy1 _ rfl
                    subst hy1q
                    replace h := (elimR hK1)
                    refine TS_retB rfl (by kernel_rfl) ?_
                    refine TS_go 2 ?_
                    obtain rfl := Option.some.inj h
                    exact TS_ret (by kernel_rfl) (by kernel_rfl) (by kernel_rfl)
              · refine TS_know 73 (b := false) hb22 (by kernel_rfl) (by kernel_rfl) ?_
                refine TS_F (by kernel_rfl) rfl ?_
                refine TS_go 2 ?_
                obtain rfl := Option.some.inj h
                exact TS_brkB () ⟨[(6, []), (12, []), (13, []), (15, []), (64, []), (65, []), (66, [])], [(6, (6, [])), (12, (12, [])), (63, (63, [])), (54, (54, []))]⟩ rfl (by kernel_rfl) (by kernel_rfl) (by kernel_rfl)
            · intro b20 hb
              subst y21
              have h := elimL hK2
              refine TS_go 6 ?_
              refine TS_litNT 109 56 3 S_Diagnostic.cs [0, 0, 2] ([a2, (S_Diagnostic.mk v10.1 v11.1 v12.1)] : List S_Diagnostic) (by kernel_rfl) (by kernel_rfl) ?_
              refine TS_go 4 ?_
              refine TS_cut ⟨[(6, []), (12, []), (13, []), (15, []), (64, []), (65, []), (66, []), (109, []), (110, []), (111, [])], [(6, (6, [])), (12, (12, [])), (63, (63, [])), (54, (54, [])), (109, (109, []))]⟩ (.mk [.code (codeAt [1, 1, 1, 1, 1, 1, 0, 1, 0, 0, 1, 1, 0, 0, 1, 1, 0, 1, 0] (bodyOf Try.f7)), .blk 4, .code (codeAt [1, 1, 1, 1, 1, 1, 0, 1, 0, 0, 1, 1, 0, 0, 1, 1, 1] (bodyOf Try.f7)), .blk 1, .code (codeAt [1, 1, 1, 1, 1, 1, 0, 1, 0, 0, 1, 1, 1] (bodyOf Try.f7))] .normal ⟨[(6, .c (.box 6 0)), (12, .c (.box 12 0)), (13, .c (.slc 1 65 (List.length ([a0, a1, v8.1, v9.1, v13.1] : List (List S_Diagnostic))) (List.map (ecS 3 S_Diagnostic.cs) ([a0, a1, v8.1, v9.1, v13.1] : List (List S_Diagnostic))))), (15, .c (.slc 3 0 (List.length e18) (List.map S_Diagnostic.cs e18))), (64, .c (.slc 1 65 (List.length ([a0, a1, v8.1, v9.1, v13.1] : List (List S_Diagnostic))) (List.map (ecS 3 S_Diagnostic.cs) ([a0, a1, v8.1, v9.1, v13.1] : List (List S_Diagnostic))))), (65, .c (.lit (.int .i64 ((List.length ([a0, a1, v8.1, v9.1, v13.1] : List (List S_Diagnostic)) : Int))))), (66, .c (.lit (.int .i64 (s14)))), (109, .c (.slc 3 111 (List.length ([a2, (S_Diagnostic.mk v10.1 v11.1 v12.1)] : List S_Diagnostic)) (List.map S_Diagnostic.cs ([a2, (S_Diagnostic.mk v10.1 v11.1 v12.1)] : List S_Diagnostic)))), (110, .c (.lit (.int .i64 ((List.length ([a2, (S_Diagnostic.mk v10.1 v11.1 v12.1)] : List S_Diagnostic) : Int))))), (111, .c (.lit (.int .i64 (0))))], [(6, .box [.lit (.int .u64 (a2.Node)), .lit (.int .i64 (a2.Number)), .slc 1 0 (List.length a2.Data) (List.map (ecI .u8) a2.Data)]), (12, .box [.lit (.int .u64 (v10.1)), .lit (.int .i64 (v11.1)), .slc 1 56 (List.length v12.1) (List.map (ecI .u8) v12.1)]), (63, .spare 47 1 (List.length ([a0, a1, v8.1, v9.1, v13.1] : List (List S_Diagnostic)))), (54, .spare 5 1 (List.length v12.1)), (109, .spare 56 3 (List.length ([a2, (S_Diagnostic.mk v10.1 v11.1 v12.1)] : List S_Diagnostic)))]⟩) (by kernel_rfl) (by kernel_rfl) ?_
              replace h := bindO h
              obtain ⟨y35, hl3, hK3⟩ := h
              refine TS_loopB (F_law39_ReportsMerge_l3 a2 v10 v11 v12 e18) ⟨[(6, []), (12, []), (13, []), (15, []), (64, []), (65, []), (66, []), (109, []), (110, []), (111, [])], [(6, (6, [])), (12, (12, [])), (63, (63, [])), (109, (109, [])), (54, (54, []))]⟩ (fun (s33 : Int) => [(111, .c (.lit (.int .i64 (s33))))]) (fun (s33 : Int) => []) 0 y35 (.exit 4) (fun (b : Unit) => (Sum.inl b : (Unit) ⊕ (Bool))) ⟨[(6, []), (12, []), (13, []), (15, []), (64, []), (65, []), (66, [])], [(6, (6, [])), (12, (12, [])), (63, (63, [])), (54, (54, []))]⟩ (fun (b34 : Unit) => []) (fun (b34 : Unit) => []) hl3 (by kernel_rfl) (by kernel_rfl) ?_ ?_
              · intro s33 x h hy3
                unfold F_law39_ReportsMerge_l3 at h
                refine TS_go 5 ?_
                replace h := condO h
                rcases h with ⟨hb36, h⟩ | ⟨hb36, h⟩
                · refine TS_know 112 (b := true) hb36 (by kernel_rfl) (by kernel_rfl) ?_
                  refine TS_T (by kernel_rfl) rfl ?_
                  refine TS_go 5 ?_
                  replace h := bindO h
                  obtain ⟨e37, he37, h⟩ := h
                  refine TS_idx S_Diagnostic.cs he37 (by kernel_rfl) (by kernel_rfl) ?_
                  refine TS_go 8 ?_
                  replace h := bindO h
                  obtain ⟨v38, hv38, h⟩ := h
                  refine TS_call [] (ok_management_Report e18 e37 v38 hv38) (by kernel_rfl) (by kernel_rfl) ?_
                  refine TS_go 10 ?_
                  replace h := bindO h
                  obtain ⟨v39, hv39, h⟩ := h
                  refine TS_con [] [(124, 900000)] none (okT_ref39_Report e18 e37 v39 hv39) (by kernel_rfl) (by kernel_rfl) (by kernel_rfl) ?_
                  refine TS_go 12 ?_
                  replace h := condO h
                  rcases h with ⟨hb40, h⟩ | ⟨hb40, h⟩
                  · refine TS_know 129 (b := true) hb40 (by kernel_rfl) (by kernel_rfl) ?_
                    refine TS_know 130 (b := true) hb40 (by kernel_rfl) (by kernel_rfl) ?_
                    refine TS_go 6 ?_
                    refine TS_T (by kernel_rfl) rfl ?_
                    refine TS_go 7 ?_
                    obtain rfl := Option.some.inj h
                    have hy3q := hy3 _ rfl
                    subst hy3q
                    replace h := (elimR hK3)
                    refine TS_retB rfl (by kernel_rfl) ?_
                    refine TS_go 4 ?_
                    obtain rfl := Option.some.inj h
                    have hy1q := hy1 _ rfl
                    subst hy1q
                    replace h := (elimR hK1)
                    refine TS_retB rfl (by kernel_rfl) ?_
                    refine TS_go 2 ?_
                    obtain rfl := Option.some.inj h
                    exact TS_ret (by kernel_rfl) (by kernel_rfl) (by kernel_rfl)
                  · refine TS_know 129 (b := false) hb40 (by kernel_rfl) (by kernel_rfl) ?_
                    refine TS_know 130 (b := false) hb40 (by kernel_rfl) (by kernel_rfl) ?_
                    refine TS_go 2 ?_
                    replace h := bindO h
                    obtain ⟨v41, hv41, h⟩ := h
                    refine TS_call [[], [4]] (ok_world_SameReports v38.1 v39.1 v41 hv41) (by kernel_rfl) (by kernel_rfl) ?_
                    refine TS_go 3 ?_
                    replace h := condO h
                    rcases h with ⟨hb42, h⟩ | ⟨hb42, h⟩
                    · subst hb42
                      refine TS_F (by kernel_rfl) rfl ?_
                      refine TS_go 6 ?_
                      obtain rfl := Option.some.inj h
                      exact TS_againB _ ⟨[(6, []), (12, []), (13, []), (15, []), (64, []), (65, []), (66, []), (109, []), (110, []), (111, [])], [(6, (6, [])), (12, (12, [])), (63, (63, [])), (109, (109, [])), (54, (54, []))]⟩ rfl (by kernel_rfl) (by kernel_rfl)
                    · subst hb42
                      refine TS_T (by kernel_rfl) rfl ?_
                      refine TS_go 7 ?_
                      obtain rfl := Option.some.inj h
                      have hy3q := hy3 _ rfl
                      subst hy3q
                      replace h := (elimR hK3)
                      refine TS_retB rfl (by kernel_rfl) ?_
                      refine TS_go 4 ?_
                      obtain rfl := Option.some.inj h
                      have hy1q := hy1 _ rfl
                      subst hy1q
                      replace h := (elimR hK1)
                      refine TS_retB rfl (by kernel_rfl) ?_
                      refine TS_go 2 ?_
                      obtain rfl := Option.some.inj h
                      exact TS_ret (by kernel_rfl) (by kernel_rfl) (by kernel_rfl)
                · refine TS_know 112 (b := false) hb36 (by kernel_rfl) (by kernel_rfl) ?_
                  refine TS_F (by kernel_rfl) rfl ?_
                  refine TS_go 2 ?_
                  obtain rfl := Option.some.inj h
                  exact TS_brkB () ⟨[(6, []), (12, []), (13, []), (15, []), (64, []), (65, []), (66, [])], [(6, (6, [])), (12, (12, [])), (63, (63, [])), (54, (54, []))]⟩ rfl (by kernel_rfl) (by kernel_rfl) (by kernel_rfl)
              · intro b34 hb
                subst y35
                have h := elimL hK3
                refine TS_go 4 ?_
                replace h := bindO h
                obtain ⟨v44, hv44, h⟩ := h
                refine TS_call [] (ok_management_ValidReports e18 v44 hv44) (by kernel_rfl) (by kernel_rfl) ?_
                refine TS_go 1 ?_
                replace h := bindO h
                obtain ⟨v45, hv45, h⟩ := h
                refine TS_call [] (ok_ref39_ValidReports e18 v45 hv45) (by kernel_rfl) (by kernel_rfl) ?_
                refine TS_go 2 ?_
                replace h := condO h
                rcases h with ⟨hb46, h⟩ | ⟨hb46, h⟩
                · refine TS_know 141 (b := false) (notF hb46) (by kernel_rfl) (by kernel_rfl) ?_
                  refine TS_F (by kernel_rfl) rfl ?_
                  refine TS_go 6 ?_
                  obtain rfl := Option.some.inj h
                  exact TS_againB _ ⟨[(6, []), (12, []), (13, []), (64, []), (65, []), (66, [])], [(6, (6, [])), (12, (12, [])), (63, (63, [])), (54, (54, []))]⟩ rfl (by kernel_rfl) (by kernel_rfl)
                · refine TS_know 141 (b := true) (notT hb46) (by kernel_rfl) (by kernel_rfl) ?_
                  refine TS_T (by kernel_rfl) rfl ?_
                  refine TS_go 7 ?_
                  obtain rfl := Option.some.inj h
                  have hy1q := hy1 _ rfl
                  subst hy1q
                  replace h := (elimR hK1)
                  refine TS_retB rfl (by kernel_rfl) ?_
                  refine TS_go 2 ?_
                  obtain rfl := Option.some.inj h
                  exact TS_ret (by kernel_rfl) (by kernel_rfl) (by kernel_rfl)
          · refine TS_know 67 (b := false) hb17 (by kernel_rfl) (by kernel_rfl) ?_
            refine TS_F (by kernel_rfl) rfl ?_
            refine TS_go 2 ?_
            obtain rfl := Option.some.inj h
            exact TS_brkB () ⟨[], []⟩ rfl (by kernel_rfl) (by kernel_rfl) (by kernel_rfl)
        · intro b15 hb
          subst y16
          have h := elimL hK1
          refine TS_go 3 ?_
          replace h := bindO h
          obtain ⟨v48, hv48, h⟩ := h
          refine TS_call [] (ok_law39_known  v48 hv48) (by kernel_rfl) (by kernel_rfl) ?_
          refine TS_go 3 ?_
          obtain rfl := Option.some.inj h
          exact TS_ret (by kernel_rfl) (by kernel_rfl) (by kernel_rfl)
    · subst hb4
      refine TS_go 6 ?_
      refine TS_T (by kernel_rfl) rfl ?_
      refine TS_go 2 ?_
      replace h := bindO h
      obtain ⟨v49, hv49, h⟩ := h
      refine TS_call [] (ok_law39_known  v49 hv49) (by kernel_rfl) (by kernel_rfl) ?_
      refine TS_go 4 ?_
      obtain rfl := Option.some.inj h
      exact TS_ret (by kernel_rfl) (by kernel_rfl) (by kernel_rfl)
  · subst hb2
    refine TS_go 11 ?_
    refine TS_T (by kernel_rfl) rfl ?_
    refine TS_go 2 ?_
    replace h := bindO h
    obtain ⟨v50, hv50, h⟩ := h
    refine TS_call [] (ok_law39_known  v50 hv50) (by kernel_rfl) (by kernel_rfl) ?_
    refine TS_go 4 ?_
    obtain rfl := Option.some.inj h
    exact TS_ret (by kernel_rfl) (by kernel_rfl) (by kernel_rfl)

/-- multihop/management.EncodeSettings -/
noncomputable def F_management_EncodeSettings (a0 : S_Settings) : Option ((List Int) × Int) :=
  (F_management_Valid a0).bind fun v1 =>
  bif v1 then
    (F_octets_Append ([] : List Int) (IntKind.wrap .u64 a0.Version) 4).bind fun v3 =>
    (appO 1 v3 (Cut.app .whole (arrL 8 a0.Tag))).bind fun l4 =>
    (appO 1 l4 (Cut.app .whole a0.Data)).bind fun l5 =>
    some ((l5, 0))
  else
    some ((([] : List Int), 1))
set_option maxRecDepth 100000 in
set_option maxHeartbeats 40000000 in
theorem okT_management_EncodeSettings (a0 : S_Settings) (r : (List Int) × Int) (h : F_management_EncodeSettings a0 = some r) : Con Try.prog 37 [.agg (S_Settings.cs a0)] [] (.tup [(false, [.slc 1 900002 (List.length r.1) (List.map (ecI .u8) r.1)]), (false, [.lit (.int .i64 (r.2))])]) [(900000, .spare 5 1 (List.length r.1))] := by
  unfold F_management_EncodeSettings at h
  refine con_of [] [(900000, [])] 20 Try.func37 rfl rfl (by kernel_rfl) (fun K => ?_)
  refine TS_go 10 ?_
  replace h := bindO h
  obtain ⟨v1, hv1, h⟩ := h
  refine TS_call [] (ok_management_Valid a0 v1 hv1) (by kernel_rfl) (by kernel_rfl) ?_
  refine TS_go 2 ?_
  replace h := condO h
  rcases h with ⟨hb2, h⟩ | ⟨hb2, h⟩
  · subst hb2
    refine TS_F (by kernel_rfl) rfl ?_
    refine TS_go 6 ?_
    replace h := bindO h
    obtain ⟨v3, hv3, h⟩ := h
    refine TS_con [[2]] [(11, 900000)] none (okT_octets_Append ([] : List Int) (IntKind.wrap .u64 a0.Version) 4 v3 hv3) (by kernel_rfl) (by kernel_rfl) (by kernel_rfl) ?_
    refine TS_go 6 ?_
    refine TS_win 1 2 8 (a := 0) (b := 8) (by decide) (by decide) (by kernel_rfl) (by kernel_rfl) ?_
    replace h := bindO h
    obtain ⟨l4, hl4, h⟩ := h
    refine TS_appT (d := 11) (e := 5) (sz := 1) (N := List.length v3) (ecI .u8) (fun _ => by kernel_rfl) (l1 := v3) (l2 := (arrL 8 a0.Tag)) (c := .whole) hl4 (by kernel_rfl) (by kernel_rfl) ?_
    refine TS_go 7 ?_
    replace h := bindO h
    obtain ⟨l5, hl5, h⟩ := h
    refine TS_appT (d := 11) (e := 5) (sz := 1) (N := List.length l4) (ecI .u8) (fun _ => by kernel_rfl) (l1 := l4) (l2 := a0.Data) (c := .whole) hl5 (by kernel_rfl) (by kernel_rfl) ?_
    refine TS_go 3 ?_
    refine TS_fitU ⟨[(2, []), (3, [])], [(11, (900000, []))]⟩ (by kernel_rfl) ?_
    refine TS_go 1 ?_
    obtain rfl := Option.some.inj h
    exact TS_ret (by kernel_rfl) (by kernel_rfl) (by kernel_rfl)
  · subst hb2
    refine TS_T (by kernel_rfl) rfl ?_
    refine TS_go 5 ?_
    refine TS_nilT 2 600000 5 1 (by kernel_rfl) ?_
    refine TS_fitU ⟨[(2, []), (3, [])], [(600000, (900000, []))]⟩ (by kernel_rfl) ?_
    refine TS_go 2 ?_
    obtain rfl := Option.some.inj h
    exact TS_ret (by kernel_rfl) (by kernel_rfl) (by kernel_rfl)
theorem ok_management_EncodeSettings (a0 : S_Settings) (r : (List Int) × Int) (h : F_management_EncodeSettings a0 = some r) : Con Try.prog 37 [.agg (S_Settings.cs a0)] [] (.tup [(false, [eS 1 (ecI .u8) (r.1)]), (false, [.lit (.int .i64 (r.2))])]) [] :=
  con_drop [[2]] [] (okT_management_EncodeSettings a0 r h) (by kernel_rfl) (by kernel_rfl) (by kernel_rfl)

/-- multihop/multihopref39.EncodeSettings -/
noncomputable def F_ref39_EncodeSettings_l1 (a0 : S_Settings) (s4 : (List Int) × Int) : Option (((List Int) × Int) ⊕ ((List Int))) :=
  bif (decide (s4.2 < 8)) then
    bif decide ((0 : Int) ≤ s4.2 ∧ s4.2 < (8 : Int)) then
      (appO 1 s4.1 (Cut.app .whole ([(List.getD a0.Tag (Int.toNat s4.2) 0)] : List Int))).bind fun l9 =>
      some (Sum.inl (l9, IntKind.wrap .i64 (s4.2 + 1)))
    else none
  else
    some (Sum.inr s4.1)
noncomputable def F_ref39_EncodeSettings (a0 : S_Settings) : Option ((List Int) × Int) :=
  (F_ref39_Valid a0).bind fun v1 =>
  bif v1 then
    (F_ref29_Put_N0 (IntKind.wrap .u64 a0.Version) 4).bind fun v3 =>
    (loopO (F_ref39_EncodeSettings_l1 a0) (v3, 0)).bind fun b5 =>
    (appO 1 b5 (Cut.app .whole a0.Data)).bind fun l11 =>
    some ((l11, 0))
  else
    some ((([] : List Int), 1))
set_option maxRecDepth 100000 in
set_option maxHeartbeats 40000000 in
theorem okT_ref39_EncodeSettings (a0 : S_Settings) (r : (List Int) × Int) (h : F_ref39_EncodeSettings a0 = some r) : Con Try.prog 38 [.agg (S_Settings.cs a0)] [] (.tup [(false, [.slc 1 900002 (List.length r.1) (List.map (ecI .u8) r.1)]), (false, [.lit (.int .i64 (r.2))])]) [(900000, .spare 5 1 (List.length r.1))] := by
  unfold F_ref39_EncodeSettings at h
  refine con_of [] [(900000, [])] 28 Try.func38 rfl rfl (by kernel_rfl) (fun K => ?_)
  refine TS_go 10 ?_
  replace h := bindO h
  obtain ⟨v1, hv1, h⟩ := h
  refine TS_call [] (ok_ref39_Valid a0 v1 hv1) (by kernel_rfl) (by kernel_rfl) ?_
  refine TS_go 2 ?_
  replace h := condO h
  rcases h with ⟨hb2, h⟩ | ⟨hb2, h⟩
  · subst hb2
    refine TS_F (by kernel_rfl) rfl ?_
    refine TS_go 6 ?_
    replace h := bindO h
    obtain ⟨v3, hv3, h⟩ := h
    refine TS_con [] [(12, 900000)] none (okT_ref29_Put_N0 (IntKind.wrap .u64 a0.Version) 4 v3 hv3) (by kernel_rfl) (by kernel_rfl) (by kernel_rfl) ?_
    refine TS_go 8 ?_
    refine TS_cut ⟨[(1, []), (4, []), (5, [])], [(1, (1, [])), (12, (12, []))]⟩ (.mk [.code (codeAt [1, 1, 1, 0, 1, 0] (bodyOf Try.f38)), .blk 0, .code (codeAt [1, 1, 1, 1] (bodyOf Try.f38))] .normal ⟨[(1, .c (.box 1 0)), (4, .c (.slc 1 14 (List.length v3) (List.map (ecI .u8) v3))), (5, .c (.lit (.int .i64 (0))))], [(1, .box [.lit (.int .i64 (a0.Version)), .slc 1 0 (List.length a0.Data) (List.map (ecI .u8) a0.Data), .lit (.int .u8 ((a0.Tag.getD 0 0))), .lit (.int .u8 ((a0.Tag.getD 1 0))), .lit (.int .u8 ((a0.Tag.getD 2 0))), .lit (.int .u8 ((a0.Tag.getD 3 0))), .lit (.int .u8 ((a0.Tag.getD 4 0))), .lit (.int .u8 ((a0.Tag.getD 5 0))), .lit (.int .u8 ((a0.Tag.getD 6 0))), .lit (.int .u8 ((a0.Tag.getD 7 0)))]), (12, .spare 5 1 (List.length v3))]⟩) (by kernel_rfl) (by kernel_rfl) ?_
    replace h := bindO h
    obtain ⟨y6, hl1, hK1⟩ := h
    refine TS_loopB (F_ref39_EncodeSettings_l1 a0) ⟨[(1, []), (4, []), (5, [])], [(1, (1, [])), (12, (12, []))]⟩ (fun (s4 : (List Int) × Int) => [(4, .c (.slc 1 14 (List.length s4.1) (List.map (ecI .u8) s4.1))), (5, .c (.lit (.int .i64 (s4.2))))]) (fun (s4 : (List Int) × Int) => [(12, .spare 5 1 (List.length s4.1))]) (v3, 0) y6 (.exit 0) (fun (b : (List Int)) => b) ⟨[(1, []), (4, [])], [(1, (1, [])), (12, (12, []))]⟩ (fun (b5 : (List Int)) => [(4, .c (.slc 1 14 (List.length b5) (List.map (ecI .u8) b5)))]) (fun (b5 : (List Int)) => [(12, .spare 5 1 (List.length b5))]) hl1 (by kernel_rfl) (by kernel_rfl) ?_ ?_
    · intro s4 x h hy1
      unfold F_ref39_EncodeSettings_l1 at h
      refine TS_go 6 ?_
      replace h := condO h
      rcases h with ⟨hb7, h⟩ | ⟨hb7, h⟩
      · refine TS_know 14 (b := true) hb7 (by kernel_rfl) (by kernel_rfl) ?_
        refine TS_T (by kernel_rfl) rfl ?_
        refine TS_go 7 ?_
        replace h := chkO h
        obtain ⟨hc8, h⟩ := h
        refine TS_idxA 1 2 8 (i := s4.2) hc8 (by kernel_rfl) (by kernel_rfl) ?_
        refine TS_ldA .u8 2 8 (i := s4.2) a0.Tag hc8 (by kernel_rfl) (by kernel_rfl) ?_
        refine TS_litNT 22 5 1 (ecI .u8) [] ([(List.getD a0.Tag (Int.toNat s4.2) 0)] : List Int) (by kernel_rfl) (by kernel_rfl) ?_
        replace h := bindO h
        obtain ⟨l9, hl9, h⟩ := h
        refine TS_appT (d := 12) (e := 5) (sz := 1) (N := List.length s4.1) (ecI .u8) (fun _ => by kernel_rfl) (l1 := s4.1) (l2 := ([(List.getD a0.Tag (Int.toNat s4.2) 0)] : List Int)) (c := .whole) hl9 (by kernel_rfl) (by kernel_rfl) ?_
        refine TS_go 8 ?_
        obtain rfl := Option.some.inj h
        exact TS_againB _ ⟨[(1, []), (4, []), (5, [])], [(1, (1, [])), (12, (12, []))]⟩ rfl (by kernel_rfl) (by kernel_rfl)
      · refine TS_know 14 (b := false) hb7 (by kernel_rfl) (by kernel_rfl) ?_
        refine TS_F (by kernel_rfl) rfl ?_
        refine TS_go 2 ?_
        obtain rfl := Option.some.inj h
        exact TS_brkB s4.1 ⟨[(1, []), (4, [])], [(1, (1, [])), (12, (12, []))]⟩ rfl (by kernel_rfl) (by kernel_rfl) (by kernel_rfl)
    · intro b5 hb
      subst y6
      have h := hK1
      refine TS_go 6 ?_
      replace h := bindO h
      obtain ⟨l11, hl11, h⟩ := h
      refine TS_appT (d := 12) (e := 5) (sz := 1) (N := List.length b5) (ecI .u8) (fun _ => by kernel_rfl) (l1 := b5) (l2 := a0.Data) (c := .whole) hl11 (by kernel_rfl) (by kernel_rfl) ?_
      refine TS_go 3 ?_
      refine TS_fitU ⟨[(2, []), (3, [])], [(12, (900000, []))]⟩ (by kernel_rfl) ?_
      refine TS_go 1 ?_
      obtain rfl := Option.some.inj h
      exact TS_ret (by kernel_rfl) (by kernel_rfl) (by kernel_rfl)
  · subst hb2
    refine TS_T (by kernel_rfl) rfl ?_
    refine TS_go 5 ?_
    refine TS_nilT 2 600000 5 1 (by kernel_rfl) ?_
    refine TS_fitU ⟨[(2, []), (3, [])], [(600000, (900000, []))]⟩ (by kernel_rfl) ?_
    refine TS_go 2 ?_
    obtain rfl := Option.some.inj h
    exact TS_ret (by kernel_rfl) (by kernel_rfl) (by kernel_rfl)
theorem ok_ref39_EncodeSettings (a0 : S_Settings) (r : (List Int) × Int) (h : F_ref39_EncodeSettings a0 = some r) : Con Try.prog 38 [.agg (S_Settings.cs a0)] [] (.tup [(false, [eS 1 (ecI .u8) (r.1)]), (false, [.lit (.int .i64 (r.2))])]) [] :=
  con_drop [[2]] [] (okT_ref39_EncodeSettings a0 r h) (by kernel_rfl) (by kernel_rfl) (by kernel_rfl)

/-- multihop/octets.Uint -/
noncomputable def F_octets_Uint_l1 (l5 : List Int) (s6 : Int × Int) : Option ((Int × Int) ⊕ (Int)) :=
  bif (decide (s6.2 < (List.length l5 : Int))) then
    (idx l5 s6.2).bind fun e10 =>
    some (Sum.inl (ior .u64 (ishl .u64 s6.1 8) (IntKind.wrap .u64 e10), IntKind.wrap .i64 (s6.2 + 1)))
  else
    some (Sum.inr s6.1)
noncomputable def F_octets_Uint (a0 : List Int) (a1 : Int) (a2 : Int) : Option (Int × Bool) :=
  bif (decide (a2 < 1)) then
    some ((0, false))
  else
    bif (decide (a2 > 8)) then
      some ((0, false))
    else
      bif (decide (a1 < 0)) then
        some ((0, false))
      else
        bif (decide (a1 > (IntKind.wrap .i64 ((List.length a0 : Int) - a2)))) then
          some ((0, false))
        else
          (subO a0 a1 (IntKind.wrap .i64 (a1 + a2))).bind fun l5 =>
          (loopO (F_octets_Uint_l1 l5) (0, 0)).bind fun b7 =>
          some ((b7, true))
set_option maxRecDepth 100000 in
set_option maxHeartbeats 40000000 in
theorem ok_octets_Uint (a0 : List Int) (a1 : Int) (a2 : Int) (r : Int × Bool) (h : F_octets_Uint a0 a1 a2 = some r) : Con Try.prog 64 [.c (eS 1 (ecI .u8) (a0)), .c (.lit (.int .i64 (a1))), .c (.lit (.int .i64 (a2)))] [] (.tup [(false, [.lit (.int .u64 (r.1))]), (false, [.lit (.bool (r.2))])]) [] := by
  unfold F_octets_Uint at h
  refine con_of [] [] 47 Try.func64 rfl rfl (by kernel_rfl) (fun K => ?_)
  refine TS_go 11 ?_
  replace h := condO h
  rcases h with ⟨hb1, h⟩ | ⟨hb1, h⟩
  · refine TS_know 12 (b := true) hb1 (by kernel_rfl) (by kernel_rfl) ?_
    refine TS_know 13 (b := true) hb1 (by kernel_rfl) (by kernel_rfl) ?_
    refine TS_go 16 ?_
    refine TS_T (by kernel_rfl) rfl ?_
    refine TS_go 7 ?_
    obtain rfl := Option.some.inj h
    exact TS_ret (by kernel_rfl) (by kernel_rfl) (by kernel_rfl)
  · refine TS_know 12 (b := false) hb1 (by kernel_rfl) (by kernel_rfl) ?_
    refine TS_know 13 (b := false) hb1 (by kernel_rfl) (by kernel_rfl) ?_
    refine TS_go 4 ?_
    replace h := condO h
    rcases h with ⟨hb2, h⟩ | ⟨hb2, h⟩
    · refine TS_know 15 (b := true) hb2 (by kernel_rfl) (by kernel_rfl) ?_
      refine TS_know 16 (b := true) hb2 (by kernel_rfl) (by kernel_rfl) ?_
      refine TS_know 17 (b := true) hb2 (by kernel_rfl) (by kernel_rfl) ?_
      refine TS_go 12 ?_
      refine TS_T (by kernel_rfl) rfl ?_
      refine TS_go 7 ?_
      obtain rfl := Option.some.inj h
      exact TS_ret (by kernel_rfl) (by kernel_rfl) (by kernel_rfl)
    · refine TS_know 15 (b := false) hb2 (by kernel_rfl) (by kernel_rfl) ?_
      refine TS_know 16 (b := false) hb2 (by kernel_rfl) (by kernel_rfl) ?_
      refine TS_know 17 (b := false) hb2 (by kernel_rfl) (by kernel_rfl) ?_
      refine TS_go 4 ?_
      replace h := condO h
      rcases h with ⟨hb3, h⟩ | ⟨hb3, h⟩
      · refine TS_know 19 (b := true) hb3 (by kernel_rfl) (by kernel_rfl) ?_
        refine TS_know 20 (b := true) hb3 (by kernel_rfl) (by kernel_rfl) ?_
        refine TS_know 21 (b := true) hb3 (by kernel_rfl) (by kernel_rfl) ?_
        refine TS_go 8 ?_
        refine TS_T (by kernel_rfl) rfl ?_
        refine TS_go 7 ?_
        obtain rfl := Option.some.inj h
        exact TS_ret (by kernel_rfl) (by kernel_rfl) (by kernel_rfl)
      · refine TS_know 19 (b := false) hb3 (by kernel_rfl) (by kernel_rfl) ?_
        refine TS_know 20 (b := false) hb3 (by kernel_rfl) (by kernel_rfl) ?_
        refine TS_know 21 (b := false) hb3 (by kernel_rfl) (by kernel_rfl) ?_
        refine TS_go 8 ?_
        replace h := condO h
        rcases h with ⟨hb4, h⟩ | ⟨hb4, h⟩
        · refine TS_know 27 (b := true) hb4 (by kernel_rfl) (by kernel_rfl) ?_
          refine TS_know 28 (b := true) hb4 (by kernel_rfl) (by kernel_rfl) ?_
          refine TS_T (by kernel_rfl) rfl ?_
          refine TS_go 7 ?_
          obtain rfl := Option.some.inj h
          exact TS_ret (by kernel_rfl) (by kernel_rfl) (by kernel_rfl)
        · refine TS_know 27 (b := false) hb4 (by kernel_rfl) (by kernel_rfl) ?_
          refine TS_know 28 (b := false) hb4 (by kernel_rfl) (by kernel_rfl) ?_
          refine TS_F (by kernel_rfl) rfl ?_
          refine TS_go 13 ?_
          replace h := bindO h
          obtain ⟨l5, hl5, h⟩ := h
          refine TS_sub (ecI .u8) 1 hl5 (by kernel_rfl) (by kernel_rfl) ?_
          refine TS_go 4 ?_
          refine TS_cut ⟨[(8, []), (34, []), (35, []), (36, [])], []⟩ (.mk [.code (codeAt [1, 1, 1, 0, 1, 0] (bodyOf Try.f64)), .blk 0, .code (codeAt [1, 1, 1, 1] (bodyOf Try.f64))] .normal ⟨[(8, .c (.lit (.int .u64 (0)))), (34, .c (.slc 1 0 (List.length l5) (List.map (ecI .u8) l5))), (35, .c (.lit (.int .i64 ((List.length l5 : Int))))), (36, .c (.lit (.int .i64 (0))))], []⟩) (by kernel_rfl) (by kernel_rfl) ?_
          replace h := bindO h
          obtain ⟨y8, hl1, hK1⟩ := h
          refine TS_loopB (F_octets_Uint_l1 l5) ⟨[(8, []), (34, []), (35, []), (36, [])], []⟩ (fun (s6 : Int × Int) => [(8, .c (.lit (.int .u64 (s6.1)))), (36, .c (.lit (.int .i64 (s6.2))))]) (fun (s6 : Int × Int) => []) (0, 0) y8 (.exit 0) (fun (b : Int) => b) ⟨[(8, [])], []⟩ (fun (b7 : Int) => [(8, .c (.lit (.int .u64 (b7))))]) (fun (b7 : Int) => []) hl1 (by kernel_rfl) (by kernel_rfl) ?_ ?_
          · intro s6 x h hy1
            unfold F_octets_Uint_l1 at h
            refine TS_go 5 ?_
            replace h := condO h
            rcases h with ⟨hb9, h⟩ | ⟨hb9, h⟩
            · refine TS_know 37 (b := true) hb9 (by kernel_rfl) (by kernel_rfl) ?_
              refine TS_T (by kernel_rfl) rfl ?_
              refine TS_go 5 ?_
              replace h := bindO h
              obtain ⟨e10, he10, h⟩ := h
              refine TS_idx (ecI .u8) he10 (by kernel_rfl) (by kernel_rfl) ?_
              refine TS_go 16 ?_
              obtain rfl := Option.some.inj h
              exact TS_againB _ ⟨[(8, []), (34, []), (35, []), (36, [])], []⟩ rfl (by kernel_rfl) (by kernel_rfl)
            · refine TS_know 37 (b := false) hb9 (by kernel_rfl) (by kernel_rfl) ?_
              refine TS_F (by kernel_rfl) rfl ?_
              refine TS_go 2 ?_
              obtain rfl := Option.some.inj h
              exact TS_brkB s6.1 ⟨[(8, [])], []⟩ rfl (by kernel_rfl) (by kernel_rfl) (by kernel_rfl)
          · intro b7 hb
            subst y8
            have h := hK1
            refine TS_go 8 ?_
            obtain rfl := Option.some.inj h
            exact TS_ret (by kernel_rfl) (by kernel_rfl) (by kernel_rfl)

/-- multihop/management.DecodeSettings -/
noncomputable def F_management_DecodeSettings (a0 : List Int) : Option (S_Settings × Int) :=
  bif (decide ((List.length a0 : Int) < 12)) then
    some (((S_Settings.mk 0 ([] : List Int) [0, 0, 0, 0, 0, 0, 0, 0]), 4))
  else
    bif (decide ((List.length a0 : Int) > 76)) then
      some (((S_Settings.mk 0 ([] : List Int) [0, 0, 0, 0, 0, 0, 0, 0]), 5))
    else
      (F_octets_Uint a0 0 4).bind fun v3 =>
      (subO a0 12 (List.length a0 : Int)).bind fun l4 =>
      (appO 1 ([] : List Int) (Cut.app .whole l4)).bind fun l5 =>
      (subO a0 4 (List.length a0 : Int)).bind fun l6 =>
      (F_management_Valid (S_Settings.mk (IntKind.wrap .i64 v3.1) l5 (cpA 8 [0, 0, 0, 0, 0, 0, 0, 0] (Cut.app .whole l6)))).bind fun v7 =>
      bif v7 then
        some (((S_Settings.mk (IntKind.wrap .i64 v3.1) l5 (cpA 8 [0, 0, 0, 0, 0, 0, 0, 0] (Cut.app .whole l6))), 0))
      else
        some (((S_Settings.mk 0 ([] : List Int) [0, 0, 0, 0, 0, 0, 0, 0]), 5))
set_option maxRecDepth 100000 in
set_option maxHeartbeats 40000000 in
theorem ok_management_DecodeSettings (a0 : List Int) (r : S_Settings × Int) (h : F_management_DecodeSettings a0 = some r) : Con Try.prog 40 [.c (eS 1 (ecI .u8) (a0))] [] (.tup [(true, S_Settings.cs r.1), (false, [.lit (.int .i64 (r.2))])]) [] := by
  unfold F_management_DecodeSettings at h
  refine con_of [[0, 2]] [] 36 Try.func40 rfl rfl (by kernel_rfl) (fun K => ?_)
  refine TS_go 12 ?_
  replace h := condO h
  rcases h with ⟨hb1, h⟩ | ⟨hb1, h⟩
  · refine TS_know 9 (b := true) hb1 (by kernel_rfl) (by kernel_rfl) ?_
    refine TS_T (by kernel_rfl) rfl ?_
    refine TS_go 8 ?_
    obtain rfl := Option.some.inj h
    exact TS_ret (by kernel_rfl) (by kernel_rfl) (by kernel_rfl)
  · refine TS_know 9 (b := false) hb1 (by kernel_rfl) (by kernel_rfl) ?_
    refine TS_F (by kernel_rfl) rfl ?_
    refine TS_go 8 ?_
    replace h := condO h
    rcases h with ⟨hb2, h⟩ | ⟨hb2, h⟩
    · refine TS_know 13 (b := true) hb2 (by kernel_rfl) (by kernel_rfl) ?_
      refine TS_T (by kernel_rfl) rfl ?_
      refine TS_go 8 ?_
      obtain rfl := Option.some.inj h
      exact TS_ret (by kernel_rfl) (by kernel_rfl) (by kernel_rfl)
    · refine TS_know 13 (b := false) hb2 (by kernel_rfl) (by kernel_rfl) ?_
      refine TS_F (by kernel_rfl) rfl ?_
      refine TS_go 4 ?_
      replace h := bindO h
      obtain ⟨v3, hv3, h⟩ := h
      refine TS_call [] (ok_octets_Uint a0 0 4 v3 hv3) (by kernel_rfl) (by kernel_rfl) ?_
      refine TS_go 11 ?_
      replace h := bindO h
      obtain ⟨l4, hl4, h⟩ := h
      refine TS_sub (ecI .u8) 1 hl4 (by kernel_rfl) (by kernel_rfl) ?_
      replace h := bindO h
      obtain ⟨l5, hl5, h⟩ := h
      refine TS_appNT 24 5 1 (ecI .u8) (fun _ => by kernel_rfl) (l2 := l4) .whole hl5 (by kernel_rfl) (by kernel_rfl) ?_
      refine TS_go 5 ?_
      refine TS_draw (by kernel_rfl) ?_
      refine TD_go 1 ?_
      refine TD_win 6 2 8 (a := 0) (b := 8) (by decide) (by decide) (by kernel_rfl) (by kernel_rfl) ?_
      refine TD_go 1 ?_
      replace h := bindO h
      obtain ⟨l6, hl6, h⟩ := h
      refine TD_sub (ecI .u8) 1 hl6 (by kernel_rfl) (by kernel_rfl) ?_
      refine TD_cpW (k := .u8) 6 2 8 [0, 0, 0, 0, 0, 0, 0, 0] l6 .whole (pre := [.lit (.int .i64 (IntKind.wrap .i64 v3.1)), .slc 1 26 (List.length l5) (List.map (ecI .u8) l5)]) (post := []) (by kernel_rfl) (by kernel_rfl) (by kernel_rfl) ?_
      refine TD_end (by kernel_rfl) ?_
      refine TS_go 4 ?_
      replace h := bindO h
      obtain ⟨v7, hv7, h⟩ := h
      refine TS_call [[0, 2]] (ok_management_Valid (S_Settings.mk (IntKind.wrap .i64 v3.1) l5 (cpA 8 [0, 0, 0, 0, 0, 0, 0, 0] (Cut.app .whole l6))) v7 hv7) (by kernel_rfl) (by kernel_rfl) ?_
      refine TS_go 2 ?_
      replace h := condO h
      rcases h with ⟨hb8, h⟩ | ⟨hb8, h⟩
      · subst hb8
        refine TS_F (by kernel_rfl) rfl ?_
        refine TS_go 8 ?_
        obtain rfl := Option.some.inj h
        exact TS_ret (by kernel_rfl) (by kernel_rfl) (by kernel_rfl)
      · subst hb8
        refine TS_T (by kernel_rfl) rfl ?_
        refine TS_go 8 ?_
        obtain rfl := Option.some.inj h
        exact TS_ret (by kernel_rfl) (by kernel_rfl) (by kernel_rfl)

/-- multihop/multihopref29.Get -/
noncomputable def F_ref29_Get_l1 (a2 : Int) (a0 : List Int) (a1 : Int) (s1 : Int × Int) : Option ((Int × Int) ⊕ (Int)) :=
  bif (decide (s1.2 < a2)) then
    (idx a0 (IntKind.wrap .i64 (a1 + s1.2))).bind fun e5 =>
    some (Sum.inl (ior .u64 (ishl .u64 s1.1 8) (IntKind.wrap .u64 e5), IntKind.wrap .i64 (s1.2 + 1)))
  else
    some (Sum.inr s1.1)
noncomputable def F_ref29_Get (a0 : List Int) (a1 : Int) (a2 : Int) : Option (Int) :=
  (loopO (F_ref29_Get_l1 a2 a0 a1) (0, 0)).bind fun b2 =>
  some (b2)
set_option maxRecDepth 100000 in
set_option maxHeartbeats 40000000 in
theorem ok_ref29_Get (a0 : List Int) (a1 : Int) (a2 : Int) (r : Int) (h : F_ref29_Get a0 a1 a2 = some r) : Con Try.prog 65 [.c (eS 1 (ecI .u8) (a0)), .c (.lit (.int .i64 (a1))), .c (.lit (.int .i64 (a2)))] [] (.c (.lit (.int .u64 (r)))) [] := by
  unfold F_ref29_Get at h
  refine con_of [] [] 25 Try.func65 rfl rfl (by kernel_rfl) (fun K => ?_)
  refine TS_go 14 ?_
  refine TS_cut ⟨[(0, []), (1, []), (2, []), (7, []), (8, [])], []⟩ (.mk [.code (codeAt [1, 1, 0, 1, 0] (bodyOf Try.f65)), .blk 0, .code (codeAt [1, 1, 1] (bodyOf Try.f65))] .normal ⟨[(0, .c (.slc 1 0 (List.length a0) (List.map (ecI .u8) a0))), (1, .c (.lit (.int .i64 (a1)))), (2, .c (.lit (.int .i64 (a2)))), (7, .c (.lit (.int .u64 (0)))), (8, .c (.lit (.int .i64 (0))))], []⟩) (by kernel_rfl) (by kernel_rfl) ?_
  replace h := bindO h
  obtain ⟨y3, hl1, hK1⟩ := h
  refine TS_loopB (F_ref29_Get_l1 a2 a0 a1) ⟨[(0, []), (1, []), (2, []), (7, []), (8, [])], []⟩ (fun (s1 : Int × Int) => [(7, .c (.lit (.int .u64 (s1.1)))), (8, .c (.lit (.int .i64 (s1.2))))]) (fun (s1 : Int × Int) => []) (0, 0) y3 (.exit 0) (fun (b : Int) => b) ⟨[(7, [])], []⟩ (fun (b2 : Int) => [(7, .c (.lit (.int .u64 (b2))))]) (fun (b2 : Int) => []) hl1 (by kernel_rfl) (by kernel_rfl) ?_ ?_
  · intro s1 x h hy1
    unfold F_ref29_Get_l1 at h
    refine TS_go 7 ?_
    replace h := condO h
    rcases h with ⟨hb4, h⟩ | ⟨hb4, h⟩
    · refine TS_know 11 (b := true) hb4 (by kernel_rfl) (by kernel_rfl) ?_
      refine TS_T (by kernel_rfl) rfl ?_
      refine TS_go 10 ?_
      replace h := bindO h
      obtain ⟨e5, he5, h⟩ := h
      refine TS_idx (ecI .u8) he5 (by kernel_rfl) (by kernel_rfl) ?_
      refine TS_go 11 ?_
      obtain rfl := Option.some.inj h
      exact TS_againB _ ⟨[(0, []), (1, []), (2, []), (7, []), (8, [])], []⟩ rfl (by kernel_rfl) (by kernel_rfl)
    · refine TS_know 11 (b := false) hb4 (by kernel_rfl) (by kernel_rfl) ?_
      refine TS_F (by kernel_rfl) rfl ?_
      refine TS_go 2 ?_
      obtain rfl := Option.some.inj h
      exact TS_brkB s1.1 ⟨[(7, [])], []⟩ rfl (by kernel_rfl) (by kernel_rfl) (by kernel_rfl)
  · intro b2 hb
    subst y3
    have h := hK1
    refine TS_go 7 ?_
    obtain rfl := Option.some.inj h
    exact TS_ret (by kernel_rfl) (by kernel_rfl) (by kernel_rfl)

/-- multihop/multihopref39.DecodeSettings -/
noncomputable def F_ref39_DecodeSettings_l1 (a0 : List Int) (s5 : Int × S_Settings) : Option ((Int × S_Settings) ⊕ (S_Settings)) :=
  bif (decide (s5.1 < 8)) then
    (idx a0 (IntKind.wrap .i64 (4 + s5.1))).bind fun e9 =>
    bif decide ((0 : Int) ≤ s5.1 ∧ s5.1 < (8 : Int)) then
      some (Sum.inl (IntKind.wrap .i64 (s5.1 + 1), (S_Settings.mk s5.2.Version s5.2.Data (setA 8 s5.2.Tag (Int.toNat s5.1) e9))))
    else none
  else
    some (Sum.inr s5.2)
noncomputable def F_ref39_DecodeSettings (a0 : List Int) : Option (S_Settings × Int) :=
  bif (decide ((List.length a0 : Int) < 12)) then
    some (((S_Settings.mk 0 ([] : List Int) [0, 0, 0, 0, 0, 0, 0, 0]), 4))
  else
    (F_ref29_Get a0 0 4).bind fun v2 =>
    (subO a0 12 (List.length a0 : Int)).bind fun l3 =>
    (appO 1 ([] : List Int) (Cut.app .whole l3)).bind fun l4 =>
    (loopO (F_ref39_DecodeSettings_l1 a0) (0, (S_Settings.mk (IntKind.wrap .i64 v2) l4 [0, 0, 0, 0, 0, 0, 0, 0]))).bind fun b6 =>
    (F_ref39_Valid b6).bind fun v12 =>
    bif v12 then
      some ((b6, 0))
    else
      some (((S_Settings.mk 0 ([] : List Int) [0, 0, 0, 0, 0, 0, 0, 0]), 5))
set_option maxRecDepth 100000 in
set_option maxHeartbeats 40000000 in
theorem ok_ref39_DecodeSettings (a0 : List Int) (r : S_Settings × Int) (h : F_ref39_DecodeSettings a0 = some r) : Con Try.prog 41 [.c (eS 1 (ecI .u8) (a0))] [] (.tup [(true, S_Settings.cs r.1), (false, [.lit (.int .i64 (r.2))])]) [] := by
  unfold F_ref39_DecodeSettings at h
  refine con_of [[0, 2]] [] 34 Try.func41 rfl rfl (by kernel_rfl) (fun K => ?_)
  refine TS_go 12 ?_
  replace h := condO h
  rcases h with ⟨hb1, h⟩ | ⟨hb1, h⟩
  · refine TS_know 8 (b := true) hb1 (by kernel_rfl) (by kernel_rfl) ?_
    refine TS_T (by kernel_rfl) rfl ?_
    refine TS_go 8 ?_
    obtain rfl := Option.some.inj h
    exact TS_ret (by kernel_rfl) (by kernel_rfl) (by kernel_rfl)
  · refine TS_know 8 (b := false) hb1 (by kernel_rfl) (by kernel_rfl) ?_
    refine TS_F (by kernel_rfl) rfl ?_
    refine TS_go 2 ?_
    refine TS_draw (by kernel_rfl) ?_
    refine TD_go 1 ?_
    replace h := bindO h
    obtain ⟨v2, hv2, h⟩ := h
    refine TD_call [] (ok_ref29_Get a0 0 4 v2 hv2) (by kernel_rfl) (by kernel_rfl) ?_
    refine TD_go 2 ?_
    replace h := bindO h
    obtain ⟨l3, hl3, h⟩ := h
    refine TD_sub (ecI .u8) 1 hl3 (by kernel_rfl) (by kernel_rfl) ?_
    replace h := bindO h
    obtain ⟨l4, hl4, h⟩ := h
    refine TD_appNT 15 5 1 (ecI .u8) (fun _ => by kernel_rfl) (l2 := l3) .whole hl4 (by kernel_rfl) (by kernel_rfl) ?_
    refine TD_go 3 ?_
    refine TD_end (by kernel_rfl) ?_
    refine TS_go 6 ?_
    refine TS_cut ⟨[(0, []), (2, []), (4, []), (5, [])], [(2, (2, [])), (15, (15, [])), (4, (4, []))]⟩ (.mk [.code (codeAt [1, 1, 1, 0, 1, 0] (bodyOf Try.f41)), .blk 0, .code (codeAt [1, 1, 1, 1] (bodyOf Try.f41))] .normal ⟨[(0, .c (.slc 1 0 (List.length a0) (List.map (ecI .u8) a0))), (2, .c (.box 2 0)), (4, .c (.box 4 0)), (5, .c (.lit (.int .i64 (0))))], [(2, .box [.lit (.int .i64 (0)), .lit (.slice none 0 0), .lit (.int .u8 (0)), .lit (.int .u8 (0)), .lit (.int .u8 (0)), .lit (.int .u8 (0)), .lit (.int .u8 (0)), .lit (.int .u8 (0)), .lit (.int .u8 (0)), .lit (.int .u8 (0))]), (15, .spare 5 1 (List.length l4)), (4, .box [.lit (.int .i64 (IntKind.wrap .i64 v2)), .slc 1 17 (List.length l4) (List.map (ecI .u8) l4), .lit (.int .u8 (0)), .lit (.int .u8 (0)), .lit (.int .u8 (0)), .lit (.int .u8 (0)), .lit (.int .u8 (0)), .lit (.int .u8 (0)), .lit (.int .u8 (0)), .lit (.int .u8 (0))])]⟩) (by kernel_rfl) (by kernel_rfl) ?_
    replace h := bindO h
    obtain ⟨y7, hl1, hK1⟩ := h
    refine TS_loopB (F_ref39_DecodeSettings_l1 a0) ⟨[(0, []), (2, []), (4, []), (5, [])], [(2, (2, [])), (4, (4, [])), (15, (15, []))]⟩ (fun (s5 : Int × S_Settings) => [(5, .c (.lit (.int .i64 (s5.1))))]) (fun (s5 : Int × S_Settings) => [(4, .box [.lit (.int .i64 (s5.2.Version)), .slc 1 17 (List.length s5.2.Data) (List.map (ecI .u8) s5.2.Data), .lit (.int .u8 ((s5.2.Tag.getD 0 0))), .lit (.int .u8 ((s5.2.Tag.getD 1 0))), .lit (.int .u8 ((s5.2.Tag.getD 2 0))), .lit (.int .u8 ((s5.2.Tag.getD 3 0))), .lit (.int .u8 ((s5.2.Tag.getD 4 0))), .lit (.int .u8 ((s5.2.Tag.getD 5 0))), .lit (.int .u8 ((s5.2.Tag.getD 6 0))), .lit (.int .u8 ((s5.2.Tag.getD 7 0)))]), (15, .spare 5 1 (List.length s5.2.Data))]) (0, (S_Settings.mk (IntKind.wrap .i64 v2) l4 [0, 0, 0, 0, 0, 0, 0, 0])) y7 (.exit 0) (fun (b : S_Settings) => b) ⟨[(2, []), (4, [])], [(2, (2, [])), (4, (4, [])), (15, (15, []))]⟩ (fun (b6 : S_Settings) => []) (fun (b6 : S_Settings) => [(4, .box [.lit (.int .i64 (b6.Version)), .slc 1 17 (List.length b6.Data) (List.map (ecI .u8) b6.Data), .lit (.int .u8 ((b6.Tag.getD 0 0))), .lit (.int .u8 ((b6.Tag.getD 1 0))), .lit (.int .u8 ((b6.Tag.getD 2 0))), .lit (.int .u8 ((b6.Tag.getD 3 0))), .lit (.int .u8 ((b6.Tag.getD 4 0))), .lit (.int .u8 ((b6.Tag.getD 5 0))), .lit (.int .u8 ((b6.Tag.getD 6 0))), .lit (.int .u8 ((b6.Tag.getD 7 0)))]), (15, .spare 5 1 (List.length b6.Data))]) hl1 (by kernel_rfl) (by kernel_rfl) ?_ ?_
    · intro s5 x h hy1
      unfold F_ref39_DecodeSettings_l1 at h
      refine TS_go 6 ?_
      replace h := condO h
      rcases h with ⟨hb8, h⟩ | ⟨hb8, h⟩
      · refine TS_know 18 (b := true) hb8 (by kernel_rfl) (by kernel_rfl) ?_
        refine TS_T (by kernel_rfl) rfl ?_
        refine TS_go 8 ?_
        replace h := bindO h
        obtain ⟨e9, he9, h⟩ := h
        refine TS_idx (ecI .u8) he9 (by kernel_rfl) (by kernel_rfl) ?_
        refine TS_go 2 ?_
        replace h := chkO h
        obtain ⟨hc10, h⟩ := h
        refine TS_idxA 4 2 8 (i := s5.1) hc10 (by kernel_rfl) (by kernel_rfl) ?_
        refine TS_stA (k := .u8) (d := 4) 2 8 (i := s5.1) (v := e9) s5.2.Tag (pre := [.lit (.int .i64 (s5.2.Version)), .slc 1 17 (List.length s5.2.Data) (List.map (ecI .u8) s5.2.Data)]) (post := []) hc10 (by kernel_rfl) (by kernel_rfl) (by kernel_rfl) ?_
        refine TS_go 7 ?_
        obtain rfl := Option.some.inj h
        exact TS_againB _ ⟨[(0, []), (2, []), (4, []), (5, [])], [(2, (2, [])), (4, (4, [])), (15, (15, []))]⟩ rfl (by kernel_rfl) (by kernel_rfl)
      · refine TS_know 18 (b := false) hb8 (by kernel_rfl) (by kernel_rfl) ?_
        refine TS_F (by kernel_rfl) rfl ?_
        refine TS_go 2 ?_
        obtain rfl := Option.some.inj h
        exact TS_brkB s5.2 ⟨[(2, []), (4, [])], [(2, (2, [])), (4, (4, [])), (15, (15, []))]⟩ rfl (by kernel_rfl) (by kernel_rfl) (by kernel_rfl)
    · intro b6 hb
      subst y7
      have h := hK1
      refine TS_go 5 ?_
      replace h := bindO h
      obtain ⟨v12, hv12, h⟩ := h
      refine TS_call [[0, 2]] (ok_ref39_Valid b6 v12 hv12) (by kernel_rfl) (by kernel_rfl) ?_
      refine TS_go 2 ?_
      replace h := condO h
      rcases h with ⟨hb13, h⟩ | ⟨hb13, h⟩
      · subst hb13
        refine TS_F (by kernel_rfl) rfl ?_
        refine TS_go 8 ?_
        obtain rfl := Option.some.inj h
        exact TS_ret (by kernel_rfl) (by kernel_rfl) (by kernel_rfl)
      · subst hb13
        refine TS_T (by kernel_rfl) rfl ?_
        refine TS_go 8 ?_
        obtain rfl := Option.some.inj h
        exact TS_ret (by kernel_rfl) (by kernel_rfl) (by kernel_rfl)

end Go.Proofs.Ytcjoflgnifafiaa
