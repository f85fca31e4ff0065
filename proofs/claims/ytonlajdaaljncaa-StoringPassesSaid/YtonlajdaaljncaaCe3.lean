/-
  Written by cc3.py: what the Go functions compute, as plain functions, and that they do.
-/
import Derived.Test.YtonlajdaaljncaaCe2
namespace Go.Proofs.Ytonlajdaaljncaa
open Go.RowKit
attribute [local irreducible] TS go TD goD

/-- multihop/multihopref33.Accept -/
noncomputable def F_ref33_Accept_j2 (s15 : (List S_Down) × Int) (v19 : (List S_Down)) : Option (((List S_Down) × Int) ⊕ ((List S_Down))) :=
  some (Sum.inl (v19, IntKind.wrap .i64 (s15.2 + 1)))
noncomputable def F_ref33_Accept_l1 (a0 : List S_Down) (a3 : S_Register) (s15 : (List S_Down) × Int) : Option (((List S_Down) × Int) ⊕ ((List S_Down))) :=
  bif (decide (s15.2 < (List.length a0 : Int))) then
    (idx a0 s15.2).bind fun e20 =>
    bif (S_Prefix.eqb e20.Target a3.Target) then
      (F_ref33_Accept_j2 s15) s15.1
    else
      (appO 48 s15.1 (Cut.app .whole ([e20] : List S_Down))).bind fun l22 =>
      (F_ref33_Accept_j2 s15) l22
  else
    some (Sum.inr s15.1)
noncomputable def F_ref33_Accept_j4 (s33 : (List S_Down) × Int) (v37 : (List S_Down)) : Option (((List S_Down) × Int) ⊕ ((List S_Down))) :=
  some (Sum.inl (v37, IntKind.wrap .i64 (s33.2 + 1)))
noncomputable def F_ref33_Accept_l3 (a0 : List S_Down) (a3 : S_Register) (s33 : (List S_Down) × Int) : Option (((List S_Down) × Int) ⊕ ((List S_Down))) :=
  bif (decide (s33.2 < (List.length a0 : Int))) then
    (idx a0 s33.2).bind fun e38 =>
    bif (S_Prefix.eqb e38.Target a3.Target) then
      (F_ref33_Accept_j4 s33) s33.1
    else
      (appO 48 s33.1 (Cut.app .whole ([e38] : List S_Down))).bind fun l40 =>
      (F_ref33_Accept_j4 s33) l40
  else
    some (Sum.inr s33.1)
noncomputable def F_ref33_Accept_l5 (a0 : List S_Down) (s49 : (List S_Down) × Int) : Option (((List S_Down) × Int) ⊕ ((List S_Down))) :=
  bif (decide (s49.2 < (List.length a0 : Int))) then
    (idx a0 s49.2).bind fun e53 =>
    (appO 48 s49.1 (Cut.app .whole ([e53] : List S_Down))).bind fun l54 =>
    some (Sum.inl (l54, IntKind.wrap .i64 (s49.2 + 1)))
  else
    some (Sum.inr s49.1)
noncomputable def F_ref33_Accept (a0 : List S_Down) (a1 : Int) (a2 : Int) (a3 : S_Register) : Option ((List S_Down) × Bool × Int) :=
  (F_ref33_Valid a0).bind fun v1 =>
  bif v1 then
    (F_ref33_ValidRegister a3).bind fun v3 =>
    bif v3 then
      bif (a2 == 0) then
        some ((([] : List S_Down), false, 1))
      else
        (F_ref22_IsTime a1).bind fun v6 =>
        bif v6 then
          (F_ref33_Find a0 a1 a3.Target).bind fun v8 =>
          bif v8.2 then
            (F_ref21_Newer v8.1.Sequence a3.Sequence).bind fun v10 =>
            bif v10 then
              some ((([] : List S_Down), false, 16))
            else
              bif (v8.1.Sequence == a3.Sequence) then
                bif (v8.1.Via != a2) then
                  some ((([] : List S_Down), false, 16))
                else
                  bif (a3.Lifetime == 0) then
                    (loopO (F_ref33_Accept_l1 a0 a3) (([] : List S_Down), 0)).bind fun b16 =>
                    some ((b16, true, 0))
                  else
                    (F_ref22_After a1 a3.Lifetime).bind fun v24 =>
                    bif (v8.1.Via == a2) then
                      bif (decide (v8.1.Until ≥ v24)) then
                        (appO 48 ([] : List S_Down) (Cut.app .whole a0)).bind fun l27 =>
                        some ((l27, false, 0))
                      else
                        (F_ref33_put a0 (S_Down.mk a3.Target a2 a3.Sequence v24)).bind fun v28 =>
                        bif (decide ((List.length v28 : Int) > 128)) then
                          some ((([] : List S_Down), false, 10))
                        else
                          some ((v28, true, 0))
                    else
                      (F_ref33_put a0 (S_Down.mk a3.Target a2 a3.Sequence v24)).bind fun v30 =>
                      bif (decide ((List.length v30 : Int) > 128)) then
                        some ((([] : List S_Down), false, 10))
                      else
                        some ((v30, true, 0))
              else
                bif (a3.Lifetime == 0) then
                  (loopO (F_ref33_Accept_l3 a0 a3) (([] : List S_Down), 0)).bind fun b34 =>
                  some ((b34, true, 0))
                else
                  (F_ref22_After a1 a3.Lifetime).bind fun v42 =>
                  bif (v8.1.Via == a2) then
                    (F_ref33_put a0 (S_Down.mk a3.Target a2 a3.Sequence v42)).bind fun v44 =>
                    bif (decide ((List.length v44 : Int) > 128)) then
                      some ((([] : List S_Down), false, 10))
                    else
                      some ((v44, true, 0))
                  else
                    (F_ref33_put a0 (S_Down.mk a3.Target a2 a3.Sequence v42)).bind fun v46 =>
                    bif (decide ((List.length v46 : Int) > 128)) then
                      some ((([] : List S_Down), false, 10))
                    else
                      some ((v46, true, 0))
          else
            bif (a3.Lifetime == 0) then
              (loopO (F_ref33_Accept_l5 a0) (([] : List S_Down), 0)).bind fun b50 =>
              some ((b50, false, 0))
            else
              (F_ref22_After a1 a3.Lifetime).bind fun v56 =>
              (F_ref33_put a0 (S_Down.mk a3.Target a2 a3.Sequence v56)).bind fun v57 =>
              bif (decide ((List.length v57 : Int) > 128)) then
                some ((([] : List S_Down), false, 10))
              else
                some ((v57, true, 0))
        else
          some ((([] : List S_Down), false, 2))
    else
      some ((([] : List S_Down), false, 1))
  else
    some ((([] : List S_Down), false, 1))
set_option maxRecDepth 100000 in
set_option maxHeartbeats 40000000 in
theorem okT_ref33_Accept (a0 : List S_Down) (a1 : Int) (a2 : Int) (a3 : S_Register) (r : (List S_Down) × Bool × Int) (h : F_ref33_Accept a0 a1 a2 a3 = some r) : Con Try.prog 39 [.c (eS 20 S_Down.cs (a0)), .c (.lit (.int .i64 (a1))), .c (.lit (.int .u64 (a2))), .agg (S_Register.cs a3)] [] (.tup [(false, [.slc 20 900002 (List.length r.1) (List.map S_Down.cs r.1)]), (false, [.lit (.bool (r.2.1))]), (false, [.lit (.int .i64 (r.2.2))])]) [(900000, .spare 39 20 (List.length r.1))] := by
  unfold F_ref33_Accept at h
  refine con_of [] [(900000, [])] 127 Try.func39 rfl rfl (by kernel_rfl) (fun K => ?_)
  refine TS_go 11 ?_
  replace h := bindO h
  obtain ⟨v1, hv1, h⟩ := h
  refine TS_call [] (ok_ref33_Valid a0 v1 hv1) (by kernel_rfl) (by kernel_rfl) ?_
  refine TS_go 2 ?_
  replace h := condO h
  rcases h with ⟨hb2, h⟩ | ⟨hb2, h⟩
  · subst hb2
    refine TS_go 1 ?_
    replace h := bindO h
    obtain ⟨v3, hv3, h⟩ := h
    refine TS_call [] (ok_ref33_ValidRegister a3 v3 hv3) (by kernel_rfl) (by kernel_rfl) ?_
    refine TS_go 3 ?_
    replace h := condO h
    rcases h with ⟨hb4, h⟩ | ⟨hb4, h⟩
    · subst hb4
      refine TS_go 4 ?_
      replace h := condO h
      rcases h with ⟨hb5, h⟩ | ⟨hb5, h⟩
      · refine TS_know 28 (b := true) hb5 (by kernel_rfl) (by kernel_rfl) ?_
        refine TS_know 29 (b := true) hb5 (by kernel_rfl) (by kernel_rfl) ?_
        refine TS_T (by kernel_rfl) rfl ?_
        refine TS_go 6 ?_
        refine TS_nilT 8 600000 39 20 (by kernel_rfl) ?_
        refine TS_fitU ⟨[(8, []), (9, []), (10, [])], [(600000, (900000, []))]⟩ (by kernel_rfl) ?_
        refine TS_go 2 ?_
        obtain rfl := Option.some.inj h
        exact TS_ret (by kernel_rfl) (by kernel_rfl) (by kernel_rfl)
      · refine TS_know 28 (b := false) hb5 (by kernel_rfl) (by kernel_rfl) ?_
        refine TS_know 29 (b := false) hb5 (by kernel_rfl) (by kernel_rfl) ?_
        refine TS_F (by kernel_rfl) rfl ?_
        refine TS_go 5 ?_
        replace h := bindO h
        obtain ⟨v6, hv6, h⟩ := h
        refine TS_call [] (ok_ref22_IsTime a1 v6 hv6) (by kernel_rfl) (by kernel_rfl) ?_
        refine TS_go 2 ?_
        replace h := condO h
        rcases h with ⟨hb7, h⟩ | ⟨hb7, h⟩
        · subst hb7
          refine TS_F (by kernel_rfl) rfl ?_
          refine TS_go 7 ?_
          replace h := bindO h
          obtain ⟨v8, hv8, h⟩ := h
          refine TS_call [] (ok_ref33_Find a0 a1 a3.Target v8 hv8) (by kernel_rfl) (by kernel_rfl) ?_
          refine TS_go 12 ?_
          replace h := condO h
          rcases h with ⟨hb9, h⟩ | ⟨hb9, h⟩
          · refine TS_know 40 (b := true) hb9 (by kernel_rfl) (by kernel_rfl) ?_
            refine TS_know 12 (b := true) hb9 (by kernel_rfl) (by kernel_rfl) ?_
            refine TS_know 41 (b := true) hb9 (by kernel_rfl) (by kernel_rfl) ?_
            refine TS_know 42 (b := true) hb9 (by kernel_rfl) (by kernel_rfl) ?_
            refine TS_go 4 ?_
            replace h := bindO h
            obtain ⟨v10, hv10, h⟩ := h
            refine TS_call [] (ok_ref21_Newer v8.1.Sequence a3.Sequence v10 hv10) (by kernel_rfl) (by kernel_rfl) ?_
            refine TS_go 1 ?_
            replace h := condO h
            rcases h with ⟨hb11, h⟩ | ⟨hb11, h⟩
            · subst hb11
              refine TS_go 14 ?_
              refine TS_T (by kernel_rfl) rfl ?_
              refine TS_go 6 ?_
              refine TS_nilT 8 600000 39 20 (by kernel_rfl) ?_
              refine TS_fitU ⟨[(8, []), (9, []), (10, [])], [(600000, (900000, []))]⟩ (by kernel_rfl) ?_
              refine TS_go 2 ?_
              obtain rfl := Option.some.inj h
              exact TS_ret (by kernel_rfl) (by kernel_rfl) (by kernel_rfl)
            · subst hb11
              refine TS_go 6 ?_
              replace h := condO h
              rcases h with ⟨hb12, h⟩ | ⟨hb12, h⟩
              · refine TS_know 53 (b := true) hb12 (by kernel_rfl) (by kernel_rfl) ?_
                refine TS_know 54 (b := true) hb12 (by kernel_rfl) (by kernel_rfl) ?_
                refine TS_go 8 ?_
                replace h := condO h
                rcases h with ⟨hb13, h⟩ | ⟨hb13, h⟩
                · refine TS_know 58 (b := true) hb13 (by kernel_rfl) (by kernel_rfl) ?_
                  refine TS_know 59 (b := true) hb13 (by kernel_rfl) (by kernel_rfl) ?_
                  refine TS_know 60 (b := true) hb13 (by kernel_rfl) (by kernel_rfl) ?_
                  refine TS_know 61 (b := true) hb13 (by kernel_rfl) (by kernel_rfl) ?_
                  refine TS_T (by kernel_rfl) rfl ?_
                  refine TS_go 6 ?_
                  refine TS_nilT 8 600000 39 20 (by kernel_rfl) ?_
                  refine TS_fitU ⟨[(8, []), (9, []), (10, [])], [(600000, (900000, []))]⟩ (by kernel_rfl) ?_
                  refine TS_go 2 ?_
                  obtain rfl := Option.some.inj h
                  exact TS_ret (by kernel_rfl) (by kernel_rfl) (by kernel_rfl)
                · refine TS_know 58 (b := false) hb13 (by kernel_rfl) (by kernel_rfl) ?_
                  refine TS_know 59 (b := false) hb13 (by kernel_rfl) (by kernel_rfl) ?_
                  refine TS_know 60 (b := false) hb13 (by kernel_rfl) (by kernel_rfl) ?_
                  refine TS_know 61 (b := false) hb13 (by kernel_rfl) (by kernel_rfl) ?_
                  refine TS_F (by kernel_rfl) rfl ?_
                  refine TS_go 8 ?_
                  replace h := condO h
                  rcases h with ⟨hb14, h⟩ | ⟨hb14, h⟩
                  · refine TS_know 64 (b := true) hb14 (by kernel_rfl) (by kernel_rfl) ?_
                    refine TS_T (by kernel_rfl) rfl ?_
                    refine TS_go 12 ?_
                    refine TS_nilT 13 600000 39 20 (by kernel_rfl) ?_
                    refine TS_cut ⟨[(7, []), (12, []), (13, []), (65, []), (66, []), (67, [])], [(7, (7, [])), (600000, (600000, []))]⟩ (.mk [.code (codeAt [1, 1, 1, 1, 1, 0, 1, 0, 1, 0, 1, 0] (bodyOf Try.f39)), .blk 0, .code (codeAt [1, 1, 1, 1, 1, 0, 1, 0, 1, 1] (bodyOf Try.f39)), .code (codeAt [1, 1, 1, 1, 1, 1] (bodyOf Try.f39))] .normal ⟨[(7, .c (.box 7 0)), (12, .c (.lit (.bool (true)))), (13, .c (.slc 20 600002 (List.length ([] : List S_Down)) (List.map S_Down.cs ([] : List S_Down)))), (65, .c (.slc 20 0 (List.length a0) (List.map S_Down.cs a0))), (66, .c (.lit (.int .i64 ((List.length a0 : Int))))), (67, .c (.lit (.int .i64 (0))))], [(7, .box [.lit (.int .u8 ((a3.Target.IP.getD 0 0))), .lit (.int .u8 ((a3.Target.IP.getD 1 0))), .lit (.int .u8 ((a3.Target.IP.getD 2 0))), .lit (.int .u8 ((a3.Target.IP.getD 3 0))), .lit (.int .u8 ((a3.Target.IP.getD 4 0))), .lit (.int .u8 ((a3.Target.IP.getD 5 0))), .lit (.int .u8 ((a3.Target.IP.getD 6 0))), .lit (.int .u8 ((a3.Target.IP.getD 7 0))), .lit (.int .u8 ((a3.Target.IP.getD 8 0))), .lit (.int .u8 ((a3.Target.IP.getD 9 0))), .lit (.int .u8 ((a3.Target.IP.getD 10 0))), .lit (.int .u8 ((a3.Target.IP.getD 11 0))), .lit (.int .u8 ((a3.Target.IP.getD 12 0))), .lit (.int .u8 ((a3.Target.IP.getD 13 0))), .lit (.int .u8 ((a3.Target.IP.getD 14 0))), .lit (.int .u8 ((a3.Target.IP.getD 15 0))), .lit (.int .i64 (a3.Target.Bits)), .lit (.int .u8 (a3.Sequence)), .lit (.int .i64 (a3.Lifetime))]), (600000, .spare 39 20 (List.length ([] : List S_Down)))]⟩) (by kernel_rfl) (by kernel_rfl) ?_
                    replace h := bindO h
                    obtain ⟨y17, hl1, hK1⟩ := h
                    refine TS_loopB (F_ref33_Accept_l1 a0 a3) ⟨[(7, []), (12, []), (13, []), (65, []), (66, []), (67, [])], [(7, (7, [])), (600000, (600000, []))]⟩ (fun (s15 : (List S_Down) × Int) => [(13, .c (.slc 20 600002 (List.length s15.1) (List.map S_Down.cs s15.1))), (67, .c (.lit (.int .i64 (s15.2))))]) (fun (s15 : (List S_Down) × Int) => [(600000, .spare 39 20 (List.length s15.1))]) (([] : List S_Down), 0) y17 (.exit 0) (fun (b : (List S_Down)) => b) ⟨[(12, []), (13, [])], [(600000, (600000, []))]⟩ (fun (b16 : (List S_Down)) => [(13, .c (.slc 20 600002 (List.length b16) (List.map S_Down.cs b16)))]) (fun (b16 : (List S_Down)) => [(600000, .spare 39 20 (List.length b16))]) hl1 (by kernel_rfl) (by kernel_rfl) ?_ ?_
                    · intro s15 x h hy1
                      unfold F_ref33_Accept_l1 at h
                      refine TS_go 5 ?_
                      replace h := condO h
                      rcases h with ⟨hb18, h⟩ | ⟨hb18, h⟩
                      · refine TS_know 68 (b := true) hb18 (by kernel_rfl) (by kernel_rfl) ?_
                        refine TS_T (by kernel_rfl) rfl ?_
                        refine TS_go 1 ?_
                        refine TS_cut ⟨[(7, []), (12, []), (13, []), (65, []), (66, []), (67, [])], [(7, (7, [])), (600000, (600000, []))]⟩ (.mk [.code (codeAt [1, 1, 1, 1, 1, 0, 1, 0, 1, 0, 1, 0, 0, 1, 1] (bodyOf Try.f39))] .normal ⟨[(7, .c (.box 7 0)), (12, .c (.lit (.bool (true)))), (13, .c (.slc 20 600002 (List.length s15.1) (List.map S_Down.cs s15.1))), (65, .c (.slc 20 0 (List.length a0) (List.map S_Down.cs a0))), (66, .c (.lit (.int .i64 ((List.length a0 : Int))))), (67, .c (.lit (.int .i64 (s15.2))))], [(7, .box [.lit (.int .u8 ((a3.Target.IP.getD 0 0))), .lit (.int .u8 ((a3.Target.IP.getD 1 0))), .lit (.int .u8 ((a3.Target.IP.getD 2 0))), .lit (.int .u8 ((a3.Target.IP.getD 3 0))), .lit (.int .u8 ((a3.Target.IP.getD 4 0))), .lit (.int .u8 ((a3.Target.IP.getD 5 0))), .lit (.int .u8 ((a3.Target.IP.getD 6 0))), .lit (.int .u8 ((a3.Target.IP.getD 7 0))), .lit (.int .u8 ((a3.Target.IP.getD 8 0))), .lit (.int .u8 ((a3.Target.IP.getD 9 0))), .lit (.int .u8 ((a3.Target.IP.getD 10 0))), .lit (.int .u8 ((a3.Target.IP.getD 11 0))), .lit (.int .u8 ((a3.Target.IP.getD 12 0))), .lit (.int .u8 ((a3.Target.IP.getD 13 0))), .lit (.int .u8 ((a3.Target.IP.getD 14 0))), .lit (.int .u8 ((a3.Target.IP.getD 15 0))), .lit (.int .i64 (a3.Target.Bits)), .lit (.int .u8 (a3.Sequence)), .lit (.int .i64 (a3.Lifetime))]), (600000, .spare 39 20 (List.length s15.1))]⟩) (by kernel_rfl) (by kernel_rfl) ?_
                        refine TS_joinB ⟨[(7, []), (12, []), (13, []), (65, []), (66, []), (67, [])], [(7, (7, [])), (600000, (600000, []))]⟩ (fun (v19 : (List S_Down)) => [(13, .c (.slc 20 600002 (List.length v19) (List.map S_Down.cs v19)))]) (fun (v19 : (List S_Down)) => [(600000, .spare 39 20 (List.length v19))]) (F_ref33_Accept_j2 s15) x ?_ ?_
                        · clear h
                          intro v19 h
                          unfold F_ref33_Accept_j2 at h
                          refine TS_go 4 ?_
                          obtain rfl := Option.some.inj h
                          exact TS_againB _ ⟨[(7, []), (12, []), (13, []), (65, []), (66, []), (67, [])], [(7, (7, [])), (600000, (600000, []))]⟩ rfl (by kernel_rfl) (by kernel_rfl)
                        · refine TS_go 3 ?_
                          replace h := bindO h
                          obtain ⟨e20, he20, h⟩ := h
                          refine TS_idx S_Down.cs he20 (by kernel_rfl) (by kernel_rfl) ?_
                          refine TS_go 16 ?_
                          replace h := condO h
                          rcases h with ⟨hb21, h⟩ | ⟨hb21, h⟩
                          · refine TS_know 78 (b := false) (notF hb21) (by kernel_rfl) (by kernel_rfl) ?_
                            refine TS_know 79 (b := false) (notF hb21) (by kernel_rfl) (by kernel_rfl) ?_
                            refine TS_F (by kernel_rfl) rfl ?_
                            refine TS_go 2 ?_
                            exact TS_meet s15.1 ⟨[(7, []), (12, []), (13, []), (65, []), (66, []), (67, [])], [(7, (7, [])), (600000, (600000, []))]⟩ h (by kernel_rfl) (by kernel_rfl)
                          · refine TS_know 78 (b := true) (notT hb21) (by kernel_rfl) (by kernel_rfl) ?_
                            refine TS_know 79 (b := true) (notT hb21) (by kernel_rfl) (by kernel_rfl) ?_
                            refine TS_T (by kernel_rfl) rfl ?_
                            refine TS_go 3 ?_
                            refine TS_litNT 82 39 20 S_Down.cs [] ([e20] : List S_Down) (by kernel_rfl) (by kernel_rfl) ?_
                            replace h := bindO h
                            obtain ⟨l22, hl22, h⟩ := h
                            refine TS_appT (d := 600000) (e := 39) (sz := 20) (N := List.length s15.1) S_Down.cs (fun _ => by kernel_rfl) (l1 := s15.1) (l2 := ([e20] : List S_Down)) (c := .whole) hl22 (by kernel_rfl) (by kernel_rfl) ?_
                            refine TS_go 3 ?_
                            exact TS_meet l22 ⟨[(7, []), (12, []), (13, []), (65, []), (66, []), (67, [])], [(7, (7, [])), (600000, (600000, []))]⟩ h (by kernel_rfl) (by kernel_rfl)
                      · refine TS_know 68 (b := false) hb18 (by kernel_rfl) (by kernel_rfl) ?_
                        refine TS_F (by kernel_rfl) rfl ?_
                        refine TS_go 2 ?_
                        obtain rfl := Option.some.inj h
                        exact TS_brkB s15.1 ⟨[(12, []), (13, [])], [(600000, (600000, []))]⟩ rfl (by kernel_rfl) (by kernel_rfl) (by kernel_rfl)
                    · intro b16 hb
                      subst y17
                      have h := hK1
                      refine TS_go 9 ?_
                      refine TS_fitU ⟨[(8, []), (9, []), (10, [])], [(600000, (900000, []))]⟩ (by kernel_rfl) ?_
                      refine TS_go 2 ?_
                      obtain rfl := Option.some.inj h
                      exact TS_ret (by kernel_rfl) (by kernel_rfl) (by kernel_rfl)
                  · refine TS_know 64 (b := false) hb14 (by kernel_rfl) (by kernel_rfl) ?_
                    refine TS_F (by kernel_rfl) rfl ?_
                    refine TS_go 2 ?_
                    refine TS_draw (by kernel_rfl) ?_
                    refine TD_go 8 ?_
                    replace h := bindO h
                    obtain ⟨v24, hv24, h⟩ := h
                    refine TD_call [] (ok_ref22_After a1 a3.Lifetime v24 hv24) (by kernel_rfl) (by kernel_rfl) ?_
                    refine TD_go 3 ?_
                    refine TD_end (by kernel_rfl) ?_
                    refine TS_go 11 ?_
                    replace h := condO h
                    rcases h with ⟨hb25, h⟩ | ⟨hb25, h⟩
                    · refine TS_know 102 (b := true) hb25 (by kernel_rfl) (by kernel_rfl) ?_
                      refine TS_know 103 (b := true) hb25 (by kernel_rfl) (by kernel_rfl) ?_
                      refine TS_know 104 (b := true) hb25 (by kernel_rfl) (by kernel_rfl) ?_
                      refine TS_go 5 ?_
                      refine TS_know 109 (b := true) hb12 (by kernel_rfl) (by kernel_rfl) ?_
                      refine TS_go 9 ?_
                      replace h := condO h
                      rcases h with ⟨hb26, h⟩ | ⟨hb26, h⟩
                      · refine TS_know 116 (b := true) hb26 (by kernel_rfl) (by kernel_rfl) ?_
                        refine TS_know 117 (b := true) hb26 (by kernel_rfl) (by kernel_rfl) ?_
                        refine TS_T (by kernel_rfl) rfl ?_
                        refine TS_go 3 ?_
                        replace h := bindO h
                        obtain ⟨l27, hl27, h⟩ := h
                        refine TS_appNT 119 39 20 S_Down.cs (fun _ => by kernel_rfl) (l2 := a0) .whole hl27 (by kernel_rfl) (by kernel_rfl) ?_
                        refine TS_go 4 ?_
                        refine TS_fitU ⟨[(8, []), (9, []), (10, [])], [(119, (900000, []))]⟩ (by kernel_rfl) ?_
                        refine TS_go 2 ?_
                        obtain rfl := Option.some.inj h
                        exact TS_ret (by kernel_rfl) (by kernel_rfl) (by kernel_rfl)
                      · refine TS_know 116 (b := false) hb26 (by kernel_rfl) (by kernel_rfl) ?_
                        refine TS_know 117 (b := false) hb26 (by kernel_rfl) (by kernel_rfl) ?_
                        refine TS_F (by kernel_rfl) rfl ?_
                        refine TS_go 5 ?_
                        replace h := bindO h
                        obtain ⟨v28, hv28, h⟩ := h
                        refine TS_con [] [(122, 900000)] none (okT_ref33_put a0 (S_Down.mk a3.Target a2 a3.Sequence v24) v28 hv28) (by kernel_rfl) (by kernel_rfl) (by kernel_rfl) ?_
                        refine TS_go 9 ?_
                        replace h := condO h
                        rcases h with ⟨hb29, h⟩ | ⟨hb29, h⟩
                        · refine TS_know 125 (b := true) hb29 (by kernel_rfl) (by kernel_rfl) ?_
                          refine TS_T (by kernel_rfl) rfl ?_
                          refine TS_go 6 ?_
                          refine TS_nilT 8 600000 39 20 (by kernel_rfl) ?_
                          refine TS_fitU ⟨[(8, []), (9, []), (10, [])], [(600000, (900000, []))]⟩ (by kernel_rfl) ?_
                          refine TS_go 2 ?_
                          obtain rfl := Option.some.inj h
                          exact TS_ret (by kernel_rfl) (by kernel_rfl) (by kernel_rfl)
                        · refine TS_know 125 (b := false) hb29 (by kernel_rfl) (by kernel_rfl) ?_
                          refine TS_F (by kernel_rfl) rfl ?_
                          refine TS_go 8 ?_
                          refine TS_fitU ⟨[(8, []), (9, []), (10, [])], [(122, (900000, []))]⟩ (by kernel_rfl) ?_
                          refine TS_go 1 ?_
                          obtain rfl := Option.some.inj h
                          exact TS_ret (by kernel_rfl) (by kernel_rfl) (by kernel_rfl)
                    · refine TS_know 102 (b := false) hb25 (by kernel_rfl) (by kernel_rfl) ?_
                      refine TS_know 103 (b := false) hb25 (by kernel_rfl) (by kernel_rfl) ?_
                      refine TS_know 104 (b := false) hb25 (by kernel_rfl) (by kernel_rfl) ?_
                      refine TS_go 14 ?_
                      refine TS_F (by kernel_rfl) rfl ?_
                      refine TS_go 5 ?_
                      replace h := bindO h
                      obtain ⟨v30, hv30, h⟩ := h
                      refine TS_con [] [(122, 900000)] none (okT_ref33_put a0 (S_Down.mk a3.Target a2 a3.Sequence v24) v30 hv30) (by kernel_rfl) (by kernel_rfl) (by kernel_rfl) ?_
                      refine TS_go 9 ?_
                      replace h := condO h
                      rcases h with ⟨hb31, h⟩ | ⟨hb31, h⟩
                      · refine TS_know 125 (b := true) hb31 (by kernel_rfl) (by kernel_rfl) ?_
                        refine TS_T (by kernel_rfl) rfl ?_
                        refine TS_go 6 ?_
                        refine TS_nilT 8 600000 39 20 (by kernel_rfl) ?_
                        refine TS_fitU ⟨[(8, []), (9, []), (10, [])], [(600000, (900000, []))]⟩ (by kernel_rfl) ?_
                        refine TS_go 2 ?_
                        obtain rfl := Option.some.inj h
                        exact TS_ret (by kernel_rfl) (by kernel_rfl) (by kernel_rfl)
                      · refine TS_know 125 (b := false) hb31 (by kernel_rfl) (by kernel_rfl) ?_
                        refine TS_F (by kernel_rfl) rfl ?_
                        refine TS_go 8 ?_
                        refine TS_fitU ⟨[(8, []), (9, []), (10, [])], [(122, (900000, []))]⟩ (by kernel_rfl) ?_
                        refine TS_go 1 ?_
                        obtain rfl := Option.some.inj h
                        exact TS_ret (by kernel_rfl) (by kernel_rfl) (by kernel_rfl)
              · refine TS_know 53 (b := false) hb12 (by kernel_rfl) (by kernel_rfl) ?_
                refine TS_know 54 (b := false) hb12 (by kernel_rfl) (by kernel_rfl) ?_
                refine TS_go 8 ?_
                refine TS_F (by kernel_rfl) rfl ?_
                refine TS_go 8 ?_
                replace h := condO h
                rcases h with ⟨hb32, h⟩ | ⟨hb32, h⟩
                · refine TS_know 64 (b := true) hb32 (by kernel_rfl) (by kernel_rfl) ?_
                  refine TS_T (by kernel_rfl) rfl ?_
                  refine TS_go 12 ?_
                  refine TS_nilT 13 600000 39 20 (by kernel_rfl) ?_
                  refine TS_cut ⟨[(7, []), (12, []), (13, []), (65, []), (66, []), (67, [])], [(7, (7, [])), (600000, (600000, []))]⟩ (.mk [.code (codeAt [1, 1, 1, 1, 1, 0, 1, 0, 1, 0, 1, 0] (bodyOf Try.f39)), .blk 0, .code (codeAt [1, 1, 1, 1, 1, 0, 1, 0, 1, 1] (bodyOf Try.f39)), .code (codeAt [1, 1, 1, 1, 1, 1] (bodyOf Try.f39))] .normal ⟨[(7, .c (.box 7 0)), (12, .c (.lit (.bool (true)))), (13, .c (.slc 20 600002 (List.length ([] : List S_Down)) (List.map S_Down.cs ([] : List S_Down)))), (65, .c (.slc 20 0 (List.length a0) (List.map S_Down.cs a0))), (66, .c (.lit (.int .i64 ((List.length a0 : Int))))), (67, .c (.lit (.int .i64 (0))))], [(7, .box [.lit (.int .u8 ((a3.Target.IP.getD 0 0))), .lit (.int .u8 ((a3.Target.IP.getD 1 0))), .lit (.int .u8 ((a3.Target.IP.getD 2 0))), .lit (.int .u8 ((a3.Target.IP.getD 3 0))), .lit (.int .u8 ((a3.Target.IP.getD 4 0))), .lit (.int .u8 ((a3.Target.IP.getD 5 0))), .lit (.int .u8 ((a3.Target.IP.getD 6 0))), .lit (.int .u8 ((a3.Target.IP.getD 7 0))), .lit (.int .u8 ((a3.Target.IP.getD 8 0))), .lit (.int .u8 ((a3.Target.IP.getD 9 0))), .lit (.int .u8 ((a3.Target.IP.getD 10 0))), .lit (.int .u8 ((a3.Target.IP.getD 11 0))), .lit (.int .u8 ((a3.Target.IP.getD 12 0))), .lit (.int .u8 ((a3.Target.IP.getD 13 0))), .lit (.int .u8 ((a3.Target.IP.getD 14 0))), .lit (.int .u8 ((a3.Target.IP.getD 15 0))), .lit (.int .i64 (a3.Target.Bits)), .lit (.int .u8 (a3.Sequence)), .lit (.int .i64 (a3.Lifetime))]), (600000, .spare 39 20 (List.length ([] : List S_Down)))]⟩) (by kernel_rfl) (by kernel_rfl) ?_
                  replace h := bindO h
                  obtain ⟨y35, hl3, hK3⟩ := h
                  refine TS_loopB (F_ref33_Accept_l3 a0 a3) ⟨[(7, []), (12, []), (13, []), (65, []), (66, []), (67, [])], [(7, (7, [])), (600000, (600000, []))]⟩ (fun (s33 : (List S_Down) × Int) => [(13, .c (.slc 20 600002 (List.length s33.1) (List.map S_Down.cs s33.1))), (67, .c (.lit (.int .i64 (s33.2))))]) (fun (s33 : (List S_Down) × Int) => [(600000, .spare 39 20 (List.length s33.1))]) (([] : List S_Down), 0) y35 (.exit 0) (fun (b : (List S_Down)) => b) ⟨[(12, []), (13, [])], [(600000, (600000, []))]⟩ (fun (b34 : (List S_Down)) => [(13, .c (.slc 20 600002 (List.length b34) (List.map S_Down.cs b34)))]) (fun (b34 : (List S_Down)) => [(600000, .spare 39 20 (List.length b34))]) hl3 (by kernel_rfl) (by kernel_rfl) ?_ ?_
                  · intro s33 x h hy3
                    unfold F_ref33_Accept_l3 at h
                    refine TS_go 5 ?_
                    replace h := condO h
                    rcases h with ⟨hb36, h⟩ | ⟨hb36, h⟩
                    · refine TS_know 68 (b := true) hb36 (by kernel_rfl) (by kernel_rfl) ?_
                      refine TS_T (by kernel_rfl) rfl ?_
                      refine TS_go 1 ?_
                      refine TS_cut ⟨[(7, []), (12, []), (13, []), (65, []), (66, []), (67, [])], [(7, (7, [])), (600000, (600000, []))]⟩ (.mk [.code (codeAt [1, 1, 1, 1, 1, 0, 1, 0, 1, 0, 1, 0, 0, 1, 1] (bodyOf Try.f39))] .normal ⟨[(7, .c (.box 7 0)), (12, .c (.lit (.bool (true)))), (13, .c (.slc 20 600002 (List.length s33.1) (List.map S_Down.cs s33.1))), (65, .c (.slc 20 0 (List.length a0) (List.map S_Down.cs a0))), (66, .c (.lit (.int .i64 ((List.length a0 : Int))))), (67, .c (.lit (.int .i64 (s33.2))))], [(7, .box [.lit (.int .u8 ((a3.Target.IP.getD 0 0))), .lit (.int .u8 ((a3.Target.IP.getD 1 0))), .lit (.int .u8 ((a3.Target.IP.getD 2 0))), .lit (.int .u8 ((a3.Target.IP.getD 3 0))), .lit (.int .u8 ((a3.Target.IP.getD 4 0))), .lit (.int .u8 ((a3.Target.IP.getD 5 0))), .lit (.int .u8 ((a3.Target.IP.getD 6 0))), .lit (.int .u8 ((a3.Target.IP.getD 7 0))), .lit (.int .u8 ((a3.Target.IP.getD 8 0))), .lit (.int .u8 ((a3.Target.IP.getD 9 0))), .lit (.int .u8 ((a3.Target.IP.getD 10 0))), .lit (.int .u8 ((a3.Target.IP.getD 11 0))), .lit (.int .u8 ((a3.Target.IP.getD 12 0))), .lit (.int .u8 ((a3.Target.IP.getD 13 0))), .lit (.int .u8 ((a3.Target.IP.getD 14 0))), .lit (.int .u8 ((a3.Target.IP.getD 15 0))), .lit (.int .i64 (a3.Target.Bits)), .lit (.int .u8 (a3.Sequence)), .lit (.int .i64 (a3.Lifetime))]), (600000, .spare 39 20 (List.length s33.1))]⟩) (by kernel_rfl) (by kernel_rfl) ?_
                      refine TS_joinB ⟨[(7, []), (12, []), (13, []), (65, []), (66, []), (67, [])], [(7, (7, [])), (600000, (600000, []))]⟩ (fun (v37 : (List S_Down)) => [(13, .c (.slc 20 600002 (List.length v37) (List.map S_Down.cs v37)))]) (fun (v37 : (List S_Down)) => [(600000, .spare 39 20 (List.length v37))]) (F_ref33_Accept_j4 s33) x ?_ ?_
                      · clear h
                        intro v37 h
                        unfold F_ref33_Accept_j4 at h
                        refine TS_go 4 ?_
                        obtain rfl := Option.some.inj h
                        exact TS_againB _ ⟨[(7, []), (12, []), (13, []), (65, []), (66, []), (67, [])], [(7, (7, [])), (600000, (600000, []))]⟩ rfl (by kernel_rfl) (by kernel_rfl)
                      · refine TS_go 3 ?_
                        replace h := bindO h
                        obtain ⟨e38, he38, h⟩ := h
                        refine TS_idx S_Down.cs he38 (by kernel_rfl) (by kernel_rfl) ?_
                        refine TS_go 16 ?_
                        replace h := condO h
                        rcases h with ⟨hb39, h⟩ | ⟨hb39, h⟩
                        · refine TS_know 78 (b := false) (notF hb39) (by kernel_rfl) (by kernel_rfl) ?_
                          refine TS_know 79 (b := false) (notF hb39) (by kernel_rfl) (by kernel_rfl) ?_
                          refine TS_F (by kernel_rfl) rfl ?_
                          refine TS_go 2 ?_
                          exact TS_meet s33.1 ⟨[(7, []), (12, []), (13, []), (65, []), (66, []), (67, [])], [(7, (7, [])), (600000, (600000, []))]⟩ h (by kernel_rfl) (by kernel_rfl)
                        · refine TS_know 78 (b := true) (notT hb39) (by kernel_rfl) (by kernel_rfl) ?_
                          refine TS_know 79 (b := true) (notT hb39) (by kernel_rfl) (by kernel_rfl) ?_
                          refine TS_T (by kernel_rfl) rfl ?_
                          refine TS_go 3 ?_
                          refine TS_litNT 82 39 20 S_Down.cs [] ([e38] : List S_Down) (by kernel_rfl) (by kernel_rfl) ?_
                          replace h := bindO h
                          obtain ⟨l40, hl40, h⟩ := h
                          refine TS_appT (d := 600000) (e := 39) (sz := 20) (N := List.length s33.1) S_Down.cs (fun _ => by kernel_rfl) (l1 := s33.1) (l2 := ([e38] : List S_Down)) (c := .whole) hl40 (by kernel_rfl) (by kernel_rfl) ?_
                          refine TS_go 3 ?_
                          exact TS_meet l40 ⟨[(7, []), (12, []), (13, []), (65, []), (66, []), (67, [])], [(7, (7, [])), (600000, (600000, []))]⟩ h (by kernel_rfl) (by kernel_rfl)
                    · refine TS_know 68 (b := false) hb36 (by kernel_rfl) (by kernel_rfl) ?_
                      refine TS_F (by kernel_rfl) rfl ?_
                      refine TS_go 2 ?_
                      obtain rfl := Option.some.inj h
                      exact TS_brkB s33.1 ⟨[(12, []), (13, [])], [(600000, (600000, []))]⟩ rfl (by kernel_rfl) (by kernel_rfl) (by kernel_rfl)
                  · intro b34 hb
                    subst y35
                    have h := hK3
                    refine TS_go 9 ?_
                    refine TS_fitU ⟨[(8, []), (9, []), (10, [])], [(600000, (900000, []))]⟩ (by kernel_rfl) ?_
                    refine TS_go 2 ?_
                    obtain rfl := Option.some.inj h
                    exact TS_ret (by kernel_rfl) (by kernel_rfl) (by kernel_rfl)
                · refine TS_know 64 (b := false) hb32 (by kernel_rfl) (by kernel_rfl) ?_
                  refine TS_F (by kernel_rfl) rfl ?_
                  refine TS_go 2 ?_
                  refine TS_draw (by kernel_rfl) ?_
                  refine TD_go 8 ?_
                  replace h := bindO h
                  obtain ⟨v42, hv42, h⟩ := h
                  refine TD_call [] (ok_ref22_After a1 a3.Lifetime v42 hv42) (by kernel_rfl) (by kernel_rfl) ?_
                  refine TD_go 3 ?_
                  refine TD_end (by kernel_rfl) ?_
                  refine TS_go 11 ?_
                  replace h := condO h
                  rcases h with ⟨hb43, h⟩ | ⟨hb43, h⟩
                  · refine TS_know 102 (b := true) hb43 (by kernel_rfl) (by kernel_rfl) ?_
                    refine TS_know 103 (b := true) hb43 (by kernel_rfl) (by kernel_rfl) ?_
                    refine TS_know 104 (b := true) hb43 (by kernel_rfl) (by kernel_rfl) ?_
                    refine TS_go 5 ?_
                    refine TS_know 109 (b := false) hb12 (by kernel_rfl) (by kernel_rfl) ?_
                    refine TS_go 9 ?_
                    refine TS_F (by kernel_rfl) rfl ?_
                    refine TS_go 5 ?_
                    replace h := bindO h
                    obtain ⟨v44, hv44, h⟩ := h
                    refine TS_con [] [(122, 900000)] none (okT_ref33_put a0 (S_Down.mk a3.Target a2 a3.Sequence v42) v44 hv44) (by kernel_rfl) (by kernel_rfl) (by kernel_rfl) ?_
                    refine TS_go 9 ?_
                    replace h := condO h
                    rcases h with ⟨hb45, h⟩ | ⟨hb45, h⟩
                    · refine TS_know 125 (b := true) hb45 (by kernel_rfl) (by kernel_rfl) ?_
                      refine TS_T (by kernel_rfl) rfl ?_
                      refine TS_go 6 ?_
                      refine TS_nilT 8 600000 39 20 (by kernel_rfl) ?_
                      refine TS_fitU ⟨[(8, []), (9, []), (10, [])], [(600000, (900000, []))]⟩ (by kernel_rfl) ?_
                      refine TS_go 2 ?_
                      obtain rfl := Option.some.inj h
                      exact TS_ret (by kernel_rfl) (by kernel_rfl) (by kernel_rfl)
                    · refine TS_know 125 (b := false) hb45 (by kernel_rfl) (by kernel_rfl) ?_
                      refine TS_F (by kernel_rfl) rfl ?_
                      refine TS_go 8 ?_
                      refine TS_fitU ⟨[(8, []), (9, []), (10, [])], [(122, (900000, []))]⟩ (by kernel_rfl) ?_
                      refine TS_go 1 ?_
                      obtain rfl := Option.some.inj h
                      exact TS_ret (by kernel_rfl) (by kernel_rfl) (by kernel_rfl)
                  · refine TS_know 102 (b := false) hb43 (by kernel_rfl) (by kernel_rfl) ?_
                    refine TS_know 103 (b := false) hb43 (by kernel_rfl) (by kernel_rfl) ?_
                    refine TS_know 104 (b := false) hb43 (by kernel_rfl) (by kernel_rfl) ?_
                    refine TS_go 14 ?_
                    refine TS_F (by kernel_rfl) rfl ?_
                    refine TS_go 5 ?_
                    replace h := bindO h
                    obtain ⟨v46, hv46, h⟩ := h
                    refine TS_con [] [(122, 900000)] none (okT_ref33_put a0 (S_Down.mk a3.Target a2 a3.Sequence v42) v46 hv46) (by kernel_rfl) (by kernel_rfl) (by kernel_rfl) ?_
                    refine TS_go 9 ?_
                    replace h := condO h
                    rcases h with ⟨hb47, h⟩ | ⟨hb47, h⟩
                    · refine TS_know 125 (b := true) hb47 (by kernel_rfl) (by kernel_rfl) ?_
                      refine TS_T (by kernel_rfl) rfl ?_
                      refine TS_go 6 ?_
                      refine TS_nilT 8 600000 39 20 (by kernel_rfl) ?_
                      refine TS_fitU ⟨[(8, []), (9, []), (10, [])], [(600000, (900000, []))]⟩ (by kernel_rfl) ?_
                      refine TS_go 2 ?_
                      obtain rfl := Option.some.inj h
                      exact TS_ret (by kernel_rfl) (by kernel_rfl) (by kernel_rfl)
                    · refine TS_know 125 (b := false) hb47 (by kernel_rfl) (by kernel_rfl) ?_
                      refine TS_F (by kernel_rfl) rfl ?_
                      refine TS_go 8 ?_
                      refine TS_fitU ⟨[(8, []), (9, []), (10, [])], [(122, (900000, []))]⟩ (by kernel_rfl) ?_
                      refine TS_go 1 ?_
                      obtain rfl := Option.some.inj h
                      exact TS_ret (by kernel_rfl) (by kernel_rfl) (by kernel_rfl)
          · refine TS_know 40 (b := false) hb9 (by kernel_rfl) (by kernel_rfl) ?_
            refine TS_know 12 (b := false) hb9 (by kernel_rfl) (by kernel_rfl) ?_
            refine TS_know 41 (b := false) hb9 (by kernel_rfl) (by kernel_rfl) ?_
            refine TS_know 42 (b := false) hb9 (by kernel_rfl) (by kernel_rfl) ?_
            refine TS_go 20 ?_
            refine TS_F (by kernel_rfl) rfl ?_
            refine TS_go 8 ?_
            replace h := condO h
            rcases h with ⟨hb48, h⟩ | ⟨hb48, h⟩
            · refine TS_know 64 (b := true) hb48 (by kernel_rfl) (by kernel_rfl) ?_
              refine TS_T (by kernel_rfl) rfl ?_
              refine TS_go 12 ?_
              refine TS_nilT 13 600000 39 20 (by kernel_rfl) ?_
              refine TS_cut ⟨[(7, []), (12, []), (13, []), (65, []), (66, []), (67, [])], [(7, (7, [])), (600000, (600000, []))]⟩ (.mk [.code (codeAt [1, 1, 1, 1, 1, 0, 1, 0, 1, 0, 1, 0] (bodyOf Try.f39)), .blk 0, .code (codeAt [1, 1, 1, 1, 1, 0, 1, 0, 1, 1] (bodyOf Try.f39)), .code (codeAt [1, 1, 1, 1, 1, 1] (bodyOf Try.f39))] .normal ⟨[(7, .c (.box 7 0)), (12, .c (.lit (.bool (false)))), (13, .c (.slc 20 600002 (List.length ([] : List S_Down)) (List.map S_Down.cs ([] : List S_Down)))), (65, .c (.slc 20 0 (List.length a0) (List.map S_Down.cs a0))), (66, .c (.lit (.int .i64 ((List.length a0 : Int))))), (67, .c (.lit (.int .i64 (0))))], [(7, .box [.lit (.int .u8 ((a3.Target.IP.getD 0 0))), .lit (.int .u8 ((a3.Target.IP.getD 1 0))), .lit (.int .u8 ((a3.Target.IP.getD 2 0))), .lit (.int .u8 ((a3.Target.IP.getD 3 0))), .lit (.int .u8 ((a3.Target.IP.getD 4 0))), .lit (.int .u8 ((a3.Target.IP.getD 5 0))), .lit (.int .u8 ((a3.Target.IP.getD 6 0))), .lit (.int .u8 ((a3.Target.IP.getD 7 0))), .lit (.int .u8 ((a3.Target.IP.getD 8 0))), .lit (.int .u8 ((a3.Target.IP.getD 9 0))), .lit (.int .u8 ((a3.Target.IP.getD 10 0))), .lit (.int .u8 ((a3.Target.IP.getD 11 0))), .lit (.int .u8 ((a3.Target.IP.getD 12 0))), .lit (.int .u8 ((a3.Target.IP.getD 13 0))), .lit (.int .u8 ((a3.Target.IP.getD 14 0))), .lit (.int .u8 ((a3.Target.IP.getD 15 0))), .lit (.int .i64 (a3.Target.Bits)), .lit (.int .u8 (a3.Sequence)), .lit (.int .i64 (a3.Lifetime))]), (600000, .spare 39 20 (List.length ([] : List S_Down)))]⟩) (by kernel_rfl) (by kernel_rfl) ?_
              replace h := bindO h
              obtain ⟨y51, hl5, hK5⟩ := h
              refine TS_loopB (F_ref33_Accept_l5 a0) ⟨[(7, []), (12, []), (13, []), (65, []), (66, []), (67, [])], [(7, (7, [])), (600000, (600000, []))]⟩ (fun (s49 : (List S_Down) × Int) => [(13, .c (.slc 20 600002 (List.length s49.1) (List.map S_Down.cs s49.1))), (67, .c (.lit (.int .i64 (s49.2))))]) (fun (s49 : (List S_Down) × Int) => [(600000, .spare 39 20 (List.length s49.1))]) (([] : List S_Down), 0) y51 (.exit 0) (fun (b : (List S_Down)) => b) ⟨[(12, []), (13, [])], [(600000, (600000, []))]⟩ (fun (b50 : (List S_Down)) => [(13, .c (.slc 20 600002 (List.length b50) (List.map S_Down.cs b50)))]) (fun (b50 : (List S_Down)) => [(600000, .spare 39 20 (List.length b50))]) hl5 (by kernel_rfl) (by kernel_rfl) ?_ ?_
              · intro s49 x h hy5
                unfold F_ref33_Accept_l5 at h
                refine TS_go 5 ?_
                replace h := condO h
                rcases h with ⟨hb52, h⟩ | ⟨hb52, h⟩
                · refine TS_know 68 (b := true) hb52 (by kernel_rfl) (by kernel_rfl) ?_
                  refine TS_T (by kernel_rfl) rfl ?_
                  refine TS_go 5 ?_
                  replace h := bindO h
                  obtain ⟨e53, he53, h⟩ := h
                  refine TS_idx S_Down.cs he53 (by kernel_rfl) (by kernel_rfl) ?_
                  refine TS_go 16 ?_
                  refine TS_T (by kernel_rfl) rfl ?_
                  refine TS_go 3 ?_
                  refine TS_litNT 82 39 20 S_Down.cs [] ([e53] : List S_Down) (by kernel_rfl) (by kernel_rfl) ?_
                  replace h := bindO h
                  obtain ⟨l54, hl54, h⟩ := h
                  refine TS_appT (d := 600000) (e := 39) (sz := 20) (N := List.length s49.1) S_Down.cs (fun _ => by kernel_rfl) (l1 := s49.1) (l2 := ([e53] : List S_Down)) (c := .whole) hl54 (by kernel_rfl) (by kernel_rfl) ?_
                  refine TS_go 7 ?_
                  obtain rfl := Option.some.inj h
                  exact TS_againB _ ⟨[(7, []), (12, []), (13, []), (65, []), (66, []), (67, [])], [(7, (7, [])), (600000, (600000, []))]⟩ rfl (by kernel_rfl) (by kernel_rfl)
                · refine TS_know 68 (b := false) hb52 (by kernel_rfl) (by kernel_rfl) ?_
                  refine TS_F (by kernel_rfl) rfl ?_
                  refine TS_go 2 ?_
                  obtain rfl := Option.some.inj h
                  exact TS_brkB s49.1 ⟨[(12, []), (13, [])], [(600000, (600000, []))]⟩ rfl (by kernel_rfl) (by kernel_rfl) (by kernel_rfl)
              · intro b50 hb
                subst y51
                have h := hK5
                refine TS_go 9 ?_
                refine TS_fitU ⟨[(8, []), (9, []), (10, [])], [(600000, (900000, []))]⟩ (by kernel_rfl) ?_
                refine TS_go 2 ?_
                obtain rfl := Option.some.inj h
                exact TS_ret (by kernel_rfl) (by kernel_rfl) (by kernel_rfl)
            · refine TS_know 64 (b := false) hb48 (by kernel_rfl) (by kernel_rfl) ?_
              refine TS_F (by kernel_rfl) rfl ?_
              refine TS_go 2 ?_
              refine TS_draw (by kernel_rfl) ?_
              refine TD_go 8 ?_
              replace h := bindO h
              obtain ⟨v56, hv56, h⟩ := h
              refine TD_call [] (ok_ref22_After a1 a3.Lifetime v56 hv56) (by kernel_rfl) (by kernel_rfl) ?_
              refine TD_go 3 ?_
              refine TD_end (by kernel_rfl) ?_
              refine TS_go 25 ?_
              refine TS_F (by kernel_rfl) rfl ?_
              refine TS_go 5 ?_
              replace h := bindO h
              obtain ⟨v57, hv57, h⟩ := h
              refine TS_con [] [(122, 900000)] none (okT_ref33_put a0 (S_Down.mk a3.Target a2 a3.Sequence v56) v57 hv57) (by kernel_rfl) (by kernel_rfl) (by kernel_rfl) ?_
              refine TS_go 9 ?_
              replace h := condO h
              rcases h with ⟨hb58, h⟩ | ⟨hb58, h⟩
              · refine TS_know 125 (b := true) hb58 (by kernel_rfl) (by kernel_rfl) ?_
                refine TS_T (by kernel_rfl) rfl ?_
                refine TS_go 6 ?_
                refine TS_nilT 8 600000 39 20 (by kernel_rfl) ?_
                refine TS_fitU ⟨[(8, []), (9, []), (10, [])], [(600000, (900000, []))]⟩ (by kernel_rfl) ?_
                refine TS_go 2 ?_
                obtain rfl := Option.some.inj h
                exact TS_ret (by kernel_rfl) (by kernel_rfl) (by kernel_rfl)
              · refine TS_know 125 (b := false) hb58 (by kernel_rfl) (by kernel_rfl) ?_
                refine TS_F (by kernel_rfl) rfl ?_
                refine TS_go 8 ?_
                refine TS_fitU ⟨[(8, []), (9, []), (10, [])], [(122, (900000, []))]⟩ (by kernel_rfl) ?_
                refine TS_go 1 ?_
                obtain rfl := Option.some.inj h
                exact TS_ret (by kernel_rfl) (by kernel_rfl) (by kernel_rfl)
        · subst hb7
          refine TS_T (by kernel_rfl) rfl ?_
          refine TS_go 6 ?_
          refine TS_nilT 8 600000 39 20 (by kernel_rfl) ?_
          refine TS_fitU ⟨[(8, []), (9, []), (10, [])], [(600000, (900000, []))]⟩ (by kernel_rfl) ?_
          refine TS_go 2 ?_
          obtain rfl := Option.some.inj h
          exact TS_ret (by kernel_rfl) (by kernel_rfl) (by kernel_rfl)
    · subst hb4
      refine TS_go 4 ?_
      refine TS_T (by kernel_rfl) rfl ?_
      refine TS_go 6 ?_
      refine TS_nilT 8 600000 39 20 (by kernel_rfl) ?_
      refine TS_fitU ⟨[(8, []), (9, []), (10, [])], [(600000, (900000, []))]⟩ (by kernel_rfl) ?_
      refine TS_go 2 ?_
      obtain rfl := Option.some.inj h
      exact TS_ret (by kernel_rfl) (by kernel_rfl) (by kernel_rfl)
  · subst hb2
    refine TS_go 9 ?_
    refine TS_T (by kernel_rfl) rfl ?_
    refine TS_go 6 ?_
    refine TS_nilT 8 600000 39 20 (by kernel_rfl) ?_
    refine TS_fitU ⟨[(8, []), (9, []), (10, [])], [(600000, (900000, []))]⟩ (by kernel_rfl) ?_
    refine TS_go 2 ?_
    obtain rfl := Option.some.inj h
    exact TS_ret (by kernel_rfl) (by kernel_rfl) (by kernel_rfl)
theorem ok_ref33_Accept (a0 : List S_Down) (a1 : Int) (a2 : Int) (a3 : S_Register) (r : (List S_Down) × Bool × Int) (h : F_ref33_Accept a0 a1 a2 a3 = some r) : Con Try.prog 39 [.c (eS 20 S_Down.cs (a0)), .c (.lit (.int .i64 (a1))), .c (.lit (.int .u64 (a2))), .agg (S_Register.cs a3)] [] (.tup [(false, [eS 20 S_Down.cs (r.1)]), (false, [.lit (.bool (r.2.1))]), (false, [.lit (.int .i64 (r.2.2))])]) [] :=
  con_drop [[21]] [] (okT_ref33_Accept a0 a1 a2 a3 r h) (by kernel_rfl) (by kernel_rfl) (by kernel_rfl)

/-- multihop/multihopworld.Downs -/
noncomputable def F_world_Downs_j2 (s2 : (List S_Down) × Int × S_multihopmade_Tape) (v6 : (List S_Down) × S_multihopmade_Tape) : Option (((List S_Down) × Int × S_multihopmade_Tape) ⊕ ((List S_Down) × S_multihopmade_Tape)) :=
  some (Sum.inl (v6.1, IntKind.wrap .i64 (s2.2.1 - 1), v6.2))
noncomputable def F_world_Downs_l1 (a1 : Int) (s2 : (List S_Down) × Int × S_multihopmade_Tape) : Option (((List S_Down) × Int × S_multihopmade_Tape) ⊕ ((List S_Down) × S_multihopmade_Tape)) :=
  bif (decide (s2.2.1 > 0)) then
    (F_world_Time s2.2.2 a1).bind fun v7 =>
    (F_world_EUI v7.2).bind fun v8 =>
    (F_world_Register v8.2).bind fun v9 =>
    (F_ref33_Accept s2.1 v7.1 v8.1 v9.1).bind fun v10 =>
    bif (v10.2.2 == 0) then
      (F_world_Downs_j2 s2) (v10.1, v9.2)
    else
      (F_world_Downs_j2 s2) (s2.1, v9.2)
  else
    some (Sum.inr (s2.1, s2.2.2))
noncomputable def F_world_Downs (a0 : S_multihopmade_Tape) (a1 : Int) : Option ((List S_Down) × S_multihopmade_Tape) :=
  (F_made_Tape_Next a0 9).bind fun v1 =>
  (loopO (F_world_Downs_l1 a1) (([] : List S_Down), v1.1, v1.2)).bind fun b3 =>
  some ((b3.1, b3.2))
set_option maxRecDepth 100000 in
set_option maxHeartbeats 40000000 in
theorem okT_world_Downs (a0 : S_multihopmade_Tape) (a1 : Int) (r : (List S_Down) × S_multihopmade_Tape) (h : F_world_Downs a0 a1 = some r) : Con Try.prog 19 [.c (.box 1000000 0), .c (.lit (.int .i64 (a1)))] [(1000000, .box (S_multihopmade_Tape.cs a0))] (.c (.slc 20 900002 (List.length r.1) (List.map S_Down.cs r.1))) [(1000000, .box (S_multihopmade_Tape.cs r.2)), (900000, .spare 39 20 (List.length r.1))] := by
  unfold F_world_Downs at h
  refine con_of [] [(1000000, [2]), (900000, [])] 33 Try.func19 rfl rfl (by kernel_rfl) (fun K => ?_)
  refine TS_go 12 ?_
  replace h := bindO h
  obtain ⟨v1, hv1, h⟩ := h
  refine TS_con [] [] (some (1000000, 0)) (ok_made_Tape_Next a0 9 v1 hv1) (by kernel_rfl) (by kernel_rfl) (by kernel_rfl) ?_
  refine TS_go 3 ?_
  refine TS_nilT 5 600000 39 20 (by kernel_rfl) ?_
  refine TS_cut ⟨[(0, []), (1, []), (5, []), (6, [])], [(1000000, (1000000, [])), (600000, (600000, []))]⟩ (.mk [.code (codeAt [1, 1, 0, 1, 0] (bodyOf Try.f19)), .blk 0, .code (codeAt [1, 1, 1] (bodyOf Try.f19))] .normal ⟨[(0, .c (.box 1000000 0)), (1, .c (.lit (.int .i64 (a1)))), (5, .c (.slc 20 600002 (List.length ([] : List S_Down)) (List.map S_Down.cs ([] : List S_Down)))), (6, .c (.lit (.int .i64 (v1.1))))], [(1000000, .box [.slc 1 0 (List.length v1.2.l) (List.map (ecI .i64) v1.2.l), .lit (.int .i64 (v1.2.at_))]), (600000, .spare 39 20 (List.length ([] : List S_Down)))]⟩) (by kernel_rfl) (by kernel_rfl) ?_
  replace h := bindO h
  obtain ⟨y4, hl1, hK1⟩ := h
  refine TS_loopB (F_world_Downs_l1 a1) ⟨[(0, []), (1, []), (5, []), (6, [])], [(1000000, (1000000, [])), (600000, (600000, []))]⟩ (fun (s2 : (List S_Down) × Int × S_multihopmade_Tape) => [(5, .c (.slc 20 600002 (List.length s2.1) (List.map S_Down.cs s2.1))), (6, .c (.lit (.int .i64 (s2.2.1))))]) (fun (s2 : (List S_Down) × Int × S_multihopmade_Tape) => [(1000000, .box (S_multihopmade_Tape.cs s2.2.2)), (600000, .spare 39 20 (List.length s2.1))]) (([] : List S_Down), v1.1, v1.2) y4 (.exit 0) (fun (b : (List S_Down) × S_multihopmade_Tape) => b) ⟨[(5, [])], [(1000000, (1000000, [])), (600000, (600000, []))]⟩ (fun (b3 : (List S_Down) × S_multihopmade_Tape) => [(5, .c (.slc 20 600002 (List.length b3.1) (List.map S_Down.cs b3.1)))]) (fun (b3 : (List S_Down) × S_multihopmade_Tape) => [(1000000, .box (S_multihopmade_Tape.cs b3.2)), (600000, .spare 39 20 (List.length b3.1))]) hl1 (by kernel_rfl) (by kernel_rfl) ?_ ?_
  · intro s2 x h hy1
    unfold F_world_Downs_l1 at h
    refine TS_go 6 ?_
    replace h := condO h
    rcases h with ⟨hb5, h⟩ | ⟨hb5, h⟩
    · refine TS_know 13 (b := true) hb5 (by kernel_rfl) (by kernel_rfl) ?_
      refine TS_T (by kernel_rfl) rfl ?_
      refine TS_go 1 ?_
      refine TS_cut ⟨[(0, []), (1, []), (5, []), (6, [])], [(1000000, (1000000, [])), (600000, (600000, []))]⟩ (.mk [.code (codeAt [1, 1, 0, 1, 0, 0, 1] (bodyOf Try.f19))] .normal ⟨[(0, .c (.box 1000000 0)), (1, .c (.lit (.int .i64 (a1)))), (5, .c (.slc 20 600002 (List.length s2.1) (List.map S_Down.cs s2.1))), (6, .c (.lit (.int .i64 (s2.2.1))))], [(1000000, .box [.slc 1 0 (List.length s2.2.2.l) (List.map (ecI .i64) s2.2.2.l), .lit (.int .i64 (s2.2.2.at_))]), (600000, .spare 39 20 (List.length s2.1))]⟩) (by kernel_rfl) (by kernel_rfl) ?_
      refine TS_joinB ⟨[(0, []), (1, []), (5, []), (6, [])], [(1000000, (1000000, [])), (600000, (600000, []))]⟩ (fun (v6 : (List S_Down) × S_multihopmade_Tape) => [(5, .c (.slc 20 600002 (List.length v6.1) (List.map S_Down.cs v6.1)))]) (fun (v6 : (List S_Down) × S_multihopmade_Tape) => [(1000000, .box (S_multihopmade_Tape.cs v6.2)), (600000, .spare 39 20 (List.length v6.1))]) (F_world_Downs_j2 s2) x ?_ ?_
      · clear h
        intro v6 h
        unfold F_world_Downs_j2 at h
        refine TS_go 5 ?_
        obtain rfl := Option.some.inj h
        exact TS_againB _ ⟨[(0, []), (1, []), (5, []), (6, [])], [(1000000, (1000000, [])), (600000, (600000, []))]⟩ rfl (by kernel_rfl) (by kernel_rfl)
      · refine TS_go 6 ?_
        replace h := bindO h
        obtain ⟨v7, hv7, h⟩ := h
        refine TS_con [] [] (some (1000000, 0)) (ok_world_Time s2.2.2 a1 v7 hv7) (by kernel_rfl) (by kernel_rfl) (by kernel_rfl) ?_
        refine TS_go 1 ?_
        replace h := bindO h
        obtain ⟨v8, hv8, h⟩ := h
        refine TS_con [] [] (some (1000000, 0)) (ok_world_EUI v7.2 v8 hv8) (by kernel_rfl) (by kernel_rfl) (by kernel_rfl) ?_
        refine TS_go 1 ?_
        replace h := bindO h
        obtain ⟨v9, hv9, h⟩ := h
        refine TS_con [] [] (some (1000000, 0)) (ok_world_Register v8.2 v9 hv9) (by kernel_rfl) (by kernel_rfl) (by kernel_rfl) ?_
        replace h := bindO h
        obtain ⟨v10, hv10, h⟩ := h
        refine TS_con [[21]] [(25, 900000)] none (okT_ref33_Accept s2.1 v7.1 v8.1 v9.1 v10 hv10) (by kernel_rfl) (by kernel_rfl) (by kernel_rfl) ?_
        refine TS_go 13 ?_
        replace h := condO h
        rcases h with ⟨hb11, h⟩ | ⟨hb11, h⟩
        · refine TS_know 30 (b := true) hb11 (by kernel_rfl) (by kernel_rfl) ?_
          refine TS_T (by kernel_rfl) rfl ?_
          refine TS_go 5 ?_
          exact TS_meet (v10.1, v9.2) ⟨[(0, []), (1, []), (5, []), (6, [])], [(1000000, (1000000, [])), (25, (600000, []))]⟩ h (by kernel_rfl) (by kernel_rfl)
        · refine TS_know 30 (b := false) hb11 (by kernel_rfl) (by kernel_rfl) ?_
          refine TS_F (by kernel_rfl) rfl ?_
          refine TS_go 2 ?_
          exact TS_meet (s2.1, v9.2) ⟨[(0, []), (1, []), (5, []), (6, [])], [(1000000, (1000000, [])), (600000, (600000, []))]⟩ h (by kernel_rfl) (by kernel_rfl)
    · refine TS_know 13 (b := false) hb5 (by kernel_rfl) (by kernel_rfl) ?_
      refine TS_F (by kernel_rfl) rfl ?_
      refine TS_go 2 ?_
      obtain rfl := Option.some.inj h
      exact TS_brkB (s2.1, s2.2.2) ⟨[(5, [])], [(1000000, (1000000, [])), (600000, (600000, []))]⟩ rfl (by kernel_rfl) (by kernel_rfl) (by kernel_rfl)
  · intro b3 hb
    subst y4
    have h := hK1
    refine TS_go 6 ?_
    refine TS_fitU ⟨[(4, [])], [(600000, (900000, [])), (1000000, (1000000, []))]⟩ (by kernel_rfl) ?_
    refine TS_go 1 ?_
    obtain rfl := Option.some.inj h
    exact TS_ret (by kernel_rfl) (by kernel_rfl) (by kernel_rfl)
theorem ok_world_Downs (a0 : S_multihopmade_Tape) (a1 : Int) (r : (List S_Down) × S_multihopmade_Tape) (h : F_world_Downs a0 a1 = some r) : Con Try.prog 19 [.c (.box 1000000 0), .c (.lit (.int .i64 (a1)))] [(1000000, .box (S_multihopmade_Tape.cs a0))] (.c (eS 20 S_Down.cs (r.1))) [(1000000, .box (S_multihopmade_Tape.cs r.2))] :=
  con_drop [[21]] [(1000000, [])] (okT_world_Downs a0 a1 r h) (by kernel_rfl) (by kernel_rfl) (by kernel_rfl)

/-- multihop/multihopref04.Common -/
noncomputable def F_ref04_Common_l1 (a0 : List Int) (a1 : List Int) (s1 : Int) : Option ((Int) ⊕ (Int)) :=
  bif (decide (s1 < 128)) then
    (F_ref04_bit a0 s1).bind fun v5 =>
    (F_ref04_bit a1 s1).bind fun v6 =>
    bif (v5 == v6) then
      some (Sum.inl (IntKind.wrap .i64 (s1 + 1)))
    else
      some (Sum.inr s1)
  else
    some (Sum.inr s1)
noncomputable def F_ref04_Common (a0 : List Int) (a1 : List Int) : Option (Int) :=
  (loopO (F_ref04_Common_l1 a0 a1) 0).bind fun b2 =>
  some (b2)
set_option maxRecDepth 100000 in
set_option maxHeartbeats 40000000 in
theorem ok_ref04_Common (a0 : List Int) (a1 : List Int) (r : Int) (h : F_ref04_Common a0 a1 = some r) : Con Try.prog 42 [.agg (arrS .u8 16 a0), .agg (arrS .u8 16 a1)] [] (.c (.lit (.int .i64 (r)))) [] := by
  unfold F_ref04_Common at h
  refine con_of [] [] 20 Try.func42 rfl rfl (by kernel_rfl) (fun K => ?_)
  refine TS_go 12 ?_
  refine TS_cut ⟨[(2, []), (3, []), (5, [])], [(2, (2, [])), (3, (3, []))]⟩ (.mk [.code (codeAt [1, 1, 0, 0] (bodyOf Try.f42)), .blk 0, .code (codeAt [1, 1, 1] (bodyOf Try.f42))] .normal ⟨[(2, .c (.box 2 0)), (3, .c (.box 3 0)), (5, .c (.lit (.int .i64 (0))))], [(2, .box [.lit (.int .u8 ((a0.getD 0 0))), .lit (.int .u8 ((a0.getD 1 0))), .lit (.int .u8 ((a0.getD 2 0))), .lit (.int .u8 ((a0.getD 3 0))), .lit (.int .u8 ((a0.getD 4 0))), .lit (.int .u8 ((a0.getD 5 0))), .lit (.int .u8 ((a0.getD 6 0))), .lit (.int .u8 ((a0.getD 7 0))), .lit (.int .u8 ((a0.getD 8 0))), .lit (.int .u8 ((a0.getD 9 0))), .lit (.int .u8 ((a0.getD 10 0))), .lit (.int .u8 ((a0.getD 11 0))), .lit (.int .u8 ((a0.getD 12 0))), .lit (.int .u8 ((a0.getD 13 0))), .lit (.int .u8 ((a0.getD 14 0))), .lit (.int .u8 ((a0.getD 15 0)))]), (3, .box [.lit (.int .u8 ((a1.getD 0 0))), .lit (.int .u8 ((a1.getD 1 0))), .lit (.int .u8 ((a1.getD 2 0))), .lit (.int .u8 ((a1.getD 3 0))), .lit (.int .u8 ((a1.getD 4 0))), .lit (.int .u8 ((a1.getD 5 0))), .lit (.int .u8 ((a1.getD 6 0))), .lit (.int .u8 ((a1.getD 7 0))), .lit (.int .u8 ((a1.getD 8 0))), .lit (.int .u8 ((a1.getD 9 0))), .lit (.int .u8 ((a1.getD 10 0))), .lit (.int .u8 ((a1.getD 11 0))), .lit (.int .u8 ((a1.getD 12 0))), .lit (.int .u8 ((a1.getD 13 0))), .lit (.int .u8 ((a1.getD 14 0))), .lit (.int .u8 ((a1.getD 15 0)))])]⟩) (by kernel_rfl) (by kernel_rfl) ?_
  replace h := bindO h
  obtain ⟨y3, hl1, hK1⟩ := h
  refine TS_loopB (F_ref04_Common_l1 a0 a1) ⟨[(2, []), (3, []), (5, [])], [(2, (2, [])), (3, (3, []))]⟩ (fun (s1 : Int) => [(5, .c (.lit (.int .i64 (s1))))]) (fun (s1 : Int) => []) 0 y3 (.exit 0) (fun (b : Int) => b) ⟨[(5, [])], []⟩ (fun (b2 : Int) => [(5, .c (.lit (.int .i64 (b2))))]) (fun (b2 : Int) => []) hl1 (by kernel_rfl) (by kernel_rfl) ?_ ?_
  · intro s1 x h hy1
    unfold F_ref04_Common_l1 at h
    refine TS_go 2 ?_
    refine TS_draw (by kernel_rfl) ?_
    refine TD_go 2 ?_
    replace h := condO h
    rcases h with ⟨hb4, h⟩ | ⟨hb4, h⟩
    · refine TD_know 8 (b := true) hb4 trivial (by kernel_rfl) (by kernel_rfl) ?_
      refine TD_go 2 ?_
      replace h := bindO h
      obtain ⟨v5, hv5, h⟩ := h
      refine TD_call [] (ok_ref04_bit a0 s1 v5 hv5) (by kernel_rfl) (by kernel_rfl) ?_
      refine TD_go 2 ?_
      replace h := bindO h
      obtain ⟨v6, hv6, h⟩ := h
      refine TD_call [] (ok_ref04_bit a1 s1 v6 hv6) (by kernel_rfl) (by kernel_rfl) ?_
      refine TD_go 2 ?_
      refine TD_end (by kernel_rfl) ?_
      replace h := condO h
      rcases h with ⟨hb7, h⟩ | ⟨hb7, h⟩
      · refine TS_know 7 (b := true) hb4 (by kernel_rfl) (by kernel_rfl) ?_
        refine TS_know 15 (b := true) hb7 (by kernel_rfl) (by kernel_rfl) ?_
        refine TS_know 16 (b := true) hb7 (by kernel_rfl) (by kernel_rfl) ?_
        refine TS_T (by kernel_rfl) rfl ?_
        refine TS_go 8 ?_
        obtain rfl := Option.some.inj h
        exact TS_againB _ ⟨[(2, []), (3, []), (5, [])], [(2, (2, [])), (3, (3, []))]⟩ rfl (by kernel_rfl) (by kernel_rfl)
      · refine TS_know 7 (b := true) hb4 (by kernel_rfl) (by kernel_rfl) ?_
        refine TS_know 15 (b := false) hb7 (by kernel_rfl) (by kernel_rfl) ?_
        refine TS_know 16 (b := false) hb7 (by kernel_rfl) (by kernel_rfl) ?_
        refine TS_F (by kernel_rfl) rfl ?_
        refine TS_go 2 ?_
        obtain rfl := Option.some.inj h
        exact TS_brkB s1 ⟨[(5, [])], []⟩ rfl (by kernel_rfl) (by kernel_rfl) (by kernel_rfl)
    · refine TD_know 8 (b := false) hb4 trivial (by kernel_rfl) (by kernel_rfl) ?_
      refine TD_go 8 ?_
      refine TD_end (by kernel_rfl) ?_
      refine TS_F (by kernel_rfl) rfl ?_
      refine TS_go 2 ?_
      obtain rfl := Option.some.inj h
      exact TS_brkB s1 ⟨[(5, [])], []⟩ rfl (by kernel_rfl) (by kernel_rfl) (by kernel_rfl)
  · intro b2 hb
    subst y3
    have h := hK1
    refine TS_go 7 ?_
    obtain rfl := Option.some.inj h
    exact TS_ret (by kernel_rfl) (by kernel_rfl) (by kernel_rfl)

/-- multihop/multihopref04.Contains -/
noncomputable def F_ref04_Contains (a0 : S_Prefix) (a1 : List Int) : Option (Bool) :=
  (F_ref04_ValidPrefix a0).bind fun v1 =>
  bif v1 then
    (F_ref04_Common a0.IP a1).bind fun v3 =>
    some ((decide (v3 ≥ a0.Bits)))
  else
    some (false)
set_option maxRecDepth 100000 in
set_option maxHeartbeats 40000000 in
theorem ok_ref04_Contains (a0 : S_Prefix) (a1 : List Int) (r : Bool) (h : F_ref04_Contains a0 a1 = some r) : Con Try.prog 22 [.agg (S_Prefix.cs a0), .agg (arrS .u8 16 a1)] [] (.c (.lit (.bool (r)))) [] := by
  unfold F_ref04_Contains at h
  refine con_of [] [] 16 Try.func22 rfl rfl (by kernel_rfl) (fun K => ?_)
  refine TS_go 7 ?_
  refine TS_draw (by kernel_rfl) ?_
  refine TD_go 1 ?_
  replace h := bindO h
  obtain ⟨v1, hv1, h⟩ := h
  refine TD_call [] (ok_ref04_ValidPrefix a0 v1 hv1) (by kernel_rfl) (by kernel_rfl) ?_
  refine TD_go 1 ?_
  replace h := condO h
  rcases h with ⟨hb2, h⟩ | ⟨hb2, h⟩
  · subst hb2
    refine TD_go 3 ?_
    replace h := bindO h
    obtain ⟨v3, hv3, h⟩ := h
    refine TD_call [] (ok_ref04_Common a0.IP a1 v3 hv3) (by kernel_rfl) (by kernel_rfl) ?_
    refine TD_go 5 ?_
    refine TD_end (by kernel_rfl) ?_
    refine TS_go 1 ?_
    obtain rfl := Option.some.inj h
    exact TS_ret (by kernel_rfl) (by kernel_rfl) (by kernel_rfl)
  · subst hb2
    refine TD_go 9 ?_
    refine TD_end (by kernel_rfl) ?_
    refine TS_go 1 ?_
    obtain rfl := Option.some.inj h
    exact TS_ret (by kernel_rfl) (by kernel_rfl) (by kernel_rfl)

/-- multihop/multihoplaw33.StoringNests -/
noncomputable def F_law33_StoringNests_j3 (s6 : Int × Int × Int) (v10 : Int × Int) : Option ((Int × Int × Int) ⊕ (Int × Int)) :=
  some (Sum.inl (v10.1, v10.2, IntKind.wrap .i64 (s6.2.2 + 1)))
noncomputable def F_law33_StoringNests_l2 (v3 : (List S_Down) × S_multihopmade_Tape) (v2 : Int × S_multihopmade_Tape) (v4 : (List Int)) (s6 : Int × Int × Int) : Option ((Int × Int × Int) ⊕ (Int × Int)) :=
  bif (decide (s6.2.2 < (List.length v3.1 : Int))) then
    (idx v3.1 s6.2.2).bind fun e11 =>
    bif (decide (e11.Until > (Int.tmod v2.1 1000))) then
      (F_ref04_Contains e11.Target v4).bind fun v13 =>
      bif v13 then
        bif (decide (e11.Target.Bits > s6.1)) then
          (F_law33_StoringNests_j3 s6) (e11.Target.Bits, e11.Via)
        else
          (F_law33_StoringNests_j3 s6) (s6.1, s6.2.1)
      else
        (F_law33_StoringNests_j3 s6) (s6.1, s6.2.1)
    else
      (F_law33_StoringNests_j3 s6) (s6.1, s6.2.1)
  else
    some (Sum.inr (s6.1, s6.2.1))
noncomputable def F_law33_StoringNests_j1 (v3 : (List S_Down) × S_multihopmade_Tape) (v2 : Int × S_multihopmade_Tape) (v4 : (List Int)) : Option (Bool) :=
  (F_storing_Next v3.1 (Int.tmod v2.1 1000) v4).bind fun v5 =>
  (loopO (F_law33_StoringNests_l2 v3 v2 v4) ((-1), 0, 0)).bind fun b7 =>
  bif ((v5.2 == 0) == (decide (b7.1 ≥ 0))) then
    bif (v5.1 == b7.2) then
      (F_law33_known ).bind fun v19 =>
      some (v19)
    else
      some (false)
  else
    some (false)
noncomputable def F_law33_StoringNests (a0 : List Int) (a1 : List Int) : Option (Bool) :=
  (F_made_New a0).bind fun v1 =>
  (F_world_Base v1).bind fun v2 =>
  (F_world_Downs v2.2 (Int.tmod v2.1 1000)).bind fun v3 =>
  bif (decide ((List.length v3.1 : Int) > 0)) then
    (F_made_Tape_Bool v3.2 4).bind fun v21 =>
    bif v21.1 then
      (F_law33_StoringNests_j1 v3 v2) a1
    else
      (F_made_Tape_Next v21.2 (List.length v3.1 : Int)).bind fun v23 =>
      (idx v3.1 v23.1).bind fun e24 =>
      (F_law33_StoringNests_j1 v3 v2) e24.Target.IP
  else
    (F_law33_StoringNests_j1 v3 v2) a1
set_option maxRecDepth 100000 in
set_option maxHeartbeats 40000000 in
theorem ok_law33_StoringNests (a0 : List Int) (a1 : List Int) (r : Bool) (h : F_law33_StoringNests a0 a1 = some r) : Con Try.prog 4 [.c (eS 1 (ecI .i64) (a0)), .agg (arrS .u8 16 a1)] [] (.c (.lit (.bool (r)))) [] := by
  unfold F_law33_StoringNests at h
  refine con_of [] [] 88 Try.func4 rfl rfl (by kernel_rfl) (fun K => ?_)
  refine TS_go 8 ?_
  replace h := bindO h
  obtain ⟨v1, hv1, h⟩ := h
  refine TS_con [] [(15, 10)] none (ok_made_New a0 v1 hv1) (by kernel_rfl) (by kernel_rfl) (by kernel_rfl) ?_
  refine TS_go 5 ?_
  replace h := bindO h
  obtain ⟨v2, hv2, h⟩ := h
  refine TS_con [] [] (some (15, 0)) (ok_world_Base v1 v2 hv2) (by kernel_rfl) (by kernel_rfl) (by kernel_rfl) ?_
  refine TS_go 7 ?_
  replace h := bindO h
  obtain ⟨v3, hv3, h⟩ := h
  refine TS_con [] [(21, 900000)] (some (15, 0)) (okT_world_Downs v2.2 (Int.tmod v2.1 1000) v3 hv3) (by kernel_rfl) (by kernel_rfl) (by kernel_rfl) ?_
  refine TS_go 2 ?_
  refine TS_cut ⟨[(3, []), (5, []), (6, []), (7, [])], [(3, (3, [])), (15, (15, [])), (21, (21, []))]⟩ (.mk [.code (codeAt [1, 1, 1, 1] (bodyOf Try.f4))] .normal ⟨[(3, .c (.box 3 0)), (5, .c (.box 15 0)), (6, .c (.lit (.int .i64 (Int.tmod v2.1 1000)))), (7, .c (.slc 20 23 (List.length v3.1) (List.map S_Down.cs v3.1)))], [(3, .box [.lit (.int .u8 ((a1.getD 0 0))), .lit (.int .u8 ((a1.getD 1 0))), .lit (.int .u8 ((a1.getD 2 0))), .lit (.int .u8 ((a1.getD 3 0))), .lit (.int .u8 ((a1.getD 4 0))), .lit (.int .u8 ((a1.getD 5 0))), .lit (.int .u8 ((a1.getD 6 0))), .lit (.int .u8 ((a1.getD 7 0))), .lit (.int .u8 ((a1.getD 8 0))), .lit (.int .u8 ((a1.getD 9 0))), .lit (.int .u8 ((a1.getD 10 0))), .lit (.int .u8 ((a1.getD 11 0))), .lit (.int .u8 ((a1.getD 12 0))), .lit (.int .u8 ((a1.getD 13 0))), .lit (.int .u8 ((a1.getD 14 0))), .lit (.int .u8 ((a1.getD 15 0)))]), (15, .box [.slc 1 0 (List.length v3.2.l) (List.map (ecI .i64) v3.2.l), .lit (.int .i64 (v3.2.at_))]), (21, .spare 39 20 (List.length v3.1))]⟩) (by kernel_rfl) (by kernel_rfl) ?_
  refine TS_joinB ⟨[(3, []), (6, []), (7, [])], [(3, (3, [])), (21, (21, []))]⟩ (fun (v4 : (List Int)) => []) (fun (v4 : (List Int)) => [(3, .box (arrS .u8 16 v4))]) (F_law33_StoringNests_j1 v3 v2) r ?_ ?_
  · clear h
    intro v4 h
    unfold F_law33_StoringNests_j1 at h
    refine TS_go 5 ?_
    replace h := bindO h
    obtain ⟨v5, hv5, h⟩ := h
    refine TS_call [[21]] (ok_storing_Next v3.1 (Int.tmod v2.1 1000) v4 v5 hv5) (by kernel_rfl) (by kernel_rfl) ?_
    refine TS_go 22 ?_
    refine TS_cut ⟨[(3, []), (6, []), (8, []), (9, []), (10, []), (11, []), (46, []), (47, []), (48, [])], [(3, (3, [])), (21, (21, []))]⟩ (.mk [.code (codeAt [1, 1, 1, 1, 1, 1, 1, 1, 0, 1, 0] (bodyOf Try.f4)), .blk 0, .code (codeAt [1, 1, 1, 1, 1, 1, 1, 1, 1] (bodyOf Try.f4))] .normal ⟨[(3, .c (.box 3 0)), (6, .c (.lit (.int .i64 (Int.tmod v2.1 1000)))), (8, .c (.lit (.int .u64 (v5.1)))), (9, .c (.lit (.int .i64 (v5.2)))), (10, .c (.lit (.int .i64 ((-1))))), (11, .c (.lit (.int .u64 (0)))), (46, .c (.slc 20 23 (List.length v3.1) (List.map S_Down.cs v3.1))), (47, .c (.lit (.int .i64 ((List.length v3.1 : Int))))), (48, .c (.lit (.int .i64 (0))))], [(3, .box [.lit (.int .u8 ((v4.getD 0 0))), .lit (.int .u8 ((v4.getD 1 0))), .lit (.int .u8 ((v4.getD 2 0))), .lit (.int .u8 ((v4.getD 3 0))), .lit (.int .u8 ((v4.getD 4 0))), .lit (.int .u8 ((v4.getD 5 0))), .lit (.int .u8 ((v4.getD 6 0))), .lit (.int .u8 ((v4.getD 7 0))), .lit (.int .u8 ((v4.getD 8 0))), .lit (.int .u8 ((v4.getD 9 0))), .lit (.int .u8 ((v4.getD 10 0))), .lit (.int .u8 ((v4.getD 11 0))), .lit (.int .u8 ((v4.getD 12 0))), .lit (.int .u8 ((v4.getD 13 0))), .lit (.int .u8 ((v4.getD 14 0))), .lit (.int .u8 ((v4.getD 15 0)))]), (21, .spare 39 20 (List.length v3.1))]⟩) (by kernel_rfl) (by kernel_rfl) ?_
    replace h := bindO h
    obtain ⟨y8, hl2, hK2⟩ := h
    refine TS_loopB (F_law33_StoringNests_l2 v3 v2 v4) ⟨[(3, []), (6, []), (8, []), (9, []), (10, []), (11, []), (46, []), (47, []), (48, [])], [(3, (3, [])), (21, (21, []))]⟩ (fun (s6 : Int × Int × Int) => [(10, .c (.lit (.int .i64 (s6.1)))), (11, .c (.lit (.int .u64 (s6.2.1)))), (48, .c (.lit (.int .i64 (s6.2.2))))]) (fun (s6 : Int × Int × Int) => []) ((-1), 0, 0) y8 (.exit 0) (fun (b : Int × Int) => b) ⟨[(8, []), (9, []), (10, []), (11, [])], []⟩ (fun (b7 : Int × Int) => [(10, .c (.lit (.int .i64 (b7.1)))), (11, .c (.lit (.int .u64 (b7.2))))]) (fun (b7 : Int × Int) => []) hl2 (by kernel_rfl) (by kernel_rfl) ?_ ?_
    · intro s6 x h hy2
      unfold F_law33_StoringNests_l2 at h
      refine TS_go 5 ?_
      replace h := condO h
      rcases h with ⟨hb9, h⟩ | ⟨hb9, h⟩
      · refine TS_know 49 (b := true) hb9 (by kernel_rfl) (by kernel_rfl) ?_
        refine TS_T (by kernel_rfl) rfl ?_
        refine TS_go 1 ?_
        refine TS_cut ⟨[(3, []), (6, []), (8, []), (9, []), (10, []), (11, []), (46, []), (47, []), (48, [])], [(3, (3, [])), (21, (21, []))]⟩ (.mk [.code (codeAt [1, 1, 1, 1, 1, 1, 1, 1, 0, 1, 0, 0, 1, 1] (bodyOf Try.f4))] .normal ⟨[(3, .c (.box 3 0)), (6, .c (.lit (.int .i64 (Int.tmod v2.1 1000)))), (8, .c (.lit (.int .u64 (v5.1)))), (9, .c (.lit (.int .i64 (v5.2)))), (10, .c (.lit (.int .i64 (s6.1)))), (11, .c (.lit (.int .u64 (s6.2.1)))), (46, .c (.slc 20 23 (List.length v3.1) (List.map S_Down.cs v3.1))), (47, .c (.lit (.int .i64 ((List.length v3.1 : Int))))), (48, .c (.lit (.int .i64 (s6.2.2))))], [(3, .box [.lit (.int .u8 ((v4.getD 0 0))), .lit (.int .u8 ((v4.getD 1 0))), .lit (.int .u8 ((v4.getD 2 0))), .lit (.int .u8 ((v4.getD 3 0))), .lit (.int .u8 ((v4.getD 4 0))), .lit (.int .u8 ((v4.getD 5 0))), .lit (.int .u8 ((v4.getD 6 0))), .lit (.int .u8 ((v4.getD 7 0))), .lit (.int .u8 ((v4.getD 8 0))), .lit (.int .u8 ((v4.getD 9 0))), .lit (.int .u8 ((v4.getD 10 0))), .lit (.int .u8 ((v4.getD 11 0))), .lit (.int .u8 ((v4.getD 12 0))), .lit (.int .u8 ((v4.getD 13 0))), .lit (.int .u8 ((v4.getD 14 0))), .lit (.int .u8 ((v4.getD 15 0)))]), (21, .spare 39 20 (List.length v3.1))]⟩) (by kernel_rfl) (by kernel_rfl) ?_
        refine TS_joinB ⟨[(3, []), (6, []), (8, []), (9, []), (10, []), (11, []), (46, []), (47, []), (48, [])], [(3, (3, [])), (21, (21, []))]⟩ (fun (v10 : Int × Int) => [(10, .c (.lit (.int .i64 (v10.1)))), (11, .c (.lit (.int .u64 (v10.2))))]) (fun (v10 : Int × Int) => []) (F_law33_StoringNests_j3 s6) x ?_ ?_
        · clear h
          intro v10 h
          unfold F_law33_StoringNests_j3 at h
          refine TS_go 4 ?_
          obtain rfl := Option.some.inj h
          exact TS_againB _ ⟨[(3, []), (6, []), (8, []), (9, []), (10, []), (11, []), (46, []), (47, []), (48, [])], [(3, (3, [])), (21, (21, []))]⟩ rfl (by kernel_rfl) (by kernel_rfl)
        · refine TS_go 3 ?_
          replace h := bindO h
          obtain ⟨e11, he11, h⟩ := h
          refine TS_idx S_Down.cs he11 (by kernel_rfl) (by kernel_rfl) ?_
          refine TS_go 11 ?_
          replace h := condO h
          rcases h with ⟨hb12, h⟩ | ⟨hb12, h⟩
          · refine TS_know 55 (b := true) hb12 (by kernel_rfl) (by kernel_rfl) ?_
            refine TS_know 56 (b := true) hb12 (by kernel_rfl) (by kernel_rfl) ?_
            refine TS_go 3 ?_
            replace h := bindO h
            obtain ⟨v13, hv13, h⟩ := h
            refine TS_call [] (ok_ref04_Contains e11.Target v4 v13 hv13) (by kernel_rfl) (by kernel_rfl) ?_
            refine TS_go 2 ?_
            replace h := condO h
            rcases h with ⟨hb14, h⟩ | ⟨hb14, h⟩
            · subst hb14
              refine TS_go 7 ?_
              replace h := condO h
              rcases h with ⟨hb15, h⟩ | ⟨hb15, h⟩
              · refine TS_know 67 (b := true) hb15 (by kernel_rfl) (by kernel_rfl) ?_
                refine TS_know 68 (b := true) hb15 (by kernel_rfl) (by kernel_rfl) ?_
                refine TS_T (by kernel_rfl) rfl ?_
                refine TS_draw (by kernel_rfl) ?_
                refine TD_go 7 ?_
                refine TD_end (by kernel_rfl) ?_
                refine TS_go 1 ?_
                exact TS_meet (e11.Target.Bits, e11.Via) ⟨[(3, []), (6, []), (8, []), (9, []), (10, []), (11, []), (46, []), (47, []), (48, [])], [(3, (3, [])), (21, (21, []))]⟩ h (by kernel_rfl) (by kernel_rfl)
              · refine TS_know 67 (b := false) hb15 (by kernel_rfl) (by kernel_rfl) ?_
                refine TS_know 68 (b := false) hb15 (by kernel_rfl) (by kernel_rfl) ?_
                refine TS_F (by kernel_rfl) rfl ?_
                refine TS_go 2 ?_
                exact TS_meet (s6.1, s6.2.1) ⟨[(3, []), (6, []), (8, []), (9, []), (10, []), (11, []), (46, []), (47, []), (48, [])], [(3, (3, [])), (21, (21, []))]⟩ h (by kernel_rfl) (by kernel_rfl)
            · subst hb14
              refine TS_go 7 ?_
              refine TS_F (by kernel_rfl) rfl ?_
              refine TS_go 2 ?_
              exact TS_meet (s6.1, s6.2.1) ⟨[(3, []), (6, []), (8, []), (9, []), (10, []), (11, []), (46, []), (47, []), (48, [])], [(3, (3, [])), (21, (21, []))]⟩ h (by kernel_rfl) (by kernel_rfl)
          · refine TS_know 55 (b := false) hb12 (by kernel_rfl) (by kernel_rfl) ?_
            refine TS_know 56 (b := false) hb12 (by kernel_rfl) (by kernel_rfl) ?_
            refine TS_go 13 ?_
            refine TS_F (by kernel_rfl) rfl ?_
            refine TS_go 2 ?_
            exact TS_meet (s6.1, s6.2.1) ⟨[(3, []), (6, []), (8, []), (9, []), (10, []), (11, []), (46, []), (47, []), (48, [])], [(3, (3, [])), (21, (21, []))]⟩ h (by kernel_rfl) (by kernel_rfl)
      · refine TS_know 49 (b := false) hb9 (by kernel_rfl) (by kernel_rfl) ?_
        refine TS_F (by kernel_rfl) rfl ?_
        refine TS_go 2 ?_
        obtain rfl := Option.some.inj h
        exact TS_brkB (s6.1, s6.2.1) ⟨[(8, []), (9, []), (10, []), (11, [])], []⟩ rfl (by kernel_rfl) (by kernel_rfl) (by kernel_rfl)
    · intro b7 hb
      subst y8
      have h := hK2
      refine TS_go 9 ?_
      replace h := condO h
      rcases h with ⟨hb17, h⟩ | ⟨hb17, h⟩
      · refine TS_know 79 (b := true) hb17 (by kernel_rfl) (by kernel_rfl) ?_
        refine TS_know 80 (b := true) hb17 (by kernel_rfl) (by kernel_rfl) ?_
        refine TS_go 5 ?_
        replace h := condO h
        rcases h with ⟨hb18, h⟩ | ⟨hb18, h⟩
        · refine TS_know 83 (b := true) hb18 (by kernel_rfl) (by kernel_rfl) ?_
          refine TS_know 84 (b := true) hb18 (by kernel_rfl) (by kernel_rfl) ?_
          refine TS_know 85 (b := true) hb18 (by kernel_rfl) (by kernel_rfl) ?_
          replace h := bindO h
          obtain ⟨v19, hv19, h⟩ := h
          refine TS_call [] (ok_law33_known  v19 hv19) (by kernel_rfl) (by kernel_rfl) ?_
          refine TS_go 4 ?_
          obtain rfl := Option.some.inj h
          exact TS_ret (by kernel_rfl) (by kernel_rfl) (by kernel_rfl)
        · refine TS_know 83 (b := false) hb18 (by kernel_rfl) (by kernel_rfl) ?_
          refine TS_know 84 (b := false) hb18 (by kernel_rfl) (by kernel_rfl) ?_
          refine TS_know 85 (b := false) hb18 (by kernel_rfl) (by kernel_rfl) ?_
          refine TS_go 5 ?_
          obtain rfl := Option.some.inj h
          exact TS_ret (by kernel_rfl) (by kernel_rfl) (by kernel_rfl)
      · refine TS_know 79 (b := false) hb17 (by kernel_rfl) (by kernel_rfl) ?_
        refine TS_know 80 (b := false) hb17 (by kernel_rfl) (by kernel_rfl) ?_
        refine TS_go 10 ?_
        obtain rfl := Option.some.inj h
        exact TS_ret (by kernel_rfl) (by kernel_rfl) (by kernel_rfl)
  · refine TS_go 6 ?_
    replace h := condO h
    rcases h with ⟨hb20, h⟩ | ⟨hb20, h⟩
    · refine TS_know 24 (b := true) hb20 (by kernel_rfl) (by kernel_rfl) ?_
      refine TS_know 25 (b := true) hb20 (by kernel_rfl) (by kernel_rfl) ?_
      refine TS_go 1 ?_
      replace h := bindO h
      obtain ⟨v21, hv21, h⟩ := h
      refine TS_con [] [] (some (15, 0)) (ok_made_Tape_Bool v3.2 4 v21 hv21) (by kernel_rfl) (by kernel_rfl) (by kernel_rfl) ?_
      refine TS_go 3 ?_
      replace h := condO h
      rcases h with ⟨hb22, h⟩ | ⟨hb22, h⟩
      · refine TS_know 27 (b := true) hb22 (by kernel_rfl) (by kernel_rfl) ?_
        refine TS_know 28 (b := false) (notF hb22) (by kernel_rfl) (by kernel_rfl) ?_
        refine TS_know 29 (b := false) (notF hb22) (by kernel_rfl) (by kernel_rfl) ?_
        refine TS_F (by kernel_rfl) rfl ?_
        refine TS_go 1 ?_
        exact TS_meet a1 ⟨[(3, []), (6, []), (7, [])], [(3, (3, [])), (21, (21, []))]⟩ h (by kernel_rfl) (by kernel_rfl)
      · refine TS_know 27 (b := false) hb22 (by kernel_rfl) (by kernel_rfl) ?_
        refine TS_know 28 (b := true) (notT hb22) (by kernel_rfl) (by kernel_rfl) ?_
        refine TS_know 29 (b := true) (notT hb22) (by kernel_rfl) (by kernel_rfl) ?_
        refine TS_T (by kernel_rfl) rfl ?_
        refine TS_go 5 ?_
        replace h := bindO h
        obtain ⟨v23, hv23, h⟩ := h
        refine TS_con [] [] (some (15, 0)) (ok_made_Tape_Next v21.2 (List.length v3.1 : Int) v23 hv23) (by kernel_rfl) (by kernel_rfl) (by kernel_rfl) ?_
        replace h := bindO h
        obtain ⟨e24, he24, h⟩ := h
        refine TS_idx S_Down.cs he24 (by kernel_rfl) (by kernel_rfl) ?_
        refine TS_go 5 ?_
        exact TS_meet e24.Target.IP ⟨[(3, []), (6, []), (7, [])], [(3, (3, [])), (21, (21, []))]⟩ h (by kernel_rfl) (by kernel_rfl)
    · refine TS_know 24 (b := false) hb20 (by kernel_rfl) (by kernel_rfl) ?_
      refine TS_know 25 (b := false) hb20 (by kernel_rfl) (by kernel_rfl) ?_
      refine TS_go 5 ?_
      refine TS_F (by kernel_rfl) rfl ?_
      refine TS_go 1 ?_
      exact TS_meet a1 ⟨[(3, []), (6, []), (7, [])], [(3, (3, [])), (21, (21, []))]⟩ h (by kernel_rfl) (by kernel_rfl)

/-- multihop/multihopmade.Mod -/
noncomputable def F_made_Mod_j1  (v2 : Int) : Option (Int) :=
  some (v2)
noncomputable def F_made_Mod (a0 : Int) (a1 : Int) : Option (Int) :=
  bif decide (a1 ≠ 0) then
    bif (decide ((Int.tmod a0 a1) < 0)) then
      (F_made_Mod_j1) (IntKind.wrap .i64 ((Int.tmod a0 a1) + a1))
    else
      (F_made_Mod_j1) (Int.tmod a0 a1)
  else none
set_option maxRecDepth 100000 in
set_option maxHeartbeats 40000000 in
theorem ok_made_Mod (a0 : Int) (a1 : Int) (r : Int) (h : F_made_Mod a0 a1 = some r) : Con Try.prog 23 [.c (.lit (.int .i64 (a0))), .c (.lit (.int .i64 (a1)))] [] (.c (.lit (.int .i64 (r)))) [] := by
  unfold F_made_Mod at h
  refine con_of [] [] 14 Try.func23 rfl rfl (by kernel_rfl) (fun K => ?_)
  refine TS_go 8 ?_
  replace h := chkO h
  obtain ⟨hc1, h⟩ := h
  refine TS_num (op := .rem) (k := .i64) (k' := .i64) (m := a0) (i := a1) (of_decide_eq_true hc1) rfl (by simp) (by kernel_rfl) (by kernel_rfl) ?_
  refine TS_go 2 ?_
  refine TS_cut ⟨[(0, []), (1, [])], []⟩ (.mk [.code (codeAt [1, 1] (bodyOf Try.f23))] .normal ⟨[(0, .c (.lit (.int .i64 (Int.tmod a0 a1)))), (1, .c (.lit (.int .i64 (a1))))], []⟩) (by kernel_rfl) (by kernel_rfl) ?_
  refine TS_joinB ⟨[(0, [])], []⟩ (fun (v2 : Int) => [(0, .c (.lit (.int .i64 (v2))))]) (fun (v2 : Int) => []) (F_made_Mod_j1) r ?_ ?_
  · clear h
    intro v2 h
    unfold F_made_Mod_j1 at h
    refine TS_go 6 ?_
    obtain rfl := Option.some.inj h
    exact TS_ret (by kernel_rfl) (by kernel_rfl) (by kernel_rfl)
  · refine TS_go 5 ?_
    replace h := condO h
    rcases h with ⟨hb3, h⟩ | ⟨hb3, h⟩
    · refine TS_know 9 (b := true) hb3 (by kernel_rfl) (by kernel_rfl) ?_
      refine TS_T (by kernel_rfl) rfl ?_
      refine TS_go 6 ?_
      exact TS_meet (IntKind.wrap .i64 ((Int.tmod a0 a1) + a1)) ⟨[(0, [])], []⟩ h (by kernel_rfl) (by kernel_rfl)
    · refine TS_know 9 (b := false) hb3 (by kernel_rfl) (by kernel_rfl) ?_
      refine TS_F (by kernel_rfl) rfl ?_
      refine TS_go 1 ?_
      exact TS_meet (Int.tmod a0 a1) ⟨[(0, [])], []⟩ h (by kernel_rfl) (by kernel_rfl)

/-- slices.Equal[[]multihop/api.Downmultihop/api.Down] -/
noncomputable def F_slices_Equal_api_Down_api_Down_l1 (a0 : List S_Down) (a1 : List S_Down) (s2 : Int) : Option ((Int) ⊕ ((Unit) ⊕ (Bool))) :=
  bif (decide (s2 < (List.length a0 : Int))) then
    (idx a0 s2).bind fun e6 =>
    (idx a1 s2).bind fun e7 =>
    bif (S_Down.eqb e6 e7) then
      some (Sum.inl (IntKind.wrap .i64 (s2 + 1)))
    else
      some (Sum.inr (Sum.inr false))
  else
    some (Sum.inr (Sum.inl ()))
noncomputable def F_slices_Equal_api_Down_api_Down (a0 : List S_Down) (a1 : List S_Down) : Option (Bool) :=
  bif ((List.length a0 : Int) != (List.length a1 : Int)) then
    some (false)
  else
    (loopO (F_slices_Equal_api_Down_api_Down_l1 a0 a1) 0).bind (Sum.elim (fun b3 =>
      some (true)
    ) (fun w9 => some w9))
set_option maxRecDepth 100000 in
set_option maxHeartbeats 40000000 in
theorem ok_slices_Equal_api_Down_api_Down (a0 : List S_Down) (a1 : List S_Down) (r : Bool) (h : F_slices_Equal_api_Down_api_Down a0 a1 = some r) : Con Try.prog 24 [.c (eS 20 S_Down.cs (a0)), .c (eS 20 S_Down.cs (a1))] [] (.c (.lit (.bool (r)))) [] := by
  unfold F_slices_Equal_api_Down_api_Down at h
  refine con_of [] [] 26 Try.func24 rfl rfl (by kernel_rfl) (fun K => ?_)
  refine TS_go 13 ?_
  replace h := condO h
  rcases h with ⟨hb1, h⟩ | ⟨hb1, h⟩
  · refine TS_know 10 (b := true) hb1 (by kernel_rfl) (by kernel_rfl) ?_
    refine TS_T (by kernel_rfl) rfl ?_
    refine TS_go 6 ?_
    obtain rfl := Option.some.inj h
    exact TS_ret (by kernel_rfl) (by kernel_rfl) (by kernel_rfl)
  · refine TS_know 10 (b := false) hb1 (by kernel_rfl) (by kernel_rfl) ?_
    refine TS_F (by kernel_rfl) rfl ?_
    refine TS_go 9 ?_
    refine TS_cut ⟨[(0, []), (1, []), (12, []), (13, [])], []⟩ (.mk [.code (codeAt [1, 1, 0, 1, 0] (bodyOf Try.f24)), .blk 0, .code (codeAt [1, 1, 1] (bodyOf Try.f24))] .normal ⟨[(0, .c (.slc 20 0 (List.length a0) (List.map S_Down.cs a0))), (1, .c (.slc 20 0 (List.length a1) (List.map S_Down.cs a1))), (12, .c (.lit (.int .i64 ((List.length a0 : Int))))), (13, .c (.lit (.int .i64 (0))))], []⟩) (by kernel_rfl) (by kernel_rfl) ?_
    replace h := bindO h
    obtain ⟨y4, hl1, hK1⟩ := h
    refine TS_loopB (F_slices_Equal_api_Down_api_Down_l1 a0 a1) ⟨[(0, []), (1, []), (12, []), (13, [])], []⟩ (fun (s2 : Int) => [(13, .c (.lit (.int .i64 (s2))))]) (fun (s2 : Int) => []) 0 y4 (.exit 0) (fun (b : Unit) => (Sum.inl b : (Unit) ⊕ (Bool))) ⟨[], []⟩ (fun (b3 : Unit) => []) (fun (b3 : Unit) => []) hl1 (by kernel_rfl) (by kernel_rfl) ?_ ?_
    · intro s2 x h hy1
      unfold F_slices_Equal_api_Down_api_Down_l1 at h
      refine TS_go 5 ?_
      replace h := condO h
      rcases h with ⟨hb5, h⟩ | ⟨hb5, h⟩
      · refine TS_know 14 (b := true) hb5 (by kernel_rfl) (by kernel_rfl) ?_
        refine TS_T (by kernel_rfl) rfl ?_
        refine TS_go 9 ?_
        refine TS_draw (by kernel_rfl) ?_
        refine TD_go 2 ?_
        replace h := bindO h
        obtain ⟨e6, he6, h⟩ := h
        refine TD_idx S_Down.cs he6 (by kernel_rfl) (by kernel_rfl) ?_
        refine TD_go 3 ?_
        replace h := bindO h
        obtain ⟨e7, he7, h⟩ := h
        refine TD_idx S_Down.cs he7 (by kernel_rfl) (by kernel_rfl) ?_
        refine TD_go 2 ?_
        refine TD_end (by kernel_rfl) ?_
        replace h := condO h
        rcases h with ⟨hb8, h⟩ | ⟨hb8, h⟩
        · refine TS_know 24 (b := false) (notF hb8) (by kernel_rfl) (by kernel_rfl) ?_
          refine TS_F (by kernel_rfl) rfl ?_
          refine TS_go 6 ?_
          obtain rfl := Option.some.inj h
          exact TS_againB _ ⟨[(0, []), (1, []), (12, []), (13, [])], []⟩ rfl (by kernel_rfl) (by kernel_rfl)
        · refine TS_know 24 (b := true) (notT hb8) (by kernel_rfl) (by kernel_rfl) ?_
          refine TS_T (by kernel_rfl) rfl ?_
          refine TS_go 7 ?_
          obtain rfl := Option.some.inj h
          have hy1q := hy1 _ rfl
          subst hy1q
          replace h := (elimR hK1)
          refine TS_retB rfl (by kernel_rfl) ?_
          refine TS_go 2 ?_
          obtain rfl := Option.some.inj h
          exact TS_ret (by kernel_rfl) (by kernel_rfl) (by kernel_rfl)
      · refine TS_know 14 (b := false) hb5 (by kernel_rfl) (by kernel_rfl) ?_
        refine TS_F (by kernel_rfl) rfl ?_
        refine TS_go 2 ?_
        obtain rfl := Option.some.inj h
        exact TS_brkB () ⟨[], []⟩ rfl (by kernel_rfl) (by kernel_rfl) (by kernel_rfl)
    · intro b3 hb
      subst y4
      have h := elimL hK1
      refine TS_go 6 ?_
      obtain rfl := Option.some.inj h
      exact TS_ret (by kernel_rfl) (by kernel_rfl) (by kernel_rfl)

/-- multihop/multihoplaw33.StoringFills -/
noncomputable def F_law33_StoringFills_l1  (s1 : (List S_Down) × Int) : Option (((List S_Down) × Int) ⊕ ((List S_Down))) :=
  bif (decide (s1.2 < 128)) then
    (F_law33_target (IntKind.wrap .i64 (2 * s1.2))).bind fun v5 =>
    (appO 48 s1.1 (Cut.app .whole ([(S_Down.mk v5 2 5 10)] : List S_Down))).bind fun l6 =>
    some (Sum.inl (l6, IntKind.wrap .i64 (s1.2 + 1)))
  else
    some (Sum.inr s1.1)
noncomputable def F_law33_StoringFills (a0 : Int) : Option (Bool) :=
  (loopO (F_law33_StoringFills_l1) (([] : List S_Down), 0)).bind fun b2 =>
  (F_made_Mod a0 128).bind fun v8 =>
  (F_law33_target (IntKind.wrap .i64 ((IntKind.wrap .i64 (2 * v8)) + 1))).bind fun v9 =>
  (F_storing_Accept b2 1 3 (S_Register.mk v9 5 4)).bind fun v10 =>
  (F_law33_target (IntKind.wrap .i64 (2 * v8))).bind fun v11 =>
  (F_storing_Accept b2 1 3 (S_Register.mk v11 6 4)).bind fun v12 =>
  (F_law33_target (IntKind.wrap .i64 ((IntKind.wrap .i64 (2 * v8)) + 1))).bind fun v13 =>
  (F_storing_Accept b2 1 3 (S_Register.mk v13 5 0)).bind fun v14 =>
  bif (v10.2.2 == 10) then
    bif (v12.2.2 == 0) then
      bif (v14.2.2 == 0) then
        bif v14.2.1 then
          some (false)
        else
          (F_slices_Equal_api_Down_api_Down v14.1 b2).bind fun v19 =>
          bif v19 then
            (F_law33_known ).bind fun v21 =>
            some (v21)
          else
            some (false)
      else
        some (false)
    else
      some (false)
  else
    some (false)
set_option maxRecDepth 100000 in
set_option maxHeartbeats 40000000 in
theorem ok_law33_StoringFills (a0 : Int) (r : Bool) (h : F_law33_StoringFills a0 = some r) : Con Try.prog 5 [.c (.lit (.int .i64 (a0)))] [] (.c (.lit (.bool (r)))) [] := by
  unfold F_law33_StoringFills at h
  refine con_of [] [] 82 Try.func5 rfl rfl (by kernel_rfl) (fun K => ?_)
  refine TS_go 14 ?_
  refine TS_nilT 3 600000 39 20 (by kernel_rfl) ?_
  refine TS_cut ⟨[(0, []), (3, []), (4, [])], [(600000, (600000, []))]⟩ (.mk [.code (codeAt [1, 1, 0, 1, 0] (bodyOf Try.f5)), .blk 0, .code (codeAt [1, 1, 1] (bodyOf Try.f5))] .normal ⟨[(0, .c (.lit (.int .i64 (a0)))), (3, .c (.slc 20 600002 (List.length ([] : List S_Down)) (List.map S_Down.cs ([] : List S_Down)))), (4, .c (.lit (.int .i64 (0))))], [(600000, .spare 39 20 (List.length ([] : List S_Down)))]⟩) (by kernel_rfl) (by kernel_rfl) ?_
  replace h := bindO h
  obtain ⟨y3, hl1, hK1⟩ := h
  refine TS_loopB (F_law33_StoringFills_l1) ⟨[(0, []), (3, []), (4, [])], [(600000, (600000, []))]⟩ (fun (s1 : (List S_Down) × Int) => [(3, .c (.slc 20 600002 (List.length s1.1) (List.map S_Down.cs s1.1))), (4, .c (.lit (.int .i64 (s1.2))))]) (fun (s1 : (List S_Down) × Int) => [(600000, .spare 39 20 (List.length s1.1))]) (([] : List S_Down), 0) y3 (.exit 0) (fun (b : (List S_Down)) => b) ⟨[(0, []), (3, [])], [(600000, (600000, []))]⟩ (fun (b2 : (List S_Down)) => [(3, .c (.slc 20 600002 (List.length b2) (List.map S_Down.cs b2)))]) (fun (b2 : (List S_Down)) => [(600000, .spare 39 20 (List.length b2))]) hl1 (by kernel_rfl) (by kernel_rfl) ?_ ?_
  · intro s1 x h hy1
    unfold F_law33_StoringFills_l1 at h
    refine TS_go 6 ?_
    replace h := condO h
    rcases h with ⟨hb4, h⟩ | ⟨hb4, h⟩
    · refine TS_know 16 (b := true) hb4 (by kernel_rfl) (by kernel_rfl) ?_
      refine TS_T (by kernel_rfl) rfl ?_
      refine TS_go 7 ?_
      replace h := bindO h
      obtain ⟨v5, hv5, h⟩ := h
      refine TS_call [] (ok_law33_target (IntKind.wrap .i64 (2 * s1.2)) v5 hv5) (by kernel_rfl) (by kernel_rfl) ?_
      refine TS_go 1 ?_
      refine TS_litNT 24 39 20 S_Down.cs [] ([(S_Down.mk v5 2 5 10)] : List S_Down) (by kernel_rfl) (by kernel_rfl) ?_
      replace h := bindO h
      obtain ⟨l6, hl6, h⟩ := h
      refine TS_appT (d := 600000) (e := 39) (sz := 20) (N := List.length s1.1) S_Down.cs (fun _ => by kernel_rfl) (l1 := s1.1) (l2 := ([(S_Down.mk v5 2 5 10)] : List S_Down)) (c := .whole) hl6 (by kernel_rfl) (by kernel_rfl) ?_
      refine TS_go 8 ?_
      obtain rfl := Option.some.inj h
      exact TS_againB _ ⟨[(0, []), (3, []), (4, [])], [(600000, (600000, []))]⟩ rfl (by kernel_rfl) (by kernel_rfl)
    · refine TS_know 16 (b := false) hb4 (by kernel_rfl) (by kernel_rfl) ?_
      refine TS_F (by kernel_rfl) rfl ?_
      refine TS_go 2 ?_
      obtain rfl := Option.some.inj h
      exact TS_brkB s1.1 ⟨[(0, []), (3, [])], [(600000, (600000, []))]⟩ rfl (by kernel_rfl) (by kernel_rfl) (by kernel_rfl)
  · intro b2 hb
    subst y3
    have h := hK1
    refine TS_go 4 ?_
    replace h := bindO h
    obtain ⟨v8, hv8, h⟩ := h
    refine TS_call [] (ok_made_Mod a0 128 v8 hv8) (by kernel_rfl) (by kernel_rfl) ?_
    refine TS_go 8 ?_
    replace h := bindO h
    obtain ⟨v9, hv9, h⟩ := h
    refine TS_call [] (ok_law33_target (IntKind.wrap .i64 ((IntKind.wrap .i64 (2 * v8)) + 1)) v9 hv9) (by kernel_rfl) (by kernel_rfl) ?_
    refine TS_go 1 ?_
    replace h := bindO h
    obtain ⟨v10, hv10, h⟩ := h
    refine TS_call [[21]] (ok_storing_Accept b2 1 3 (S_Register.mk v9 5 4) v10 hv10) (by kernel_rfl) (by kernel_rfl) ?_
    refine TS_go 13 ?_
    replace h := bindO h
    obtain ⟨v11, hv11, h⟩ := h
    refine TS_call [] (ok_law33_target (IntKind.wrap .i64 (2 * v8)) v11 hv11) (by kernel_rfl) (by kernel_rfl) ?_
    refine TS_go 1 ?_
    replace h := bindO h
    obtain ⟨v12, hv12, h⟩ := h
    refine TS_call [[21]] (ok_storing_Accept b2 1 3 (S_Register.mk v11 6 4) v12 hv12) (by kernel_rfl) (by kernel_rfl) ?_
    refine TS_go 14 ?_
    replace h := bindO h
    obtain ⟨v13, hv13, h⟩ := h
    refine TS_call [] (ok_law33_target (IntKind.wrap .i64 ((IntKind.wrap .i64 (2 * v8)) + 1)) v13 hv13) (by kernel_rfl) (by kernel_rfl) ?_
    refine TS_go 1 ?_
    replace h := bindO h
    obtain ⟨v14, hv14, h⟩ := h
    refine TS_call [[21]] (ok_storing_Accept b2 1 3 (S_Register.mk v13 5 0) v14 hv14) (by kernel_rfl) (by kernel_rfl) ?_
    refine TS_go 13 ?_
    replace h := condO h
    rcases h with ⟨hb15, h⟩ | ⟨hb15, h⟩
    · refine TS_know 61 (b := true) hb15 (by kernel_rfl) (by kernel_rfl) ?_
      refine TS_know 62 (b := true) hb15 (by kernel_rfl) (by kernel_rfl) ?_
      refine TS_go 4 ?_
      replace h := condO h
      rcases h with ⟨hb16, h⟩ | ⟨hb16, h⟩
      · refine TS_know 64 (b := true) hb16 (by kernel_rfl) (by kernel_rfl) ?_
        refine TS_know 65 (b := true) hb16 (by kernel_rfl) (by kernel_rfl) ?_
        refine TS_know 66 (b := true) hb16 (by kernel_rfl) (by kernel_rfl) ?_
        refine TS_go 4 ?_
        replace h := condO h
        rcases h with ⟨hb17, h⟩ | ⟨hb17, h⟩
        · refine TS_know 68 (b := true) hb17 (by kernel_rfl) (by kernel_rfl) ?_
          refine TS_know 69 (b := true) hb17 (by kernel_rfl) (by kernel_rfl) ?_
          refine TS_know 70 (b := true) hb17 (by kernel_rfl) (by kernel_rfl) ?_
          refine TS_go 4 ?_
          replace h := condO h
          rcases h with ⟨hb18, h⟩ | ⟨hb18, h⟩
          · refine TS_know 58 (b := true) hb18 (by kernel_rfl) (by kernel_rfl) ?_
            refine TS_know 13 (b := true) hb18 (by kernel_rfl) (by kernel_rfl) ?_
            refine TS_know 71 (b := true) hb18 (by kernel_rfl) (by kernel_rfl) ?_
            refine TS_know 72 (b := false) (notF hb18) (by kernel_rfl) (by kernel_rfl) ?_
            refine TS_know 73 (b := false) (notF hb18) (by kernel_rfl) (by kernel_rfl) ?_
            refine TS_know 74 (b := false) (notF hb18) (by kernel_rfl) (by kernel_rfl) ?_
            refine TS_go 10 ?_
            obtain rfl := Option.some.inj h
            exact TS_ret (by kernel_rfl) (by kernel_rfl) (by kernel_rfl)
          · refine TS_know 58 (b := false) hb18 (by kernel_rfl) (by kernel_rfl) ?_
            refine TS_know 13 (b := false) hb18 (by kernel_rfl) (by kernel_rfl) ?_
            refine TS_know 71 (b := false) hb18 (by kernel_rfl) (by kernel_rfl) ?_
            refine TS_know 72 (b := true) (notT hb18) (by kernel_rfl) (by kernel_rfl) ?_
            refine TS_know 73 (b := true) (notT hb18) (by kernel_rfl) (by kernel_rfl) ?_
            refine TS_know 74 (b := true) (notT hb18) (by kernel_rfl) (by kernel_rfl) ?_
            refine TS_go 2 ?_
            replace h := bindO h
            obtain ⟨v19, hv19, h⟩ := h
            refine TS_call [[], [21]] (ok_slices_Equal_api_Down_api_Down v14.1 b2 v19 hv19) (by kernel_rfl) (by kernel_rfl) ?_
            refine TS_go 2 ?_
            replace h := condO h
            rcases h with ⟨hb20, h⟩ | ⟨hb20, h⟩
            · subst hb20
              replace h := bindO h
              obtain ⟨v21, hv21, h⟩ := h
              refine TS_call [] (ok_law33_known  v21 hv21) (by kernel_rfl) (by kernel_rfl) ?_
              refine TS_go 4 ?_
              obtain rfl := Option.some.inj h
              exact TS_ret (by kernel_rfl) (by kernel_rfl) (by kernel_rfl)
            · subst hb20
              refine TS_go 5 ?_
              obtain rfl := Option.some.inj h
              exact TS_ret (by kernel_rfl) (by kernel_rfl) (by kernel_rfl)
        · refine TS_know 68 (b := false) hb17 (by kernel_rfl) (by kernel_rfl) ?_
          refine TS_know 69 (b := false) hb17 (by kernel_rfl) (by kernel_rfl) ?_
          refine TS_know 70 (b := false) hb17 (by kernel_rfl) (by kernel_rfl) ?_
          refine TS_go 14 ?_
          obtain rfl := Option.some.inj h
          exact TS_ret (by kernel_rfl) (by kernel_rfl) (by kernel_rfl)
      · refine TS_know 64 (b := false) hb16 (by kernel_rfl) (by kernel_rfl) ?_
        refine TS_know 65 (b := false) hb16 (by kernel_rfl) (by kernel_rfl) ?_
        refine TS_know 66 (b := false) hb16 (by kernel_rfl) (by kernel_rfl) ?_
        refine TS_go 18 ?_
        obtain rfl := Option.some.inj h
        exact TS_ret (by kernel_rfl) (by kernel_rfl) (by kernel_rfl)
    · refine TS_know 61 (b := false) hb15 (by kernel_rfl) (by kernel_rfl) ?_
      refine TS_know 62 (b := false) hb15 (by kernel_rfl) (by kernel_rfl) ?_
      refine TS_go 22 ?_
      obtain rfl := Option.some.inj h
      exact TS_ret (by kernel_rfl) (by kernel_rfl) (by kernel_rfl)

/-- multihop/multihoplaw33.accepts -/
noncomputable def F_law33_accepts (a0 : List S_Down) (a1 : Int) (a2 : Int) (a3 : S_Register) : Option (Bool) :=
  (F_storing_Accept a0 a1 a2 a3).bind fun v1 =>
  (F_ref33_Accept a0 a1 a2 a3).bind fun v2 =>
  (F_storing_ValidRegister a3).bind fun v3 =>
  (F_ref33_ValidRegister a3).bind fun v4 =>
  bif (v3 == v4) then
    bif (v1.2.2 == v2.2.2) then
      bif (v1.2.1 == v2.2.1) then
        (F_slices_Equal_api_Down_api_Down v1.1 v2.1).bind fun v8 =>
        bif v8 then
          bif (v1.2.2 != 0) then
            some (true)
          else
            (F_storing_Valid v1.1).bind fun v11 =>
            some (v11)
        else
          some (false)
      else
        some (false)
    else
      some (false)
  else
    some (false)
set_option maxRecDepth 100000 in
set_option maxHeartbeats 40000000 in
theorem ok_law33_accepts (a0 : List S_Down) (a1 : Int) (a2 : Int) (a3 : S_Register) (r : Bool) (h : F_law33_accepts a0 a1 a2 a3 = some r) : Con Try.prog 25 [.c (eS 20 S_Down.cs (a0)), .c (.lit (.int .i64 (a1))), .c (.lit (.int .u64 (a2))), .agg (S_Register.cs a3)] [] (.c (.lit (.bool (r)))) [] := by
  unfold F_law33_accepts at h
  refine con_of [] [] 61 Try.func25 rfl rfl (by kernel_rfl) (fun K => ?_)
  refine TS_go 11 ?_
  replace h := bindO h
  obtain ⟨v1, hv1, h⟩ := h
  refine TS_call [] (ok_storing_Accept a0 a1 a2 a3 v1 hv1) (by kernel_rfl) (by kernel_rfl) ?_
  refine TS_go 14 ?_
  replace h := bindO h
  obtain ⟨v2, hv2, h⟩ := h
  refine TS_con [] [(29, 900000)] none (okT_ref33_Accept a0 a1 a2 a3 v2 hv2) (by kernel_rfl) (by kernel_rfl) (by kernel_rfl) ?_
  refine TS_go 9 ?_
  refine TS_draw (by kernel_rfl) ?_
  refine TD_go 1 ?_
  replace h := bindO h
  obtain ⟨v3, hv3, h⟩ := h
  refine TD_call [] (ok_storing_ValidRegister a3 v3 hv3) (by kernel_rfl) (by kernel_rfl) ?_
  refine TD_go 1 ?_
  replace h := bindO h
  obtain ⟨v4, hv4, h⟩ := h
  refine TD_call [] (ok_ref33_ValidRegister a3 v4 hv4) (by kernel_rfl) (by kernel_rfl) ?_
  refine TD_go 1 ?_
  replace h := condO h
  rcases h with ⟨hb5, h⟩ | ⟨hb5, h⟩
  · refine TD_know 38 (b := true) hb5 trivial (by kernel_rfl) (by kernel_rfl) ?_
    refine TD_go 4 ?_
    replace h := condO h
    rcases h with ⟨hb6, h⟩ | ⟨hb6, h⟩
    · refine TD_know 43 (b := true) hb6 trivial (by kernel_rfl) (by kernel_rfl) ?_
      refine TD_go 4 ?_
      replace h := condO h
      rcases h with ⟨hb7, h⟩ | ⟨hb7, h⟩
      · refine TD_know 48 (b := true) hb7 trivial (by kernel_rfl) (by kernel_rfl) ?_
        refine TD_go 2 ?_
        replace h := bindO h
        obtain ⟨v8, hv8, h⟩ := h
        refine TD_call [[], [21]] (ok_slices_Equal_api_Down_api_Down v1.1 v2.1 v8 hv8) (by kernel_rfl) (by kernel_rfl) ?_
        refine TD_go 2 ?_
        replace h := condO h
        rcases h with ⟨hb9, h⟩ | ⟨hb9, h⟩
        · subst hb9
          refine TD_go 2 ?_
          replace h := condO h
          rcases h with ⟨hb10, h⟩ | ⟨hb10, h⟩
          · refine TD_know 56 (b := true) hb10 trivial (by kernel_rfl) (by kernel_rfl) ?_
            refine TD_go 5 ?_
            refine TD_end (by kernel_rfl) ?_
            refine TS_go 1 ?_
            obtain rfl := Option.some.inj h
            exact TS_ret (by kernel_rfl) (by kernel_rfl) (by kernel_rfl)
          · refine TD_know 56 (b := false) hb10 trivial (by kernel_rfl) (by kernel_rfl) ?_
            refine TD_go 1 ?_
            replace h := bindO h
            obtain ⟨v11, hv11, h⟩ := h
            refine TD_call [] (ok_storing_Valid v1.1 v11 hv11) (by kernel_rfl) (by kernel_rfl) ?_
            refine TD_go 3 ?_
            refine TD_end (by kernel_rfl) ?_
            refine TS_go 1 ?_
            obtain rfl := Option.some.inj h
            exact TS_ret (by kernel_rfl) (by kernel_rfl) (by kernel_rfl)
        · subst hb9
          refine TD_go 8 ?_
          refine TD_end (by kernel_rfl) ?_
          refine TS_go 1 ?_
          obtain rfl := Option.some.inj h
          exact TS_ret (by kernel_rfl) (by kernel_rfl) (by kernel_rfl)
      · refine TD_know 48 (b := false) hb7 trivial (by kernel_rfl) (by kernel_rfl) ?_
        refine TD_go 13 ?_
        refine TD_end (by kernel_rfl) ?_
        refine TS_go 1 ?_
        obtain rfl := Option.some.inj h
        exact TS_ret (by kernel_rfl) (by kernel_rfl) (by kernel_rfl)
    · refine TD_know 43 (b := false) hb6 trivial (by kernel_rfl) (by kernel_rfl) ?_
      refine TD_go 18 ?_
      refine TD_end (by kernel_rfl) ?_
      refine TS_go 1 ?_
      obtain rfl := Option.some.inj h
      exact TS_ret (by kernel_rfl) (by kernel_rfl) (by kernel_rfl)
  · refine TD_know 38 (b := false) hb5 trivial (by kernel_rfl) (by kernel_rfl) ?_
    refine TD_go 23 ?_
    refine TD_end (by kernel_rfl) ?_
    refine TS_go 1 ?_
    obtain rfl := Option.some.inj h
    exact TS_ret (by kernel_rfl) (by kernel_rfl) (by kernel_rfl)

/-- slices.Clone[[]multihop/api.Downmultihop/api.Down] -/
noncomputable def F_slices_Clone_api_Down_api_Down (a0 : List S_Down) : Option ((List S_Down)) :=
  (appO 48 ([] : List S_Down) (Cut.app .whole a0)).bind fun l1 =>
  some (l1)
set_option maxRecDepth 100000 in
set_option maxHeartbeats 40000000 in
theorem okT_slices_Clone_api_Down_api_Down (a0 : List S_Down) (r : (List S_Down)) (h : F_slices_Clone_api_Down_api_Down a0 = some r) : Con Try.prog 44 [.c (eS 20 S_Down.cs (a0))] [] (.c (.slc 20 900002 (List.length r) (List.map S_Down.cs r))) [(900000, .spare 39 20 (List.length r))] := by
  unfold F_slices_Clone_api_Down_api_Down at h
  refine con_of [] [(900000, [])] 8 Try.func44 rfl rfl (by kernel_rfl) (fun K => ?_)
  refine TS_go 8 ?_
  refine TS_eqN (xs := List.map S_Down.cs a0) (by kernel_rfl) (by kernel_rfl) ?_ ?_
  · intro hx
    have hx := List.map_eq_nil_iff.1 hx
    subst hx
    replace h : (some (([] : List S_Down))) = some r := by simpa [appO, Cut.app] using h
    refine TS_go 1 ?_
    refine TS_T (by kernel_rfl) rfl ?_
    refine TS_go 4 ?_
    refine TS_nilT 2 600000 39 20 (by kernel_rfl) ?_
    refine TS_fitU ⟨[(2, [])], [(600000, (900000, []))]⟩ (by kernel_rfl) ?_
    refine TS_go 2 ?_
    obtain rfl := Option.some.inj h
    exact TS_ret (by kernel_rfl) (by kernel_rfl) (by kernel_rfl)
  · refine TS_go 1 ?_
    refine TS_F (by kernel_rfl) rfl ?_
    refine TS_go 3 ?_
    refine TS_litNT 5 39 20 S_Down.cs [] ([] : List S_Down) (by kernel_rfl) (by kernel_rfl) ?_
    refine TS_go 1 ?_
    replace h := bindO h
    obtain ⟨l1, hl1, h⟩ := h
    refine TS_appT (d := 5) (e := 39) (sz := 20) (N := List.length ([] : List S_Down)) S_Down.cs (fun _ => by kernel_rfl) (l1 := ([] : List S_Down)) (l2 := a0) (c := .whole) hl1 (by kernel_rfl) (by kernel_rfl) ?_
    refine TS_go 2 ?_
    refine TS_fitU ⟨[(2, [])], [(5, (900000, []))]⟩ (by kernel_rfl) ?_
    refine TS_go 1 ?_
    obtain rfl := Option.some.inj h
    exact TS_ret (by kernel_rfl) (by kernel_rfl) (by kernel_rfl)
theorem ok_slices_Clone_api_Down_api_Down (a0 : List S_Down) (r : (List S_Down)) (h : F_slices_Clone_api_Down_api_Down a0 = some r) : Con Try.prog 44 [.c (eS 20 S_Down.cs (a0))] [] (.c (eS 20 S_Down.cs (r))) [] :=
  con_drop [[21]] [] (okT_slices_Clone_api_Down_api_Down a0 r h) (by kernel_rfl) (by kernel_rfl) (by kernel_rfl)

/-- slices.Clone[[]multihop/api.Downmultihop/api.Down] -/
noncomputable def F_slices_Clone_api_Down_api_Down_R (a0 : List S_Down) : Option ((List S_Down)) :=
  (appO 48 (List.take (List.length ([] : List S_Down)) ([] : List S_Down)) (Cut.app .whole a0)).bind fun l1 =>
  some (l1)
set_option maxRecDepth 100000 in
set_option maxHeartbeats 40000000 in
theorem okT_slices_Clone_api_Down_api_Down_R (a0 : List S_Down) (r : (List S_Down)) (h : F_slices_Clone_api_Down_api_Down_R a0 = some r) : Con Try.prog 44 [.c (eS 20 S_Down.cs (a0))] [] (.c (.own 900000)) [(900000, .row 39 20 (List.length r) (List.map S_Down.cs r))] := by
  unfold F_slices_Clone_api_Down_api_Down_R at h
  refine con_of [] [(900000, [])] 8 Try.func44 rfl rfl (by kernel_rfl) (fun K => ?_)
  refine TS_go 8 ?_
  refine TS_eqN (xs := List.map S_Down.cs a0) (by kernel_rfl) (by kernel_rfl) ?_ ?_
  · intro hx
    have hx := List.map_eq_nil_iff.1 hx
    subst hx
    replace h : (some (([] : List S_Down))) = some r := by simpa [appO, Cut.app] using h
    refine TS_go 1 ?_
    refine TS_T (by kernel_rfl) rfl ?_
    refine TS_go 4 ?_
    refine TS_nilR 2 600000 39 20 (by kernel_rfl) ?_
    refine TS_fitU ⟨[(2, [])], [(600000, (900000, []))]⟩ (by kernel_rfl) ?_
    refine TS_go 2 ?_
    obtain rfl := Option.some.inj h
    exact TS_ret (by kernel_rfl) (by kernel_rfl) (by kernel_rfl)
  · refine TS_go 1 ?_
    refine TS_F (by kernel_rfl) rfl ?_
    refine TS_go 3 ?_
    refine TS_litNR 5 39 20 S_Down.cs [] ([] : List S_Down) (by kernel_rfl) (by kernel_rfl) ?_
    refine TS_go 1 ?_
    replace h := bindO h
    obtain ⟨l1, hl1, h⟩ := h
    refine TS_appR (d := 5) (e := 39) (sz := 20) (N := List.length ([] : List S_Down)) (m := (List.length ([] : List S_Down))) S_Down.cs (fun _ => by kernel_rfl) (l1 := ([] : List S_Down)) (l2 := a0) (c := .whole) hl1 (by kernel_rfl) (by kernel_rfl) ?_
    refine TS_go 2 ?_
    refine TS_fitU ⟨[(2, [])], [(5, (900000, []))]⟩ (by kernel_rfl) ?_
    refine TS_go 1 ?_
    obtain rfl := Option.some.inj h
    exact TS_ret (by kernel_rfl) (by kernel_rfl) (by kernel_rfl)

/-- multihop/multihoplaw33.spoiled -/
noncomputable def F_law33_spoiled_j1  (v5 : S_multihopmade_Tape × (List S_Down)) : Option ((List S_Down) × S_multihopmade_Tape) :=
  some ((v5.2, v5.1))
noncomputable def F_law33_spoiled_l2  (s13 : Int × Int × (List S_Down)) : Option ((Int × Int × (List S_Down)) ⊕ ((List S_Down))) :=
  bif (decide (s13.1 < s13.2.1)) then
    (idx (Cut.app .whole s13.2.2) s13.2.1).bind fun e17 =>
    (s13.2.2[(0 + Int.toNat s13.2.1)]?).bind fun e18 =>
    (idx (Cut.app .whole s13.2.2) s13.1).bind fun e19 =>
    (s13.2.2[(0 + Int.toNat s13.1)]?).bind fun e20 =>
    (idx (Cut.app .whole s13.2.2) s13.1).bind fun e21 =>
    (s13.2.2[(0 + Int.toNat s13.1)]?).bind fun e22 =>
    (idx (Cut.app .whole (List.set s13.2.2 (0 + Int.toNat s13.1) e18)) s13.2.1).bind fun e23 =>
    ((List.set s13.2.2 (0 + Int.toNat s13.1) e18)[(0 + Int.toNat s13.2.1)]?).bind fun e24 =>
    some (Sum.inl (IntKind.wrap .i64 (s13.1 + 1), IntKind.wrap .i64 (s13.2.1 - 1), (List.set (List.set s13.2.2 (0 + Int.toNat s13.1) e18) (0 + Int.toNat s13.2.1) e20)))
  else
    some (Sum.inr s13.2.2)
noncomputable def F_law33_spoiled (a0 : S_multihopmade_Tape) (a1 : List S_Down) : Option ((List S_Down) × S_multihopmade_Tape) :=
  (F_slices_Clone_api_Down_api_Down_R a1).bind fun v1 =>
  (appO 48 (List.take (List.length v1) v1) (Cut.app .whole ([(S_Down.mk (S_Prefix.mk [255, 0, 0, 0, 0, 0, 0, 0, 0, 0, 0, 0, 0, 0, 0, 0] 8) 3 0 0)] : List S_Down))).bind fun l2 =>
  (F_made_Tape_Next a0 (List.length l2 : Int)).bind fun v3 =>
  (idx (Cut.app .whole l2) v3.1).bind fun e4 =>
  (F_made_Tape_Next v3.2 4).bind fun v6 =>
  bif (v6.1 == 0) then
    (l2[(0 + Int.toNat v3.1)]?).bind fun e8 =>
    (F_law33_spoiled_j1) (v6.2, (List.set l2 (0 + Int.toNat v3.1) (S_Down.mk e8.Target 0 e8.Sequence e8.Until)))
  else
    bif (v6.1 == 1) then
      (l2[(0 + Int.toNat v3.1)]?).bind fun e10 =>
      (F_law33_spoiled_j1) (v6.2, (List.set l2 (0 + Int.toNat v3.1) (S_Down.mk e10.Target e10.Via e10.Sequence (-1))))
    else
      bif (v6.1 == 2) then
        (l2[(0 + Int.toNat v3.1)]?).bind fun e12 =>
        (F_law33_spoiled_j1) (v6.2, (List.set l2 (0 + Int.toNat v3.1) (S_Down.mk (S_Prefix.mk e12.Target.IP 129) e12.Via e12.Sequence e12.Until)))
      else
        (loopO (F_law33_spoiled_l2) (0, IntKind.wrap .i64 ((List.length l2 : Int) - 1), l2)).bind fun b14 =>
        (F_law33_spoiled_j1) (v6.2, b14)
set_option maxRecDepth 100000 in
set_option maxHeartbeats 40000000 in
theorem okT_law33_spoiled (a0 : S_multihopmade_Tape) (a1 : List S_Down) (r : (List S_Down) × S_multihopmade_Tape) (h : F_law33_spoiled a0 a1 = some r) : Con Try.prog 27 [.c (.box 1000000 0), .c (eS 20 S_Down.cs (a1))] [(1000000, .box (S_multihopmade_Tape.cs a0))] (.c (.slc 20 900002 (List.length r.1) (List.map S_Down.cs r.1))) [(1000000, .box (S_multihopmade_Tape.cs r.2)), (900000, .spare 39 20 (List.length r.1))] := by
  unfold F_law33_spoiled at h
  refine con_of [] [(1000000, [2]), (900000, [])] 41 Try.func27 rfl rfl (by kernel_rfl) (fun K => ?_)
  refine TS_go 7 ?_
  replace h := bindO h
  obtain ⟨v1, hv1, h⟩ := h
  refine TS_con [] [(8, 900000)] none (okT_slices_Clone_api_Down_api_Down_R a1 v1 hv1) (by kernel_rfl) (by kernel_rfl) (by kernel_rfl) ?_
  refine TS_go 3 ?_
  refine TS_litNT 12 39 20 S_Down.cs [] ([(S_Down.mk (S_Prefix.mk [255, 0, 0, 0, 0, 0, 0, 0, 0, 0, 0, 0, 0, 0, 0, 0] 8) 3 0 0)] : List S_Down) (by kernel_rfl) (by kernel_rfl) ?_
  replace h := bindO h
  obtain ⟨l2, hl2, h⟩ := h
  refine TS_appR (d := 8) (e := 39) (sz := 20) (N := List.length v1) (m := (List.length v1)) S_Down.cs (fun _ => by kernel_rfl) (l1 := v1) (l2 := ([(S_Down.mk (S_Prefix.mk [255, 0, 0, 0, 0, 0, 0, 0, 0, 0, 0, 0, 0, 0, 0, 0] 8) 3 0 0)] : List S_Down)) (c := .whole) hl2 (by kernel_rfl) (by kernel_rfl) ?_
  refine TS_go 8 ?_
  replace h := bindO h
  obtain ⟨v3, hv3, h⟩ := h
  refine TS_con [] [] (some (1000000, 0)) (ok_made_Tape_Next a0 (List.length l2 : Int) v3 hv3) (by kernel_rfl) (by kernel_rfl) (by kernel_rfl) ?_
  replace h := bindO h
  obtain ⟨e4, he4, h⟩ := h
  refine TS_idxR 8 20 0 S_Down.cs .whole he4 (by kernel_rfl) (by kernel_rfl) ?_
  refine TS_go 2 ?_
  refine TS_cut ⟨[(0, []), (5, []), (6, [])], [(1000000, (1000000, [])), (8, (8, []))]⟩ (.mk [.code (codeAt [1, 1, 1] (bodyOf Try.f27))] .normal ⟨[(0, .c (.box 1000000 0)), (5, .c (.own 8)), (6, .c (.elt 8 20 (0 + Int.toNat v3.1) 0))], [(1000000, .box [.slc 1 0 (List.length v3.2.l) (List.map (ecI .i64) v3.2.l), .lit (.int .i64 (v3.2.at_))]), (8, .row 39 20 (List.length l2) (List.map S_Down.cs l2))]⟩) (by kernel_rfl) (by kernel_rfl) ?_
  refine TS_joinB ⟨[(5, [])], [(1000000, (1000000, [])), (8, (8, []))]⟩ (fun (v5 : S_multihopmade_Tape × (List S_Down)) => [(5, .c (.own 8))]) (fun (v5 : S_multihopmade_Tape × (List S_Down)) => [(1000000, .box (S_multihopmade_Tape.cs v5.1)), (8, .row 39 20 (List.length v5.2) (List.map S_Down.cs v5.2))]) (F_law33_spoiled_j1) r ?_ ?_
  · clear h
    intro v5 h
    unfold F_law33_spoiled_j1 at h
    refine TS_go 5 ?_
    refine TS_settle 8 (by kernel_rfl) ?_
    refine TS_fitU ⟨[(4, [])], [(8, (900000, [])), (1000000, (1000000, []))]⟩ (by kernel_rfl) ?_
    refine TS_go 1 ?_
    obtain rfl := Option.some.inj h
    exact TS_ret (by kernel_rfl) (by kernel_rfl) (by kernel_rfl)
  · refine TS_go 3 ?_
    replace h := bindO h
    obtain ⟨v6, hv6, h⟩ := h
    refine TS_con [] [] (some (1000000, 0)) (ok_made_Tape_Next v3.2 4 v6 hv6) (by kernel_rfl) (by kernel_rfl) (by kernel_rfl) ?_
    refine TS_go 7 ?_
    replace h := condO h
    rcases h with ⟨hb7, h⟩ | ⟨hb7, h⟩
    · refine TS_know 25 (b := true) hb7 (by kernel_rfl) (by kernel_rfl) ?_
      refine TS_know 24 (b := true) hb7 (by kernel_rfl) (by kernel_rfl) ?_
      refine TS_T (by kernel_rfl) rfl ?_
      refine TS_go 2 ?_
      refine TS_nc 8 20 (0 + Int.toNat v3.1) 0 (by kernel_rfl) (by kernel_rfl) ?_
      refine TS_go 1 ?_
      replace h := bindO h
      obtain ⟨e8, he8, h⟩ := h
      refine TS_stE 8 39 20 (List.length l2) (0 + Int.toNat v3.1) 17 S_Down.cs (ds := [.lit (.int .u64 (0))]) (S_Down.mk e8.Target 0 e8.Sequence e8.Until) he8 (by kernel_rfl) (by kernel_rfl) (by kernel_rfl) (by kernel_rfl) ?_
      refine TS_go 2 ?_
      exact TS_meet (v6.2, (List.set l2 (0 + Int.toNat v3.1) (S_Down.mk e8.Target 0 e8.Sequence e8.Until))) ⟨[(5, [])], [(1000000, (1000000, [])), (8, (8, []))]⟩ h (by kernel_rfl) (by kernel_rfl)
    · refine TS_know 25 (b := false) hb7 (by kernel_rfl) (by kernel_rfl) ?_
      refine TS_know 24 (b := false) hb7 (by kernel_rfl) (by kernel_rfl) ?_
      refine TS_F (by kernel_rfl) rfl ?_
      refine TS_go 5 ?_
      replace h := condO h
      rcases h with ⟨hb9, h⟩ | ⟨hb9, h⟩
      · refine TS_know 30 (b := true) hb9 (by kernel_rfl) (by kernel_rfl) ?_
        refine TS_know 29 (b := true) hb9 (by kernel_rfl) (by kernel_rfl) ?_
        refine TS_T (by kernel_rfl) rfl ?_
        refine TS_go 2 ?_
        refine TS_nc 8 20 (0 + Int.toNat v3.1) 0 (by kernel_rfl) (by kernel_rfl) ?_
        refine TS_go 1 ?_
        replace h := bindO h
        obtain ⟨e10, he10, h⟩ := h
        refine TS_stE 8 39 20 (List.length l2) (0 + Int.toNat v3.1) 19 S_Down.cs (ds := [.lit (.int .i64 ((-1)))]) (S_Down.mk e10.Target e10.Via e10.Sequence (-1)) he10 (by kernel_rfl) (by kernel_rfl) (by kernel_rfl) (by kernel_rfl) ?_
        refine TS_go 2 ?_
        exact TS_meet (v6.2, (List.set l2 (0 + Int.toNat v3.1) (S_Down.mk e10.Target e10.Via e10.Sequence (-1)))) ⟨[(5, [])], [(1000000, (1000000, [])), (8, (8, []))]⟩ h (by kernel_rfl) (by kernel_rfl)
      · refine TS_know 30 (b := false) hb9 (by kernel_rfl) (by kernel_rfl) ?_
        refine TS_know 29 (b := false) hb9 (by kernel_rfl) (by kernel_rfl) ?_
        refine TS_F (by kernel_rfl) rfl ?_
        refine TS_go 5 ?_
        replace h := condO h
        rcases h with ⟨hb11, h⟩ | ⟨hb11, h⟩
        · refine TS_know 35 (b := true) hb11 (by kernel_rfl) (by kernel_rfl) ?_
          refine TS_know 34 (b := true) hb11 (by kernel_rfl) (by kernel_rfl) ?_
          refine TS_T (by kernel_rfl) rfl ?_
          refine TS_go 2 ?_
          refine TS_nc 8 20 (0 + Int.toNat v3.1) 0 (by kernel_rfl) (by kernel_rfl) ?_
          refine TS_go 2 ?_
          replace h := bindO h
          obtain ⟨e12, he12, h⟩ := h
          refine TS_stE 8 39 20 (List.length l2) (0 + Int.toNat v3.1) 16 S_Down.cs (ds := [.lit (.int .i64 (129))]) (S_Down.mk (S_Prefix.mk e12.Target.IP 129) e12.Via e12.Sequence e12.Until) he12 (by kernel_rfl) (by kernel_rfl) (by kernel_rfl) (by kernel_rfl) ?_
          refine TS_go 2 ?_
          exact TS_meet (v6.2, (List.set l2 (0 + Int.toNat v3.1) (S_Down.mk (S_Prefix.mk e12.Target.IP 129) e12.Via e12.Sequence e12.Until))) ⟨[(5, [])], [(1000000, (1000000, [])), (8, (8, []))]⟩ h (by kernel_rfl) (by kernel_rfl)
        · refine TS_know 35 (b := false) hb11 (by kernel_rfl) (by kernel_rfl) ?_
          refine TS_know 34 (b := false) hb11 (by kernel_rfl) (by kernel_rfl) ?_
          refine TS_F (by kernel_rfl) rfl ?_
          refine TS_go 2 ?_
          refine TS_cut ⟨[(5, []), (22, [])], [(1000000, (1000000, [])), (8, (8, []))]⟩ (.mk [opsFr (codeAt [1, 1, 1, 0, 1, 0, 1, 1, 1, 1, 1, 1] (bodyOf Try.f27)) 1, .blk 0] .normal ⟨[(5, .c (.own 8)), (22, .c (.own 8))], [(1000000, .box [.slc 1 0 (List.length v6.2.l) (List.map (ecI .i64) v6.2.l), .lit (.int .i64 (v6.2.at_))]), (8, .row 39 20 (List.length l2) (List.map S_Down.cs l2))]⟩) (by kernel_rfl) (by kernel_rfl) ?_
          refine TS_bump 2000 (by kernel_rfl) ?_
          refine TS_inl 28 Try.func45 rfl rfl (by kernel_rfl) (fun K26 => ?_)
          refine TS_go 9 ?_
          refine TS_cut ⟨[(0, []), (2000005, []), (2, []), (3, [])], [(1000000, (1000000, [])), (2008, (2008, []))]⟩ (.mk [.code (codeAt [1, 0] (bodyOf Try.f45)), .blk 0] .normal ⟨[(0, .c (.own 2008)), (2000005, .c (.own 2008)), (2, .c (.lit (.int .i64 (0)))), (3, .c (.lit (.int .i64 (IntKind.wrap .i64 ((List.length l2 : Int) - 1)))))], [(1000000, .box [.slc 1 0 (List.length v6.2.l) (List.map (ecI .i64) v6.2.l), .lit (.int .i64 (v6.2.at_))]), (2008, .row 39 20 (List.length l2) (List.map S_Down.cs l2))]⟩) (by kernel_rfl) (by kernel_rfl) ?_
          replace h := bindO h
          obtain ⟨y15, hl2, hK2⟩ := h
          refine TS_loopB (F_law33_spoiled_l2) ⟨[(0, []), (2, []), (3, []), (2000005, [])], [(1000000, (1000000, [])), (2008, (2008, []))]⟩ (fun (s13 : Int × Int × (List S_Down)) => [(0, .c (.own 2008)), (2, .c (.lit (.int .i64 (s13.1)))), (3, .c (.lit (.int .i64 (s13.2.1)))), (2000005, .c (.own 2008))]) (fun (s13 : Int × Int × (List S_Down)) => [(1000000, .box [.slc 1 0 (List.length v6.2.l) (List.map (ecI .i64) v6.2.l), .lit (.int .i64 (v6.2.at_))]), (2008, .row 39 20 (List.length s13.2.2) (List.map S_Down.cs s13.2.2))]) (0, IntKind.wrap .i64 ((List.length l2 : Int) - 1), l2) y15 (.exit 0) (fun (b : (List S_Down)) => b) ⟨[(2000005, [])], [(1000000, (1000000, [])), (2008, (2008, []))]⟩ (fun (b14 : (List S_Down)) => [(2000005, .c (.own 2008))]) (fun (b14 : (List S_Down)) => [(1000000, .box [.slc 1 0 (List.length v6.2.l) (List.map (ecI .i64) v6.2.l), .lit (.int .i64 (v6.2.at_))]), (2008, .row 39 20 (List.length b14) (List.map S_Down.cs b14))]) hl2 (by kernel_rfl) (by kernel_rfl) ?_ ?_
          · intro s13 x h hy2
            unfold F_law33_spoiled_l2 at h
            refine TS_go 7 ?_
            replace h := condO h
            rcases h with ⟨hb16, h⟩ | ⟨hb16, h⟩
            · refine TS_know 9 (b := true) hb16 (by kernel_rfl) (by kernel_rfl) ?_
              refine TS_T (by kernel_rfl) rfl ?_
              refine TS_go 3 ?_
              refine TS_draw (by kernel_rfl) ?_
              refine TD_go 6 ?_
              replace h := bindO h
              obtain ⟨e17, he17, h⟩ := h
              refine TD_idxR 2008 20 0 S_Down.cs .whole he17 (by kernel_rfl) (by kernel_rfl) ?_
              replace h := bindO h
              obtain ⟨e18, he18, h⟩ := h
              refine TD_ldE 39 (0 + Int.toNat s13.2.1) 0 S_Down.cs (v := .agg [.lit (.int .u8 ((e18.Target.IP.getD 0 0))), .lit (.int .u8 ((e18.Target.IP.getD 1 0))), .lit (.int .u8 ((e18.Target.IP.getD 2 0))), .lit (.int .u8 ((e18.Target.IP.getD 3 0))), .lit (.int .u8 ((e18.Target.IP.getD 4 0))), .lit (.int .u8 ((e18.Target.IP.getD 5 0))), .lit (.int .u8 ((e18.Target.IP.getD 6 0))), .lit (.int .u8 ((e18.Target.IP.getD 7 0))), .lit (.int .u8 ((e18.Target.IP.getD 8 0))), .lit (.int .u8 ((e18.Target.IP.getD 9 0))), .lit (.int .u8 ((e18.Target.IP.getD 10 0))), .lit (.int .u8 ((e18.Target.IP.getD 11 0))), .lit (.int .u8 ((e18.Target.IP.getD 12 0))), .lit (.int .u8 ((e18.Target.IP.getD 13 0))), .lit (.int .u8 ((e18.Target.IP.getD 14 0))), .lit (.int .u8 ((e18.Target.IP.getD 15 0))), .lit (.int .i64 (e18.Target.Bits)), .lit (.int .u64 (e18.Via)), .lit (.int .u8 (e18.Sequence)), .lit (.int .i64 (e18.Until))]) he18 (by kernel_rfl) (by kernel_rfl) (by kernel_rfl) ?_
              refine TD_go 2 ?_
              replace h := bindO h
              obtain ⟨e19, he19, h⟩ := h
              refine TD_idxR 2008 20 0 S_Down.cs .whole he19 (by kernel_rfl) (by kernel_rfl) ?_
              replace h := bindO h
              obtain ⟨e20, he20, h⟩ := h
              refine TD_ldE 39 (0 + Int.toNat s13.1) 0 S_Down.cs (v := .agg [.lit (.int .u8 ((e20.Target.IP.getD 0 0))), .lit (.int .u8 ((e20.Target.IP.getD 1 0))), .lit (.int .u8 ((e20.Target.IP.getD 2 0))), .lit (.int .u8 ((e20.Target.IP.getD 3 0))), .lit (.int .u8 ((e20.Target.IP.getD 4 0))), .lit (.int .u8 ((e20.Target.IP.getD 5 0))), .lit (.int .u8 ((e20.Target.IP.getD 6 0))), .lit (.int .u8 ((e20.Target.IP.getD 7 0))), .lit (.int .u8 ((e20.Target.IP.getD 8 0))), .lit (.int .u8 ((e20.Target.IP.getD 9 0))), .lit (.int .u8 ((e20.Target.IP.getD 10 0))), .lit (.int .u8 ((e20.Target.IP.getD 11 0))), .lit (.int .u8 ((e20.Target.IP.getD 12 0))), .lit (.int .u8 ((e20.Target.IP.getD 13 0))), .lit (.int .u8 ((e20.Target.IP.getD 14 0))), .lit (.int .u8 ((e20.Target.IP.getD 15 0))), .lit (.int .i64 (e20.Target.Bits)), .lit (.int .u64 (e20.Via)), .lit (.int .u8 (e20.Sequence)), .lit (.int .i64 (e20.Until))]) he20 (by kernel_rfl) (by kernel_rfl) (by kernel_rfl) ?_
              replace h := bindO h
              obtain ⟨e21, he21, h⟩ := h
              refine TD_idxR 2008 20 0 S_Down.cs .whole he21 (by kernel_rfl) (by kernel_rfl) ?_
              replace h := bindO h
              obtain ⟨e22, he22, h⟩ := h
              refine TD_stE 2008 39 20 (List.length s13.2.2) (0 + Int.toNat s13.1) 0 S_Down.cs (ds := [.lit (.int .u8 ((e18.Target.IP.getD 0 0))), .lit (.int .u8 ((e18.Target.IP.getD 1 0))), .lit (.int .u8 ((e18.Target.IP.getD 2 0))), .lit (.int .u8 ((e18.Target.IP.getD 3 0))), .lit (.int .u8 ((e18.Target.IP.getD 4 0))), .lit (.int .u8 ((e18.Target.IP.getD 5 0))), .lit (.int .u8 ((e18.Target.IP.getD 6 0))), .lit (.int .u8 ((e18.Target.IP.getD 7 0))), .lit (.int .u8 ((e18.Target.IP.getD 8 0))), .lit (.int .u8 ((e18.Target.IP.getD 9 0))), .lit (.int .u8 ((e18.Target.IP.getD 10 0))), .lit (.int .u8 ((e18.Target.IP.getD 11 0))), .lit (.int .u8 ((e18.Target.IP.getD 12 0))), .lit (.int .u8 ((e18.Target.IP.getD 13 0))), .lit (.int .u8 ((e18.Target.IP.getD 14 0))), .lit (.int .u8 ((e18.Target.IP.getD 15 0))), .lit (.int .i64 (e18.Target.Bits)), .lit (.int .u64 (e18.Via)), .lit (.int .u8 (e18.Sequence)), .lit (.int .i64 (e18.Until))]) e18 he22 (by kernel_rfl) (by kernel_rfl) (by kernel_rfl) (by kernel_rfl) ?_
              replace h := bindO h
              obtain ⟨e23, he23, h⟩ := h
              refine TD_idxR 2008 20 0 S_Down.cs .whole he23 (by kernel_rfl) (by kernel_rfl) ?_
              replace h := bindO h
              obtain ⟨e24, he24, h⟩ := h
              refine TD_stE 2008 39 20 (List.length (List.set s13.2.2 (0 + Int.toNat s13.1) e18)) (0 + Int.toNat s13.2.1) 0 S_Down.cs (ds := [.lit (.int .u8 ((e20.Target.IP.getD 0 0))), .lit (.int .u8 ((e20.Target.IP.getD 1 0))), .lit (.int .u8 ((e20.Target.IP.getD 2 0))), .lit (.int .u8 ((e20.Target.IP.getD 3 0))), .lit (.int .u8 ((e20.Target.IP.getD 4 0))), .lit (.int .u8 ((e20.Target.IP.getD 5 0))), .lit (.int .u8 ((e20.Target.IP.getD 6 0))), .lit (.int .u8 ((e20.Target.IP.getD 7 0))), .lit (.int .u8 ((e20.Target.IP.getD 8 0))), .lit (.int .u8 ((e20.Target.IP.getD 9 0))), .lit (.int .u8 ((e20.Target.IP.getD 10 0))), .lit (.int .u8 ((e20.Target.IP.getD 11 0))), .lit (.int .u8 ((e20.Target.IP.getD 12 0))), .lit (.int .u8 ((e20.Target.IP.getD 13 0))), .lit (.int .u8 ((e20.Target.IP.getD 14 0))), .lit (.int .u8 ((e20.Target.IP.getD 15 0))), .lit (.int .i64 (e20.Target.Bits)), .lit (.int .u64 (e20.Via)), .lit (.int .u8 (e20.Sequence)), .lit (.int .i64 (e20.Until))]) e20 he24 (by kernel_rfl) (by kernel_rfl) (by kernel_rfl) (by kernel_rfl) ?_
              refine TD_end (by kernel_rfl) ?_
              refine TS_go 9 ?_
              obtain rfl := Option.some.inj h
              exact TS_againB _ ⟨[(0, []), (2, []), (3, []), (2000005, [])], [(1000000, (1000000, [])), (2008, (2008, []))]⟩ rfl (by kernel_rfl) (by kernel_rfl)
            · refine TS_know 9 (b := false) hb16 (by kernel_rfl) (by kernel_rfl) ?_
              refine TS_F (by kernel_rfl) rfl ?_
              refine TS_go 2 ?_
              obtain rfl := Option.some.inj h
              exact TS_brkB s13.2.2 ⟨[(2000005, [])], [(1000000, (1000000, [])), (2008, (2008, []))]⟩ rfl (by kernel_rfl) (by kernel_rfl) (by kernel_rfl)
          · intro b14 hb
            subst y15
            have h := hK2
            refine TS_go 1 ?_
            refine TS_inlR (by kernel_rfl) (by kernel_rfl) ?_
            refine TS_go 2 ?_
            exact TS_meet (v6.2, b14) ⟨[(5, [])], [(1000000, (1000000, [])), (2008, (8, []))]⟩ h (by kernel_rfl) (by kernel_rfl)
theorem ok_law33_spoiled (a0 : S_multihopmade_Tape) (a1 : List S_Down) (r : (List S_Down) × S_multihopmade_Tape) (h : F_law33_spoiled a0 a1 = some r) : Con Try.prog 27 [.c (.box 1000000 0), .c (eS 20 S_Down.cs (a1))] [(1000000, .box (S_multihopmade_Tape.cs a0))] (.c (eS 20 S_Down.cs (r.1))) [(1000000, .box (S_multihopmade_Tape.cs r.2))] :=
  con_drop [[21]] [(1000000, [])] (okT_law33_spoiled a0 a1 r h) (by kernel_rfl) (by kernel_rfl) (by kernel_rfl)

/-- multihop/multihoplaw33.StoringAccepts -/
noncomputable def F_law33_StoringAccepts_j2 (v4 : Int × S_multihopmade_Tape) (v5 : (List S_Down) × S_multihopmade_Tape) (s6 : Int × S_multihopmade_Tape) (v11 : S_multihopmade_Tape × S_Register) : Option ((Int × S_multihopmade_Tape) ⊕ ((S_multihopmade_Tape) ⊕ (Bool))) :=
  (F_world_Time v11.1 v4.1).bind fun v12 =>
  (F_world_EUI v12.2).bind fun v13 =>
  (F_law33_accepts v5.1 v12.1 v13.1 v11.2).bind fun v14 =>
  bif v14 then
    some (Sum.inl (IntKind.wrap .i64 (s6.1 + 1), v13.2))
  else
    some (Sum.inr (Sum.inr false))
noncomputable def F_law33_StoringAccepts_l1 (v5 : (List S_Down) × S_multihopmade_Tape) (v4 : Int × S_multihopmade_Tape) (s6 : Int × S_multihopmade_Tape) : Option ((Int × S_multihopmade_Tape) ⊕ ((S_multihopmade_Tape) ⊕ (Bool))) :=
  bif (decide (s6.1 < 5)) then
    (F_world_Register s6.2).bind fun v10 =>
    bif (decide ((List.length v5.1 : Int) > 0)) then
      (F_made_Tape_Bool v10.2 2).bind fun v17 =>
      bif v17.1 then
        (F_made_Tape_Next v17.2 (List.length v5.1 : Int)).bind fun v19 =>
        (idx v5.1 v19.1).bind fun e20 =>
        (F_made_Tape_Next v19.2 3).bind fun v21 =>
        (F_law33_StoringAccepts_j2 v4 v5 s6) (v21.2, (S_Register.mk e20.Target (IntKind.wrap .u8 ((IntKind.wrap .u8 (e20.Sequence + (IntKind.wrap .u8 v21.1))) - 1)) v10.1.Lifetime))
      else
        (F_law33_StoringAccepts_j2 v4 v5 s6) (v17.2, v10.1)
    else
      (F_law33_StoringAccepts_j2 v4 v5 s6) (v10.2, v10.1)
  else
    some (Sum.inr (Sum.inl s6.2))
noncomputable def F_law33_StoringAccepts (a0 : List S_Down) (a1 : List Int) (a2 : Int) (a3 : Int) (a4 : S_Register) : Option (Bool) :=
  bif (decide ((List.length a0 : Int) > 150)) then
    (F_law33_known ).bind fun v2 =>
    some (v2)
  else
    (F_made_New a1).bind fun v3 =>
    (F_world_Base v3).bind fun v4 =>
    (F_world_Downs v4.2 v4.1).bind fun v5 =>
    (loopO (F_law33_StoringAccepts_l1 v5 v4) (0, v5.2)).bind (Sum.elim (fun b7 =>
      (F_law33_accepts a0 a2 a3 a4).bind fun v23 =>
      bif v23 then
        (F_law33_accepts v5.1 a2 a3 a4).bind fun v25 =>
        bif v25 then
          (F_law33_accepts v5.1 v4.1 a3 a4).bind fun v27 =>
          bif v27 then
            (F_law33_spoiled b7 v5.1).bind fun v29 =>
            (F_law33_accepts v29.1 v4.1 2 a4).bind fun v30 =>
            bif v30 then
              (F_law33_known ).bind fun v32 =>
              some (v32)
            else
              some (false)
          else
            some (false)
        else
          some (false)
      else
        some (false)
    ) (fun w22 => some w22))
set_option maxRecDepth 100000 in
set_option maxHeartbeats 40000000 in
theorem ok_law33_StoringAccepts (a0 : List S_Down) (a1 : List Int) (a2 : Int) (a3 : Int) (a4 : S_Register) (r : Bool) (h : F_law33_StoringAccepts a0 a1 a2 a3 a4 = some r) : Con Try.prog 6 [.c (eS 20 S_Down.cs (a0)), .c (eS 1 (ecI .i64) (a1)), .c (.lit (.int .i64 (a2))), .c (.lit (.int .u64 (a3))), .agg (S_Register.cs a4)] [] (.c (.lit (.bool (r)))) [] := by
  unfold F_law33_StoringAccepts at h
  refine con_of [] [] 98 Try.func6 rfl rfl (by kernel_rfl) (fun K => ?_)
  refine TS_go 12 ?_
  replace h := condO h
  rcases h with ⟨hb1, h⟩ | ⟨hb1, h⟩
  · refine TS_know 19 (b := true) hb1 (by kernel_rfl) (by kernel_rfl) ?_
    refine TS_T (by kernel_rfl) rfl ?_
    refine TS_go 2 ?_
    replace h := bindO h
    obtain ⟨v2, hv2, h⟩ := h
    refine TS_call [] (ok_law33_known  v2 hv2) (by kernel_rfl) (by kernel_rfl) ?_
    refine TS_go 4 ?_
    obtain rfl := Option.some.inj h
    exact TS_ret (by kernel_rfl) (by kernel_rfl) (by kernel_rfl)
  · refine TS_know 19 (b := false) hb1 (by kernel_rfl) (by kernel_rfl) ?_
    refine TS_F (by kernel_rfl) rfl ?_
    refine TS_go 4 ?_
    replace h := bindO h
    obtain ⟨v3, hv3, h⟩ := h
    refine TS_con [] [(22, 10)] none (ok_made_New a1 v3 hv3) (by kernel_rfl) (by kernel_rfl) (by kernel_rfl) ?_
    refine TS_go 5 ?_
    replace h := bindO h
    obtain ⟨v4, hv4, h⟩ := h
    refine TS_con [] [] (some (22, 0)) (ok_world_Base v3 v4 hv4) (by kernel_rfl) (by kernel_rfl) (by kernel_rfl) ?_
    refine TS_go 6 ?_
    replace h := bindO h
    obtain ⟨v5, hv5, h⟩ := h
    refine TS_con [] [(27, 900000)] (some (22, 0)) (okT_world_Downs v4.2 v4.1 v5 hv5) (by kernel_rfl) (by kernel_rfl) (by kernel_rfl) ?_
    refine TS_go 8 ?_
    refine TS_cut ⟨[(0, []), (2, []), (3, []), (9, []), (11, []), (12, []), (13, []), (14, [])], [(9, (9, [])), (22, (22, [])), (27, (27, []))]⟩ (.mk [.code (codeAt [1, 1, 1, 1, 1, 0, 1, 0] (bodyOf Try.f6)), .blk 0, .code (codeAt [1, 1, 1, 1, 1, 1] (bodyOf Try.f6))] .normal ⟨[(0, .c (.slc 20 0 (List.length a0) (List.map S_Down.cs a0))), (2, .c (.lit (.int .i64 (a2)))), (3, .c (.lit (.int .u64 (a3)))), (9, .c (.box 9 0)), (11, .c (.box 22 0)), (12, .c (.lit (.int .i64 (v4.1)))), (13, .c (.slc 20 29 (List.length v5.1) (List.map S_Down.cs v5.1))), (14, .c (.lit (.int .i64 (0))))], [(9, .box [.lit (.int .u8 ((a4.Target.IP.getD 0 0))), .lit (.int .u8 ((a4.Target.IP.getD 1 0))), .lit (.int .u8 ((a4.Target.IP.getD 2 0))), .lit (.int .u8 ((a4.Target.IP.getD 3 0))), .lit (.int .u8 ((a4.Target.IP.getD 4 0))), .lit (.int .u8 ((a4.Target.IP.getD 5 0))), .lit (.int .u8 ((a4.Target.IP.getD 6 0))), .lit (.int .u8 ((a4.Target.IP.getD 7 0))), .lit (.int .u8 ((a4.Target.IP.getD 8 0))), .lit (.int .u8 ((a4.Target.IP.getD 9 0))), .lit (.int .u8 ((a4.Target.IP.getD 10 0))), .lit (.int .u8 ((a4.Target.IP.getD 11 0))), .lit (.int .u8 ((a4.Target.IP.getD 12 0))), .lit (.int .u8 ((a4.Target.IP.getD 13 0))), .lit (.int .u8 ((a4.Target.IP.getD 14 0))), .lit (.int .u8 ((a4.Target.IP.getD 15 0))), .lit (.int .i64 (a4.Target.Bits)), .lit (.int .u8 (a4.Sequence)), .lit (.int .i64 (a4.Lifetime))]), (22, .box [.slc 1 0 (List.length v5.2.l) (List.map (ecI .i64) v5.2.l), .lit (.int .i64 (v5.2.at_))]), (27, .spare 39 20 (List.length v5.1))]⟩) (by kernel_rfl) (by kernel_rfl) ?_
    replace h := bindO h
    obtain ⟨y8, hl1, hK1⟩ := h
    refine TS_loopB (F_law33_StoringAccepts_l1 v5 v4) ⟨[(0, []), (2, []), (3, []), (9, []), (11, []), (12, []), (13, []), (14, [])], [(9, (9, [])), (22, (22, [])), (27, (27, []))]⟩ (fun (s6 : Int × S_multihopmade_Tape) => [(14, .c (.lit (.int .i64 (s6.1))))]) (fun (s6 : Int × S_multihopmade_Tape) => [(22, .box (S_multihopmade_Tape.cs s6.2))]) (0, v5.2) y8 (.exit 0) (fun (b : S_multihopmade_Tape) => (Sum.inl b : (S_multihopmade_Tape) ⊕ (Bool))) ⟨[(0, []), (2, []), (3, []), (9, []), (11, []), (12, []), (13, [])], [(9, (9, [])), (22, (22, [])), (27, (27, []))]⟩ (fun (b7 : S_multihopmade_Tape) => []) (fun (b7 : S_multihopmade_Tape) => [(22, .box (S_multihopmade_Tape.cs b7))]) hl1 (by kernel_rfl) (by kernel_rfl) ?_ ?_
    · intro s6 x h hy1
      unfold F_law33_StoringAccepts_l1 at h
      refine TS_go 6 ?_
      replace h := condO h
      rcases h with ⟨hb9, h⟩ | ⟨hb9, h⟩
      · refine TS_know 29 (b := true) hb9 (by kernel_rfl) (by kernel_rfl) ?_
        refine TS_T (by kernel_rfl) rfl ?_
        refine TS_go 6 ?_
        replace h := bindO h
        obtain ⟨v10, hv10, h⟩ := h
        refine TS_con [] [] (some (22, 0)) (ok_world_Register s6.2 v10 hv10) (by kernel_rfl) (by kernel_rfl) (by kernel_rfl) ?_
        refine TS_go 3 ?_
        refine TS_cut ⟨[(0, []), (2, []), (3, []), (9, []), (11, []), (12, []), (13, []), (14, []), (15, [])], [(9, (9, [])), (22, (22, [])), (27, (27, [])), (15, (15, []))]⟩ (.mk [.code (codeAt [1, 1, 1, 1, 1, 0, 1, 0, 0, 1, 0, 0, 1] (bodyOf Try.f6)), .blk 1, .code (codeAt [1, 1, 1, 1, 1, 0, 1, 0, 0, 1, 1] (bodyOf Try.f6))] .normal ⟨[(0, .c (.slc 20 0 (List.length a0) (List.map S_Down.cs a0))), (2, .c (.lit (.int .i64 (a2)))), (3, .c (.lit (.int .u64 (a3)))), (9, .c (.box 9 0)), (11, .c (.box 22 0)), (12, .c (.lit (.int .i64 (v4.1)))), (13, .c (.slc 20 29 (List.length v5.1) (List.map S_Down.cs v5.1))), (14, .c (.lit (.int .i64 (s6.1)))), (15, .c (.box 15 0))], [(9, .box [.lit (.int .u8 ((a4.Target.IP.getD 0 0))), .lit (.int .u8 ((a4.Target.IP.getD 1 0))), .lit (.int .u8 ((a4.Target.IP.getD 2 0))), .lit (.int .u8 ((a4.Target.IP.getD 3 0))), .lit (.int .u8 ((a4.Target.IP.getD 4 0))), .lit (.int .u8 ((a4.Target.IP.getD 5 0))), .lit (.int .u8 ((a4.Target.IP.getD 6 0))), .lit (.int .u8 ((a4.Target.IP.getD 7 0))), .lit (.int .u8 ((a4.Target.IP.getD 8 0))), .lit (.int .u8 ((a4.Target.IP.getD 9 0))), .lit (.int .u8 ((a4.Target.IP.getD 10 0))), .lit (.int .u8 ((a4.Target.IP.getD 11 0))), .lit (.int .u8 ((a4.Target.IP.getD 12 0))), .lit (.int .u8 ((a4.Target.IP.getD 13 0))), .lit (.int .u8 ((a4.Target.IP.getD 14 0))), .lit (.int .u8 ((a4.Target.IP.getD 15 0))), .lit (.int .i64 (a4.Target.Bits)), .lit (.int .u8 (a4.Sequence)), .lit (.int .i64 (a4.Lifetime))]), (22, .box [.slc 1 0 (List.length v10.2.l) (List.map (ecI .i64) v10.2.l), .lit (.int .i64 (v10.2.at_))]), (27, .spare 39 20 (List.length v5.1)), (15, .box [.lit (.int .u8 ((v10.1.Target.IP.getD 0 0))), .lit (.int .u8 ((v10.1.Target.IP.getD 1 0))), .lit (.int .u8 ((v10.1.Target.IP.getD 2 0))), .lit (.int .u8 ((v10.1.Target.IP.getD 3 0))), .lit (.int .u8 ((v10.1.Target.IP.getD 4 0))), .lit (.int .u8 ((v10.1.Target.IP.getD 5 0))), .lit (.int .u8 ((v10.1.Target.IP.getD 6 0))), .lit (.int .u8 ((v10.1.Target.IP.getD 7 0))), .lit (.int .u8 ((v10.1.Target.IP.getD 8 0))), .lit (.int .u8 ((v10.1.Target.IP.getD 9 0))), .lit (.int .u8 ((v10.1.Target.IP.getD 10 0))), .lit (.int .u8 ((v10.1.Target.IP.getD 11 0))), .lit (.int .u8 ((v10.1.Target.IP.getD 12 0))), .lit (.int .u8 ((v10.1.Target.IP.getD 13 0))), .lit (.int .u8 ((v10.1.Target.IP.getD 14 0))), .lit (.int .u8 ((v10.1.Target.IP.getD 15 0))), .lit (.int .i64 (v10.1.Target.Bits)), .lit (.int .u8 (v10.1.Sequence)), .lit (.int .i64 (v10.1.Lifetime))])]⟩) (by kernel_rfl) (by kernel_rfl) ?_
        refine TS_joinB ⟨[(0, []), (2, []), (3, []), (9, []), (11, []), (12, []), (13, []), (14, []), (15, [])], [(9, (9, [])), (22, (22, [])), (27, (27, [])), (15, (15, []))]⟩ (fun (v11 : S_multihopmade_Tape × S_Register) => []) (fun (v11 : S_multihopmade_Tape × S_Register) => [(22, .box (S_multihopmade_Tape.cs v11.1)), (15, .box (S_Register.cs v11.2))]) (F_law33_StoringAccepts_j2 v4 v5 s6) x ?_ ?_
        · clear h
          intro v11 h
          unfold F_law33_StoringAccepts_j2 at h
          refine TS_go 1 ?_
          refine TS_draw (by kernel_rfl) ?_
          refine TD_go 3 ?_
          replace h := bindO h
          obtain ⟨v12, hv12, h⟩ := h
          refine TD_con (h := []) (h' := []) [] 22 0 [.slc 1 0 (List.length v11.1.l) (List.map (ecI .i64) v11.1.l), .lit (.int .i64 (v11.1.at_))] _ _ (ok_world_Time v11.1 v4.1 v12 hv12) (by kernel_rfl) (by kernel_rfl) (by kernel_rfl) (by kernel_rfl) ?_
          refine TD_go 1 ?_
          replace h := bindO h
          obtain ⟨v13, hv13, h⟩ := h
          refine TD_con (h := []) (h' := []) [] 22 0 [.slc 1 0 (List.length v12.2.l) (List.map (ecI .i64) v12.2.l), .lit (.int .i64 (v12.2.at_))] _ _ (ok_world_EUI v12.2 v13 hv13) (by kernel_rfl) (by kernel_rfl) (by kernel_rfl) (by kernel_rfl) ?_
          refine TD_go 1 ?_
          replace h := bindO h
          obtain ⟨v14, hv14, h⟩ := h
          refine TD_call [[21]] (ok_law33_accepts v5.1 v12.1 v13.1 v11.2 v14 hv14) (by kernel_rfl) (by kernel_rfl) ?_
          refine TD_go 1 ?_
          refine TD_end (by kernel_rfl) ?_
          replace h := condO h
          rcases h with ⟨hb15, h⟩ | ⟨hb15, h⟩
          · subst hb15
            refine TS_F (by kernel_rfl) rfl ?_
            refine TS_go 7 ?_
            obtain rfl := Option.some.inj h
            exact TS_againB _ ⟨[(0, []), (2, []), (3, []), (9, []), (11, []), (12, []), (13, []), (14, [])], [(9, (9, [])), (22, (22, [])), (27, (27, []))]⟩ rfl (by kernel_rfl) (by kernel_rfl)
          · subst hb15
            refine TS_T (by kernel_rfl) rfl ?_
            refine TS_go 7 ?_
            obtain rfl := Option.some.inj h
            have hy1q := hy1 _ rfl
            subst hy1q
            replace h := (elimR hK1)
            refine TS_retB rfl (by kernel_rfl) ?_
            refine TS_go 2 ?_
            obtain rfl := Option.some.inj h
            exact TS_ret (by kernel_rfl) (by kernel_rfl) (by kernel_rfl)
        · refine TS_go 6 ?_
          replace h := condO h
          rcases h with ⟨hb16, h⟩ | ⟨hb16, h⟩
          · refine TS_know 36 (b := true) hb16 (by kernel_rfl) (by kernel_rfl) ?_
            refine TS_know 37 (b := true) hb16 (by kernel_rfl) (by kernel_rfl) ?_
            refine TS_go 1 ?_
            replace h := bindO h
            obtain ⟨v17, hv17, h⟩ := h
            refine TS_con [] [] (some (22, 0)) (ok_made_Tape_Bool v10.2 2 v17 hv17) (by kernel_rfl) (by kernel_rfl) (by kernel_rfl) ?_
            refine TS_go 2 ?_
            replace h := condO h
            rcases h with ⟨hb18, h⟩ | ⟨hb18, h⟩
            · refine TS_know 39 (b := true) hb18 (by kernel_rfl) (by kernel_rfl) ?_
              refine TS_know 40 (b := true) hb18 (by kernel_rfl) (by kernel_rfl) ?_
              refine TS_T (by kernel_rfl) rfl ?_
              refine TS_go 6 ?_
              replace h := bindO h
              obtain ⟨v19, hv19, h⟩ := h
              refine TS_con [] [] (some (22, 0)) (ok_made_Tape_Next v17.2 (List.length v5.1 : Int) v19 hv19) (by kernel_rfl) (by kernel_rfl) (by kernel_rfl) ?_
              replace h := bindO h
              obtain ⟨e20, he20, h⟩ := h
              refine TS_idx S_Down.cs he20 (by kernel_rfl) (by kernel_rfl) ?_
              refine TS_go 4 ?_
              refine TS_draw (by kernel_rfl) ?_
              refine TD_go 5 ?_
              replace h := bindO h
              obtain ⟨v21, hv21, h⟩ := h
              refine TD_con (h := []) (h' := []) [] 22 0 [.slc 1 0 (List.length v19.2.l) (List.map (ecI .i64) v19.2.l), .lit (.int .i64 (v19.2.at_))] _ _ (ok_made_Tape_Next v19.2 3 v21 hv21) (by kernel_rfl) (by kernel_rfl) (by kernel_rfl) (by kernel_rfl) ?_
              refine TD_go 7 ?_
              refine TD_end (by kernel_rfl) ?_
              exact TS_meet (v21.2, (S_Register.mk e20.Target (IntKind.wrap .u8 ((IntKind.wrap .u8 (e20.Sequence + (IntKind.wrap .u8 v21.1))) - 1)) v10.1.Lifetime)) ⟨[(0, []), (2, []), (3, []), (9, []), (11, []), (12, []), (13, []), (14, []), (15, [])], [(9, (9, [])), (22, (22, [])), (27, (27, [])), (15, (15, []))]⟩ h (by kernel_rfl) (by kernel_rfl)
            · refine TS_know 39 (b := false) hb18 (by kernel_rfl) (by kernel_rfl) ?_
              refine TS_know 40 (b := false) hb18 (by kernel_rfl) (by kernel_rfl) ?_
              refine TS_F (by kernel_rfl) rfl ?_
              refine TS_go 1 ?_
              exact TS_meet (v17.2, v10.1) ⟨[(0, []), (2, []), (3, []), (9, []), (11, []), (12, []), (13, []), (14, []), (15, [])], [(9, (9, [])), (22, (22, [])), (27, (27, [])), (15, (15, []))]⟩ h (by kernel_rfl) (by kernel_rfl)
          · refine TS_know 36 (b := false) hb16 (by kernel_rfl) (by kernel_rfl) ?_
            refine TS_know 37 (b := false) hb16 (by kernel_rfl) (by kernel_rfl) ?_
            refine TS_go 4 ?_
            refine TS_F (by kernel_rfl) rfl ?_
            refine TS_go 1 ?_
            exact TS_meet (v10.2, v10.1) ⟨[(0, []), (2, []), (3, []), (9, []), (11, []), (12, []), (13, []), (14, []), (15, [])], [(9, (9, [])), (22, (22, [])), (27, (27, [])), (15, (15, []))]⟩ h (by kernel_rfl) (by kernel_rfl)
      · refine TS_know 29 (b := false) hb9 (by kernel_rfl) (by kernel_rfl) ?_
        refine TS_F (by kernel_rfl) rfl ?_
        refine TS_go 2 ?_
        obtain rfl := Option.some.inj h
        exact TS_brkB s6.2 ⟨[(0, []), (2, []), (3, []), (9, []), (11, []), (12, []), (13, [])], [(9, (9, [])), (22, (22, [])), (27, (27, []))]⟩ rfl (by kernel_rfl) (by kernel_rfl) (by kernel_rfl)
    · intro b7 hb
      subst y8
      have h := elimL hK1
      refine TS_go 2 ?_
      refine TS_draw (by kernel_rfl) ?_
      refine TD_go 4 ?_
      replace h := bindO h
      obtain ⟨v23, hv23, h⟩ := h
      refine TD_call [] (ok_law33_accepts a0 a2 a3 a4 v23 hv23) (by kernel_rfl) (by kernel_rfl) ?_
      refine TD_go 1 ?_
      replace h := condO h
      rcases h with ⟨hb24, h⟩ | ⟨hb24, h⟩
      · subst hb24
        refine TD_go 4 ?_
        replace h := bindO h
        obtain ⟨v25, hv25, h⟩ := h
        refine TD_call [[21]] (ok_law33_accepts v5.1 a2 a3 a4 v25 hv25) (by kernel_rfl) (by kernel_rfl) ?_
        refine TD_go 2 ?_
        replace h := condO h
        rcases h with ⟨hb26, h⟩ | ⟨hb26, h⟩
        · subst hb26
          refine TD_go 4 ?_
          replace h := bindO h
          obtain ⟨v27, hv27, h⟩ := h
          refine TD_call [[21]] (ok_law33_accepts v5.1 v4.1 a3 a4 v27 hv27) (by kernel_rfl) (by kernel_rfl) ?_
          refine TD_go 2 ?_
          replace h := condO h
          rcases h with ⟨hb28, h⟩ | ⟨hb28, h⟩
          · subst hb28
            refine TD_go 2 ?_
            replace h := bindO h
            obtain ⟨v29, hv29, h⟩ := h
            refine TD_con (h := []) (h' := []) [[], [21]] 22 0 [.slc 1 0 (List.length b7.l) (List.map (ecI .i64) b7.l), .lit (.int .i64 (b7.at_))] _ _ (ok_law33_spoiled b7 v5.1 v29 hv29) (by kernel_rfl) (by kernel_rfl) (by kernel_rfl) (by kernel_rfl) ?_
            refine TD_go 2 ?_
            replace h := bindO h
            obtain ⟨v30, hv30, h⟩ := h
            refine TD_call [] (ok_law33_accepts v29.1 v4.1 2 a4 v30 hv30) (by kernel_rfl) (by kernel_rfl) ?_
            refine TD_go 2 ?_
            replace h := condO h
            rcases h with ⟨hb31, h⟩ | ⟨hb31, h⟩
            · subst hb31
              replace h := bindO h
              obtain ⟨v32, hv32, h⟩ := h
              refine TD_call [] (ok_law33_known  v32 hv32) (by kernel_rfl) (by kernel_rfl) ?_
              refine TD_go 2 ?_
              refine TD_end (by kernel_rfl) ?_
              refine TS_go 1 ?_
              obtain rfl := Option.some.inj h
              exact TS_ret (by kernel_rfl) (by kernel_rfl) (by kernel_rfl)
            · subst hb31
              refine TD_go 3 ?_
              refine TD_end (by kernel_rfl) ?_
              refine TS_go 1 ?_
              obtain rfl := Option.some.inj h
              exact TS_ret (by kernel_rfl) (by kernel_rfl) (by kernel_rfl)
          · subst hb28
            refine TD_go 11 ?_
            refine TD_end (by kernel_rfl) ?_
            refine TS_go 1 ?_
            obtain rfl := Option.some.inj h
            exact TS_ret (by kernel_rfl) (by kernel_rfl) (by kernel_rfl)
        · subst hb26
          refine TD_go 18 ?_
          refine TD_end (by kernel_rfl) ?_
          refine TS_go 1 ?_
          obtain rfl := Option.some.inj h
          exact TS_ret (by kernel_rfl) (by kernel_rfl) (by kernel_rfl)
      · subst hb24
        refine TD_go 25 ?_
        refine TD_end (by kernel_rfl) ?_
        refine TS_go 1 ?_
        obtain rfl := Option.some.inj h
        exact TS_ret (by kernel_rfl) (by kernel_rfl) (by kernel_rfl)

/-- multihop/storing.Export -/
noncomputable def F_storing_Export_j2 (s5 : (List S_Register) × Int) (v9 : (List S_Register)) : Option (((List S_Register) × Int) ⊕ ((List S_Register))) :=
  some (Sum.inl (v9, IntKind.wrap .i64 (s5.2 + 1)))
noncomputable def F_storing_Export_l1 (a0 : List S_Down) (a1 : Int) (s5 : (List S_Register) × Int) : Option (((List S_Register) × Int) ⊕ ((List S_Register))) :=
  bif (decide (s5.2 < (List.length a0 : Int))) then
    (idx a0 s5.2).bind fun e10 =>
    bif (decide (e10.Until > a1)) then
      (appO 40 s5.1 (Cut.app .whole ([(S_Register.mk e10.Target e10.Sequence (IntKind.wrap .i64 (e10.Until - a1)))] : List S_Register))).bind fun l12 =>
      (F_storing_Export_j2 s5) l12
    else
      (F_storing_Export_j2 s5) s5.1
  else
    some (Sum.inr s5.1)
noncomputable def F_storing_Export (a0 : List S_Down) (a1 : Int) : Option ((List S_Register)) :=
  (F_storing_Valid a0).bind fun v1 =>
  bif v1 then
    (F_storing_isTime a1).bind fun v3 =>
    bif v3 then
      (loopO (F_storing_Export_l1 a0 a1) (([] : List S_Register), 0)).bind fun b6 =>
      some (b6)
    else
      some (([] : List S_Register))
  else
    some (([] : List S_Register))
set_option maxRecDepth 100000 in
set_option maxHeartbeats 40000000 in
theorem okT_storing_Export (a0 : List S_Down) (a1 : Int) (r : (List S_Register)) (h : F_storing_Export a0 a1 = some r) : Con Try.prog 28 [.c (eS 20 S_Down.cs (a0)), .c (.lit (.int .i64 (a1)))] [] (.c (.slc 19 900002 (List.length r) (List.map S_Register.cs r))) [(900000, .spare 31 19 (List.length r))] := by
  unfold F_storing_Export at h
  refine con_of [] [(900000, [])] 40 Try.func28 rfl rfl (by kernel_rfl) (fun K => ?_)
  refine TS_go 8 ?_
  replace h := bindO h
  obtain ⟨v1, hv1, h⟩ := h
  refine TS_call [] (ok_storing_Valid a0 v1 hv1) (by kernel_rfl) (by kernel_rfl) ?_
  refine TS_go 2 ?_
  replace h := condO h
  rcases h with ⟨hb2, h⟩ | ⟨hb2, h⟩
  · subst hb2
    refine TS_go 1 ?_
    replace h := bindO h
    obtain ⟨v3, hv3, h⟩ := h
    refine TS_call [] (ok_storing_isTime a1 v3 hv3) (by kernel_rfl) (by kernel_rfl) ?_
    refine TS_go 3 ?_
    replace h := condO h
    rcases h with ⟨hb4, h⟩ | ⟨hb4, h⟩
    · subst hb4
      refine TS_F (by kernel_rfl) rfl ?_
      refine TS_go 13 ?_
      refine TS_nilT 5 600000 31 19 (by kernel_rfl) ?_
      refine TS_cut ⟨[(1, []), (5, []), (16, []), (17, []), (18, [])], [(600000, (600000, []))]⟩ (.mk [.code (codeAt [1, 1, 1, 0, 1, 0] (bodyOf Try.f28)), .blk 0, .code (codeAt [1, 1, 1, 1] (bodyOf Try.f28))] .normal ⟨[(1, .c (.lit (.int .i64 (a1)))), (5, .c (.slc 19 600002 (List.length ([] : List S_Register)) (List.map S_Register.cs ([] : List S_Register)))), (16, .c (.slc 20 0 (List.length a0) (List.map S_Down.cs a0))), (17, .c (.lit (.int .i64 ((List.length a0 : Int))))), (18, .c (.lit (.int .i64 (0))))], [(600000, .spare 31 19 (List.length ([] : List S_Register)))]⟩) (by kernel_rfl) (by kernel_rfl) ?_
      replace h := bindO h
      obtain ⟨y7, hl1, hK1⟩ := h
      refine TS_loopB (F_storing_Export_l1 a0 a1) ⟨[(1, []), (5, []), (16, []), (17, []), (18, [])], [(600000, (600000, []))]⟩ (fun (s5 : (List S_Register) × Int) => [(5, .c (.slc 19 600002 (List.length s5.1) (List.map S_Register.cs s5.1))), (18, .c (.lit (.int .i64 (s5.2))))]) (fun (s5 : (List S_Register) × Int) => [(600000, .spare 31 19 (List.length s5.1))]) (([] : List S_Register), 0) y7 (.exit 0) (fun (b : (List S_Register)) => b) ⟨[(5, [])], [(600000, (600000, []))]⟩ (fun (b6 : (List S_Register)) => [(5, .c (.slc 19 600002 (List.length b6) (List.map S_Register.cs b6)))]) (fun (b6 : (List S_Register)) => [(600000, .spare 31 19 (List.length b6))]) hl1 (by kernel_rfl) (by kernel_rfl) ?_ ?_
      · intro s5 x h hy1
        unfold F_storing_Export_l1 at h
        refine TS_go 5 ?_
        replace h := condO h
        rcases h with ⟨hb8, h⟩ | ⟨hb8, h⟩
        · refine TS_know 19 (b := true) hb8 (by kernel_rfl) (by kernel_rfl) ?_
          refine TS_T (by kernel_rfl) rfl ?_
          refine TS_go 1 ?_
          refine TS_cut ⟨[(1, []), (5, []), (16, []), (17, []), (18, [])], [(600000, (600000, []))]⟩ (.mk [.code (codeAt [1, 1, 1, 0, 1, 0, 0, 1, 1] (bodyOf Try.f28))] .normal ⟨[(1, .c (.lit (.int .i64 (a1)))), (5, .c (.slc 19 600002 (List.length s5.1) (List.map S_Register.cs s5.1))), (16, .c (.slc 20 0 (List.length a0) (List.map S_Down.cs a0))), (17, .c (.lit (.int .i64 ((List.length a0 : Int))))), (18, .c (.lit (.int .i64 (s5.2))))], [(600000, .spare 31 19 (List.length s5.1))]⟩) (by kernel_rfl) (by kernel_rfl) ?_
          refine TS_joinB ⟨[(1, []), (5, []), (16, []), (17, []), (18, [])], [(600000, (600000, []))]⟩ (fun (v9 : (List S_Register)) => [(5, .c (.slc 19 600002 (List.length v9) (List.map S_Register.cs v9)))]) (fun (v9 : (List S_Register)) => [(600000, .spare 31 19 (List.length v9))]) (F_storing_Export_j2 s5) x ?_ ?_
          · clear h
            intro v9 h
            unfold F_storing_Export_j2 at h
            refine TS_go 4 ?_
            obtain rfl := Option.some.inj h
            exact TS_againB _ ⟨[(1, []), (5, []), (16, []), (17, []), (18, [])], [(600000, (600000, []))]⟩ rfl (by kernel_rfl) (by kernel_rfl)
          · refine TS_go 3 ?_
            replace h := bindO h
            obtain ⟨e10, he10, h⟩ := h
            refine TS_idx S_Down.cs he10 (by kernel_rfl) (by kernel_rfl) ?_
            refine TS_go 11 ?_
            replace h := condO h
            rcases h with ⟨hb11, h⟩ | ⟨hb11, h⟩
            · refine TS_know 25 (b := true) hb11 (by kernel_rfl) (by kernel_rfl) ?_
              refine TS_T (by kernel_rfl) rfl ?_
              refine TS_go 11 ?_
              refine TS_litNT 36 31 19 S_Register.cs [] ([(S_Register.mk e10.Target e10.Sequence (IntKind.wrap .i64 (e10.Until - a1)))] : List S_Register) (by kernel_rfl) (by kernel_rfl) ?_
              replace h := bindO h
              obtain ⟨l12, hl12, h⟩ := h
              refine TS_appT (d := 600000) (e := 31) (sz := 19) (N := List.length s5.1) S_Register.cs (fun _ => by kernel_rfl) (l1 := s5.1) (l2 := ([(S_Register.mk e10.Target e10.Sequence (IntKind.wrap .i64 (e10.Until - a1)))] : List S_Register)) (c := .whole) hl12 (by kernel_rfl) (by kernel_rfl) ?_
              refine TS_go 3 ?_
              exact TS_meet l12 ⟨[(1, []), (5, []), (16, []), (17, []), (18, [])], [(600000, (600000, []))]⟩ h (by kernel_rfl) (by kernel_rfl)
            · refine TS_know 25 (b := false) hb11 (by kernel_rfl) (by kernel_rfl) ?_
              refine TS_F (by kernel_rfl) rfl ?_
              refine TS_go 2 ?_
              exact TS_meet s5.1 ⟨[(1, []), (5, []), (16, []), (17, []), (18, [])], [(600000, (600000, []))]⟩ h (by kernel_rfl) (by kernel_rfl)
        · refine TS_know 19 (b := false) hb8 (by kernel_rfl) (by kernel_rfl) ?_
          refine TS_F (by kernel_rfl) rfl ?_
          refine TS_go 2 ?_
          obtain rfl := Option.some.inj h
          exact TS_brkB s5.1 ⟨[(5, [])], [(600000, (600000, []))]⟩ rfl (by kernel_rfl) (by kernel_rfl) (by kernel_rfl)
      · intro b6 hb
        subst y7
        have h := hK1
        refine TS_go 6 ?_
        refine TS_fitU ⟨[(4, [])], [(600000, (900000, []))]⟩ (by kernel_rfl) ?_
        refine TS_go 1 ?_
        obtain rfl := Option.some.inj h
        exact TS_ret (by kernel_rfl) (by kernel_rfl) (by kernel_rfl)
    · subst hb4
      refine TS_T (by kernel_rfl) rfl ?_
      refine TS_go 4 ?_
      refine TS_nilT 4 600000 31 19 (by kernel_rfl) ?_
      refine TS_fitU ⟨[(4, [])], [(600000, (900000, []))]⟩ (by kernel_rfl) ?_
      refine TS_go 2 ?_
      obtain rfl := Option.some.inj h
      exact TS_ret (by kernel_rfl) (by kernel_rfl) (by kernel_rfl)
  · subst hb2
    refine TS_go 5 ?_
    refine TS_T (by kernel_rfl) rfl ?_
    refine TS_go 4 ?_
    refine TS_nilT 4 600000 31 19 (by kernel_rfl) ?_
    refine TS_fitU ⟨[(4, [])], [(600000, (900000, []))]⟩ (by kernel_rfl) ?_
    refine TS_go 2 ?_
    obtain rfl := Option.some.inj h
    exact TS_ret (by kernel_rfl) (by kernel_rfl) (by kernel_rfl)
theorem ok_storing_Export (a0 : List S_Down) (a1 : Int) (r : (List S_Register)) (h : F_storing_Export a0 a1 = some r) : Con Try.prog 28 [.c (eS 20 S_Down.cs (a0)), .c (.lit (.int .i64 (a1)))] [] (.c (eS 19 S_Register.cs (r))) [] :=
  con_drop [[20]] [] (okT_storing_Export a0 a1 r h) (by kernel_rfl) (by kernel_rfl) (by kernel_rfl)

end Go.Proofs.Ytonlajdaaljncaa
