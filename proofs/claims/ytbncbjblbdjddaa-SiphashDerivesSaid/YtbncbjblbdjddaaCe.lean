/-
  Written by cc3.py: what the Go functions compute, as plain functions, and that they do.
-/
import Derived.Test.YtbncbjblbdjddaaV28
import Derived.Test.YtbncbjblbdjddaaChecked
namespace Go.Proofs.Ytbncbjblbdjddaa
open Go.RowKit
attribute [local irreducible] TS go TD goD

structure S_multihopref03_state where
  a : Int
  b : Int
  c : Int
  d : Int
def S_multihopref03_state.cs (x : S_multihopref03_state) : List SC := [.lit (.int .u64 (x.a))] ++ [.lit (.int .u64 (x.b))] ++ [.lit (.int .u64 (x.c))] ++ [.lit (.int .u64 (x.d))]

/-- multihop/multihoplaw03.ascending -/
noncomputable def F_law03_ascending_l1 (a0 : Int) (s1 : (List Int) × Int) : Option (((List Int) × Int) ⊕ ((List Int))) :=
  bif (decide (s1.2 < a0)) then
    (appO 1 s1.1 (Cut.app .whole ([IntKind.wrap .u8 s1.2] : List Int))).bind fun l5 =>
    some (Sum.inl (l5, IntKind.wrap .i64 (s1.2 + 1)))
  else
    some (Sum.inr s1.1)
noncomputable def F_law03_ascending (a0 : Int) : Option ((List Int)) :=
  (loopO (F_law03_ascending_l1 a0) (([] : List Int), 0)).bind fun b2 =>
  some (b2)
set_option maxRecDepth 100000 in
set_option maxHeartbeats 40000000 in
theorem okT_law03_ascending (a0 : Int) (r : (List Int)) (h : F_law03_ascending a0 = some r) : Con Try.prog 19 [.c (.lit (.int .i64 (a0)))] [] (.c (.slc 1 900002 (List.length r) (List.map (ecI .u8) r))) [(900000, .spare 5 1 (List.length r))] := by
  unfold F_law03_ascending at h
  refine con_of [] [(900000, [])] 16 Try.func19 rfl rfl (by kernel_rfl) (fun K => ?_)
  refine TS_go 14 ?_
  refine TS_nilT 3 600000 5 1 (by kernel_rfl) ?_
  refine TS_cut ⟨[(0, []), (3, []), (4, [])], [(600000, (600000, []))]⟩ (.mk [.code (codeAt [1, 1, 0, 1, 0] (bodyOf Try.f19)), .blk 0, .code (codeAt [1, 1, 1] (bodyOf Try.f19))] .normal ⟨[(0, .c (.lit (.int .i64 (a0)))), (3, .c (.slc 1 600002 (List.length ([] : List Int)) (List.map (ecI .u8) ([] : List Int)))), (4, .c (.lit (.int .i64 (0))))], [(600000, .spare 5 1 (List.length ([] : List Int)))]⟩) (by kernel_rfl) (by kernel_rfl) ?_
  replace h := bindO h
  obtain ⟨y3, hl1, hK1⟩ := h
  refine TS_loopB (F_law03_ascending_l1 a0) ⟨[(0, []), (3, []), (4, [])], [(600000, (600000, []))]⟩ (fun (s1 : (List Int) × Int) => [(3, .c (.slc 1 600002 (List.length s1.1) (List.map (ecI .u8) s1.1))), (4, .c (.lit (.int .i64 (s1.2))))]) (fun (s1 : (List Int) × Int) => [(600000, .spare 5 1 (List.length s1.1))]) (([] : List Int), 0) y3 (.exit 0) (fun (b : (List Int)) => b) ⟨[(3, [])], [(600000, (600000, []))]⟩ (fun (b2 : (List Int)) => [(3, .c (.slc 1 600002 (List.length b2) (List.map (ecI .u8) b2)))]) (fun (b2 : (List Int)) => [(600000, .spare 5 1 (List.length b2))]) hl1 (by kernel_rfl) (by kernel_rfl) ?_ ?_
  · intro s1 x h hy1
    unfold F_law03_ascending_l1 at h
    refine TS_go 7 ?_
    replace h := condO h
    rcases h with ⟨hb4, h⟩ | ⟨hb4, h⟩
    · refine TS_know 7 (b := true) hb4 (by kernel_rfl) (by kernel_rfl) ?_
      refine TS_T (by kernel_rfl) rfl ?_
      refine TS_go 7 ?_
      refine TS_litNT 13 5 1 (ecI .u8) [] ([IntKind.wrap .u8 s1.2] : List Int) (by kernel_rfl) (by kernel_rfl) ?_
      replace h := bindO h
      obtain ⟨_l5, hl5, h⟩ := h
      refine TS_appT (d := 600000) (e := 5) (sz := 1) (N := List.length s1.1) (ecI .u8) (fun _ => by kernel_rfl) (l1 := s1.1) (l2 := ([IntKind.wrap .u8 s1.2] : List Int)) (c := .whole) hl5 (by kernel_rfl) (by kernel_rfl) ?_
      refine TS_go 8 ?_
      have ret := Option.some.inj h
      subst ret
      exact TS_againB _ ⟨[(0, []), (3, []), (4, [])], [(600000, (600000, []))]⟩ rfl (by kernel_rfl) (by kernel_rfl)
    · refine TS_know 7 (b := false) hb4 (by kernel_rfl) (by kernel_rfl) ?_
      refine TS_F (by kernel_rfl) rfl ?_
      refine TS_go 2 ?_
      have ret := Option.some.inj h
      subst ret
      exact TS_brkB s1.1 ⟨[(3, [])], [(600000, (600000, []))]⟩ rfl (by kernel_rfl) (by kernel_rfl) (by kernel_rfl)
  · intro b2 hb
    subst y3
    have h := hK1
    refine TS_go 6 ?_
    refine TS_fitU ⟨[(2, [])], [(600000, (900000, []))]⟩ (by kernel_rfl) ?_
    refine TS_go 1 ?_
    have ret := Option.some.inj h
    subst ret
    exact TS_ret (by kernel_rfl) (by kernel_rfl) (by kernel_rfl)
theorem ok_law03_ascending (a0 : Int) (r : (List Int)) (h : F_law03_ascending a0 = some r) : Con Try.prog 19 [.c (.lit (.int .i64 (a0)))] [] (.c (eS 1 (ecI .u8) (r))) [] :=
  con_drop [[2]] [] (okT_law03_ascending a0 r h) (by kernel_rfl) (by kernel_rfl) (by kernel_rfl)

/-- multihop/siphash.little -/
noncomputable def F_siphash_little_l1 (a0 : List Int) (s1 : Int × Int) : Option ((Int × Int) ⊕ (Int)) :=
  bif (decide (s1.2 < (List.length a0 : Int))) then
    (idx a0 s1.2).bind fun e5 =>
    bif decide (0 ≤ (IntKind.wrap .i64 (8 * s1.2))) then
      some (Sum.inl (ior .u64 s1.1 (ishl .u64 (IntKind.wrap .u64 e5) (IntKind.wrap .i64 (8 * s1.2))), IntKind.wrap .i64 (s1.2 + 1)))
    else none
  else
    some (Sum.inr s1.1)
noncomputable def F_siphash_little (a0 : List Int) : Option (Int) :=
  (loopO (F_siphash_little_l1 a0) (0, 0)).bind fun b2 =>
  some (b2)
set_option maxRecDepth 100000 in
set_option maxHeartbeats 40000000 in
theorem ok_siphash_little (a0 : List Int) (r : Int) (h : F_siphash_little a0 = some r) : Con Try.prog 20 [.c (eS 1 (ecI .u8) (a0))] [] (.c (.lit (.int .u64 (r)))) [] := by
  unfold F_siphash_little at h
  refine con_of [] [] 22 Try.func20 rfl rfl (by kernel_rfl) (fun K => ?_)
  refine TS_go 16 ?_
  refine TS_cut ⟨[(3, []), (6, []), (7, []), (8, [])], []⟩ (.mk [.code (codeAt [1, 1, 0, 1, 0] (bodyOf Try.f20)), .blk 0, .code (codeAt [1, 1, 1] (bodyOf Try.f20))] .normal ⟨[(3, .c (.lit (.int .u64 (0)))), (6, .c (.slc 1 0 (List.length a0) (List.map (ecI .u8) a0))), (7, .c (.lit (.int .i64 ((List.length a0 : Int))))), (8, .c (.lit (.int .i64 (0))))], []⟩) (by kernel_rfl) (by kernel_rfl) ?_
  replace h := bindO h
  obtain ⟨y3, hl1, hK1⟩ := h
  refine TS_loopB (F_siphash_little_l1 a0) ⟨[(3, []), (6, []), (7, []), (8, [])], []⟩ (fun (s1 : Int × Int) => [(3, .c (.lit (.int .u64 (s1.1)))), (8, .c (.lit (.int .i64 (s1.2))))]) (fun (s1 : Int × Int) => []) (0, 0) y3 (.exit 0) (fun (b : Int) => b) ⟨[(3, [])], []⟩ (fun (b2 : Int) => [(3, .c (.lit (.int .u64 (b2))))]) (fun (b2 : Int) => []) hl1 (by kernel_rfl) (by kernel_rfl) ?_ ?_
  · intro s1 x h hy1
    unfold F_siphash_little_l1 at h
    refine TS_go 5 ?_
    replace h := condO h
    rcases h with ⟨hb4, h⟩ | ⟨hb4, h⟩
    · refine TS_know 9 (b := true) hb4 (by kernel_rfl) (by kernel_rfl) ?_
      refine TS_T (by kernel_rfl) rfl ?_
      refine TS_go 6 ?_
      replace h := bindO h
      obtain ⟨e5, he5, h⟩ := h
      refine TS_idx (ecI .u8) he5 (by kernel_rfl) (by kernel_rfl) ?_
      refine TS_go 10 ?_
      replace h := chkO h
      obtain ⟨hc6, h⟩ := h
      refine TS_num (op := .shl) (k := .u64) (k' := .i64) (m := IntKind.wrap .u64 e5) (i := IntKind.wrap .i64 (8 * s1.2)) (of_decide_eq_true hc6) rfl (by simp) (by kernel_rfl) (by kernel_rfl) ?_
      refine TS_go 8 ?_
      have ret := Option.some.inj h
      subst ret
      exact TS_againB _ ⟨[(3, []), (6, []), (7, []), (8, [])], []⟩ rfl (by kernel_rfl) (by kernel_rfl)
    · refine TS_know 9 (b := false) hb4 (by kernel_rfl) (by kernel_rfl) ?_
      refine TS_F (by kernel_rfl) rfl ?_
      refine TS_go 2 ?_
      have ret := Option.some.inj h
      subst ret
      exact TS_brkB s1.1 ⟨[(3, [])], []⟩ rfl (by kernel_rfl) (by kernel_rfl) (by kernel_rfl)
  · intro b2 hb
    subst y3
    have h := hK1
    refine TS_go 7 ?_
    have ret := Option.some.inj h
    subst ret
    exact TS_ret (by kernel_rfl) (by kernel_rfl) (by kernel_rfl)

/-- math/bits.RotateLeft64 -/
noncomputable def F_math_bits_RotateLeft64 (a0 : Int) (a1 : Int) : Option (Int) :=
  bif decide (0 ≤ (iand .u64 (IntKind.wrap .u64 a1) 63)) then
    bif decide (0 ≤ (IntKind.wrap .u64 (64 - (iand .u64 (IntKind.wrap .u64 a1) 63)))) then
      some (ior .u64 (ishl .u64 a0 (iand .u64 (IntKind.wrap .u64 a1) 63)) (ishr .u64 a0 (IntKind.wrap .u64 (64 - (iand .u64 (IntKind.wrap .u64 a1) 63)))))
    else none
  else none
set_option maxRecDepth 100000 in
set_option maxHeartbeats 40000000 in
theorem ok_math_bits_RotateLeft64 (a0 : Int) (a1 : Int) (r : Int) (h : F_math_bits_RotateLeft64 a0 a1 = some r) : Con Try.prog 29 [.c (.lit (.int .u64 (a0))), .c (.lit (.int .i64 (a1)))] [] (.c (.lit (.int .u64 (r)))) [] := by
  unfold F_math_bits_RotateLeft64 at h
  refine con_of [] [] 17 Try.func29 rfl rfl (by kernel_rfl) (fun K => ?_)
  refine TS_go 15 ?_
  replace h := chkO h
  obtain ⟨hc1, h⟩ := h
  refine TS_num (op := .shl) (k := .u64) (k' := .u64) (m := a0) (i := iand .u64 (IntKind.wrap .u64 a1) 63) (of_decide_eq_true hc1) rfl (by simp) (by kernel_rfl) (by kernel_rfl) ?_
  refine TS_go 3 ?_
  replace h := chkO h
  obtain ⟨hc2, h⟩ := h
  refine TS_num (op := .shr) (k := .u64) (k' := .u64) (m := a0) (i := IntKind.wrap .u64 (64 - (iand .u64 (IntKind.wrap .u64 a1) 63))) (of_decide_eq_true hc2) rfl (by simp) (by kernel_rfl) (by kernel_rfl) ?_
  refine TS_go 4 ?_
  have ret := Option.some.inj h
  subst ret
  exact TS_ret (by kernel_rfl) (by kernel_rfl) (by kernel_rfl)

/-- (multihop/siphash.state).rounds -/
noncomputable def F_siphash_state_rounds_l1 (a1 : Int) (s1 : Int × (List Int)) : Option ((Int × (List Int)) ⊕ ((List Int))) :=
  bif (decide (s1.1 < a1)) then
    (F_math_bits_RotateLeft64 (s1.2.getD 1 0) 13).bind fun v5 =>
    (F_math_bits_RotateLeft64 (IntKind.wrap .u64 ((s1.2.getD 0 0) + (s1.2.getD 1 0))) 32).bind fun v6 =>
    (F_math_bits_RotateLeft64 (s1.2.getD 3 0) 16).bind fun v7 =>
    (F_math_bits_RotateLeft64 (ixor .u64 v7 (IntKind.wrap .u64 ((s1.2.getD 2 0) + (s1.2.getD 3 0)))) 21).bind fun v8 =>
    (F_math_bits_RotateLeft64 (ixor .u64 v5 (IntKind.wrap .u64 ((s1.2.getD 0 0) + (s1.2.getD 1 0)))) 17).bind fun v9 =>
    (F_math_bits_RotateLeft64 (IntKind.wrap .u64 ((IntKind.wrap .u64 ((s1.2.getD 2 0) + (s1.2.getD 3 0))) + (ixor .u64 v5 (IntKind.wrap .u64 ((s1.2.getD 0 0) + (s1.2.getD 1 0)))))) 32).bind fun v10 =>
    some (Sum.inl (IntKind.wrap .i64 (s1.1 + 1), [IntKind.wrap .u64 (v6 + (ixor .u64 v7 (IntKind.wrap .u64 ((s1.2.getD 2 0) + (s1.2.getD 3 0))))), ixor .u64 v9 (IntKind.wrap .u64 ((IntKind.wrap .u64 ((s1.2.getD 2 0) + (s1.2.getD 3 0))) + (ixor .u64 v5 (IntKind.wrap .u64 ((s1.2.getD 0 0) + (s1.2.getD 1 0)))))), v10, ixor .u64 v8 (IntKind.wrap .u64 (v6 + (ixor .u64 v7 (IntKind.wrap .u64 ((s1.2.getD 2 0) + (s1.2.getD 3 0))))))]))
  else
    some (Sum.inr s1.2)
noncomputable def F_siphash_state_rounds (a0 : List Int) (a1 : Int) : Option ((List Int)) :=
  (loopO (F_siphash_state_rounds_l1 a1) (0, a0)).bind fun b2 =>
  some (b2)
set_option maxRecDepth 100000 in
set_option maxHeartbeats 40000000 in
theorem ok_siphash_state_rounds (a0 : List Int) (a1 : Int) (r : (List Int)) (h : F_siphash_state_rounds a0 a1 = some r) : Con Try.prog 22 [.agg (arrS .u64 4 a0), .c (.lit (.int .i64 (a1)))] [] (.agg (arrS .u64 4 r)) [] := by
  unfold F_siphash_state_rounds at h
  refine con_of [] [] 82 Try.func22 rfl rfl (by kernel_rfl) (fun K => ?_)
  refine TS_go 12 ?_
  refine TS_cut ⟨[(2, []), (4, []), (5, []), (6, [])], [(2, (2, [])), (4, (4, []))]⟩ (.mk [.code (codeAt [1, 0, 1, 0] (bodyOf Try.f22)), .blk 0, .code (codeAt [1, 1] (bodyOf Try.f22))] .normal ⟨[(2, .c (.box 2 0)), (4, .c (.box 4 0)), (5, .c (.lit (.int .i64 (a1)))), (6, .c (.lit (.int .i64 (0))))], [(2, .box [.lit (.int .u64 ((a0.getD 0 0))), .lit (.int .u64 ((a0.getD 1 0))), .lit (.int .u64 ((a0.getD 2 0))), .lit (.int .u64 ((a0.getD 3 0)))]), (4, .box [.lit (.int .u64 (0)), .lit (.int .u64 (0)), .lit (.int .u64 (0)), .lit (.int .u64 (0))])]⟩) (by kernel_rfl) (by kernel_rfl) ?_
  replace h := bindO h
  obtain ⟨y3, hl1, hK1⟩ := h
  refine TS_loopB (F_siphash_state_rounds_l1 a1) ⟨[(2, []), (4, []), (5, []), (6, [])], [(2, (2, [])), (4, (4, []))]⟩ (fun (s1 : Int × (List Int)) => [(6, .c (.lit (.int .i64 (s1.1))))]) (fun (s1 : Int × (List Int)) => [(2, .box (arrS .u64 4 s1.2))]) (0, a0) y3 (.exit 0) (fun (b : (List Int)) => b) ⟨[(2, []), (4, [])], [(2, (2, [])), (4, (4, []))]⟩ (fun (b2 : (List Int)) => []) (fun (b2 : (List Int)) => [(2, .box (arrS .u64 4 b2))]) hl1 (by kernel_rfl) (by kernel_rfl) ?_ ?_
  · intro s1 x h hy1
    unfold F_siphash_state_rounds_l1 at h
    refine TS_go 5 ?_
    replace h := condO h
    rcases h with ⟨hb4, h⟩ | ⟨hb4, h⟩
    · refine TS_know 7 (b := true) hb4 (by kernel_rfl) (by kernel_rfl) ?_
      refine TS_T (by kernel_rfl) rfl ?_
      refine TS_go 17 ?_
      replace h := bindO h
      obtain ⟨v5, hv5, h⟩ := h
      refine TS_call [] (ok_math_bits_RotateLeft64 (s1.2.getD 1 0) 13 v5 hv5) (by kernel_rfl) (by kernel_rfl) ?_
      refine TS_go 17 ?_
      replace h := bindO h
      obtain ⟨v6, hv6, h⟩ := h
      refine TS_call [] (ok_math_bits_RotateLeft64 (IntKind.wrap .u64 ((s1.2.getD 0 0) + (s1.2.getD 1 0))) 32 v6 hv6) (by kernel_rfl) (by kernel_rfl) ?_
      refine TS_go 17 ?_
      replace h := bindO h
      obtain ⟨v7, hv7, h⟩ := h
      refine TS_call [] (ok_math_bits_RotateLeft64 (s1.2.getD 3 0) 16 v7 hv7) (by kernel_rfl) (by kernel_rfl) ?_
      refine TS_go 27 ?_
      replace h := bindO h
      obtain ⟨v8, hv8, h⟩ := h
      refine TS_call [] (ok_math_bits_RotateLeft64 (ixor .u64 v7 (IntKind.wrap .u64 ((s1.2.getD 2 0) + (s1.2.getD 3 0)))) 21 v8 hv8) (by kernel_rfl) (by kernel_rfl) ?_
      refine TS_go 27 ?_
      replace h := bindO h
      obtain ⟨v9, hv9, h⟩ := h
      refine TS_call [] (ok_math_bits_RotateLeft64 (ixor .u64 v5 (IntKind.wrap .u64 ((s1.2.getD 0 0) + (s1.2.getD 1 0)))) 17 v9 hv9) (by kernel_rfl) (by kernel_rfl) ?_
      refine TS_go 16 ?_
      replace h := bindO h
      obtain ⟨v10, hv10, h⟩ := h
      refine TS_call [] (ok_math_bits_RotateLeft64 (IntKind.wrap .u64 ((IntKind.wrap .u64 ((s1.2.getD 2 0) + (s1.2.getD 3 0))) + (ixor .u64 v5 (IntKind.wrap .u64 ((s1.2.getD 0 0) + (s1.2.getD 1 0)))))) 32 v10 hv10) (by kernel_rfl) (by kernel_rfl) ?_
      refine TS_go 8 ?_
      have ret := Option.some.inj h
      subst ret
      exact TS_againB _ ⟨[(2, []), (4, []), (5, []), (6, [])], [(2, (2, [])), (4, (4, []))]⟩ rfl (by kernel_rfl) (by kernel_rfl)
    · refine TS_know 7 (b := false) hb4 (by kernel_rfl) (by kernel_rfl) ?_
      refine TS_F (by kernel_rfl) rfl ?_
      refine TS_go 2 ?_
      have ret := Option.some.inj h
      subst ret
      exact TS_brkB s1.2 ⟨[(2, []), (4, [])], [(2, (2, [])), (4, (4, []))]⟩ rfl (by kernel_rfl) (by kernel_rfl) (by kernel_rfl)
  · intro b2 hb
    subst y3
    have h := hK1
    refine TS_go 7 ?_
    have ret := Option.some.inj h
    subst ret
    exact TS_ret (by kernel_rfl) (by kernel_rfl) (by kernel_rfl)

/-- (multihop/siphash.state).mix -/
noncomputable def F_siphash_state_mix (a0 : List Int) (a1 : Int) : Option ((List Int)) :=
  (F_siphash_state_rounds [(a0.getD 0 0), (a0.getD 1 0), (a0.getD 2 0), ixor .u64 (a0.getD 3 0) a1] 2).bind fun v1 =>
  some ([ixor .u64 (v1.getD 0 0) a1, (v1.getD 1 0), (v1.getD 2 0), (v1.getD 3 0)])
set_option maxRecDepth 100000 in
set_option maxHeartbeats 40000000 in
theorem ok_siphash_state_mix (a0 : List Int) (a1 : Int) (r : (List Int)) (h : F_siphash_state_mix a0 a1 = some r) : Con Try.prog 21 [.agg (arrS .u64 4 a0), .c (.lit (.int .u64 (a1)))] [] (.agg (arrS .u64 4 r)) [] := by
  unfold F_siphash_state_mix at h
  refine con_of [] [] 18 Try.func21 rfl rfl (by kernel_rfl) (fun K => ?_)
  refine TS_go 17 ?_
  replace h := bindO h
  obtain ⟨v1, hv1, h⟩ := h
  refine TS_call [] (ok_siphash_state_rounds [(a0.getD 0 0), (a0.getD 1 0), (a0.getD 2 0), ixor .u64 (a0.getD 3 0) a1] 2 v1 hv1) (by kernel_rfl) (by kernel_rfl) ?_
  refine TS_go 17 ?_
  have ret := Option.some.inj h
  subst ret
  exact TS_ret (by kernel_rfl) (by kernel_rfl) (by kernel_rfl)

/-- multihop/siphash.Sum -/
noncomputable def F_siphash_Sum_l1 (a1 : List Int) (s3 : Int × (List Int)) : Option ((Int × (List Int)) ⊕ ((List Int))) :=
  bif (decide (s3.1 < (iquo .i64 (List.length a1 : Int) 8))) then
    (subO a1 (IntKind.wrap .i64 (8 * s3.1)) (IntKind.wrap .i64 ((IntKind.wrap .i64 (8 * s3.1)) + 8))).bind fun l7 =>
    (F_siphash_little l7).bind fun v8 =>
    (F_siphash_state_mix s3.2 v8).bind fun v9 =>
    some (Sum.inl (IntKind.wrap .i64 (s3.1 + 1), v9))
  else
    some (Sum.inr s3.2)
noncomputable def F_siphash_Sum (a0 : List Int) (a1 : List Int) : Option (Int) :=
  (F_siphash_little (arrL 8 a0)).bind fun v1 =>
  (F_siphash_little ([(a0.getD 8 0), (a0.getD 9 0), (a0.getD 10 0), (a0.getD 11 0), (a0.getD 12 0), (a0.getD 13 0), (a0.getD 14 0), (a0.getD 15 0)] : List Int)).bind fun v2 =>
  (loopO (F_siphash_Sum_l1 a1) (0, [ixor .u64 v1 8317987319222330741, ixor .u64 v2 7237128888997146477, ixor .u64 v1 7816392313619706465, ixor .u64 v2 8387220255154660723])).bind fun b4 =>
  (subO a1 (IntKind.wrap .i64 (8 * (iquo .i64 (List.length a1 : Int) 8))) (List.length a1 : Int)).bind fun l11 =>
  (F_siphash_little l11).bind fun v12 =>
  (F_siphash_state_mix b4 (ior .u64 v12 (ishl .u64 (IntKind.wrap .u64 (List.length a1 : Int)) 56))).bind fun v13 =>
  (F_siphash_state_rounds [(v13.getD 0 0), (v13.getD 1 0), ixor .u64 (v13.getD 2 0) 255, (v13.getD 3 0)] 4).bind fun v14 =>
  some (ixor .u64 (ixor .u64 (ixor .u64 (v14.getD 0 0) (v14.getD 1 0)) (v14.getD 2 0)) (v14.getD 3 0))
set_option maxRecDepth 100000 in
set_option maxHeartbeats 40000000 in
theorem ok_siphash_Sum (a0 : List Int) (a1 : List Int) (r : Int) (h : F_siphash_Sum a0 a1 = some r) : Con Try.prog 9 [.agg (arrS .u8 16 a0), .c (eS 1 (ecI .u8) (a1))] [] (.c (.lit (.int .u64 (r)))) [] := by
  unfold F_siphash_Sum at h
  refine con_of [] [] 70 Try.func9 rfl rfl (by kernel_rfl) (fun K => ?_)
  refine TS_go 6 ?_
  refine TS_draw (by kernel_rfl) ?_
  refine TD_win 2 0 16 (a := 0) (b := 8) (by decide) (by decide) (by kernel_rfl) (by kernel_rfl) ?_
  replace h := bindO h
  obtain ⟨v1, hv1, h⟩ := h
  refine TD_callF [] (ok_siphash_little (arrL 8 a0) v1 hv1) (by kernel_rfl) (by kernel_rfl) ?_
  refine TD_win 2 0 16 (a := 8) (b := 16) (by decide) (by decide) (by kernel_rfl) (by kernel_rfl) ?_
  replace h := bindO h
  obtain ⟨v2, hv2, h⟩ := h
  refine TD_callF [] (ok_siphash_little ([(a0.getD 8 0), (a0.getD 9 0), (a0.getD 10 0), (a0.getD 11 0), (a0.getD 12 0), (a0.getD 13 0), (a0.getD 14 0), (a0.getD 15 0)] : List Int) v2 hv2) (by kernel_rfl) (by kernel_rfl) ?_
  refine TD_go 2 ?_
  refine TD_end (by kernel_rfl) ?_
  refine TS_go 28 ?_
  refine TS_cut ⟨[(1, []), (7, []), (8, []), (26, []), (27, [])], [(7, (7, []))]⟩ (.mk [.code (codeAt [1, 1, 1, 1, 0, 1, 0] (bodyOf Try.f9)), .blk 0, .code (codeAt [1, 1, 1, 1, 1] (bodyOf Try.f9))] .normal ⟨[(1, .c (.slc 1 0 (List.length a1) (List.map (ecI .u8) a1))), (7, .c (.box 7 0)), (8, .c (.lit (.int .i64 (iquo .i64 (List.length a1 : Int) 8)))), (26, .c (.lit (.int .i64 (iquo .i64 (List.length a1 : Int) 8)))), (27, .c (.lit (.int .i64 (0))))], [(7, .box [.lit (.int .u64 (ixor .u64 v1 8317987319222330741)), .lit (.int .u64 (ixor .u64 v2 7237128888997146477)), .lit (.int .u64 (ixor .u64 v1 7816392313619706465)), .lit (.int .u64 (ixor .u64 v2 8387220255154660723))])]⟩) (by kernel_rfl) (by kernel_rfl) ?_
  replace h := bindO h
  obtain ⟨y5, hl1, hK1⟩ := h
  refine TS_loopB (F_siphash_Sum_l1 a1) ⟨[(1, []), (7, []), (8, []), (26, []), (27, [])], [(7, (7, []))]⟩ (fun (s3 : Int × (List Int)) => [(27, .c (.lit (.int .i64 (s3.1))))]) (fun (s3 : Int × (List Int)) => [(7, .box (arrS .u64 4 s3.2))]) (0, [ixor .u64 v1 8317987319222330741, ixor .u64 v2 7237128888997146477, ixor .u64 v1 7816392313619706465, ixor .u64 v2 8387220255154660723]) y5 (.exit 0) (fun (b : (List Int)) => b) ⟨[(1, []), (7, []), (8, [])], [(7, (7, []))]⟩ (fun (b4 : (List Int)) => []) (fun (b4 : (List Int)) => [(7, .box (arrS .u64 4 b4))]) hl1 (by kernel_rfl) (by kernel_rfl) ?_ ?_
  · intro s3 x h hy1
    unfold F_siphash_Sum_l1 at h
    refine TS_go 5 ?_
    replace h := condO h
    rcases h with ⟨hb6, h⟩ | ⟨hb6, h⟩
    · refine TS_know 28 (b := true) hb6 (by kernel_rfl) (by kernel_rfl) ?_
      refine TS_T (by kernel_rfl) rfl ?_
      refine TS_go 8 ?_
      refine TS_draw (by kernel_rfl) ?_
      refine TD_go 7 ?_
      replace h := bindO h
      obtain ⟨l7, hl7, h⟩ := h
      refine TD_sub (ecI .u8) 1 hl7 (by kernel_rfl) (by kernel_rfl) ?_
      replace h := bindO h
      obtain ⟨v8, hv8, h⟩ := h
      refine TD_call [] (ok_siphash_little l7 v8 hv8) (by kernel_rfl) (by kernel_rfl) ?_
      replace h := bindO h
      obtain ⟨v9, hv9, h⟩ := h
      refine TD_call [] (ok_siphash_state_mix s3.2 v8 v9 hv9) (by kernel_rfl) (by kernel_rfl) ?_
      refine TD_go 1 ?_
      refine TD_end (by kernel_rfl) ?_
      refine TS_go 5 ?_
      have ret := Option.some.inj h
      subst ret
      exact TS_againB _ ⟨[(1, []), (7, []), (8, []), (26, []), (27, [])], [(7, (7, []))]⟩ rfl (by kernel_rfl) (by kernel_rfl)
    · refine TS_know 28 (b := false) hb6 (by kernel_rfl) (by kernel_rfl) ?_
      refine TS_F (by kernel_rfl) rfl ?_
      refine TS_go 2 ?_
      have ret := Option.some.inj h
      subst ret
      exact TS_brkB s3.2 ⟨[(1, []), (7, []), (8, [])], [(7, (7, []))]⟩ rfl (by kernel_rfl) (by kernel_rfl) (by kernel_rfl)
  · intro b4 hb
    subst y5
    have h := hK1
    refine TS_go 2 ?_
    refine TS_draw (by kernel_rfl) ?_
    refine TD_go 4 ?_
    replace h := bindO h
    obtain ⟨l11, hl11, h⟩ := h
    refine TD_sub (ecI .u8) 1 hl11 (by kernel_rfl) (by kernel_rfl) ?_
    replace h := bindO h
    obtain ⟨v12, hv12, h⟩ := h
    refine TD_call [] (ok_siphash_little l11 v12 hv12) (by kernel_rfl) (by kernel_rfl) ?_
    refine TD_go 5 ?_
    replace h := bindO h
    obtain ⟨v13, hv13, h⟩ := h
    refine TD_call [] (ok_siphash_state_mix b4 (ior .u64 v12 (ishl .u64 (IntKind.wrap .u64 (List.length a1 : Int)) 56)) v13 hv13) (by kernel_rfl) (by kernel_rfl) ?_
    refine TD_go 1 ?_
    refine TD_end (by kernel_rfl) ?_
    refine TS_go 11 ?_
    replace h := bindO h
    obtain ⟨v14, hv14, h⟩ := h
    refine TS_call [] (ok_siphash_state_rounds [(v13.getD 0 0), (v13.getD 1 0), ixor .u64 (v13.getD 2 0) 255, (v13.getD 3 0)] 4 v14 hv14) (by kernel_rfl) (by kernel_rfl) ?_
    refine TS_go 18 ?_
    have ret := Option.some.inj h
    subst ret
    exact TS_ret (by kernel_rfl) (by kernel_rfl) (by kernel_rfl)

/-- multihop/multihoplaw03.known -/
noncomputable def F_law03_known  : Option (Bool) :=
  (F_law03_ascending 16).bind fun v1 =>
  (F_law03_ascending 15).bind fun v2 =>
  (F_siphash_Sum (cpA 16 [0, 0, 0, 0, 0, 0, 0, 0, 0, 0, 0, 0, 0, 0, 0, 0] (Cut.app .whole v1)) v2).bind fun v3 =>
  bif (v3 == 11613035633349379557) then
    (F_siphash_Sum (cpA 16 [0, 0, 0, 0, 0, 0, 0, 0, 0, 0, 0, 0, 0, 0, 0, 0] (Cut.app .whole v1)) ([] : List Int)).bind fun v5 =>
    some ((v5 == 8246050544436514353))
  else
    some (false)
set_option maxRecDepth 100000 in
set_option maxHeartbeats 40000000 in
theorem ok_law03_known  (r : Bool) (h : F_law03_known  = some r) : Con Try.prog 8 [] [] (.c (.lit (.bool (r)))) [] := by
  unfold F_law03_known at h
  refine con_of [] [] 14 Try.func8 rfl rfl (by kernel_rfl) (fun K => ?_)
  refine TS_go 9 ?_
  refine TS_draw (by kernel_rfl) ?_
  refine TD_win 1 0 16 (a := 0) (b := 16) (by decide) (by decide) (by kernel_rfl) (by kernel_rfl) ?_
  replace h := bindO h
  obtain ⟨v1, hv1, h⟩ := h
  refine TD_conX (d := 3) (e := 900000) [] (okT_law03_ascending 16 v1 hv1) (by kernel_rfl) (by kernel_rfl) ?_
  refine TD_cpW (k := .u8) 1 0 16 [0, 0, 0, 0, 0, 0, 0, 0, 0, 0, 0, 0, 0, 0, 0, 0] v1 .whole (pre := []) (post := []) (by kernel_rfl) (by kernel_rfl) (by kernel_rfl) ?_
  refine TD_end (by kernel_rfl) ?_
  refine TS_go 1 ?_
  refine TS_draw (by kernel_rfl) ?_
  refine TD_go 1 ?_
  replace h := bindO h
  obtain ⟨v2, hv2, h⟩ := h
  refine TD_conX (d := 6) (e := 900000) [] (okT_law03_ascending 15 v2 hv2) (by kernel_rfl) (by kernel_rfl) ?_
  replace h := bindO h
  obtain ⟨v3, hv3, h⟩ := h
  refine TD_call [[], [2]] (ok_siphash_Sum (cpA 16 [0, 0, 0, 0, 0, 0, 0, 0, 0, 0, 0, 0, 0, 0, 0, 0] (Cut.app .whole v1)) v2 v3 hv3) (by kernel_rfl) (by kernel_rfl) ?_
  refine TD_go 1 ?_
  replace h := condO h
  rcases h with ⟨hb4, h⟩ | ⟨hb4, h⟩
  · refine TD_know 9 (b := true) hb4 trivial (by kernel_rfl) (by kernel_rfl) ?_
    refine TD_go 1 ?_
    replace h := bindO h
    obtain ⟨v5, hv5, h⟩ := h
    refine TD_call [[], [2]] (ok_siphash_Sum (cpA 16 [0, 0, 0, 0, 0, 0, 0, 0, 0, 0, 0, 0, 0, 0, 0, 0] (Cut.app .whole v1)) ([] : List Int) v5 hv5) (by kernel_rfl) (by kernel_rfl) ?_
    refine TD_go 3 ?_
    refine TD_end (by kernel_rfl) ?_
    refine TS_go 1 ?_
    have ret := Option.some.inj h
    subst ret
    exact TS_ret (by kernel_rfl) (by kernel_rfl) (by kernel_rfl)
  · refine TD_know 9 (b := false) hb4 trivial (by kernel_rfl) (by kernel_rfl) ?_
    refine TD_go 5 ?_
    refine TD_end (by kernel_rfl) ?_
    refine TS_go 1 ?_
    have ret := Option.some.inj h
    subst ret
    exact TS_ret (by kernel_rfl) (by kernel_rfl) (by kernel_rfl)

/-- multihop/octets.Append -/
noncomputable def F_octets_Append_l2 (v1 : Int) (a0 : List Int) (a1 : Int) (s3 : Int × (List Int)) : Option ((Int × (List Int)) ⊕ ((List Int))) :=
  bif (decide (s3.1 < v1)) then
    bif decide (0 ≤ (IntKind.wrap .i64 (8 * (IntKind.wrap .i64 ((IntKind.wrap .i64 (v1 - 1)) - s3.1))))) then
      (idx (Cut.app .whole s3.2) (IntKind.wrap .i64 ((List.length a0 : Int) + s3.1))).bind fun _e8 =>
      (s3.2[(0 + Int.toNat (IntKind.wrap .i64 ((List.length a0 : Int) + s3.1)))]?).bind fun _e9 =>
      some (Sum.inl (IntKind.wrap .i64 (s3.1 + 1), (List.set s3.2 (0 + Int.toNat (IntKind.wrap .i64 ((List.length a0 : Int) + s3.1))) (IntKind.wrap .u8 (ishr .u64 a1 (IntKind.wrap .i64 (8 * (IntKind.wrap .i64 ((IntKind.wrap .i64 (v1 - 1)) - s3.1)))))))))
    else none
  else
    some (Sum.inr s3.2)
noncomputable def F_octets_Append_j1 (a0 : List Int) (a1 : Int) (v1 : Int) : Option ((List Int)) :=
  (mkO 1 (IntKind.wrap .i64 ((List.length a0 : Int) + v1)) (IntKind.wrap .i64 ((List.length a0 : Int) + v1))).bind fun n2 =>
  (loopO (F_octets_Append_l2 v1 a0 a1) (0, (cpL (List.replicate n2 (0 : Int)) 0 (List.length (Cut.app .whole (List.replicate n2 (0 : Int)))) (Cut.app .whole a0)))).bind fun b4 =>
  some (b4)
noncomputable def F_octets_Append (a0 : List Int) (a1 : Int) (a2 : Int) : Option ((List Int)) :=
  bif (decide (a2 < 0)) then
    (F_octets_Append_j1 a0 a1) 0
  else
    bif (decide (a2 > 8)) then
      (F_octets_Append_j1 a0 a1) 0
    else
      (F_octets_Append_j1 a0 a1) a2
set_option maxRecDepth 100000 in
set_option maxHeartbeats 40000000 in
theorem okT_octets_Append (a0 : List Int) (a1 : Int) (a2 : Int) (r : (List Int)) (h : F_octets_Append a0 a1 a2 = some r) : Con Try.prog 27 [.c (eS 1 (ecI .u8) (a0)), .c (.lit (.int .u64 (a1))), .c (.lit (.int .i64 (a2)))] [] (.c (.slc 1 900002 (List.length r) (List.map (ecI .u8) r))) [(900000, .spare 5 1 (List.length r))] := by
  unfold F_octets_Append at h
  refine con_of [] [(900000, [])] 43 Try.func27 rfl rfl (by kernel_rfl) (fun K => ?_)
  refine TS_go 4 ?_
  refine TS_cut ⟨[(0, []), (1, []), (2, [])], []⟩ (.mk [.code (codeAt [1] (bodyOf Try.f27))] .normal ⟨[(0, .c (.slc 1 0 (List.length a0) (List.map (ecI .u8) a0))), (1, .c (.lit (.int .u64 (a1)))), (2, .c (.lit (.int .i64 (a2))))], []⟩) (by kernel_rfl) (by kernel_rfl) ?_
  refine TS_joinB ⟨[(0, []), (1, []), (2, [])], []⟩ (fun (v1 : Int) => [(2, .c (.lit (.int .i64 (v1))))]) (fun (v1 : Int) => []) (F_octets_Append_j1 a0 a1) r ?_ ?_
  · clear h
    intro v1 h
    unfold F_octets_Append_j1 at h
    refine TS_go 6 ?_
    replace h := bindO h
    obtain ⟨n2, hn2, h⟩ := h
    refine TS_makeR 19 5 1 (ecI .u8) (0 : Int) [] (cs := [.lit (.int .u8 (0))]) (l := IntKind.wrap .i64 ((List.length a0 : Int) + v1)) (c := IntKind.wrap .i64 ((List.length a0 : Int) + v1)) hn2 (by kernel_rfl) (by kernel_rfl) (by kernel_rfl) ?_
    refine TS_go 6 ?_
    refine TS_cpR 19 5 1 (List.length (List.replicate n2 (0 : Int))) 0 (ecI .u8) (fun _ => by kernel_rfl) (l := (List.replicate n2 (0 : Int))) (l2 := a0) .whole .whole (by kernel_rfl) (by kernel_rfl) ?_
    refine TS_go 8 ?_
    refine TS_cut ⟨[(0, []), (1, []), (2, []), (7, []), (23, []), (24, [])], [(19, (19, []))]⟩ (.mk [.code (codeAt [1, 1, 1, 1, 0, 1, 0] (bodyOf Try.f27)), .blk 0, .code (codeAt [1, 1, 1, 1, 1] (bodyOf Try.f27))] .normal ⟨[(0, .c (.slc 1 0 (List.length a0) (List.map (ecI .u8) a0))), (1, .c (.lit (.int .u64 (a1)))), (2, .c (.lit (.int .i64 (v1)))), (7, .c (.own 19)), (23, .c (.lit (.int .i64 (v1)))), (24, .c (.lit (.int .i64 (0))))], [(19, .row 5 1 (List.length (cpL (List.replicate n2 (0 : Int)) 0 (List.length (Cut.app .whole (List.replicate n2 (0 : Int)))) (Cut.app .whole a0))) (List.map (ecI .u8) (cpL (List.replicate n2 (0 : Int)) 0 (List.length (Cut.app .whole (List.replicate n2 (0 : Int)))) (Cut.app .whole a0))))]⟩) (by kernel_rfl) (by kernel_rfl) ?_
    replace h := bindO h
    obtain ⟨y5, hl2, hK2⟩ := h
    refine TS_loopB (F_octets_Append_l2 v1 a0 a1) ⟨[(0, []), (1, []), (2, []), (7, []), (23, []), (24, [])], [(19, (19, []))]⟩ (fun (s3 : Int × (List Int)) => [(24, .c (.lit (.int .i64 (s3.1))))]) (fun (s3 : Int × (List Int)) => [(19, .row 5 1 (List.length s3.2) (List.map (ecI .u8) s3.2))]) (0, (cpL (List.replicate n2 (0 : Int)) 0 (List.length (Cut.app .whole (List.replicate n2 (0 : Int)))) (Cut.app .whole a0))) y5 (.exit 0) (fun (b : (List Int)) => b) ⟨[(7, [])], [(19, (19, []))]⟩ (fun (b4 : (List Int)) => []) (fun (b4 : (List Int)) => [(19, .row 5 1 (List.length b4) (List.map (ecI .u8) b4))]) hl2 (by kernel_rfl) (by kernel_rfl) ?_ ?_
    · intro s3 x h hy2
      unfold F_octets_Append_l2 at h
      refine TS_go 5 ?_
      replace h := condO h
      rcases h with ⟨hb6, h⟩ | ⟨hb6, h⟩
      · refine TS_know 25 (b := true) hb6 (by kernel_rfl) (by kernel_rfl) ?_
        refine TS_T (by kernel_rfl) rfl ?_
        refine TS_go 20 ?_
        replace h := chkO h
        obtain ⟨hc7, h⟩ := h
        refine TS_num (op := .shr) (k := .u64) (k' := .i64) (m := a1) (i := IntKind.wrap .i64 (8 * (IntKind.wrap .i64 ((IntKind.wrap .i64 (v1 - 1)) - s3.1)))) (of_decide_eq_true hc7) rfl (by simp) (by kernel_rfl) (by kernel_rfl) ?_
        refine TS_go 1 ?_
        replace h := bindO h
        obtain ⟨_e8, he8, h⟩ := h
        refine TS_idxR 19 1 0 (ecI .u8) .whole he8 (by kernel_rfl) (by kernel_rfl) ?_
        replace h := bindO h
        obtain ⟨_e9, he9, h⟩ := h
        refine TS_stE 19 5 1 (List.length s3.2) (0 + Int.toNat (IntKind.wrap .i64 ((List.length a0 : Int) + s3.1))) 0 (ecI .u8) (ds := [.lit (.int .u8 (IntKind.wrap .u8 (ishr .u64 a1 (IntKind.wrap .i64 (8 * (IntKind.wrap .i64 ((IntKind.wrap .i64 (v1 - 1)) - s3.1)))))))]) (IntKind.wrap .u8 (ishr .u64 a1 (IntKind.wrap .i64 (8 * (IntKind.wrap .i64 ((IntKind.wrap .i64 (v1 - 1)) - s3.1)))))) he9 (by kernel_rfl) (by kernel_rfl) (by kernel_rfl) (by kernel_rfl) ?_
        refine TS_go 6 ?_
        have ret := Option.some.inj h
        subst ret
        exact TS_againB _ ⟨[(0, []), (1, []), (2, []), (7, []), (23, []), (24, [])], [(19, (19, []))]⟩ rfl (by kernel_rfl) (by kernel_rfl)
      · refine TS_know 25 (b := false) hb6 (by kernel_rfl) (by kernel_rfl) ?_
        refine TS_F (by kernel_rfl) rfl ?_
        refine TS_go 2 ?_
        have ret := Option.some.inj h
        subst ret
        exact TS_brkB s3.2 ⟨[(7, [])], [(19, (19, []))]⟩ rfl (by kernel_rfl) (by kernel_rfl) (by kernel_rfl)
    · intro b4 hb
      subst y5
      have h := hK2
      refine TS_go 6 ?_
      refine TS_settle 19 (by kernel_rfl) ?_
      refine TS_fitU ⟨[(6, [])], [(19, (900000, []))]⟩ (by kernel_rfl) ?_
      refine TS_go 1 ?_
      have ret := Option.some.inj h
      subst ret
      exact TS_ret (by kernel_rfl) (by kernel_rfl) (by kernel_rfl)
  · refine TS_go 5 ?_
    replace h := condO h
    rcases h with ⟨hb11, h⟩ | ⟨hb11, h⟩
    · refine TS_know 10 (b := true) hb11 (by kernel_rfl) (by kernel_rfl) ?_
      refine TS_know 11 (b := true) hb11 (by kernel_rfl) (by kernel_rfl) ?_
      refine TS_go 4 ?_
      refine TS_T (by kernel_rfl) rfl ?_
      refine TS_go 3 ?_
      exact TS_meet 0 ⟨[(0, []), (1, []), (2, [])], []⟩ h (by kernel_rfl) (by kernel_rfl)
    · refine TS_know 10 (b := false) hb11 (by kernel_rfl) (by kernel_rfl) ?_
      refine TS_know 11 (b := false) hb11 (by kernel_rfl) (by kernel_rfl) ?_
      refine TS_go 4 ?_
      replace h := condO h
      rcases h with ⟨hb12, h⟩ | ⟨hb12, h⟩
      · refine TS_know 13 (b := true) hb12 (by kernel_rfl) (by kernel_rfl) ?_
        refine TS_know 14 (b := true) hb12 (by kernel_rfl) (by kernel_rfl) ?_
        refine TS_T (by kernel_rfl) rfl ?_
        refine TS_go 3 ?_
        exact TS_meet 0 ⟨[(0, []), (1, []), (2, [])], []⟩ h (by kernel_rfl) (by kernel_rfl)
      · refine TS_know 13 (b := false) hb12 (by kernel_rfl) (by kernel_rfl) ?_
        refine TS_know 14 (b := false) hb12 (by kernel_rfl) (by kernel_rfl) ?_
        refine TS_F (by kernel_rfl) rfl ?_
        refine TS_go 1 ?_
        exact TS_meet a2 ⟨[(0, []), (1, []), (2, [])], []⟩ h (by kernel_rfl) (by kernel_rfl)
theorem ok_octets_Append (a0 : List Int) (a1 : Int) (a2 : Int) (r : (List Int)) (h : F_octets_Append a0 a1 a2 = some r) : Con Try.prog 27 [.c (eS 1 (ecI .u8) (a0)), .c (.lit (.int .u64 (a1))), .c (.lit (.int .i64 (a2)))] [] (.c (eS 1 (ecI .u8) (r))) [] :=
  con_drop [[2]] [] (okT_octets_Append a0 a1 a2 r h) (by kernel_rfl) (by kernel_rfl) (by kernel_rfl)

/-- multihop/siphash.Derive -/
noncomputable def F_siphash_Derive_l2 (s4 : Int × (List Int)) (v9 : Int) (s10 : Int × (List Int)) : Option ((Int × (List Int)) ⊕ ((List Int))) :=
  bif (decide (s10.1 < 8)) then
    bif decide (0 ≤ (IntKind.wrap .i64 (8 * s10.1))) then
      bif decide ((0 : Int) ≤ (IntKind.wrap .i64 ((IntKind.wrap .i64 (8 * s4.1)) + s10.1)) ∧ (IntKind.wrap .i64 ((IntKind.wrap .i64 (8 * s4.1)) + s10.1)) < (16 : Int)) then
        some (Sum.inl (IntKind.wrap .i64 (s10.1 + 1), (setA 16 s10.2 (Int.toNat (IntKind.wrap .i64 ((IntKind.wrap .i64 (8 * s4.1)) + s10.1))) (IntKind.wrap .u8 (ishr .u64 v9 (IntKind.wrap .i64 (8 * s10.1)))))))
      else none
    else none
  else
    some (Sum.inr s10.2)
noncomputable def F_siphash_Derive_l1 (v3 : (List Int)) (a0 : List Int) (s4 : Int × (List Int)) : Option ((Int × (List Int)) ⊕ ((List Int))) :=
  bif (decide (s4.1 < 2)) then
    (F_octets_Append v3 (IntKind.wrap .u64 s4.1) 1).bind fun v8 =>
    (F_siphash_Sum a0 v8).bind fun v9 =>
    (loopO (F_siphash_Derive_l2 s4 v9) (0, s4.2)).bind fun b11 =>
    some (Sum.inl (IntKind.wrap .i64 (s4.1 + 1), b11))
  else
    some (Sum.inr s4.2)
noncomputable def F_siphash_Derive (a0 : List Int) (a1 : List UInt8) (a2 : Int) : Option ((List Int)) :=
  bif decide (List.length a1 ≤ maxLen) then
    (F_octets_Append (i8L a1) 0 1).bind fun v2 =>
    (F_octets_Append v2 a2 8).bind fun v3 =>
    (loopO (F_siphash_Derive_l1 v3 a0) (0, [0, 0, 0, 0, 0, 0, 0, 0, 0, 0, 0, 0, 0, 0, 0, 0])).bind fun b5 =>
    some (b5)
  else none
set_option maxRecDepth 100000 in
set_option maxHeartbeats 40000000 in
theorem ok_siphash_Derive (a0 : List Int) (a1 : List UInt8) (a2 : Int) (r : (List Int)) (h : F_siphash_Derive a0 a1 a2 = some r) : Con Try.prog 17 [.agg (arrS .u8 16 a0), .c (.lit (.string (bs8 a1))), .c (.lit (.int .u64 (a2)))] [] (.agg (arrS .u8 16 r)) [] := by
  unfold F_siphash_Derive at h
  refine con_of [] [] 43 Try.func17 rfl rfl (by kernel_rfl) (fun K => ?_)
  refine TS_go 8 ?_
  replace h := chkO h
  obtain ⟨hc1, h⟩ := h
  refine TS_s2bT 13 5 1 a1 hc1 rfl (by kernel_rfl) (by kernel_rfl) ?_
  replace h := bindO h
  obtain ⟨v2, hv2, h⟩ := h
  refine TS_con [[2]] [(14, 900000)] none (okT_octets_Append (i8L a1) 0 1 v2 hv2) (by kernel_rfl) (by kernel_rfl) (by kernel_rfl) ?_
  refine TS_go 6 ?_
  replace h := bindO h
  obtain ⟨v3, hv3, h⟩ := h
  refine TS_con [[2]] [(17, 900000)] none (okT_octets_Append v2 a2 8 v3 hv3) (by kernel_rfl) (by kernel_rfl) (by kernel_rfl) ?_
  refine TS_go 12 ?_
  refine TS_cut ⟨[(3, []), (6, []), (7, []), (8, []), (18, [])], [(3, (3, [])), (6, (6, [])), (17, (17, [])), (8, (8, []))]⟩ (.mk [.code (codeAt [1, 1, 1, 1, 0, 1, 0] (bodyOf Try.f17)), .blk 0, .code (codeAt [1, 1, 1, 1, 1] (bodyOf Try.f17))] .normal ⟨[(3, .c (.box 3 0)), (6, .c (.box 6 0)), (7, .c (.slc 1 19 (List.length v3) (List.map (ecI .u8) v3))), (8, .c (.box 8 0)), (18, .c (.lit (.int .i64 (0))))], [(3, .box [.lit (.int .u8 ((a0.getD 0 0))), .lit (.int .u8 ((a0.getD 1 0))), .lit (.int .u8 ((a0.getD 2 0))), .lit (.int .u8 ((a0.getD 3 0))), .lit (.int .u8 ((a0.getD 4 0))), .lit (.int .u8 ((a0.getD 5 0))), .lit (.int .u8 ((a0.getD 6 0))), .lit (.int .u8 ((a0.getD 7 0))), .lit (.int .u8 ((a0.getD 8 0))), .lit (.int .u8 ((a0.getD 9 0))), .lit (.int .u8 ((a0.getD 10 0))), .lit (.int .u8 ((a0.getD 11 0))), .lit (.int .u8 ((a0.getD 12 0))), .lit (.int .u8 ((a0.getD 13 0))), .lit (.int .u8 ((a0.getD 14 0))), .lit (.int .u8 ((a0.getD 15 0)))]), (6, .box [.lit (.int .u8 (0)), .lit (.int .u8 (0)), .lit (.int .u8 (0)), .lit (.int .u8 (0)), .lit (.int .u8 (0)), .lit (.int .u8 (0)), .lit (.int .u8 (0)), .lit (.int .u8 (0)), .lit (.int .u8 (0)), .lit (.int .u8 (0)), .lit (.int .u8 (0)), .lit (.int .u8 (0)), .lit (.int .u8 (0)), .lit (.int .u8 (0)), .lit (.int .u8 (0)), .lit (.int .u8 (0))]), (17, .spare 5 1 (List.length v3)), (8, .box [.lit (.int .u8 (0)), .lit (.int .u8 (0)), .lit (.int .u8 (0)), .lit (.int .u8 (0)), .lit (.int .u8 (0)), .lit (.int .u8 (0)), .lit (.int .u8 (0)), .lit (.int .u8 (0)), .lit (.int .u8 (0)), .lit (.int .u8 (0)), .lit (.int .u8 (0)), .lit (.int .u8 (0)), .lit (.int .u8 (0)), .lit (.int .u8 (0)), .lit (.int .u8 (0)), .lit (.int .u8 (0))])]⟩) (by kernel_rfl) (by kernel_rfl) ?_
  replace h := bindO h
  obtain ⟨y6, hl1, hK1⟩ := h
  refine TS_loopB (F_siphash_Derive_l1 v3 a0) ⟨[(3, []), (6, []), (7, []), (8, []), (18, [])], [(3, (3, [])), (6, (6, [])), (17, (17, [])), (8, (8, []))]⟩ (fun (s4 : Int × (List Int)) => [(18, .c (.lit (.int .i64 (s4.1))))]) (fun (s4 : Int × (List Int)) => [(8, .box (arrS .u8 16 s4.2))]) (0, [0, 0, 0, 0, 0, 0, 0, 0, 0, 0, 0, 0, 0, 0, 0, 0]) y6 (.exit 0) (fun (b : (List Int)) => b) ⟨[(6, []), (8, [])], [(6, (6, [])), (8, (8, []))]⟩ (fun (b5 : (List Int)) => []) (fun (b5 : (List Int)) => [(8, .box (arrS .u8 16 b5))]) hl1 (by kernel_rfl) (by kernel_rfl) ?_ ?_
  · intro s4 x h hy1
    unfold F_siphash_Derive_l1 at h
    refine TS_go 5 ?_
    replace h := condO h
    rcases h with ⟨hb7, h⟩ | ⟨hb7, h⟩
    · refine TS_know 19 (b := true) hb7 (by kernel_rfl) (by kernel_rfl) ?_
      refine TS_T (by kernel_rfl) rfl ?_
      refine TS_go 9 ?_
      refine TS_draw (by kernel_rfl) ?_
      refine TD_go 4 ?_
      replace h := bindO h
      obtain ⟨v8, hv8, h⟩ := h
      refine TD_conX (d := 25) (e := 900000) [[2]] (okT_octets_Append v3 (IntKind.wrap .u64 s4.1) 1 v8 hv8) (by kernel_rfl) (by kernel_rfl) ?_
      replace h := bindO h
      obtain ⟨v9, hv9, h⟩ := h
      refine TD_call [[], [2]] (ok_siphash_Sum a0 v8 v9 hv9) (by kernel_rfl) (by kernel_rfl) ?_
      refine TD_go 1 ?_
      refine TD_end (by kernel_rfl) ?_
      refine TS_go 5 ?_
      refine TS_cut ⟨[(3, []), (6, []), (7, []), (8, []), (18, []), (9, []), (10, []), (27, [])], [(3, (3, [])), (6, (6, [])), (17, (17, [])), (8, (8, []))]⟩ (.mk [.code (codeAt [1, 1, 1, 1, 0, 1, 0, 0, 1, 1, 0, 0, 1, 1, 1, 0] (bodyOf Try.f17)), .blk 2, .blk 1, .code (codeAt [1, 1, 1, 1, 0, 1, 0, 0, 1, 1, 1] (bodyOf Try.f17))] .normal ⟨[(3, .c (.box 3 0)), (6, .c (.box 6 0)), (7, .c (.slc 1 19 (List.length v3) (List.map (ecI .u8) v3))), (8, .c (.box 8 0)), (18, .c (.lit (.int .i64 (s4.1)))), (9, .c (.lit (.int .i64 (s4.1)))), (10, .c (.lit (.int .u64 (v9)))), (27, .c (.lit (.int .i64 (0))))], [(3, .box [.lit (.int .u8 ((a0.getD 0 0))), .lit (.int .u8 ((a0.getD 1 0))), .lit (.int .u8 ((a0.getD 2 0))), .lit (.int .u8 ((a0.getD 3 0))), .lit (.int .u8 ((a0.getD 4 0))), .lit (.int .u8 ((a0.getD 5 0))), .lit (.int .u8 ((a0.getD 6 0))), .lit (.int .u8 ((a0.getD 7 0))), .lit (.int .u8 ((a0.getD 8 0))), .lit (.int .u8 ((a0.getD 9 0))), .lit (.int .u8 ((a0.getD 10 0))), .lit (.int .u8 ((a0.getD 11 0))), .lit (.int .u8 ((a0.getD 12 0))), .lit (.int .u8 ((a0.getD 13 0))), .lit (.int .u8 ((a0.getD 14 0))), .lit (.int .u8 ((a0.getD 15 0)))]), (6, .box [.lit (.int .u8 (0)), .lit (.int .u8 (0)), .lit (.int .u8 (0)), .lit (.int .u8 (0)), .lit (.int .u8 (0)), .lit (.int .u8 (0)), .lit (.int .u8 (0)), .lit (.int .u8 (0)), .lit (.int .u8 (0)), .lit (.int .u8 (0)), .lit (.int .u8 (0)), .lit (.int .u8 (0)), .lit (.int .u8 (0)), .lit (.int .u8 (0)), .lit (.int .u8 (0)), .lit (.int .u8 (0))]), (17, .spare 5 1 (List.length v3)), (8, .box [.lit (.int .u8 ((s4.2.getD 0 0))), .lit (.int .u8 ((s4.2.getD 1 0))), .lit (.int .u8 ((s4.2.getD 2 0))), .lit (.int .u8 ((s4.2.getD 3 0))), .lit (.int .u8 ((s4.2.getD 4 0))), .lit (.int .u8 ((s4.2.getD 5 0))), .lit (.int .u8 ((s4.2.getD 6 0))), .lit (.int .u8 ((s4.2.getD 7 0))), .lit (.int .u8 ((s4.2.getD 8 0))), .lit (.int .u8 ((s4.2.getD 9 0))), .lit (.int .u8 ((s4.2.getD 10 0))), .lit (.int .u8 ((s4.2.getD 11 0))), .lit (.int .u8 ((s4.2.getD 12 0))), .lit (.int .u8 ((s4.2.getD 13 0))), .lit (.int .u8 ((s4.2.getD 14 0))), .lit (.int .u8 ((s4.2.getD 15 0)))])]⟩) (by kernel_rfl) (by kernel_rfl) ?_
      replace h := bindO h
      obtain ⟨y12, hl2, hK2⟩ := h
      refine TS_loopB (F_siphash_Derive_l2 s4 v9) ⟨[(3, []), (6, []), (7, []), (8, []), (9, []), (10, []), (18, []), (27, [])], [(3, (3, [])), (6, (6, [])), (17, (17, [])), (8, (8, []))]⟩ (fun (s10 : Int × (List Int)) => [(27, .c (.lit (.int .i64 (s10.1))))]) (fun (s10 : Int × (List Int)) => [(8, .box (arrS .u8 16 s10.2))]) (0, s4.2) y12 (.exit 2) (fun (b : (List Int)) => b) ⟨[(3, []), (6, []), (7, []), (8, []), (18, [])], [(3, (3, [])), (6, (6, [])), (17, (17, [])), (8, (8, []))]⟩ (fun (b11 : (List Int)) => []) (fun (b11 : (List Int)) => [(8, .box (arrS .u8 16 b11))]) hl2 (by kernel_rfl) (by kernel_rfl) ?_ ?_
      · intro s10 x h hy2
        unfold F_siphash_Derive_l2 at h
        refine TS_go 5 ?_
        replace h := condO h
        rcases h with ⟨hb13, h⟩ | ⟨hb13, h⟩
        · refine TS_know 28 (b := true) hb13 (by kernel_rfl) (by kernel_rfl) ?_
          refine TS_T (by kernel_rfl) rfl ?_
          refine TS_go 16 ?_
          replace h := chkO h
          obtain ⟨hc14, h⟩ := h
          refine TS_num (op := .shr) (k := .u64) (k' := .i64) (m := v9) (i := IntKind.wrap .i64 (8 * s10.1)) (of_decide_eq_true hc14) rfl (by simp) (by kernel_rfl) (by kernel_rfl) ?_
          refine TS_go 1 ?_
          replace h := chkO h
          obtain ⟨hc15, h⟩ := h
          refine TS_idxA 8 0 16 (i := IntKind.wrap .i64 ((IntKind.wrap .i64 (8 * s4.1)) + s10.1)) hc15 (by kernel_rfl) (by kernel_rfl) ?_
          refine TS_stA (k := .u8) (d := 8) 0 16 (i := IntKind.wrap .i64 ((IntKind.wrap .i64 (8 * s4.1)) + s10.1)) (v := IntKind.wrap .u8 (ishr .u64 v9 (IntKind.wrap .i64 (8 * s10.1)))) s10.2 (pre := []) (post := []) hc15 (by kernel_rfl) (by kernel_rfl) (by kernel_rfl) ?_
          refine TS_go 6 ?_
          have ret := Option.some.inj h
          subst ret
          exact TS_againB _ ⟨[(3, []), (6, []), (7, []), (8, []), (9, []), (10, []), (18, []), (27, [])], [(3, (3, [])), (6, (6, [])), (17, (17, [])), (8, (8, []))]⟩ rfl (by kernel_rfl) (by kernel_rfl)
        · refine TS_know 28 (b := false) hb13 (by kernel_rfl) (by kernel_rfl) ?_
          refine TS_F (by kernel_rfl) rfl ?_
          refine TS_go 2 ?_
          have ret := Option.some.inj h
          subst ret
          exact TS_brkB s10.2 ⟨[(3, []), (6, []), (7, []), (8, []), (18, [])], [(3, (3, [])), (6, (6, [])), (17, (17, [])), (8, (8, []))]⟩ rfl (by kernel_rfl) (by kernel_rfl) (by kernel_rfl)
      · intro b11 hb
        subst y12
        have h := hK2
        refine TS_go 6 ?_
        have ret := Option.some.inj h
        subst ret
        exact TS_againB _ ⟨[(3, []), (6, []), (7, []), (8, []), (18, [])], [(3, (3, [])), (6, (6, [])), (17, (17, [])), (8, (8, []))]⟩ rfl (by kernel_rfl) (by kernel_rfl)
    · refine TS_know 19 (b := false) hb7 (by kernel_rfl) (by kernel_rfl) ?_
      refine TS_F (by kernel_rfl) rfl ?_
      refine TS_go 2 ?_
      have ret := Option.some.inj h
      subst ret
      exact TS_brkB s4.2 ⟨[(6, []), (8, [])], [(6, (6, [])), (8, (8, []))]⟩ rfl (by kernel_rfl) (by kernel_rfl) (by kernel_rfl)
  · intro b5 hb
    subst y6
    have h := hK1
    refine TS_go 7 ?_
    have ret := Option.some.inj h
    subst ret
    exact TS_ret (by kernel_rfl) (by kernel_rfl) (by kernel_rfl)

/-- multihop/multihopref01.Append -/
noncomputable def F_ref01_Append_l1 (a1 : Int) (s4 : (List Int) × Int) : Option (((List Int) × Int) ⊕ ((List Int))) :=
  bif (decide (s4.2 ≥ 0)) then
    bif decide (0 ≤ (IntKind.wrap .u64 (8 * (IntKind.wrap .u64 s4.2)))) then
      (appO 1 s4.1 (Cut.app .whole ([IntKind.wrap .u8 (ishr .u64 a1 (IntKind.wrap .u64 (8 * (IntKind.wrap .u64 s4.2))))] : List Int))).bind fun l9 =>
      some (Sum.inl (l9, IntKind.wrap .i64 (s4.2 - 1)))
    else none
  else
    some (Sum.inr s4.1)
noncomputable def F_ref01_Append (a0 : List Int) (a1 : Int) (a2 : Int) : Option ((List Int)) :=
  (appO 1 ([] : List Int) (Cut.app .whole a0)).bind fun l1 =>
  bif (decide (a2 < 0)) then
    some (l1)
  else
    bif (decide (a2 > 8)) then
      some (l1)
    else
      (loopO (F_ref01_Append_l1 a1) (l1, IntKind.wrap .i64 (a2 - 1))).bind fun b5 =>
      some (b5)
set_option maxRecDepth 100000 in
set_option maxHeartbeats 40000000 in
theorem okT_ref01_Append (a0 : List Int) (a1 : Int) (a2 : Int) (r : (List Int)) (h : F_ref01_Append a0 a1 a2 = some r) : Con Try.prog 28 [.c (eS 1 (ecI .u8) (a0)), .c (.lit (.int .u64 (a1))), .c (.lit (.int .i64 (a2)))] [] (.c (.slc 1 900002 (List.length r) (List.map (ecI .u8) r))) [(900000, .spare 5 1 (List.length r))] := by
  unfold F_ref01_Append at h
  refine con_of [] [(900000, [])] 35 Try.func28 rfl rfl (by kernel_rfl) (fun K => ?_)
  refine TS_go 6 ?_
  refine TS_litNT 9 5 1 (ecI .u8) [] ([] : List Int) (by kernel_rfl) (by kernel_rfl) ?_
  refine TS_go 1 ?_
  replace h := bindO h
  obtain ⟨l1, hl1, h⟩ := h
  refine TS_appT (d := 9) (e := 5) (sz := 1) (N := List.length ([] : List Int)) (ecI .u8) (fun _ => by kernel_rfl) (l1 := ([] : List Int)) (l2 := a0) (c := .whole) hl1 (by kernel_rfl) (by kernel_rfl) ?_
  refine TS_go 8 ?_
  replace h := condO h
  rcases h with ⟨hb2, h⟩ | ⟨hb2, h⟩
  · refine TS_know 13 (b := true) hb2 (by kernel_rfl) (by kernel_rfl) ?_
    refine TS_know 14 (b := true) hb2 (by kernel_rfl) (by kernel_rfl) ?_
    refine TS_go 4 ?_
    refine TS_T (by kernel_rfl) rfl ?_
    refine TS_go 5 ?_
    refine TS_fitU ⟨[(6, [])], [(9, (900000, []))]⟩ (by kernel_rfl) ?_
    refine TS_go 2 ?_
    have ret := Option.some.inj h
    subst ret
    exact TS_ret (by kernel_rfl) (by kernel_rfl) (by kernel_rfl)
  · refine TS_know 13 (b := false) hb2 (by kernel_rfl) (by kernel_rfl) ?_
    refine TS_know 14 (b := false) hb2 (by kernel_rfl) (by kernel_rfl) ?_
    refine TS_go 4 ?_
    replace h := condO h
    rcases h with ⟨hb3, h⟩ | ⟨hb3, h⟩
    · refine TS_know 16 (b := true) hb3 (by kernel_rfl) (by kernel_rfl) ?_
      refine TS_know 17 (b := true) hb3 (by kernel_rfl) (by kernel_rfl) ?_
      refine TS_T (by kernel_rfl) rfl ?_
      refine TS_go 5 ?_
      refine TS_fitU ⟨[(6, [])], [(9, (900000, []))]⟩ (by kernel_rfl) ?_
      refine TS_go 2 ?_
      have ret := Option.some.inj h
      subst ret
      exact TS_ret (by kernel_rfl) (by kernel_rfl) (by kernel_rfl)
    · refine TS_know 16 (b := false) hb3 (by kernel_rfl) (by kernel_rfl) ?_
      refine TS_know 17 (b := false) hb3 (by kernel_rfl) (by kernel_rfl) ?_
      refine TS_F (by kernel_rfl) rfl ?_
      refine TS_go 9 ?_
      refine TS_cut ⟨[(1, []), (7, []), (8, [])], [(9, (9, []))]⟩ (.mk [.code (codeAt [1, 1, 1, 0, 1, 0] (bodyOf Try.f28)), .blk 0, .code (codeAt [1, 1, 1, 1] (bodyOf Try.f28))] .normal ⟨[(1, .c (.lit (.int .u64 (a1)))), (7, .c (.slc 1 11 (List.length l1) (List.map (ecI .u8) l1))), (8, .c (.lit (.int .i64 (IntKind.wrap .i64 (a2 - 1)))))], [(9, .spare 5 1 (List.length l1))]⟩) (by kernel_rfl) (by kernel_rfl) ?_
      replace h := bindO h
      obtain ⟨y6, hl1, hK1⟩ := h
      refine TS_loopB (F_ref01_Append_l1 a1) ⟨[(1, []), (7, []), (8, [])], [(9, (9, []))]⟩ (fun (s4 : (List Int) × Int) => [(7, .c (.slc 1 11 (List.length s4.1) (List.map (ecI .u8) s4.1))), (8, .c (.lit (.int .i64 (s4.2))))]) (fun (s4 : (List Int) × Int) => [(9, .spare 5 1 (List.length s4.1))]) (l1, IntKind.wrap .i64 (a2 - 1)) y6 (.exit 0) (fun (b : (List Int)) => b) ⟨[(7, [])], [(9, (9, []))]⟩ (fun (b5 : (List Int)) => [(7, .c (.slc 1 11 (List.length b5) (List.map (ecI .u8) b5)))]) (fun (b5 : (List Int)) => [(9, .spare 5 1 (List.length b5))]) hl1 (by kernel_rfl) (by kernel_rfl) ?_ ?_
      · intro s4 x h hy1
        unfold F_ref01_Append_l1 at h
        refine TS_go 6 ?_
        replace h := condO h
        rcases h with ⟨hb7, h⟩ | ⟨hb7, h⟩
        · refine TS_know 22 (b := true) hb7 (by kernel_rfl) (by kernel_rfl) ?_
          refine TS_T (by kernel_rfl) rfl ?_
          refine TS_go 9 ?_
          replace h := chkO h
          obtain ⟨hc8, h⟩ := h
          refine TS_num (op := .shr) (k := .u64) (k' := .u64) (m := a1) (i := IntKind.wrap .u64 (8 * (IntKind.wrap .u64 s4.2))) (of_decide_eq_true hc8) rfl (by simp) (by kernel_rfl) (by kernel_rfl) ?_
          refine TS_go 1 ?_
          refine TS_litNT 32 5 1 (ecI .u8) [] ([IntKind.wrap .u8 (ishr .u64 a1 (IntKind.wrap .u64 (8 * (IntKind.wrap .u64 s4.2))))] : List Int) (by kernel_rfl) (by kernel_rfl) ?_
          replace h := bindO h
          obtain ⟨_l9, hl9, h⟩ := h
          refine TS_appT (d := 9) (e := 5) (sz := 1) (N := List.length s4.1) (ecI .u8) (fun _ => by kernel_rfl) (l1 := s4.1) (l2 := ([IntKind.wrap .u8 (ishr .u64 a1 (IntKind.wrap .u64 (8 * (IntKind.wrap .u64 s4.2))))] : List Int)) (c := .whole) hl9 (by kernel_rfl) (by kernel_rfl) ?_
          refine TS_go 8 ?_
          have ret := Option.some.inj h
          subst ret
          exact TS_againB _ ⟨[(1, []), (7, []), (8, [])], [(9, (9, []))]⟩ rfl (by kernel_rfl) (by kernel_rfl)
        · refine TS_know 22 (b := false) hb7 (by kernel_rfl) (by kernel_rfl) ?_
          refine TS_F (by kernel_rfl) rfl ?_
          refine TS_go 2 ?_
          have ret := Option.some.inj h
          subst ret
          exact TS_brkB s4.1 ⟨[(7, [])], [(9, (9, []))]⟩ rfl (by kernel_rfl) (by kernel_rfl) (by kernel_rfl)
      · intro b5 hb
        subst y6
        have h := hK1
        refine TS_go 6 ?_
        refine TS_fitU ⟨[(6, [])], [(9, (900000, []))]⟩ (by kernel_rfl) ?_
        refine TS_go 1 ?_
        have ret := Option.some.inj h
        subst ret
        exact TS_ret (by kernel_rfl) (by kernel_rfl) (by kernel_rfl)
theorem ok_ref01_Append (a0 : List Int) (a1 : Int) (a2 : Int) (r : (List Int)) (h : F_ref01_Append a0 a1 a2 = some r) : Con Try.prog 28 [.c (eS 1 (ecI .u8) (a0)), .c (.lit (.int .u64 (a1))), .c (.lit (.int .i64 (a2)))] [] (.c (eS 1 (ecI .u8) (r))) [] :=
  con_drop [[2]] [] (okT_ref01_Append a0 a1 a2 r h) (by kernel_rfl) (by kernel_rfl) (by kernel_rfl)

/-- multihop/multihopref03.number -/
noncomputable def F_ref03_number_l1 (a0 : List Int) (s1 : Int × Int) : Option ((Int × Int) ⊕ (Int)) :=
  bif (decide (s1.2 ≥ 0)) then
    (idx a0 s1.2).bind fun e5 =>
    some (Sum.inl (IntKind.wrap .u64 ((ishl .u64 s1.1 8) + (IntKind.wrap .u64 e5)), IntKind.wrap .i64 (s1.2 - 1)))
  else
    some (Sum.inr s1.1)
noncomputable def F_ref03_number (a0 : List Int) : Option (Int) :=
  (loopO (F_ref03_number_l1 a0) (0, IntKind.wrap .i64 ((List.length a0 : Int) - 1))).bind fun b2 =>
  some (b2)
set_option maxRecDepth 100000 in
set_option maxHeartbeats 40000000 in
theorem ok_ref03_number (a0 : List Int) (r : Int) (h : F_ref03_number a0 = some r) : Con Try.prog 23 [.c (eS 1 (ecI .u8) (a0))] [] (.c (.lit (.int .u64 (r)))) [] := by
  unfold F_ref03_number at h
  refine con_of [] [] 21 Try.func23 rfl rfl (by kernel_rfl) (fun K => ?_)
  refine TS_go 17 ?_
  refine TS_cut ⟨[(0, []), (3, []), (4, [])], []⟩ (.mk [.code (codeAt [1, 1, 0, 1, 0] (bodyOf Try.f23)), .blk 0, .code (codeAt [1, 1, 1] (bodyOf Try.f23))] .normal ⟨[(0, .c (.slc 1 0 (List.length a0) (List.map (ecI .u8) a0))), (3, .c (.lit (.int .u64 (0)))), (4, .c (.lit (.int .i64 (IntKind.wrap .i64 ((List.length a0 : Int) - 1)))))], []⟩) (by kernel_rfl) (by kernel_rfl) ?_
  replace h := bindO h
  obtain ⟨y3, hl1, hK1⟩ := h
  refine TS_loopB (F_ref03_number_l1 a0) ⟨[(0, []), (3, []), (4, [])], []⟩ (fun (s1 : Int × Int) => [(3, .c (.lit (.int .u64 (s1.1)))), (4, .c (.lit (.int .i64 (s1.2))))]) (fun (s1 : Int × Int) => []) (0, IntKind.wrap .i64 ((List.length a0 : Int) - 1)) y3 (.exit 0) (fun (b : Int) => b) ⟨[(3, [])], []⟩ (fun (b2 : Int) => [(3, .c (.lit (.int .u64 (b2))))]) (fun (b2 : Int) => []) hl1 (by kernel_rfl) (by kernel_rfl) ?_ ?_
  · intro s1 x h hy1
    unfold F_ref03_number_l1 at h
    refine TS_go 6 ?_
    replace h := condO h
    rcases h with ⟨hb4, h⟩ | ⟨hb4, h⟩
    · refine TS_know 9 (b := true) hb4 (by kernel_rfl) (by kernel_rfl) ?_
      refine TS_T (by kernel_rfl) rfl ?_
      refine TS_go 8 ?_
      replace h := bindO h
      obtain ⟨_e5, he5, h⟩ := h
      refine TS_idx (ecI .u8) he5 (by kernel_rfl) (by kernel_rfl) ?_
      refine TS_go 11 ?_
      have ret := Option.some.inj h
      subst ret
      exact TS_againB _ ⟨[(0, []), (3, []), (4, [])], []⟩ rfl (by kernel_rfl) (by kernel_rfl)
    · refine TS_know 9 (b := false) hb4 (by kernel_rfl) (by kernel_rfl) ?_
      refine TS_F (by kernel_rfl) rfl ?_
      refine TS_go 2 ?_
      have ret := Option.some.inj h
      subst ret
      exact TS_brkB s1.1 ⟨[(3, [])], []⟩ rfl (by kernel_rfl) (by kernel_rfl) (by kernel_rfl)
  · intro b2 hb
    subst y3
    have h := hK1
    refine TS_go 7 ?_
    have ret := Option.some.inj h
    subst ret
    exact TS_ret (by kernel_rfl) (by kernel_rfl) (by kernel_rfl)

/-- multihop/multihopref03.rot -/
noncomputable def F_ref03_rot (a0 : Int) (a1 : Int) : Option (Int) :=
  bif decide (0 ≤ a1) then
    bif decide (0 ≤ (IntKind.wrap .u64 (64 - a1))) then
      some (ior .u64 (ishl .u64 a0 a1) (ishr .u64 a0 (IntKind.wrap .u64 (64 - a1))))
    else none
  else none
set_option maxRecDepth 100000 in
set_option maxHeartbeats 40000000 in
theorem ok_ref03_rot (a0 : Int) (a1 : Int) (r : Int) (h : F_ref03_rot a0 a1 = some r) : Con Try.prog 30 [.c (.lit (.int .u64 (a0))), .c (.lit (.int .u64 (a1)))] [] (.c (.lit (.int .u64 (r)))) [] := by
  unfold F_ref03_rot at h
  refine con_of [] [] 13 Try.func30 rfl rfl (by kernel_rfl) (fun K => ?_)
  refine TS_go 8 ?_
  replace h := chkO h
  obtain ⟨hc1, h⟩ := h
  refine TS_num (op := .shl) (k := .u64) (k' := .u64) (m := a0) (i := a1) (of_decide_eq_true hc1) rfl (by simp) (by kernel_rfl) (by kernel_rfl) ?_
  refine TS_go 3 ?_
  replace h := chkO h
  obtain ⟨hc2, h⟩ := h
  refine TS_num (op := .shr) (k := .u64) (k' := .u64) (m := a0) (i := IntKind.wrap .u64 (64 - a1)) (of_decide_eq_true hc2) rfl (by simp) (by kernel_rfl) (by kernel_rfl) ?_
  refine TS_go 4 ?_
  have ret := Option.some.inj h
  subst ret
  exact TS_ret (by kernel_rfl) (by kernel_rfl) (by kernel_rfl)

/-- (multihop/multihopref03.state).round -/
noncomputable def F_ref03_state_round (a0 : S_multihopref03_state) : Option (S_multihopref03_state) :=
  (F_ref03_rot a0.b 13).bind fun v1 =>
  (F_ref03_rot (IntKind.wrap .u64 (a0.a + a0.b)) 32).bind fun v2 =>
  (F_ref03_rot a0.d 16).bind fun v3 =>
  (F_ref03_rot (ixor .u64 v3 (IntKind.wrap .u64 (a0.c + a0.d))) 21).bind fun v4 =>
  (F_ref03_rot (ixor .u64 v1 (IntKind.wrap .u64 (a0.a + a0.b))) 17).bind fun v5 =>
  (F_ref03_rot (IntKind.wrap .u64 ((IntKind.wrap .u64 (a0.c + a0.d)) + (ixor .u64 v1 (IntKind.wrap .u64 (a0.a + a0.b))))) 32).bind fun v6 =>
  some ((S_multihopref03_state.mk (IntKind.wrap .u64 (v2 + (ixor .u64 v3 (IntKind.wrap .u64 (a0.c + a0.d))))) (ixor .u64 v5 (IntKind.wrap .u64 ((IntKind.wrap .u64 (a0.c + a0.d)) + (ixor .u64 v1 (IntKind.wrap .u64 (a0.a + a0.b)))))) v6 (ixor .u64 v4 (IntKind.wrap .u64 (v2 + (ixor .u64 v3 (IntKind.wrap .u64 (a0.c + a0.d))))))))
set_option maxRecDepth 100000 in
set_option maxHeartbeats 40000000 in
theorem ok_ref03_state_round (a0 : S_multihopref03_state) (r : S_multihopref03_state) (h : F_ref03_state_round a0 = some r) : Con Try.prog 25 [.agg (S_multihopref03_state.cs a0)] [] (.agg (S_multihopref03_state.cs r)) [] := by
  unfold F_ref03_state_round at h
  refine con_of [] [] 76 Try.func25 rfl rfl (by kernel_rfl) (fun K => ?_)
  refine TS_go 19 ?_
  replace h := bindO h
  obtain ⟨v1, hv1, h⟩ := h
  refine TS_call [] (ok_ref03_rot a0.b 13 v1 hv1) (by kernel_rfl) (by kernel_rfl) ?_
  refine TS_go 17 ?_
  replace h := bindO h
  obtain ⟨v2, hv2, h⟩ := h
  refine TS_call [] (ok_ref03_rot (IntKind.wrap .u64 (a0.a + a0.b)) 32 v2 hv2) (by kernel_rfl) (by kernel_rfl) ?_
  refine TS_go 17 ?_
  replace h := bindO h
  obtain ⟨v3, hv3, h⟩ := h
  refine TS_call [] (ok_ref03_rot a0.d 16 v3 hv3) (by kernel_rfl) (by kernel_rfl) ?_
  refine TS_go 27 ?_
  replace h := bindO h
  obtain ⟨v4, hv4, h⟩ := h
  refine TS_call [] (ok_ref03_rot (ixor .u64 v3 (IntKind.wrap .u64 (a0.c + a0.d))) 21 v4 hv4) (by kernel_rfl) (by kernel_rfl) ?_
  refine TS_go 27 ?_
  replace h := bindO h
  obtain ⟨v5, hv5, h⟩ := h
  refine TS_call [] (ok_ref03_rot (ixor .u64 v1 (IntKind.wrap .u64 (a0.a + a0.b))) 17 v5 hv5) (by kernel_rfl) (by kernel_rfl) ?_
  refine TS_go 17 ?_
  replace h := bindO h
  obtain ⟨v6, hv6, h⟩ := h
  refine TS_call [] (ok_ref03_rot (IntKind.wrap .u64 ((IntKind.wrap .u64 (a0.c + a0.d)) + (ixor .u64 v1 (IntKind.wrap .u64 (a0.a + a0.b))))) 32 v6 hv6) (by kernel_rfl) (by kernel_rfl) ?_
  refine TS_go 9 ?_
  have ret := Option.some.inj h
  subst ret
  exact TS_ret (by kernel_rfl) (by kernel_rfl) (by kernel_rfl)

/-- (multihop/multihopref03.state).word -/
noncomputable def F_ref03_state_word (a0 : S_multihopref03_state) (a1 : Int) : Option (S_multihopref03_state) :=
  (F_ref03_state_round (S_multihopref03_state.mk a0.a a0.b a0.c (ixor .u64 a0.d a1))).bind fun v1 =>
  (F_ref03_state_round v1).bind fun v2 =>
  some ((S_multihopref03_state.mk (ixor .u64 v2.a a1) v2.b v2.c v2.d))
set_option maxRecDepth 100000 in
set_option maxHeartbeats 40000000 in
theorem ok_ref03_state_word (a0 : S_multihopref03_state) (a1 : Int) (r : S_multihopref03_state) (h : F_ref03_state_word a0 a1 = some r) : Con Try.prog 24 [.agg (S_multihopref03_state.cs a0), .c (.lit (.int .u64 (a1)))] [] (.agg (S_multihopref03_state.cs r)) [] := by
  unfold F_ref03_state_word at h
  refine con_of [] [] 19 Try.func24 rfl rfl (by kernel_rfl) (fun K => ?_)
  refine TS_go 17 ?_
  replace h := bindO h
  obtain ⟨v1, hv1, h⟩ := h
  refine TS_call [] (ok_ref03_state_round (S_multihopref03_state.mk a0.a a0.b a0.c (ixor .u64 a0.d a1)) v1 hv1) (by kernel_rfl) (by kernel_rfl) ?_
  replace h := bindO h
  obtain ⟨v2, hv2, h⟩ := h
  refine TS_call [] (ok_ref03_state_round v1 v2 hv2) (by kernel_rfl) (by kernel_rfl) ?_
  refine TS_go 17 ?_
  have ret := Option.some.inj h
  subst ret
  exact TS_ret (by kernel_rfl) (by kernel_rfl) (by kernel_rfl)

/-- multihop/multihopref03.Sum -/
noncomputable def F_ref03_Sum_l1 (a1 : List Int) (s3 : Int × S_multihopref03_state) : Option ((Int × S_multihopref03_state) ⊕ (Int × S_multihopref03_state)) :=
  bif (decide ((IntKind.wrap .i64 (s3.1 + 8)) ≤ (List.length a1 : Int))) then
    (subO a1 s3.1 (IntKind.wrap .i64 (s3.1 + 8))).bind fun l7 =>
    (F_ref03_number l7).bind fun v8 =>
    (F_ref03_state_word s3.2 v8).bind fun v9 =>
    some (Sum.inl (IntKind.wrap .i64 (s3.1 + 8), v9))
  else
    some (Sum.inr (s3.1, s3.2))
noncomputable def F_ref03_Sum (a0 : List Int) (a1 : List Int) : Option (Int) :=
  (F_ref03_number (arrL 8 a0)).bind fun v1 =>
  (F_ref03_number ([(a0.getD 8 0), (a0.getD 9 0), (a0.getD 10 0), (a0.getD 11 0), (a0.getD 12 0), (a0.getD 13 0), (a0.getD 14 0), (a0.getD 15 0)] : List Int)).bind fun v2 =>
  (loopO (F_ref03_Sum_l1 a1) (0, (S_multihopref03_state.mk (ixor .u64 v1 8317987319222330741) (ixor .u64 v2 7237128888997146477) (ixor .u64 v1 7816392313619706465) (ixor .u64 v2 8387220255154660723)))).bind fun b4 =>
  (subO a1 b4.1 (List.length a1 : Int)).bind fun l11 =>
  (F_ref03_number l11).bind fun v12 =>
  (F_ref03_state_word b4.2 (IntKind.wrap .u64 (v12 + (ishl .u64 (IntKind.wrap .u64 (Int.tmod (List.length a1 : Int) 256)) 56)))).bind fun v13 =>
  (F_ref03_state_round (S_multihopref03_state.mk v13.a v13.b (ixor .u64 v13.c 255) v13.d)).bind fun v14 =>
  (F_ref03_state_round v14).bind fun v15 =>
  (F_ref03_state_round v15).bind fun v16 =>
  (F_ref03_state_round v16).bind fun v17 =>
  some (ixor .u64 (ixor .u64 (ixor .u64 v17.a v17.b) v17.c) v17.d)
set_option maxRecDepth 100000 in
set_option maxHeartbeats 40000000 in
theorem ok_ref03_Sum (a0 : List Int) (a1 : List Int) (r : Int) (h : F_ref03_Sum a0 a1 = some r) : Con Try.prog 10 [.agg (arrS .u8 16 a0), .c (eS 1 (ecI .u8) (a1))] [] (.c (.lit (.int .u64 (r)))) [] := by
  unfold F_ref03_Sum at h
  refine con_of [] [] 69 Try.func10 rfl rfl (by kernel_rfl) (fun K => ?_)
  refine TS_go 6 ?_
  refine TS_draw (by kernel_rfl) ?_
  refine TD_win 2 0 16 (a := 0) (b := 8) (by decide) (by decide) (by kernel_rfl) (by kernel_rfl) ?_
  replace h := bindO h
  obtain ⟨v1, hv1, h⟩ := h
  refine TD_callF [] (ok_ref03_number (arrL 8 a0) v1 hv1) (by kernel_rfl) (by kernel_rfl) ?_
  refine TD_win 2 0 16 (a := 8) (b := 16) (by decide) (by decide) (by kernel_rfl) (by kernel_rfl) ?_
  replace h := bindO h
  obtain ⟨v2, hv2, h⟩ := h
  refine TD_callF [] (ok_ref03_number ([(a0.getD 8 0), (a0.getD 9 0), (a0.getD 10 0), (a0.getD 11 0), (a0.getD 12 0), (a0.getD 13 0), (a0.getD 14 0), (a0.getD 15 0)] : List Int) v2 hv2) (by kernel_rfl) (by kernel_rfl) ?_
  refine TD_go 2 ?_
  refine TD_end (by kernel_rfl) ?_
  refine TS_go 20 ?_
  refine TS_cut ⟨[(1, []), (7, []), (8, [])], [(7, (7, []))]⟩ (.mk [.code (codeAt [1, 1, 1, 1, 0, 0] (bodyOf Try.f10)), .blk 0, .code (codeAt [1, 1, 1, 1, 1] (bodyOf Try.f10))] .normal ⟨[(1, .c (.slc 1 0 (List.length a1) (List.map (ecI .u8) a1))), (7, .c (.box 7 0)), (8, .c (.lit (.int .i64 (0))))], [(7, .box [.lit (.int .u64 (ixor .u64 v1 8317987319222330741)), .lit (.int .u64 (ixor .u64 v2 7237128888997146477)), .lit (.int .u64 (ixor .u64 v1 7816392313619706465)), .lit (.int .u64 (ixor .u64 v2 8387220255154660723))])]⟩) (by kernel_rfl) (by kernel_rfl) ?_
  replace h := bindO h
  obtain ⟨y5, hl1, hK1⟩ := h
  refine TS_loopB (F_ref03_Sum_l1 a1) ⟨[(1, []), (7, []), (8, [])], [(7, (7, []))]⟩ (fun (s3 : Int × S_multihopref03_state) => [(8, .c (.lit (.int .i64 (s3.1))))]) (fun (s3 : Int × S_multihopref03_state) => [(7, .box (S_multihopref03_state.cs s3.2))]) (0, (S_multihopref03_state.mk (ixor .u64 v1 8317987319222330741) (ixor .u64 v2 7237128888997146477) (ixor .u64 v1 7816392313619706465) (ixor .u64 v2 8387220255154660723))) y5 (.exit 0) (fun (b : Int × S_multihopref03_state) => b) ⟨[(1, []), (7, []), (8, [])], [(7, (7, []))]⟩ (fun (b4 : Int × S_multihopref03_state) => [(8, .c (.lit (.int .i64 (b4.1))))]) (fun (b4 : Int × S_multihopref03_state) => [(7, .box (S_multihopref03_state.cs b4.2))]) hl1 (by kernel_rfl) (by kernel_rfl) ?_ ?_
  · intro s3 x h hy1
    unfold F_ref03_Sum_l1 at h
    refine TS_go 9 ?_
    replace h := condO h
    rcases h with ⟨hb6, h⟩ | ⟨hb6, h⟩
    · refine TS_know 26 (b := true) hb6 (by kernel_rfl) (by kernel_rfl) ?_
      refine TS_T (by kernel_rfl) rfl ?_
      refine TS_go 3 ?_
      refine TS_draw (by kernel_rfl) ?_
      refine TD_go 5 ?_
      replace h := bindO h
      obtain ⟨l7, hl7, h⟩ := h
      refine TD_sub (ecI .u8) 1 hl7 (by kernel_rfl) (by kernel_rfl) ?_
      replace h := bindO h
      obtain ⟨v8, hv8, h⟩ := h
      refine TD_call [] (ok_ref03_number l7 v8 hv8) (by kernel_rfl) (by kernel_rfl) ?_
      replace h := bindO h
      obtain ⟨v9, hv9, h⟩ := h
      refine TD_call [] (ok_ref03_state_word s3.2 v8 v9 hv9) (by kernel_rfl) (by kernel_rfl) ?_
      refine TD_go 1 ?_
      refine TD_end (by kernel_rfl) ?_
      refine TS_go 6 ?_
      have ret := Option.some.inj h
      subst ret
      exact TS_againB _ ⟨[(1, []), (7, []), (8, [])], [(7, (7, []))]⟩ rfl (by kernel_rfl) (by kernel_rfl)
    · refine TS_know 26 (b := false) hb6 (by kernel_rfl) (by kernel_rfl) ?_
      refine TS_F (by kernel_rfl) rfl ?_
      refine TS_go 2 ?_
      have ret := Option.some.inj h
      subst ret
      exact TS_brkB (s3.1, s3.2) ⟨[(1, []), (7, []), (8, [])], [(7, (7, []))]⟩ rfl (by kernel_rfl) (by kernel_rfl) (by kernel_rfl)
  · intro b4 hb
    subst y5
    have h := hK1
    refine TS_go 2 ?_
    refine TS_draw (by kernel_rfl) ?_
    refine TD_go 3 ?_
    replace h := bindO h
    obtain ⟨l11, hl11, h⟩ := h
    refine TD_sub (ecI .u8) 1 hl11 (by kernel_rfl) (by kernel_rfl) ?_
    replace h := bindO h
    obtain ⟨v12, hv12, h⟩ := h
    refine TD_call [] (ok_ref03_number l11 v12 hv12) (by kernel_rfl) (by kernel_rfl) ?_
    refine TD_go 6 ?_
    replace h := bindO h
    obtain ⟨v13, hv13, h⟩ := h
    refine TD_call [] (ok_ref03_state_word b4.2 (IntKind.wrap .u64 (v12 + (ishl .u64 (IntKind.wrap .u64 (Int.tmod (List.length a1 : Int) 256)) 56))) v13 hv13) (by kernel_rfl) (by kernel_rfl) ?_
    refine TD_go 1 ?_
    refine TD_end (by kernel_rfl) ?_
    refine TS_go 11 ?_
    replace h := bindO h
    obtain ⟨v14, hv14, h⟩ := h
    refine TS_call [] (ok_ref03_state_round (S_multihopref03_state.mk v13.a v13.b (ixor .u64 v13.c 255) v13.d) v14 hv14) (by kernel_rfl) (by kernel_rfl) ?_
    replace h := bindO h
    obtain ⟨v15, hv15, h⟩ := h
    refine TS_call [] (ok_ref03_state_round v14 v15 hv15) (by kernel_rfl) (by kernel_rfl) ?_
    replace h := bindO h
    obtain ⟨v16, hv16, h⟩ := h
    refine TS_call [] (ok_ref03_state_round v15 v16 hv16) (by kernel_rfl) (by kernel_rfl) ?_
    replace h := bindO h
    obtain ⟨v17, hv17, h⟩ := h
    refine TS_call [] (ok_ref03_state_round v16 v17 hv17) (by kernel_rfl) (by kernel_rfl) ?_
    refine TS_go 18 ?_
    have ret := Option.some.inj h
    subst ret
    exact TS_ret (by kernel_rfl) (by kernel_rfl) (by kernel_rfl)

/-- multihop/multihopref03.Derive -/
noncomputable def F_ref03_Derive_l2 (s1 : Int × (List Int)) (v9 : Int) (s10 : Int × (List Int)) : Option ((Int × (List Int)) ⊕ ((List Int))) :=
  bif (decide (s10.1 < 8)) then
    bif decide (0 ≤ (IntKind.wrap .u64 (8 * (IntKind.wrap .u64 s10.1)))) then
      bif decide ((0 : Int) ≤ (IntKind.wrap .i64 ((IntKind.wrap .i64 (8 * s1.1)) + s10.1)) ∧ (IntKind.wrap .i64 ((IntKind.wrap .i64 (8 * s1.1)) + s10.1)) < (16 : Int)) then
        some (Sum.inl (IntKind.wrap .i64 (s10.1 + 1), (setA 16 s10.2 (Int.toNat (IntKind.wrap .i64 ((IntKind.wrap .i64 (8 * s1.1)) + s10.1))) (IntKind.wrap .u8 (ishr .u64 v9 (IntKind.wrap .u64 (8 * (IntKind.wrap .u64 s10.1))))))))
      else none
    else none
  else
    some (Sum.inr s10.2)
noncomputable def F_ref03_Derive_l1 (a1 : List UInt8) (a2 : Int) (a0 : List Int) (s1 : Int × (List Int)) : Option ((Int × (List Int)) ⊕ ((List Int))) :=
  bif (decide (s1.1 < 2)) then
    bif decide (List.length a1 ≤ maxLen) then
      (appO 1 (i8L a1) (Cut.app .whole ([0] : List Int))).bind fun l6 =>
      (F_ref01_Append l6 a2 8).bind fun v7 =>
      (appO 1 v7 (Cut.app .whole ([IntKind.wrap .u8 s1.1] : List Int))).bind fun l8 =>
      (F_ref03_Sum a0 l8).bind fun v9 =>
      (loopO (F_ref03_Derive_l2 s1 v9) (0, s1.2)).bind fun b11 =>
      some (Sum.inl (IntKind.wrap .i64 (s1.1 + 1), b11))
    else none
  else
    some (Sum.inr s1.2)
noncomputable def F_ref03_Derive (a0 : List Int) (a1 : List UInt8) (a2 : Int) : Option ((List Int)) :=
  (loopO (F_ref03_Derive_l1 a1 a2 a0) (0, [0, 0, 0, 0, 0, 0, 0, 0, 0, 0, 0, 0, 0, 0, 0, 0])).bind fun b2 =>
  some (b2)
set_option maxRecDepth 100000 in
set_option maxHeartbeats 40000000 in
theorem ok_ref03_Derive (a0 : List Int) (a1 : List UInt8) (a2 : Int) (r : (List Int)) (h : F_ref03_Derive a0 a1 a2 = some r) : Con Try.prog 18 [.agg (arrS .u8 16 a0), .c (.lit (.string (bs8 a1))), .c (.lit (.int .u64 (a2)))] [] (.agg (arrS .u8 16 r)) [] := by
  unfold F_ref03_Derive at h
  refine con_of [] [] 45 Try.func18 rfl rfl (by kernel_rfl) (fun K => ?_)
  refine TS_go 15 ?_
  refine TS_cut ⟨[(1, []), (2, []), (3, []), (6, []), (7, []), (8, [])], [(3, (3, [])), (6, (6, [])), (7, (7, []))]⟩ (.mk [.code (codeAt [1, 1, 0, 1, 0] (bodyOf Try.f18)), .blk 0, .code (codeAt [1, 1, 1] (bodyOf Try.f18))] .normal ⟨[(1, .c (.lit (.string (bs8 a1)))), (2, .c (.lit (.int .u64 (a2)))), (3, .c (.box 3 0)), (6, .c (.box 6 0)), (7, .c (.box 7 0)), (8, .c (.lit (.int .i64 (0))))], [(3, .box [.lit (.int .u8 ((a0.getD 0 0))), .lit (.int .u8 ((a0.getD 1 0))), .lit (.int .u8 ((a0.getD 2 0))), .lit (.int .u8 ((a0.getD 3 0))), .lit (.int .u8 ((a0.getD 4 0))), .lit (.int .u8 ((a0.getD 5 0))), .lit (.int .u8 ((a0.getD 6 0))), .lit (.int .u8 ((a0.getD 7 0))), .lit (.int .u8 ((a0.getD 8 0))), .lit (.int .u8 ((a0.getD 9 0))), .lit (.int .u8 ((a0.getD 10 0))), .lit (.int .u8 ((a0.getD 11 0))), .lit (.int .u8 ((a0.getD 12 0))), .lit (.int .u8 ((a0.getD 13 0))), .lit (.int .u8 ((a0.getD 14 0))), .lit (.int .u8 ((a0.getD 15 0)))]), (6, .box [.lit (.int .u8 (0)), .lit (.int .u8 (0)), .lit (.int .u8 (0)), .lit (.int .u8 (0)), .lit (.int .u8 (0)), .lit (.int .u8 (0)), .lit (.int .u8 (0)), .lit (.int .u8 (0)), .lit (.int .u8 (0)), .lit (.int .u8 (0)), .lit (.int .u8 (0)), .lit (.int .u8 (0)), .lit (.int .u8 (0)), .lit (.int .u8 (0)), .lit (.int .u8 (0)), .lit (.int .u8 (0))]), (7, .box [.lit (.int .u8 (0)), .lit (.int .u8 (0)), .lit (.int .u8 (0)), .lit (.int .u8 (0)), .lit (.int .u8 (0)), .lit (.int .u8 (0)), .lit (.int .u8 (0)), .lit (.int .u8 (0)), .lit (.int .u8 (0)), .lit (.int .u8 (0)), .lit (.int .u8 (0)), .lit (.int .u8 (0)), .lit (.int .u8 (0)), .lit (.int .u8 (0)), .lit (.int .u8 (0)), .lit (.int .u8 (0))])]⟩) (by kernel_rfl) (by kernel_rfl) ?_
  replace h := bindO h
  obtain ⟨y3, hl1, hK1⟩ := h
  refine TS_loopB (F_ref03_Derive_l1 a1 a2 a0) ⟨[(1, []), (2, []), (3, []), (6, []), (7, []), (8, [])], [(3, (3, [])), (6, (6, [])), (7, (7, []))]⟩ (fun (s1 : Int × (List Int)) => [(8, .c (.lit (.int .i64 (s1.1))))]) (fun (s1 : Int × (List Int)) => [(7, .box (arrS .u8 16 s1.2))]) (0, [0, 0, 0, 0, 0, 0, 0, 0, 0, 0, 0, 0, 0, 0, 0, 0]) y3 (.exit 0) (fun (b : (List Int)) => b) ⟨[(6, []), (7, [])], [(6, (6, [])), (7, (7, []))]⟩ (fun (b2 : (List Int)) => []) (fun (b2 : (List Int)) => [(7, .box (arrS .u8 16 b2))]) hl1 (by kernel_rfl) (by kernel_rfl) ?_ ?_
  · intro s1 x h hy1
    unfold F_ref03_Derive_l1 at h
    refine TS_go 6 ?_
    replace h := condO h
    rcases h with ⟨hb4, h⟩ | ⟨hb4, h⟩
    · refine TS_know 13 (b := true) hb4 (by kernel_rfl) (by kernel_rfl) ?_
      refine TS_T (by kernel_rfl) rfl ?_
      refine TS_go 6 ?_
      replace h := chkO h
      obtain ⟨hc5, h⟩ := h
      refine TS_s2bT 17 5 1 a1 hc5 rfl (by kernel_rfl) (by kernel_rfl) ?_
      refine TS_litNT 18 5 1 (ecI .u8) [] ([0] : List Int) (by kernel_rfl) (by kernel_rfl) ?_
      replace h := bindO h
      obtain ⟨l6, hl6, h⟩ := h
      refine TS_appT (d := 17) (e := 5) (sz := 1) (N := List.length (i8L a1)) (ecI .u8) (fun _ => by kernel_rfl) (l1 := (i8L a1)) (l2 := ([0] : List Int)) (c := .whole) hl6 (by kernel_rfl) (by kernel_rfl) ?_
      refine TS_go 1 ?_
      replace h := bindO h
      obtain ⟨v7, hv7, h⟩ := h
      refine TS_con [[2]] [(21, 900000)] none (okT_ref01_Append l6 a2 8 v7 hv7) (by kernel_rfl) (by kernel_rfl) (by kernel_rfl) ?_
      refine TS_go 3 ?_
      refine TS_draw (by kernel_rfl) ?_
      refine TD_go 4 ?_
      refine TD_litNT 26 5 1 (ecI .u8) [] ([IntKind.wrap .u8 s1.1] : List Int) (by kernel_rfl) (by kernel_rfl) ?_
      replace h := bindO h
      obtain ⟨l8, hl8, h⟩ := h
      refine TD_appT (d := 21) (e := 5) (sz := 1) (N := List.length v7) (ecI .u8) (fun _ => by kernel_rfl) (l1 := v7) (l2 := ([IntKind.wrap .u8 s1.1] : List Int)) (c := .whole) hl8 (by kernel_rfl) (by kernel_rfl) ?_
      replace h := bindO h
      obtain ⟨v9, hv9, h⟩ := h
      refine TD_call [[], [2]] (ok_ref03_Sum a0 l8 v9 hv9) (by kernel_rfl) (by kernel_rfl) ?_
      refine TD_go 1 ?_
      refine TD_end (by kernel_rfl) ?_
      refine TS_go 5 ?_
      refine TS_cut ⟨[(1, []), (2, []), (3, []), (6, []), (7, []), (8, []), (10, []), (11, [])], [(3, (3, [])), (6, (6, [])), (7, (7, []))]⟩ (.mk [.code (codeAt [1, 1, 0, 1, 0, 0, 1, 0, 0, 1, 1, 1, 0] (bodyOf Try.f18)), .blk 2, .blk 1, .code (codeAt [1, 1, 0, 1, 0, 0, 1, 1] (bodyOf Try.f18))] .normal ⟨[(1, .c (.lit (.string (bs8 a1)))), (2, .c (.lit (.int .u64 (a2)))), (3, .c (.box 3 0)), (6, .c (.box 6 0)), (7, .c (.box 7 0)), (8, .c (.lit (.int .i64 (s1.1)))), (10, .c (.lit (.int .u64 (v9)))), (11, .c (.lit (.int .i64 (0))))], [(3, .box [.lit (.int .u8 ((a0.getD 0 0))), .lit (.int .u8 ((a0.getD 1 0))), .lit (.int .u8 ((a0.getD 2 0))), .lit (.int .u8 ((a0.getD 3 0))), .lit (.int .u8 ((a0.getD 4 0))), .lit (.int .u8 ((a0.getD 5 0))), .lit (.int .u8 ((a0.getD 6 0))), .lit (.int .u8 ((a0.getD 7 0))), .lit (.int .u8 ((a0.getD 8 0))), .lit (.int .u8 ((a0.getD 9 0))), .lit (.int .u8 ((a0.getD 10 0))), .lit (.int .u8 ((a0.getD 11 0))), .lit (.int .u8 ((a0.getD 12 0))), .lit (.int .u8 ((a0.getD 13 0))), .lit (.int .u8 ((a0.getD 14 0))), .lit (.int .u8 ((a0.getD 15 0)))]), (6, .box [.lit (.int .u8 (0)), .lit (.int .u8 (0)), .lit (.int .u8 (0)), .lit (.int .u8 (0)), .lit (.int .u8 (0)), .lit (.int .u8 (0)), .lit (.int .u8 (0)), .lit (.int .u8 (0)), .lit (.int .u8 (0)), .lit (.int .u8 (0)), .lit (.int .u8 (0)), .lit (.int .u8 (0)), .lit (.int .u8 (0)), .lit (.int .u8 (0)), .lit (.int .u8 (0)), .lit (.int .u8 (0))]), (7, .box [.lit (.int .u8 ((s1.2.getD 0 0))), .lit (.int .u8 ((s1.2.getD 1 0))), .lit (.int .u8 ((s1.2.getD 2 0))), .lit (.int .u8 ((s1.2.getD 3 0))), .lit (.int .u8 ((s1.2.getD 4 0))), .lit (.int .u8 ((s1.2.getD 5 0))), .lit (.int .u8 ((s1.2.getD 6 0))), .lit (.int .u8 ((s1.2.getD 7 0))), .lit (.int .u8 ((s1.2.getD 8 0))), .lit (.int .u8 ((s1.2.getD 9 0))), .lit (.int .u8 ((s1.2.getD 10 0))), .lit (.int .u8 ((s1.2.getD 11 0))), .lit (.int .u8 ((s1.2.getD 12 0))), .lit (.int .u8 ((s1.2.getD 13 0))), .lit (.int .u8 ((s1.2.getD 14 0))), .lit (.int .u8 ((s1.2.getD 15 0)))])]⟩) (by kernel_rfl) (by kernel_rfl) ?_
      replace h := bindO h
      obtain ⟨y12, hl2, hK2⟩ := h
      refine TS_loopB (F_ref03_Derive_l2 s1 v9) ⟨[(1, []), (2, []), (3, []), (6, []), (7, []), (8, []), (10, []), (11, [])], [(3, (3, [])), (6, (6, [])), (7, (7, []))]⟩ (fun (s10 : Int × (List Int)) => [(11, .c (.lit (.int .i64 (s10.1))))]) (fun (s10 : Int × (List Int)) => [(7, .box (arrS .u8 16 s10.2))]) (0, s1.2) y12 (.exit 2) (fun (b : (List Int)) => b) ⟨[(1, []), (2, []), (3, []), (6, []), (7, []), (8, [])], [(3, (3, [])), (6, (6, [])), (7, (7, []))]⟩ (fun (b11 : (List Int)) => []) (fun (b11 : (List Int)) => [(7, .box (arrS .u8 16 b11))]) hl2 (by kernel_rfl) (by kernel_rfl) ?_ ?_
      · intro s10 x h hy2
        unfold F_ref03_Derive_l2 at h
        refine TS_go 6 ?_
        replace h := condO h
        rcases h with ⟨hb13, h⟩ | ⟨hb13, h⟩
        · refine TS_know 30 (b := true) hb13 (by kernel_rfl) (by kernel_rfl) ?_
          refine TS_T (by kernel_rfl) rfl ?_
          refine TS_go 12 ?_
          replace h := chkO h
          obtain ⟨hc14, h⟩ := h
          refine TS_num (op := .shr) (k := .u64) (k' := .u64) (m := v9) (i := IntKind.wrap .u64 (8 * (IntKind.wrap .u64 s10.1))) (of_decide_eq_true hc14) rfl (by simp) (by kernel_rfl) (by kernel_rfl) ?_
          refine TS_go 1 ?_
          replace h := chkO h
          obtain ⟨hc15, h⟩ := h
          refine TS_idxA 7 0 16 (i := IntKind.wrap .i64 ((IntKind.wrap .i64 (8 * s1.1)) + s10.1)) hc15 (by kernel_rfl) (by kernel_rfl) ?_
          refine TS_stA (k := .u8) (d := 7) 0 16 (i := IntKind.wrap .i64 ((IntKind.wrap .i64 (8 * s1.1)) + s10.1)) (v := IntKind.wrap .u8 (ishr .u64 v9 (IntKind.wrap .u64 (8 * (IntKind.wrap .u64 s10.1))))) s10.2 (pre := []) (post := []) hc15 (by kernel_rfl) (by kernel_rfl) (by kernel_rfl) ?_
          refine TS_go 7 ?_
          have ret := Option.some.inj h
          subst ret
          exact TS_againB _ ⟨[(1, []), (2, []), (3, []), (6, []), (7, []), (8, []), (10, []), (11, [])], [(3, (3, [])), (6, (6, [])), (7, (7, []))]⟩ rfl (by kernel_rfl) (by kernel_rfl)
        · refine TS_know 30 (b := false) hb13 (by kernel_rfl) (by kernel_rfl) ?_
          refine TS_F (by kernel_rfl) rfl ?_
          refine TS_go 2 ?_
          have ret := Option.some.inj h
          subst ret
          exact TS_brkB s10.2 ⟨[(1, []), (2, []), (3, []), (6, []), (7, []), (8, [])], [(3, (3, [])), (6, (6, [])), (7, (7, []))]⟩ rfl (by kernel_rfl) (by kernel_rfl) (by kernel_rfl)
      · intro b11 hb
        subst y12
        have h := hK2
        refine TS_go 7 ?_
        have ret := Option.some.inj h
        subst ret
        exact TS_againB _ ⟨[(1, []), (2, []), (3, []), (6, []), (7, []), (8, [])], [(3, (3, [])), (6, (6, [])), (7, (7, []))]⟩ rfl (by kernel_rfl) (by kernel_rfl)
    · refine TS_know 13 (b := false) hb4 (by kernel_rfl) (by kernel_rfl) ?_
      refine TS_F (by kernel_rfl) rfl ?_
      refine TS_go 2 ?_
      have ret := Option.some.inj h
      subst ret
      exact TS_brkB s1.2 ⟨[(6, []), (7, [])], [(6, (6, [])), (7, (7, []))]⟩ rfl (by kernel_rfl) (by kernel_rfl) (by kernel_rfl)
  · intro b2 hb
    subst y3
    have h := hK1
    refine TS_go 7 ?_
    have ret := Option.some.inj h
    subst ret
    exact TS_ret (by kernel_rfl) (by kernel_rfl) (by kernel_rfl)

/-- multihop/multihoplaw03.SiphashDerives -/
noncomputable def F_law03_SiphashDerives (a0 : List Int) (a1 : List UInt8) (a2 : Int) : Option (Bool) :=
  (F_law03_known ).bind fun v1 =>
  bif v1 then
    (F_siphash_Derive a0 a1 a2).bind fun v3 =>
    (F_ref03_Derive a0 a1 a2).bind fun v4 =>
    some ((arrEq 16 v3 v4))
  else
    some (false)
set_option maxRecDepth 100000 in
set_option maxHeartbeats 40000000 in
theorem ok_law03_SiphashDerives (a0 : List Int) (a1 : List UInt8) (a2 : Int) (r : Bool) (h : F_law03_SiphashDerives a0 a1 a2 = some r) : Con Try.prog 7 [.agg (arrS .u8 16 a0), .c (.lit (.string (bs8 a1))), .c (.lit (.int .u64 (a2)))] [] (.c (.lit (.bool (r)))) [] := by
  unfold F_law03_SiphashDerives at h
  refine con_of [] [] 19 Try.func7 rfl rfl (by kernel_rfl) (fun K => ?_)
  refine TS_go 6 ?_
  refine TS_draw (by kernel_rfl) ?_
  replace h := bindO h
  obtain ⟨v1, hv1, h⟩ := h
  refine TD_call [] (ok_law03_known  v1 hv1) (by kernel_rfl) (by kernel_rfl) ?_
  refine TD_go 1 ?_
  replace h := condO h
  rcases h with ⟨hb2, h⟩ | ⟨hb2, h⟩
  · subst hb2
    refine TD_go 3 ?_
    replace h := bindO h
    obtain ⟨v3, hv3, h⟩ := h
    refine TD_call [] (ok_siphash_Derive a0 a1 a2 v3 hv3) (by kernel_rfl) (by kernel_rfl) ?_
    refine TD_go 3 ?_
    replace h := bindO h
    obtain ⟨v4, hv4, h⟩ := h
    refine TD_call [] (ok_ref03_Derive a0 a1 a2 v4 hv4) (by kernel_rfl) (by kernel_rfl) ?_
    refine TD_go 3 ?_
    refine TD_end (by kernel_rfl) ?_
    refine TS_go 1 ?_
    have ret := Option.some.inj h
    subst ret
    exact TS_ret (by kernel_rfl) (by kernel_rfl) (by kernel_rfl)
  · subst hb2
    refine TD_go 11 ?_
    refine TD_end (by kernel_rfl) ?_
    refine TS_go 1 ?_
    have ret := Option.some.inj h
    subst ret
    exact TS_ret (by kernel_rfl) (by kernel_rfl) (by kernel_rfl)

/-- multihop/siphash.Tag -/
noncomputable def F_siphash_Tag_l1 (a2 : Int) (v3 : Int) (s5 : Int × (List Int)) : Option ((Int × (List Int)) ⊕ ((List Int))) :=
  bif (decide (s5.1 < a2)) then
    bif decide (0 ≤ (IntKind.wrap .i64 (8 * s5.1))) then
      (idx (Cut.app .whole s5.2) s5.1).bind fun _e10 =>
      (s5.2[(0 + Int.toNat s5.1)]?).bind fun _e11 =>
      some (Sum.inl (IntKind.wrap .i64 (s5.1 + 1), (List.set s5.2 (0 + Int.toNat s5.1) (IntKind.wrap .u8 (ishr .u64 v3 (IntKind.wrap .i64 (8 * s5.1)))))))
    else none
  else
    some (Sum.inr s5.2)
noncomputable def F_siphash_Tag (a0 : List Int) (a1 : List Int) (a2 : Int) : Option ((List Int) × Bool) :=
  bif (decide (a2 < 1)) then
    some ((([] : List Int), false))
  else
    bif (decide (a2 > 8)) then
      some ((([] : List Int), false))
    else
      (F_siphash_Sum a0 a1).bind fun v3 =>
      (mkO 1 a2 a2).bind fun n4 =>
      (loopO (F_siphash_Tag_l1 a2 v3) (0, (List.replicate n4 (0 : Int)))).bind fun b6 =>
      some ((b6, true))
set_option maxRecDepth 100000 in
set_option maxHeartbeats 40000000 in
theorem okT_siphash_Tag (a0 : List Int) (a1 : List Int) (a2 : Int) (r : (List Int) × Bool) (h : F_siphash_Tag a0 a1 a2 = some r) : Con Try.prog 12 [.agg (arrS .u8 16 a0), .c (eS 1 (ecI .u8) (a1)), .c (.lit (.int .i64 (a2)))] [] (.tup [(false, [.slc 1 900002 (List.length r.1) (List.map (ecI .u8) r.1)]), (false, [.lit (.bool (r.2))])]) [(900000, .spare 5 1 (List.length r.1))] := by
  unfold F_siphash_Tag at h
  refine con_of [] [(900000, [])] 36 Try.func12 rfl rfl (by kernel_rfl) (fun K => ?_)
  refine TS_go 12 ?_
  replace h := condO h
  rcases h with ⟨hb1, h⟩ | ⟨hb1, h⟩
  · refine TS_know 12 (b := true) hb1 (by kernel_rfl) (by kernel_rfl) ?_
    refine TS_know 13 (b := true) hb1 (by kernel_rfl) (by kernel_rfl) ?_
    refine TS_go 4 ?_
    refine TS_T (by kernel_rfl) rfl ?_
    refine TS_go 5 ?_
    refine TS_nilT 6 600000 5 1 (by kernel_rfl) ?_
    refine TS_fitU ⟨[(6, []), (7, [])], [(600000, (900000, []))]⟩ (by kernel_rfl) ?_
    refine TS_go 2 ?_
    have ret := Option.some.inj h
    subst ret
    exact TS_ret (by kernel_rfl) (by kernel_rfl) (by kernel_rfl)
  · refine TS_know 12 (b := false) hb1 (by kernel_rfl) (by kernel_rfl) ?_
    refine TS_know 13 (b := false) hb1 (by kernel_rfl) (by kernel_rfl) ?_
    refine TS_go 4 ?_
    replace h := condO h
    rcases h with ⟨hb2, h⟩ | ⟨hb2, h⟩
    · refine TS_know 15 (b := true) hb2 (by kernel_rfl) (by kernel_rfl) ?_
      refine TS_know 16 (b := true) hb2 (by kernel_rfl) (by kernel_rfl) ?_
      refine TS_T (by kernel_rfl) rfl ?_
      refine TS_go 5 ?_
      refine TS_nilT 6 600000 5 1 (by kernel_rfl) ?_
      refine TS_fitU ⟨[(6, []), (7, [])], [(600000, (900000, []))]⟩ (by kernel_rfl) ?_
      refine TS_go 2 ?_
      have ret := Option.some.inj h
      subst ret
      exact TS_ret (by kernel_rfl) (by kernel_rfl) (by kernel_rfl)
    · refine TS_know 15 (b := false) hb2 (by kernel_rfl) (by kernel_rfl) ?_
      refine TS_know 16 (b := false) hb2 (by kernel_rfl) (by kernel_rfl) ?_
      refine TS_F (by kernel_rfl) rfl ?_
      refine TS_go 5 ?_
      replace h := bindO h
      obtain ⟨v3, hv3, h⟩ := h
      refine TS_call [] (ok_siphash_Sum a0 a1 v3 hv3) (by kernel_rfl) (by kernel_rfl) ?_
      refine TS_go 5 ?_
      replace h := bindO h
      obtain ⟨n4, hn4, h⟩ := h
      refine TS_makeR 21 5 1 (ecI .u8) (0 : Int) [] (cs := [.lit (.int .u8 (0))]) (l := a2) (c := a2) hn4 (by kernel_rfl) (by kernel_rfl) (by kernel_rfl) ?_
      refine TS_go 9 ?_
      refine TS_cut ⟨[(8, []), (9, []), (22, []), (23, [])], [(21, (21, []))]⟩ (.mk [.code (codeAt [1, 1, 1, 1, 0, 1, 0] (bodyOf Try.f12)), .blk 0, .code (codeAt [1, 1, 1, 1, 1] (bodyOf Try.f12))] .normal ⟨[(8, .c (.lit (.int .u64 (v3)))), (9, .c (.own 21)), (22, .c (.lit (.int .i64 (a2)))), (23, .c (.lit (.int .i64 (0))))], [(21, .row 5 1 (List.length (List.replicate n4 (0 : Int))) (List.map (ecI .u8) (List.replicate n4 (0 : Int))))]⟩) (by kernel_rfl) (by kernel_rfl) ?_
      replace h := bindO h
      obtain ⟨y7, hl1, hK1⟩ := h
      refine TS_loopB (F_siphash_Tag_l1 a2 v3) ⟨[(8, []), (9, []), (22, []), (23, [])], [(21, (21, []))]⟩ (fun (s5 : Int × (List Int)) => [(23, .c (.lit (.int .i64 (s5.1))))]) (fun (s5 : Int × (List Int)) => [(21, .row 5 1 (List.length s5.2) (List.map (ecI .u8) s5.2))]) (0, (List.replicate n4 (0 : Int))) y7 (.exit 0) (fun (b : (List Int)) => b) ⟨[(9, [])], [(21, (21, []))]⟩ (fun (b6 : (List Int)) => []) (fun (b6 : (List Int)) => [(21, .row 5 1 (List.length b6) (List.map (ecI .u8) b6))]) hl1 (by kernel_rfl) (by kernel_rfl) ?_ ?_
      · intro s5 x h hy1
        unfold F_siphash_Tag_l1 at h
        refine TS_go 5 ?_
        replace h := condO h
        rcases h with ⟨hb8, h⟩ | ⟨hb8, h⟩
        · refine TS_know 24 (b := true) hb8 (by kernel_rfl) (by kernel_rfl) ?_
          refine TS_T (by kernel_rfl) rfl ?_
          refine TS_go 14 ?_
          replace h := chkO h
          obtain ⟨hc9, h⟩ := h
          refine TS_num (op := .shr) (k := .u64) (k' := .i64) (m := v3) (i := IntKind.wrap .i64 (8 * s5.1)) (of_decide_eq_true hc9) rfl (by simp) (by kernel_rfl) (by kernel_rfl) ?_
          refine TS_go 1 ?_
          replace h := bindO h
          obtain ⟨_e10, he10, h⟩ := h
          refine TS_idxR 21 1 0 (ecI .u8) .whole he10 (by kernel_rfl) (by kernel_rfl) ?_
          replace h := bindO h
          obtain ⟨_e11, he11, h⟩ := h
          refine TS_stE 21 5 1 (List.length s5.2) (0 + Int.toNat s5.1) 0 (ecI .u8) (ds := [.lit (.int .u8 (IntKind.wrap .u8 (ishr .u64 v3 (IntKind.wrap .i64 (8 * s5.1)))))]) (IntKind.wrap .u8 (ishr .u64 v3 (IntKind.wrap .i64 (8 * s5.1)))) he11 (by kernel_rfl) (by kernel_rfl) (by kernel_rfl) (by kernel_rfl) ?_
          refine TS_go 6 ?_
          have ret := Option.some.inj h
          subst ret
          exact TS_againB _ ⟨[(8, []), (9, []), (22, []), (23, [])], [(21, (21, []))]⟩ rfl (by kernel_rfl) (by kernel_rfl)
        · refine TS_know 24 (b := false) hb8 (by kernel_rfl) (by kernel_rfl) ?_
          refine TS_F (by kernel_rfl) rfl ?_
          refine TS_go 2 ?_
          have ret := Option.some.inj h
          subst ret
          exact TS_brkB s5.2 ⟨[(9, [])], [(21, (21, []))]⟩ rfl (by kernel_rfl) (by kernel_rfl) (by kernel_rfl)
      · intro b6 hb
        subst y7
        have h := hK1
        refine TS_go 7 ?_
        refine TS_settle 21 (by kernel_rfl) ?_
        refine TS_fitU ⟨[(6, []), (7, [])], [(21, (900000, []))]⟩ (by kernel_rfl) ?_
        refine TS_go 1 ?_
        have ret := Option.some.inj h
        subst ret
        exact TS_ret (by kernel_rfl) (by kernel_rfl) (by kernel_rfl)
theorem ok_siphash_Tag (a0 : List Int) (a1 : List Int) (a2 : Int) (r : (List Int) × Bool) (h : F_siphash_Tag a0 a1 a2 = some r) : Con Try.prog 12 [.agg (arrS .u8 16 a0), .c (eS 1 (ecI .u8) (a1)), .c (.lit (.int .i64 (a2)))] [] (.tup [(false, [eS 1 (ecI .u8) (r.1)]), (false, [.lit (.bool (r.2))])]) [] :=
  con_drop [[2]] [] (okT_siphash_Tag a0 a1 a2 r h) (by kernel_rfl) (by kernel_rfl) (by kernel_rfl)

/-- multihop/multihopref03.Tag -/
noncomputable def F_ref03_Tag_l1 (a2 : Int) (s4 : Int × (List Int) × Int) : Option ((Int × (List Int) × Int) ⊕ ((List Int))) :=
  bif (decide (s4.2.2 < a2)) then
    (appO 1 s4.2.1 (Cut.app .whole ([IntKind.wrap .u8 s4.1] : List Int))).bind fun l8 =>
    some (Sum.inl (ishr .u64 s4.1 8, l8, IntKind.wrap .i64 (s4.2.2 + 1)))
  else
    some (Sum.inr s4.2.1)
noncomputable def F_ref03_Tag (a0 : List Int) (a1 : List Int) (a2 : Int) : Option ((List Int) × Bool) :=
  bif (decide (a2 < 1)) then
    some ((([] : List Int), false))
  else
    bif (decide (a2 > 8)) then
      some ((([] : List Int), false))
    else
      (F_ref03_Sum a0 a1).bind fun v3 =>
      (loopO (F_ref03_Tag_l1 a2) (v3, ([] : List Int), 0)).bind fun b5 =>
      some ((b5, true))
set_option maxRecDepth 100000 in
set_option maxHeartbeats 40000000 in
theorem okT_ref03_Tag (a0 : List Int) (a1 : List Int) (a2 : Int) (r : (List Int) × Bool) (h : F_ref03_Tag a0 a1 a2 = some r) : Con Try.prog 14 [.agg (arrS .u8 16 a0), .c (eS 1 (ecI .u8) (a1)), .c (.lit (.int .i64 (a2)))] [] (.tup [(false, [.slc 1 900002 (List.length r.1) (List.map (ecI .u8) r.1)]), (false, [.lit (.bool (r.2))])]) [(900000, .spare 5 1 (List.length r.1))] := by
  unfold F_ref03_Tag at h
  refine con_of [] [(900000, [])] 33 Try.func14 rfl rfl (by kernel_rfl) (fun K => ?_)
  refine TS_go 12 ?_
  replace h := condO h
  rcases h with ⟨hb1, h⟩ | ⟨hb1, h⟩
  · refine TS_know 12 (b := true) hb1 (by kernel_rfl) (by kernel_rfl) ?_
    refine TS_know 13 (b := true) hb1 (by kernel_rfl) (by kernel_rfl) ?_
    refine TS_go 4 ?_
    refine TS_T (by kernel_rfl) rfl ?_
    refine TS_go 5 ?_
    refine TS_nilT 6 600000 5 1 (by kernel_rfl) ?_
    refine TS_fitU ⟨[(6, []), (7, [])], [(600000, (900000, []))]⟩ (by kernel_rfl) ?_
    refine TS_go 2 ?_
    have ret := Option.some.inj h
    subst ret
    exact TS_ret (by kernel_rfl) (by kernel_rfl) (by kernel_rfl)
  · refine TS_know 12 (b := false) hb1 (by kernel_rfl) (by kernel_rfl) ?_
    refine TS_know 13 (b := false) hb1 (by kernel_rfl) (by kernel_rfl) ?_
    refine TS_go 4 ?_
    replace h := condO h
    rcases h with ⟨hb2, h⟩ | ⟨hb2, h⟩
    · refine TS_know 15 (b := true) hb2 (by kernel_rfl) (by kernel_rfl) ?_
      refine TS_know 16 (b := true) hb2 (by kernel_rfl) (by kernel_rfl) ?_
      refine TS_T (by kernel_rfl) rfl ?_
      refine TS_go 5 ?_
      refine TS_nilT 6 600000 5 1 (by kernel_rfl) ?_
      refine TS_fitU ⟨[(6, []), (7, [])], [(600000, (900000, []))]⟩ (by kernel_rfl) ?_
      refine TS_go 2 ?_
      have ret := Option.some.inj h
      subst ret
      exact TS_ret (by kernel_rfl) (by kernel_rfl) (by kernel_rfl)
    · refine TS_know 15 (b := false) hb2 (by kernel_rfl) (by kernel_rfl) ?_
      refine TS_know 16 (b := false) hb2 (by kernel_rfl) (by kernel_rfl) ?_
      refine TS_F (by kernel_rfl) rfl ?_
      refine TS_go 5 ?_
      replace h := bindO h
      obtain ⟨v3, hv3, h⟩ := h
      refine TS_call [] (ok_ref03_Sum a0 a1 v3 hv3) (by kernel_rfl) (by kernel_rfl) ?_
      refine TS_go 12 ?_
      refine TS_nilT 9 600000 5 1 (by kernel_rfl) ?_
      refine TS_cut ⟨[(2, []), (8, []), (9, []), (10, [])], [(600000, (600000, []))]⟩ (.mk [.code (codeAt [1, 1, 1, 1, 0, 1, 0] (bodyOf Try.f14)), .blk 0, .code (codeAt [1, 1, 1, 1, 1] (bodyOf Try.f14))] .normal ⟨[(2, .c (.lit (.int .i64 (a2)))), (8, .c (.lit (.int .u64 (v3)))), (9, .c (.slc 1 600002 (List.length ([] : List Int)) (List.map (ecI .u8) ([] : List Int)))), (10, .c (.lit (.int .i64 (0))))], [(600000, .spare 5 1 (List.length ([] : List Int)))]⟩) (by kernel_rfl) (by kernel_rfl) ?_
      replace h := bindO h
      obtain ⟨y6, hl1, hK1⟩ := h
      refine TS_loopB (F_ref03_Tag_l1 a2) ⟨[(2, []), (8, []), (9, []), (10, [])], [(600000, (600000, []))]⟩ (fun (s4 : Int × (List Int) × Int) => [(8, .c (.lit (.int .u64 (s4.1)))), (9, .c (.slc 1 600002 (List.length s4.2.1) (List.map (ecI .u8) s4.2.1))), (10, .c (.lit (.int .i64 (s4.2.2))))]) (fun (s4 : Int × (List Int) × Int) => [(600000, .spare 5 1 (List.length s4.2.1))]) (v3, ([] : List Int), 0) y6 (.exit 0) (fun (b : (List Int)) => b) ⟨[(9, [])], [(600000, (600000, []))]⟩ (fun (b5 : (List Int)) => [(9, .c (.slc 1 600002 (List.length b5) (List.map (ecI .u8) b5)))]) (fun (b5 : (List Int)) => [(600000, .spare 5 1 (List.length b5))]) hl1 (by kernel_rfl) (by kernel_rfl) ?_ ?_
      · intro s4 x h hy1
        unfold F_ref03_Tag_l1 at h
        refine TS_go 7 ?_
        replace h := condO h
        rcases h with ⟨hb7, h⟩ | ⟨hb7, h⟩
        · refine TS_know 22 (b := true) hb7 (by kernel_rfl) (by kernel_rfl) ?_
          refine TS_T (by kernel_rfl) rfl ?_
          refine TS_go 8 ?_
          refine TS_litNT 28 5 1 (ecI .u8) [] ([IntKind.wrap .u8 s4.1] : List Int) (by kernel_rfl) (by kernel_rfl) ?_
          replace h := bindO h
          obtain ⟨_l8, hl8, h⟩ := h
          refine TS_appT (d := 600000) (e := 5) (sz := 1) (N := List.length s4.2.1) (ecI .u8) (fun _ => by kernel_rfl) (l1 := s4.2.1) (l2 := ([IntKind.wrap .u8 s4.1] : List Int)) (c := .whole) hl8 (by kernel_rfl) (by kernel_rfl) ?_
          refine TS_go 13 ?_
          have ret := Option.some.inj h
          subst ret
          exact TS_againB _ ⟨[(2, []), (8, []), (9, []), (10, [])], [(600000, (600000, []))]⟩ rfl (by kernel_rfl) (by kernel_rfl)
        · refine TS_know 22 (b := false) hb7 (by kernel_rfl) (by kernel_rfl) ?_
          refine TS_F (by kernel_rfl) rfl ?_
          refine TS_go 2 ?_
          have ret := Option.some.inj h
          subst ret
          exact TS_brkB s4.2.1 ⟨[(9, [])], [(600000, (600000, []))]⟩ rfl (by kernel_rfl) (by kernel_rfl) (by kernel_rfl)
      · intro b5 hb
        subst y6
        have h := hK1
        refine TS_go 7 ?_
        refine TS_fitU ⟨[(6, []), (7, [])], [(600000, (900000, []))]⟩ (by kernel_rfl) ?_
        refine TS_go 1 ?_
        have ret := Option.some.inj h
        subst ret
        exact TS_ret (by kernel_rfl) (by kernel_rfl) (by kernel_rfl)
theorem ok_ref03_Tag (a0 : List Int) (a1 : List Int) (a2 : Int) (r : (List Int) × Bool) (h : F_ref03_Tag a0 a1 a2 = some r) : Con Try.prog 14 [.agg (arrS .u8 16 a0), .c (eS 1 (ecI .u8) (a1)), .c (.lit (.int .i64 (a2)))] [] (.tup [(false, [eS 1 (ecI .u8) (r.1)]), (false, [.lit (.bool (r.2))])]) [] :=
  con_drop [[2]] [] (okT_ref03_Tag a0 a1 a2 r h) (by kernel_rfl) (by kernel_rfl) (by kernel_rfl)

end Go.Proofs.Ytbncbjblbdjddaa
