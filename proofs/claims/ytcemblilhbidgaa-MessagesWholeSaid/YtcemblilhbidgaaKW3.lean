/-
  Part 3 of what the proof of this law rests on.
-/
import Derived.Test.YtcemblilhbidgaaKW2
namespace Go.Proofs.Ytcemblilhbidgaa
section
open Go.RowKit
attribute [local irreducible] TS go TD goD

structure S_Prefix where
  IP : List Int
  Bits : Int
def S_Prefix.cs (x : S_Prefix) : List SC := arrS .u8 16 x.IP ++ [.lit (.int .i64 (x.Bits))]
def S_Prefix.eqb (x y : S_Prefix) : Bool := (arrEq 16 x.IP y.IP) && ((x.Bits == y.Bits) && true)

structure S_Destination where
  Dst : S_Prefix
  Src : S_Prefix
  Router : Int
def S_Destination.cs (x : S_Destination) : List SC := S_Prefix.cs x.Dst ++ S_Prefix.cs x.Src ++ [.lit (.int .u64 (x.Router))]
def S_Destination.eqb (x y : S_Destination) : Bool := (S_Prefix.eqb x.Dst y.Dst) && ((S_Prefix.eqb x.Src y.Src) && ((x.Router == y.Router) && true))

structure S_Notice where
  Kind : Int
  Seq : Int
  Metric : Int
  Neighbour : Int
  To : S_Destination
  Hops : Int
def S_Notice.cs (x : S_Notice) : List SC := [.lit (.int .i64 (x.Kind))] ++ [.lit (.int .u16 (x.Seq))] ++ [.lit (.int .i64 (x.Metric))] ++ [.lit (.int .u64 (x.Neighbour))] ++ S_Destination.cs x.To ++ [.lit (.int .i64 (x.Hops))]
def S_Notice.eqb (x y : S_Notice) : Bool := (x.Kind == y.Kind) && ((x.Seq == y.Seq) && ((x.Metric == y.Metric) && ((x.Neighbour == y.Neighbour) && ((S_Destination.eqb x.To y.To) && ((x.Hops == y.Hops) && true)))))

structure S_messages_state where
  elements : List Int
  router : Int
  dst : List Int
def S_messages_state.cs (x : S_messages_state) : List SC := [eS 1 (ecI .u8) (x.elements)] ++ [.lit (.int .u64 (x.router))] ++ arrS .u8 16 x.dst

structure S_multihopmade_Tape where
  l : List Int
  at_ : Int
def S_multihopmade_Tape.cs (x : S_multihopmade_Tape) : List SC := [eS 1 (ecI .i64) (x.l)] ++ [.lit (.int .i64 (x.at_))]

/-- multihop/metric.Valid -/
noncomputable def F_metric_Valid (a0 : Int) : Option (Bool) :=
  bif (decide (a0 ≥ 0)) then
    some ((decide (a0 ≤ 65535)))
  else
    some (false)
set_option maxRecDepth 100000 in
set_option maxHeartbeats 40000000 in
theorem ok_metric_Valid (a0 : Int) (r : Bool) (h : F_metric_Valid a0 = some r) : Con Try.prog 38 [.c (.lit (.int .i64 (a0)))] [] (.c (.lit (.bool (r)))) [] := by
  unfold F_metric_Valid at h
  refine con_of [] [] 9 Try.func38 rfl rfl (by kernel_rfl) (fun K => ?_)
  refine TS_go 9 ?_
  replace h := condO h
  rcases h with ⟨hb1, h⟩ | ⟨hb1, h⟩
  · refine TS_know 4 (b := true) hb1 (by kernel_rfl) (by kernel_rfl) ?_
    refine TS_know 5 (b := true) hb1 (by kernel_rfl) (by kernel_rfl) ?_
    refine TS_go 6 ?_
    have ret := Option.some.inj h
    subst ret
    exact TS_ret (by kernel_rfl) (by kernel_rfl) (by kernel_rfl)
  · refine TS_know 4 (b := false) hb1 (by kernel_rfl) (by kernel_rfl) ?_
    refine TS_know 5 (b := false) hb1 (by kernel_rfl) (by kernel_rfl) ?_
    refine TS_go 6 ?_
    have ret := Option.some.inj h
    subst ret
    exact TS_ret (by kernel_rfl) (by kernel_rfl) (by kernel_rfl)

/-- multihop/address.Mask -/
noncomputable def F_address_Mask_l1 (a0 : List Int) (s1 : Int × S_Prefix) : Option ((Int × S_Prefix) ⊕ (S_Prefix)) :=
  bif (decide (s1.1 < 16)) then
    bif decide ((0 : Int) ≤ s1.1 ∧ s1.1 < (16 : Int)) then
      bif decide (0 ≤ (if 8 < if IntKind.wrap .i64 (s1.2.Bits - (IntKind.wrap .i64 (8 * s1.1))) < 0 then 0 else IntKind.wrap .i64 (s1.2.Bits - (IntKind.wrap .i64 (8 * s1.1))) then 8 else if IntKind.wrap .i64 (s1.2.Bits - (IntKind.wrap .i64 (8 * s1.1))) < 0 then 0 else IntKind.wrap .i64 (s1.2.Bits - (IntKind.wrap .i64 (8 * s1.1))))) then
        bif decide ((0 : Int) ≤ s1.1 ∧ s1.1 < (16 : Int)) then
          some (Sum.inl (IntKind.wrap .i64 (s1.1 + 1), (S_Prefix.mk (setA 16 s1.2.IP (Int.toNat s1.1) (iandNot .u8 (List.getD a0 (Int.toNat s1.1) 0) (ishr .u8 255 (if 8 < if IntKind.wrap .i64 (s1.2.Bits - (IntKind.wrap .i64 (8 * s1.1))) < 0 then 0 else IntKind.wrap .i64 (s1.2.Bits - (IntKind.wrap .i64 (8 * s1.1))) then 8 else if IntKind.wrap .i64 (s1.2.Bits - (IntKind.wrap .i64 (8 * s1.1))) < 0 then 0 else IntKind.wrap .i64 (s1.2.Bits - (IntKind.wrap .i64 (8 * s1.1))))))) s1.2.Bits)))
        else none
      else none
    else none
  else
    some (Sum.inr s1.2)
noncomputable def F_address_Mask (a0 : List Int) (a1 : Int) : Option (S_Prefix) :=
  (loopO (F_address_Mask_l1 a0) (0, (S_Prefix.mk [0, 0, 0, 0, 0, 0, 0, 0, 0, 0, 0, 0, 0, 0, 0, 0] (if 128 < if a1 < 0 then 0 else a1 then 128 else if a1 < 0 then 0 else a1)))).bind fun b2 =>
  some (b2)
set_option maxRecDepth 100000 in
set_option maxHeartbeats 40000000 in
theorem ok_address_Mask (a0 : List Int) (a1 : Int) (r : S_Prefix) (h : F_address_Mask a0 a1 = some r) : Con Try.prog 58 [.agg (arrS .u8 16 a0), .c (.lit (.int .i64 (a1)))] [] (.agg (S_Prefix.cs r)) [] := by
  unfold F_address_Mask at h
  refine con_of [] [] 33 Try.func58 rfl rfl (by kernel_rfl) (fun K => ?_)
  refine TS_go 20 ?_
  refine TS_cut ⟨[(2, []), (4, []), (5, []), (12, [])], [(2, (2, [])), (4, (4, [])), (5, (5, []))]⟩ (.mk [.code (codeAt [1, 1, 0, 1, 0] (bodyOf Try.f58)), .blk 0, .code (codeAt [1, 1, 1] (bodyOf Try.f58))] .normal ⟨[(2, .c (.box 2 0)), (4, .c (.box 4 0)), (5, .c (.box 5 0)), (12, .c (.lit (.int .i64 (0))))], [(2, .box [.lit (.int .u8 ((a0.getD 0 0))), .lit (.int .u8 ((a0.getD 1 0))), .lit (.int .u8 ((a0.getD 2 0))), .lit (.int .u8 ((a0.getD 3 0))), .lit (.int .u8 ((a0.getD 4 0))), .lit (.int .u8 ((a0.getD 5 0))), .lit (.int .u8 ((a0.getD 6 0))), .lit (.int .u8 ((a0.getD 7 0))), .lit (.int .u8 ((a0.getD 8 0))), .lit (.int .u8 ((a0.getD 9 0))), .lit (.int .u8 ((a0.getD 10 0))), .lit (.int .u8 ((a0.getD 11 0))), .lit (.int .u8 ((a0.getD 12 0))), .lit (.int .u8 ((a0.getD 13 0))), .lit (.int .u8 ((a0.getD 14 0))), .lit (.int .u8 ((a0.getD 15 0)))]), (4, .box [.lit (.int .u8 (0)), .lit (.int .u8 (0)), .lit (.int .u8 (0)), .lit (.int .u8 (0)), .lit (.int .u8 (0)), .lit (.int .u8 (0)), .lit (.int .u8 (0)), .lit (.int .u8 (0)), .lit (.int .u8 (0)), .lit (.int .u8 (0)), .lit (.int .u8 (0)), .lit (.int .u8 (0)), .lit (.int .u8 (0)), .lit (.int .u8 (0)), .lit (.int .u8 (0)), .lit (.int .u8 (0)), .lit (.int .i64 (0))]), (5, .box [.lit (.int .u8 (0)), .lit (.int .u8 (0)), .lit (.int .u8 (0)), .lit (.int .u8 (0)), .lit (.int .u8 (0)), .lit (.int .u8 (0)), .lit (.int .u8 (0)), .lit (.int .u8 (0)), .lit (.int .u8 (0)), .lit (.int .u8 (0)), .lit (.int .u8 (0)), .lit (.int .u8 (0)), .lit (.int .u8 (0)), .lit (.int .u8 (0)), .lit (.int .u8 (0)), .lit (.int .u8 (0)), .lit (.int .i64 (if 128 < if a1 < 0 then 0 else a1 then 128 else if a1 < 0 then 0 else a1))])]⟩) (by kernel_rfl) (by kernel_rfl) ?_
  replace h := bindO h
  obtain ⟨y3, hl1, hK1⟩ := h
  refine TS_loopB (F_address_Mask_l1 a0) ⟨[(2, []), (4, []), (5, []), (12, [])], [(2, (2, [])), (4, (4, [])), (5, (5, []))]⟩ (fun (s1 : Int × S_Prefix) => [(12, .c (.lit (.int .i64 (s1.1))))]) (fun (s1 : Int × S_Prefix) => [(5, .box (S_Prefix.cs s1.2))]) (0, (S_Prefix.mk [0, 0, 0, 0, 0, 0, 0, 0, 0, 0, 0, 0, 0, 0, 0, 0] (if 128 < if a1 < 0 then 0 else a1 then 128 else if a1 < 0 then 0 else a1))) y3 (.exit 0) (fun (b : S_Prefix) => b) ⟨[(4, []), (5, [])], [(4, (4, [])), (5, (5, []))]⟩ (fun (b2 : S_Prefix) => []) (fun (b2 : S_Prefix) => [(5, .box (S_Prefix.cs b2))]) hl1 (by kernel_rfl) (by kernel_rfl) ?_ ?_
  · intro s1 x h hy1
    unfold F_address_Mask_l1 at h
    refine TS_go 5 ?_
    replace h := condO h
    rcases h with ⟨hb4, h⟩ | ⟨hb4, h⟩
    · refine TS_know 13 (b := true) hb4 (by kernel_rfl) (by kernel_rfl) ?_
      refine TS_T (by kernel_rfl) rfl ?_
      refine TS_go 19 ?_
      refine TS_draw (by kernel_rfl) ?_
      refine TD_go 2 ?_
      replace h := chkO h
      obtain ⟨hc5, h⟩ := h
      refine TD_idxA 2 0 16 (i := s1.1) hc5 (by kernel_rfl) (by kernel_rfl) ?_
      refine TD_ldA .u8 0 16 (i := s1.1) a0 hc5 (by kernel_rfl) (by kernel_rfl) ?_
      refine TD_go 1 ?_
      replace h := chkO h
      obtain ⟨hc6, h⟩ := h
      refine TD_num (op := .shr) (k := .u8) (k' := .i64) (m := 255) (i := if 8 < if IntKind.wrap .i64 (s1.2.Bits - (IntKind.wrap .i64 (8 * s1.1))) < 0 then 0 else IntKind.wrap .i64 (s1.2.Bits - (IntKind.wrap .i64 (8 * s1.1))) then 8 else if IntKind.wrap .i64 (s1.2.Bits - (IntKind.wrap .i64 (8 * s1.1))) < 0 then 0 else IntKind.wrap .i64 (s1.2.Bits - (IntKind.wrap .i64 (8 * s1.1)))) (of_decide_eq_true hc6) rfl (by simp) (by kernel_rfl) (by kernel_rfl) ?_
      refine TD_go 2 ?_
      replace h := chkO h
      obtain ⟨hc7, h⟩ := h
      refine TD_idxA 5 0 16 (i := s1.1) hc7 (by kernel_rfl) (by kernel_rfl) ?_
      refine TD_stA (k := .u8) (d := 5) 0 16 (i := s1.1) (v := iandNot .u8 (List.getD a0 (Int.toNat s1.1) 0) (ishr .u8 255 (if 8 < if IntKind.wrap .i64 (s1.2.Bits - (IntKind.wrap .i64 (8 * s1.1))) < 0 then 0 else IntKind.wrap .i64 (s1.2.Bits - (IntKind.wrap .i64 (8 * s1.1))) then 8 else if IntKind.wrap .i64 (s1.2.Bits - (IntKind.wrap .i64 (8 * s1.1))) < 0 then 0 else IntKind.wrap .i64 (s1.2.Bits - (IntKind.wrap .i64 (8 * s1.1)))))) s1.2.IP (pre := []) (post := [.lit (.int .i64 (s1.2.Bits))]) hc7 (by kernel_rfl) (by kernel_rfl) (by kernel_rfl) ?_
      refine TD_end (by kernel_rfl) ?_
      refine TS_go 5 ?_
      have ret := Option.some.inj h
      subst ret
      exact TS_againB _ ⟨[(2, []), (4, []), (5, []), (12, [])], [(2, (2, [])), (4, (4, [])), (5, (5, []))]⟩ rfl (by kernel_rfl) (by kernel_rfl)
    · refine TS_know 13 (b := false) hb4 (by kernel_rfl) (by kernel_rfl) ?_
      refine TS_F (by kernel_rfl) rfl ?_
      refine TS_go 2 ?_
      have ret := Option.some.inj h
      subst ret
      exact TS_brkB s1.2 ⟨[(4, []), (5, [])], [(4, (4, [])), (5, (5, []))]⟩ rfl (by kernel_rfl) (by kernel_rfl) (by kernel_rfl)
  · intro b2 hb
    subst y3
    have h := hK1
    refine TS_go 7 ?_
    have ret := Option.some.inj h
    subst ret
    exact TS_ret (by kernel_rfl) (by kernel_rfl) (by kernel_rfl)

/-- multihop/address.ValidPrefix -/
noncomputable def F_address_ValidPrefix (a0 : S_Prefix) : Option (Bool) :=
  bif (decide (a0.Bits ≥ 0)) then
    bif (decide (a0.Bits ≤ 128)) then
      (F_address_Mask a0.IP a0.Bits).bind fun v3 =>
      some ((S_Prefix.eqb v3 a0))
    else
      some (false)
  else
    some (false)
set_option maxRecDepth 100000 in
set_option maxHeartbeats 40000000 in
theorem ok_address_ValidPrefix (a0 : S_Prefix) (r : Bool) (h : F_address_ValidPrefix a0 = some r) : Con Try.prog 40 [.agg (S_Prefix.cs a0)] [] (.c (.lit (.bool (r)))) [] := by
  unfold F_address_ValidPrefix at h
  refine con_of [] [] 20 Try.func40 rfl rfl (by kernel_rfl) (fun K => ?_)
  refine TS_go 6 ?_
  refine TS_draw (by kernel_rfl) ?_
  refine TD_go 3 ?_
  replace h := condO h
  rcases h with ⟨hb1, h⟩ | ⟨hb1, h⟩
  · refine TD_know 6 (b := true) hb1 trivial (by kernel_rfl) (by kernel_rfl) ?_
    refine TD_go 4 ?_
    replace h := condO h
    rcases h with ⟨hb2, h⟩ | ⟨hb2, h⟩
    · refine TD_know 11 (b := true) hb2 trivial (by kernel_rfl) (by kernel_rfl) ?_
      refine TD_go 4 ?_
      replace h := bindO h
      obtain ⟨v3, hv3, h⟩ := h
      refine TD_call [] (ok_address_Mask a0.IP a0.Bits v3 hv3) (by kernel_rfl) (by kernel_rfl) ?_
      refine TD_go 4 ?_
      refine TD_end (by kernel_rfl) ?_
      refine TS_go 1 ?_
      have ret := Option.some.inj h
      subst ret
      exact TS_ret (by kernel_rfl) (by kernel_rfl) (by kernel_rfl)
    · refine TD_know 11 (b := false) hb2 trivial (by kernel_rfl) (by kernel_rfl) ?_
      refine TD_go 9 ?_
      refine TD_end (by kernel_rfl) ?_
      refine TS_go 1 ?_
      have ret := Option.some.inj h
      subst ret
      exact TS_ret (by kernel_rfl) (by kernel_rfl) (by kernel_rfl)
  · refine TD_know 6 (b := false) hb1 trivial (by kernel_rfl) (by kernel_rfl) ?_
    refine TD_go 14 ?_
    refine TD_end (by kernel_rfl) ?_
    refine TS_go 1 ?_
    have ret := Option.some.inj h
    subst ret
    exact TS_ret (by kernel_rfl) (by kernel_rfl) (by kernel_rfl)

/-- multihop/sources.ValidTo -/
noncomputable def F_sources_ValidTo (a0 : S_Destination) : Option (Bool) :=
  (F_address_ValidPrefix a0.Dst).bind fun v1 =>
  bif v1 then
    (F_address_ValidPrefix a0.Src).bind fun v3 =>
    bif v3 then
      some ((a0.Router != 0))
    else
      some (false)
  else
    some (false)
set_option maxRecDepth 100000 in
set_option maxHeartbeats 40000000 in
theorem ok_sources_ValidTo (a0 : S_Destination) (r : Bool) (h : F_sources_ValidTo a0 = some r) : Con Try.prog 39 [.agg (S_Destination.cs a0)] [] (.c (.lit (.bool (r)))) [] := by
  unfold F_sources_ValidTo at h
  refine con_of [] [] 16 Try.func39 rfl rfl (by kernel_rfl) (fun K => ?_)
  refine TS_go 9 ?_
  replace h := bindO h
  obtain ⟨v1, hv1, h⟩ := h
  refine TS_call [] (ok_address_ValidPrefix a0.Dst v1 hv1) (by kernel_rfl) (by kernel_rfl) ?_
  refine TS_go 1 ?_
  replace h := condO h
  rcases h with ⟨hb2, h⟩ | ⟨hb2, h⟩
  · subst hb2
    refine TS_go 2 ?_
    replace h := bindO h
    obtain ⟨v3, hv3, h⟩ := h
    refine TS_call [] (ok_address_ValidPrefix a0.Src v3 hv3) (by kernel_rfl) (by kernel_rfl) ?_
    refine TS_go 2 ?_
    replace h := condO h
    rcases h with ⟨hb4, h⟩ | ⟨hb4, h⟩
    · subst hb4
      refine TS_go 7 ?_
      have ret := Option.some.inj h
      subst ret
      exact TS_ret (by kernel_rfl) (by kernel_rfl) (by kernel_rfl)
    · subst hb4
      refine TS_go 7 ?_
      have ret := Option.some.inj h
      subst ret
      exact TS_ret (by kernel_rfl) (by kernel_rfl) (by kernel_rfl)
  · subst hb2
    refine TS_go 12 ?_
    have ret := Option.some.inj h
    subst ret
    exact TS_ret (by kernel_rfl) (by kernel_rfl) (by kernel_rfl)

/-- multihop/messages.Valid -/
noncomputable def F_messages_Valid (a0 : S_Notice) : Option (Bool) :=
  bif (a0.Kind == 1) then
    some ((S_Notice.eqb a0 (S_Notice.mk a0.Kind a0.Seq 0 0 (S_Destination.mk (S_Prefix.mk [0, 0, 0, 0, 0, 0, 0, 0, 0, 0, 0, 0, 0, 0, 0, 0] 0) (S_Prefix.mk [0, 0, 0, 0, 0, 0, 0, 0, 0, 0, 0, 0, 0, 0, 0, 0] 0) 0) 0)))
  else
    bif (a0.Kind == 2) then
      bif (S_Notice.eqb a0 (S_Notice.mk a0.Kind 0 a0.Metric a0.Neighbour (S_Destination.mk (S_Prefix.mk [0, 0, 0, 0, 0, 0, 0, 0, 0, 0, 0, 0, 0, 0, 0, 0] 0) (S_Prefix.mk [0, 0, 0, 0, 0, 0, 0, 0, 0, 0, 0, 0, 0, 0, 0, 0] 0) 0) 0)) then
        bif (a0.Neighbour != 0) then
          (F_metric_Valid a0.Metric).bind fun v5 =>
          some (v5)
        else
          some (false)
      else
        some (false)
    else
      bif (a0.Kind == 3) then
        bif (S_Notice.eqb a0 (S_Notice.mk a0.Kind a0.Seq a0.Metric 0 a0.To 0)) then
          (F_sources_ValidTo a0.To).bind fun v8 =>
          bif v8 then
            (F_metric_Valid a0.Metric).bind fun v10 =>
            some (v10)
          else
            some (false)
        else
          some (false)
      else
        bif (a0.Kind == 4) then
          bif (S_Notice.eqb a0 (S_Notice.mk a0.Kind 0 0 0 a0.To 0)) then
            bif (a0.To.Router == 0) then
              (F_address_ValidPrefix a0.To.Dst).bind fun v14 =>
              bif v14 then
                (F_address_ValidPrefix a0.To.Src).bind fun v16 =>
                some (v16)
              else
                some (false)
            else
              some (false)
          else
            some (false)
        else
          bif (a0.Kind == 5) then
            bif (S_Notice.eqb a0 (S_Notice.mk a0.Kind a0.Seq 0 0 a0.To a0.Hops)) then
              (F_sources_ValidTo a0.To).bind fun v19 =>
              bif v19 then
                bif (decide (a0.Hops ≥ 1)) then
                  some ((decide (a0.Hops ≤ 32)))
                else
                  some (false)
              else
                some (false)
            else
              some (false)
          else
            some (false)
set_option maxRecDepth 100000 in
set_option maxHeartbeats 40000000 in
theorem ok_messages_Valid (a0 : S_Notice) (r : Bool) (h : F_messages_Valid a0 = some r) : Con Try.prog 16 [.agg (S_Notice.cs a0)] [] (.c (.lit (.bool (r)))) [] := by
  unfold F_messages_Valid at h
  refine con_of [] [] 117 Try.func16 rfl rfl (by kernel_rfl) (fun K => ?_)
  refine TS_go 25 ?_
  replace h := condO h
  rcases h with ⟨hb1, h⟩ | ⟨hb1, h⟩
  · refine TS_know 10 (b := true) hb1 (by kernel_rfl) (by kernel_rfl) ?_
    refine TS_know 9 (b := true) hb1 (by kernel_rfl) (by kernel_rfl) ?_
    refine TS_T (by kernel_rfl) rfl ?_
    refine TS_go 17 ?_
    have ret := Option.some.inj h
    subst ret
    exact TS_ret (by kernel_rfl) (by kernel_rfl) (by kernel_rfl)
  · refine TS_know 10 (b := false) hb1 (by kernel_rfl) (by kernel_rfl) ?_
    refine TS_know 9 (b := false) hb1 (by kernel_rfl) (by kernel_rfl) ?_
    refine TS_F (by kernel_rfl) rfl ?_
    refine TS_go 5 ?_
    replace h := condO h
    rcases h with ⟨hb2, h⟩ | ⟨hb2, h⟩
    · refine TS_know 18 (b := true) hb2 (by kernel_rfl) (by kernel_rfl) ?_
      refine TS_know 17 (b := true) hb2 (by kernel_rfl) (by kernel_rfl) ?_
      refine TS_T (by kernel_rfl) rfl ?_
      refine TS_go 1 ?_
      refine TS_draw (by kernel_rfl) ?_
      refine TD_go 8 ?_
      refine TD_end (by kernel_rfl) ?_
      refine TS_go 6 ?_
      replace h := condO h
      rcases h with ⟨hb3, h⟩ | ⟨hb3, h⟩
      · refine TS_know 27 (b := true) hb3 (by kernel_rfl) (by kernel_rfl) ?_
        refine TS_know 28 (b := true) hb3 (by kernel_rfl) (by kernel_rfl) ?_
        refine TS_go 5 ?_
        replace h := condO h
        rcases h with ⟨hb4, h⟩ | ⟨hb4, h⟩
        · refine TS_know 31 (b := true) hb4 (by kernel_rfl) (by kernel_rfl) ?_
          refine TS_know 32 (b := true) hb4 (by kernel_rfl) (by kernel_rfl) ?_
          refine TS_know 33 (b := true) hb4 (by kernel_rfl) (by kernel_rfl) ?_
          refine TS_go 2 ?_
          replace h := bindO h
          obtain ⟨v5, hv5, h⟩ := h
          refine TS_call [] (ok_metric_Valid a0.Metric v5 hv5) (by kernel_rfl) (by kernel_rfl) ?_
          refine TS_go 6 ?_
          have ret := Option.some.inj h
          subst ret
          exact TS_ret (by kernel_rfl) (by kernel_rfl) (by kernel_rfl)
        · refine TS_know 31 (b := false) hb4 (by kernel_rfl) (by kernel_rfl) ?_
          refine TS_know 32 (b := false) hb4 (by kernel_rfl) (by kernel_rfl) ?_
          refine TS_know 33 (b := false) hb4 (by kernel_rfl) (by kernel_rfl) ?_
          refine TS_go 9 ?_
          have ret := Option.some.inj h
          subst ret
          exact TS_ret (by kernel_rfl) (by kernel_rfl) (by kernel_rfl)
      · refine TS_know 27 (b := false) hb3 (by kernel_rfl) (by kernel_rfl) ?_
        refine TS_know 28 (b := false) hb3 (by kernel_rfl) (by kernel_rfl) ?_
        refine TS_go 14 ?_
        have ret := Option.some.inj h
        subst ret
        exact TS_ret (by kernel_rfl) (by kernel_rfl) (by kernel_rfl)
    · refine TS_know 18 (b := false) hb2 (by kernel_rfl) (by kernel_rfl) ?_
      refine TS_know 17 (b := false) hb2 (by kernel_rfl) (by kernel_rfl) ?_
      refine TS_F (by kernel_rfl) rfl ?_
      refine TS_go 5 ?_
      replace h := condO h
      rcases h with ⟨hb6, h⟩ | ⟨hb6, h⟩
      · refine TS_know 39 (b := true) hb6 (by kernel_rfl) (by kernel_rfl) ?_
        refine TS_know 38 (b := true) hb6 (by kernel_rfl) (by kernel_rfl) ?_
        refine TS_T (by kernel_rfl) rfl ?_
        refine TS_go 1 ?_
        refine TS_draw (by kernel_rfl) ?_
        refine TD_go 12 ?_
        refine TD_end (by kernel_rfl) ?_
        refine TS_go 6 ?_
        replace h := condO h
        rcases h with ⟨hb7, h⟩ | ⟨hb7, h⟩
        · refine TS_know 51 (b := true) hb7 (by kernel_rfl) (by kernel_rfl) ?_
          refine TS_know 52 (b := true) hb7 (by kernel_rfl) (by kernel_rfl) ?_
          refine TS_go 2 ?_
          replace h := bindO h
          obtain ⟨v8, hv8, h⟩ := h
          refine TS_call [] (ok_sources_ValidTo a0.To v8 hv8) (by kernel_rfl) (by kernel_rfl) ?_
          refine TS_go 2 ?_
          replace h := condO h
          rcases h with ⟨hb9, h⟩ | ⟨hb9, h⟩
          · subst hb9
            refine TS_go 2 ?_
            replace h := bindO h
            obtain ⟨v10, hv10, h⟩ := h
            refine TS_call [] (ok_metric_Valid a0.Metric v10 hv10) (by kernel_rfl) (by kernel_rfl) ?_
            refine TS_go 6 ?_
            have ret := Option.some.inj h
            subst ret
            exact TS_ret (by kernel_rfl) (by kernel_rfl) (by kernel_rfl)
          · subst hb9
            refine TS_go 9 ?_
            have ret := Option.some.inj h
            subst ret
            exact TS_ret (by kernel_rfl) (by kernel_rfl) (by kernel_rfl)
        · refine TS_know 51 (b := false) hb7 (by kernel_rfl) (by kernel_rfl) ?_
          refine TS_know 52 (b := false) hb7 (by kernel_rfl) (by kernel_rfl) ?_
          refine TS_go 14 ?_
          have ret := Option.some.inj h
          subst ret
          exact TS_ret (by kernel_rfl) (by kernel_rfl) (by kernel_rfl)
      · refine TS_know 39 (b := false) hb6 (by kernel_rfl) (by kernel_rfl) ?_
        refine TS_know 38 (b := false) hb6 (by kernel_rfl) (by kernel_rfl) ?_
        refine TS_F (by kernel_rfl) rfl ?_
        refine TS_go 5 ?_
        replace h := condO h
        rcases h with ⟨hb11, h⟩ | ⟨hb11, h⟩
        · refine TS_know 63 (b := true) hb11 (by kernel_rfl) (by kernel_rfl) ?_
          refine TS_know 62 (b := true) hb11 (by kernel_rfl) (by kernel_rfl) ?_
          refine TS_T (by kernel_rfl) rfl ?_
          refine TS_go 13 ?_
          replace h := condO h
          rcases h with ⟨hb12, h⟩ | ⟨hb12, h⟩
          · refine TS_know 69 (b := true) hb12 (by kernel_rfl) (by kernel_rfl) ?_
            refine TS_know 70 (b := true) hb12 (by kernel_rfl) (by kernel_rfl) ?_
            refine TS_go 6 ?_
            replace h := condO h
            rcases h with ⟨hb13, h⟩ | ⟨hb13, h⟩
            · refine TS_know 74 (b := true) hb13 (by kernel_rfl) (by kernel_rfl) ?_
              refine TS_know 75 (b := true) hb13 (by kernel_rfl) (by kernel_rfl) ?_
              refine TS_know 76 (b := true) hb13 (by kernel_rfl) (by kernel_rfl) ?_
              refine TS_go 3 ?_
              replace h := bindO h
              obtain ⟨v14, hv14, h⟩ := h
              refine TS_call [] (ok_address_ValidPrefix a0.To.Dst v14 hv14) (by kernel_rfl) (by kernel_rfl) ?_
              refine TS_go 2 ?_
              replace h := condO h
              rcases h with ⟨hb15, h⟩ | ⟨hb15, h⟩
              · subst hb15
                refine TS_go 3 ?_
                replace h := bindO h
                obtain ⟨v16, hv16, h⟩ := h
                refine TS_call [] (ok_address_ValidPrefix a0.To.Src v16 hv16) (by kernel_rfl) (by kernel_rfl) ?_
                refine TS_go 6 ?_
                have ret := Option.some.inj h
                subst ret
                exact TS_ret (by kernel_rfl) (by kernel_rfl) (by kernel_rfl)
              · subst hb15
                refine TS_go 10 ?_
                have ret := Option.some.inj h
                subst ret
                exact TS_ret (by kernel_rfl) (by kernel_rfl) (by kernel_rfl)
            · refine TS_know 74 (b := false) hb13 (by kernel_rfl) (by kernel_rfl) ?_
              refine TS_know 75 (b := false) hb13 (by kernel_rfl) (by kernel_rfl) ?_
              refine TS_know 76 (b := false) hb13 (by kernel_rfl) (by kernel_rfl) ?_
              refine TS_go 16 ?_
              have ret := Option.some.inj h
              subst ret
              exact TS_ret (by kernel_rfl) (by kernel_rfl) (by kernel_rfl)
          · refine TS_know 69 (b := false) hb12 (by kernel_rfl) (by kernel_rfl) ?_
            refine TS_know 70 (b := false) hb12 (by kernel_rfl) (by kernel_rfl) ?_
            refine TS_go 22 ?_
            have ret := Option.some.inj h
            subst ret
            exact TS_ret (by kernel_rfl) (by kernel_rfl) (by kernel_rfl)
        · refine TS_know 63 (b := false) hb11 (by kernel_rfl) (by kernel_rfl) ?_
          refine TS_know 62 (b := false) hb11 (by kernel_rfl) (by kernel_rfl) ?_
          refine TS_F (by kernel_rfl) rfl ?_
          refine TS_go 5 ?_
          replace h := condO h
          rcases h with ⟨hb17, h⟩ | ⟨hb17, h⟩
          · refine TS_know 89 (b := true) hb17 (by kernel_rfl) (by kernel_rfl) ?_
            refine TS_know 88 (b := true) hb17 (by kernel_rfl) (by kernel_rfl) ?_
            refine TS_T (by kernel_rfl) rfl ?_
            refine TS_go 1 ?_
            refine TS_draw (by kernel_rfl) ?_
            refine TD_go 12 ?_
            refine TD_end (by kernel_rfl) ?_
            refine TS_go 6 ?_
            replace h := condO h
            rcases h with ⟨hb18, h⟩ | ⟨hb18, h⟩
            · refine TS_know 101 (b := true) hb18 (by kernel_rfl) (by kernel_rfl) ?_
              refine TS_know 102 (b := true) hb18 (by kernel_rfl) (by kernel_rfl) ?_
              refine TS_go 2 ?_
              replace h := bindO h
              obtain ⟨v19, hv19, h⟩ := h
              refine TS_call [] (ok_sources_ValidTo a0.To v19 hv19) (by kernel_rfl) (by kernel_rfl) ?_
              refine TS_go 2 ?_
              replace h := condO h
              rcases h with ⟨hb20, h⟩ | ⟨hb20, h⟩
              · subst hb20
                refine TS_go 5 ?_
                replace h := condO h
                rcases h with ⟨hb21, h⟩ | ⟨hb21, h⟩
                · refine TS_know 110 (b := true) hb21 (by kernel_rfl) (by kernel_rfl) ?_
                  refine TS_know 111 (b := true) hb21 (by kernel_rfl) (by kernel_rfl) ?_
                  refine TS_know 112 (b := true) hb21 (by kernel_rfl) (by kernel_rfl) ?_
                  refine TS_go 9 ?_
                  have ret := Option.some.inj h
                  subst ret
                  exact TS_ret (by kernel_rfl) (by kernel_rfl) (by kernel_rfl)
                · refine TS_know 110 (b := false) hb21 (by kernel_rfl) (by kernel_rfl) ?_
                  refine TS_know 111 (b := false) hb21 (by kernel_rfl) (by kernel_rfl) ?_
                  refine TS_know 112 (b := false) hb21 (by kernel_rfl) (by kernel_rfl) ?_
                  refine TS_go 9 ?_
                  have ret := Option.some.inj h
                  subst ret
                  exact TS_ret (by kernel_rfl) (by kernel_rfl) (by kernel_rfl)
              · subst hb20
                refine TS_go 14 ?_
                have ret := Option.some.inj h
                subst ret
                exact TS_ret (by kernel_rfl) (by kernel_rfl) (by kernel_rfl)
            · refine TS_know 101 (b := false) hb18 (by kernel_rfl) (by kernel_rfl) ?_
              refine TS_know 102 (b := false) hb18 (by kernel_rfl) (by kernel_rfl) ?_
              refine TS_go 19 ?_
              have ret := Option.some.inj h
              subst ret
              exact TS_ret (by kernel_rfl) (by kernel_rfl) (by kernel_rfl)
          · refine TS_know 89 (b := false) hb17 (by kernel_rfl) (by kernel_rfl) ?_
            refine TS_know 88 (b := false) hb17 (by kernel_rfl) (by kernel_rfl) ?_
            refine TS_F (by kernel_rfl) rfl ?_
            refine TS_go 7 ?_
            have ret := Option.some.inj h
            subst ret
            exact TS_ret (by kernel_rfl) (by kernel_rfl) (by kernel_rfl)

/-- multihop/messages.allValid -/
noncomputable def F_messages_allValid_l1 (a0 : List S_Notice) (s1 : Int) : Option ((Int) ⊕ ((Unit) ⊕ (Bool))) :=
  bif (decide (s1 < (List.length a0 : Int))) then
    (idx a0 s1).bind fun e5 =>
    (F_messages_Valid e5).bind fun v6 =>
    bif v6 then
      some (Sum.inl (IntKind.wrap .i64 (s1 + 1)))
    else
      some (Sum.inr (Sum.inr false))
  else
    some (Sum.inr (Sum.inl ()))
noncomputable def F_messages_allValid (a0 : List S_Notice) : Option (Bool) :=
  (loopO (F_messages_allValid_l1 a0) 0).bind (Sum.elim (fun b2 =>
    some (true)
  ) (fun w8 => some w8))
set_option maxRecDepth 100000 in
set_option maxHeartbeats 40000000 in
theorem ok_messages_allValid (a0 : List S_Notice) (r : Bool) (h : F_messages_allValid a0 = some r) : Con Try.prog 44 [.c (eS 40 S_Notice.cs (a0))] [] (.c (.lit (.bool (r)))) [] := by
  unfold F_messages_allValid at h
  refine con_of [] [] 15 Try.func44 rfl rfl (by kernel_rfl) (fun K => ?_)
  refine TS_go 12 ?_
  refine TS_cut ⟨[(5, []), (6, []), (7, [])], []⟩ (.mk [.code (codeAt [1, 0, 1, 0] (bodyOf Try.f44)), .blk 0, .code (codeAt [1, 1] (bodyOf Try.f44))] .normal ⟨[(5, .c (.slc 40 0 (List.length a0) (List.map S_Notice.cs a0))), (6, .c (.lit (.int .i64 ((List.length a0 : Int))))), (7, .c (.lit (.int .i64 (0))))], []⟩) (by kernel_rfl) (by kernel_rfl) ?_
  replace h := bindO h
  obtain ⟨y3, hl1, hK1⟩ := h
  refine TS_loopB (F_messages_allValid_l1 a0) ⟨[(5, []), (6, []), (7, [])], []⟩ (fun (s1 : Int) => [(7, .c (.lit (.int .i64 (s1))))]) (fun (s1 : Int) => []) 0 y3 (.exit 0) (fun (b : Unit) => (Sum.inl b : (Unit) ⊕ (Bool))) ⟨[], []⟩ (fun (b2 : Unit) => []) (fun (b2 : Unit) => []) hl1 (by kernel_rfl) (by kernel_rfl) ?_ ?_
  · intro s1 x h hy1
    unfold F_messages_allValid_l1 at h
    refine TS_go 5 ?_
    replace h := condO h
    rcases h with ⟨hb4, h⟩ | ⟨hb4, h⟩
    · refine TS_know 8 (b := true) hb4 (by kernel_rfl) (by kernel_rfl) ?_
      refine TS_T (by kernel_rfl) rfl ?_
      refine TS_go 5 ?_
      replace h := bindO h
      obtain ⟨e5, he5, h⟩ := h
      refine TS_idx S_Notice.cs he5 (by kernel_rfl) (by kernel_rfl) ?_
      refine TS_go 7 ?_
      replace h := bindO h
      obtain ⟨v6, hv6, h⟩ := h
      refine TS_call [] (ok_messages_Valid e5 v6 hv6) (by kernel_rfl) (by kernel_rfl) ?_
      refine TS_go 2 ?_
      replace h := condO h
      rcases h with ⟨hb7, h⟩ | ⟨hb7, h⟩
      · subst hb7
        refine TS_F (by kernel_rfl) rfl ?_
        refine TS_go 6 ?_
        have ret := Option.some.inj h
        subst ret
        exact TS_againB _ ⟨[(5, []), (6, []), (7, [])], []⟩ rfl (by kernel_rfl) (by kernel_rfl)
      · subst hb7
        refine TS_T (by kernel_rfl) rfl ?_
        refine TS_go 7 ?_
        have ret := Option.some.inj h
        subst ret
        have hy1q := hy1 _ rfl
        subst hy1q
        replace h := (elimR hK1)
        refine TS_retB rfl (by kernel_rfl) ?_
        refine TS_go 2 ?_
        have ret := Option.some.inj h
        subst ret
        exact TS_ret (by kernel_rfl) (by kernel_rfl) (by kernel_rfl)
    · refine TS_know 8 (b := false) hb4 (by kernel_rfl) (by kernel_rfl) ?_
      refine TS_F (by kernel_rfl) rfl ?_
      refine TS_go 2 ?_
      have ret := Option.some.inj h
      subst ret
      exact TS_brkB () ⟨[], []⟩ rfl (by kernel_rfl) (by kernel_rfl) (by kernel_rfl)
  · intro b2 hb
    subst y3
    have h := elimL hK1
    refine TS_go 6 ?_
    have ret := Option.some.inj h
    subst ret
    exact TS_ret (by kernel_rfl) (by kernel_rfl) (by kernel_rfl)

/-- multihop/messages.isCreation -/
noncomputable def F_messages_isCreation (a0 : Int) : Option (Bool) :=
  bif (decide (a0 ≥ 0)) then
    some ((decide (a0 < 1099511627776)))
  else
    some (false)
set_option maxRecDepth 100000 in
set_option maxHeartbeats 40000000 in
theorem ok_messages_isCreation (a0 : Int) (r : Bool) (h : F_messages_isCreation a0 = some r) : Con Try.prog 45 [.c (.lit (.int .i64 (a0)))] [] (.c (.lit (.bool (r)))) [] := by
  unfold F_messages_isCreation at h
  refine con_of [] [] 9 Try.func45 rfl rfl (by kernel_rfl) (fun K => ?_)
  refine TS_go 9 ?_
  replace h := condO h
  rcases h with ⟨hb1, h⟩ | ⟨hb1, h⟩
  · refine TS_know 4 (b := true) hb1 (by kernel_rfl) (by kernel_rfl) ?_
    refine TS_know 5 (b := true) hb1 (by kernel_rfl) (by kernel_rfl) ?_
    refine TS_go 6 ?_
    have ret := Option.some.inj h
    subst ret
    exact TS_ret (by kernel_rfl) (by kernel_rfl) (by kernel_rfl)
  · refine TS_know 4 (b := false) hb1 (by kernel_rfl) (by kernel_rfl) ?_
    refine TS_know 5 (b := false) hb1 (by kernel_rfl) (by kernel_rfl) ?_
    refine TS_go 6 ?_
    have ret := Option.some.inj h
    subst ret
    exact TS_ret (by kernel_rfl) (by kernel_rfl) (by kernel_rfl)

/-- multihop/octets.Append -/
noncomputable def F_octets_Append_l2 (v1 : Int) (a0 : List Int) (a1 : Int) (s3 : Int × (List Int)) : Option ((Int × (List Int)) ⊕ ((List Int))) :=
  bif (decide (s3.1 < v1)) then
    bif decide (0 ≤ (IntKind.wrap .i64 (8 * (IntKind.wrap .i64 ((IntKind.wrap .i64 (v1 - 1)) - s3.1))))) then
      (idx (Cut.app .whole s3.2) (IntKind.wrap .i64 ((List.length a0 : Int) + s3.1))).bind fun _e8 =>
      (s3.2[(0 + Int.toNat (IntKind.wrap .i64 ((List.length a0 : Int) + s3.1)))]?).bind fun _e9 =>
      some (Sum.inl (IntKind.wrap .i64 (s3.1 + 1), (List.set s3.2 (0 + Int.toNat (IntKind.wrap .i64 ((List.length a0 : Int) + s3.1))) (IntKind.wrap .u8 (ishr .u64 a1 (IntKind.wrap .i64 (8 * (IntKind.wrap .i64 ((IntKind.wrap .i64 (v1 - 1)) - s3.1)))))))))
    else none
  else
    some (Sum.inr s3.2)
noncomputable def F_octets_Append_j1 (a0 : List Int) (a1 : Int) (v1 : Int) : Option ((List Int)) :=
  (mkO 1 (IntKind.wrap .i64 ((List.length a0 : Int) + v1)) (IntKind.wrap .i64 ((List.length a0 : Int) + v1))).bind fun n2 =>
  (loopO (F_octets_Append_l2 v1 a0 a1) (0, (cpL (List.replicate n2 (0 : Int)) 0 (List.length (Cut.app .whole (List.replicate n2 (0 : Int)))) (Cut.app .whole a0)))).bind fun b4 =>
  some (b4)
noncomputable def F_octets_Append (a0 : List Int) (a1 : Int) (a2 : Int) : Option ((List Int)) :=
  bif (decide (a2 < 0)) then
    (F_octets_Append_j1 a0 a1) 0
  else
    bif (decide (a2 > 8)) then
      (F_octets_Append_j1 a0 a1) 0
    else
      (F_octets_Append_j1 a0 a1) a2
set_option maxRecDepth 100000 in
set_option maxHeartbeats 40000000 in
theorem okT_octets_Append (a0 : List Int) (a1 : Int) (a2 : Int) (r : (List Int)) (h : F_octets_Append a0 a1 a2 = some r) : Con Try.prog 61 [.c (eS 1 (ecI .u8) (a0)), .c (.lit (.int .u64 (a1))), .c (.lit (.int .i64 (a2)))] [] (.c (.slc 1 900002 (List.length r) (List.map (ecI .u8) r))) [(900000, .spare 5 1 (List.length r))] := by
  unfold F_octets_Append at h
  refine con_of [] [(900000, [])] 43 Try.func61 rfl rfl (by kernel_rfl) (fun K => ?_)
  refine TS_go 4 ?_
  refine TS_cut ⟨[(0, []), (1, []), (2, [])], []⟩ (.mk [.code (codeAt [1] (bodyOf Try.f61))] .normal ⟨[(0, .c (.slc 1 0 (List.length a0) (List.map (ecI .u8) a0))), (1, .c (.lit (.int .u64 (a1)))), (2, .c (.lit (.int .i64 (a2))))], []⟩) (by kernel_rfl) (by kernel_rfl) ?_
  refine TS_joinB ⟨[(0, []), (1, []), (2, [])], []⟩ (fun (v1 : Int) => [(2, .c (.lit (.int .i64 (v1))))]) (fun (v1 : Int) => []) (F_octets_Append_j1 a0 a1) r ?_ ?_
  · clear h
    intro v1 h
    unfold F_octets_Append_j1 at h
    refine TS_go 6 ?_
    replace h := bindO h
    obtain ⟨n2, hn2, h⟩ := h
    refine TS_makeR 19 5 1 (ecI .u8) (0 : Int) [] (cs := [.lit (.int .u8 (0))]) (l := IntKind.wrap .i64 ((List.length a0 : Int) + v1)) (c := IntKind.wrap .i64 ((List.length a0 : Int) + v1)) hn2 (by kernel_rfl) (by kernel_rfl) (by kernel_rfl) ?_
    refine TS_go 6 ?_
    refine TS_cpR 19 5 1 (List.length (List.replicate n2 (0 : Int))) 0 (ecI .u8) (fun _ => by kernel_rfl) (l := (List.replicate n2 (0 : Int))) (l2 := a0) .whole .whole (by kernel_rfl) (by kernel_rfl) ?_
    refine TS_go 8 ?_
    refine TS_cut ⟨[(0, []), (1, []), (2, []), (7, []), (23, []), (24, [])], [(19, (19, []))]⟩ (.mk [.code (codeAt [1, 1, 1, 1, 0, 1, 0] (bodyOf Try.f61)), .blk 0, .code (codeAt [1, 1, 1, 1, 1] (bodyOf Try.f61))] .normal ⟨[(0, .c (.slc 1 0 (List.length a0) (List.map (ecI .u8) a0))), (1, .c (.lit (.int .u64 (a1)))), (2, .c (.lit (.int .i64 (v1)))), (7, .c (.own 19)), (23, .c (.lit (.int .i64 (v1)))), (24, .c (.lit (.int .i64 (0))))], [(19, .row 5 1 (List.length (cpL (List.replicate n2 (0 : Int)) 0 (List.length (Cut.app .whole (List.replicate n2 (0 : Int)))) (Cut.app .whole a0))) (List.map (ecI .u8) (cpL (List.replicate n2 (0 : Int)) 0 (List.length (Cut.app .whole (List.replicate n2 (0 : Int)))) (Cut.app .whole a0))))]⟩) (by kernel_rfl) (by kernel_rfl) ?_
    replace h := bindO h
    obtain ⟨y5, hl2, hK2⟩ := h
    refine TS_loopB (F_octets_Append_l2 v1 a0 a1) ⟨[(0, []), (1, []), (2, []), (7, []), (23, []), (24, [])], [(19, (19, []))]⟩ (fun (s3 : Int × (List Int)) => [(24, .c (.lit (.int .i64 (s3.1))))]) (fun (s3 : Int × (List Int)) => [(19, .row 5 1 (List.length s3.2) (List.map (ecI .u8) s3.2))]) (0, (cpL (List.replicate n2 (0 : Int)) 0 (List.length (Cut.app .whole (List.replicate n2 (0 : Int)))) (Cut.app .whole a0))) y5 (.exit 0) (fun (b : (List Int)) => b) ⟨[(7, [])], [(19, (19, []))]⟩ (fun (b4 : (List Int)) => []) (fun (b4 : (List Int)) => [(19, .row 5 1 (List.length b4) (List.map (ecI .u8) b4))]) hl2 (by kernel_rfl) (by kernel_rfl) ?_ ?_
    · intro s3 x h hy2
      unfold F_octets_Append_l2 at h
      refine TS_go 5 ?_
      replace h := condO h
      rcases h with ⟨hb6, h⟩ | ⟨hb6, h⟩
      · refine TS_know 25 (b := true) hb6 (by kernel_rfl) (by kernel_rfl) ?_
        refine TS_T (by kernel_rfl) rfl ?_
        refine TS_go 20 ?_
        replace h := chkO h
        obtain ⟨hc7, h⟩ := h
        refine TS_num (op := .shr) (k := .u64) (k' := .i64) (m := a1) (i := IntKind.wrap .i64 (8 * (IntKind.wrap .i64 ((IntKind.wrap .i64 (v1 - 1)) - s3.1)))) (of_decide_eq_true hc7) rfl (by simp) (by kernel_rfl) (by kernel_rfl) ?_
        refine TS_go 1 ?_
        replace h := bindO h
        obtain ⟨_e8, he8, h⟩ := h
        refine TS_idxR 19 1 0 (ecI .u8) .whole he8 (by kernel_rfl) (by kernel_rfl) ?_
        replace h := bindO h
        obtain ⟨_e9, he9, h⟩ := h
        refine TS_stE 19 5 1 (List.length s3.2) (0 + Int.toNat (IntKind.wrap .i64 ((List.length a0 : Int) + s3.1))) 0 (ecI .u8) (ds := [.lit (.int .u8 (IntKind.wrap .u8 (ishr .u64 a1 (IntKind.wrap .i64 (8 * (IntKind.wrap .i64 ((IntKind.wrap .i64 (v1 - 1)) - s3.1)))))))]) (IntKind.wrap .u8 (ishr .u64 a1 (IntKind.wrap .i64 (8 * (IntKind.wrap .i64 ((IntKind.wrap .i64 (v1 - 1)) - s3.1)))))) he9 (by kernel_rfl) (by kernel_rfl) (by kernel_rfl) (by kernel_rfl) ?_
        refine TS_go 6 ?_
        have ret := Option.some.inj h
        subst ret
        exact TS_againB _ ⟨[(0, []), (1, []), (2, []), (7, []), (23, []), (24, [])], [(19, (19, []))]⟩ rfl (by kernel_rfl) (by kernel_rfl)
      · refine TS_know 25 (b := false) hb6 (by kernel_rfl) (by kernel_rfl) ?_
        refine TS_F (by kernel_rfl) rfl ?_
        refine TS_go 2 ?_
        have ret := Option.some.inj h
        subst ret
        exact TS_brkB s3.2 ⟨[(7, [])], [(19, (19, []))]⟩ rfl (by kernel_rfl) (by kernel_rfl) (by kernel_rfl)
    · intro b4 hb
      subst y5
      have h := hK2
      refine TS_go 6 ?_
      refine TS_settle 19 (by kernel_rfl) ?_
      refine TS_fitU ⟨[(6, [])], [(19, (900000, []))]⟩ (by kernel_rfl) ?_
      refine TS_go 1 ?_
      have ret := Option.some.inj h
      subst ret
      exact TS_ret (by kernel_rfl) (by kernel_rfl) (by kernel_rfl)
  · refine TS_go 5 ?_
    replace h := condO h
    rcases h with ⟨hb11, h⟩ | ⟨hb11, h⟩
    · refine TS_know 10 (b := true) hb11 (by kernel_rfl) (by kernel_rfl) ?_
      refine TS_know 11 (b := true) hb11 (by kernel_rfl) (by kernel_rfl) ?_
      refine TS_go 4 ?_
      refine TS_T (by kernel_rfl) rfl ?_
      refine TS_go 3 ?_
      exact TS_meet 0 ⟨[(0, []), (1, []), (2, [])], []⟩ h (by kernel_rfl) (by kernel_rfl)
    · refine TS_know 10 (b := false) hb11 (by kernel_rfl) (by kernel_rfl) ?_
      refine TS_know 11 (b := false) hb11 (by kernel_rfl) (by kernel_rfl) ?_
      refine TS_go 4 ?_
      replace h := condO h
      rcases h with ⟨hb12, h⟩ | ⟨hb12, h⟩
      · refine TS_know 13 (b := true) hb12 (by kernel_rfl) (by kernel_rfl) ?_
        refine TS_know 14 (b := true) hb12 (by kernel_rfl) (by kernel_rfl) ?_
        refine TS_T (by kernel_rfl) rfl ?_
        refine TS_go 3 ?_
        exact TS_meet 0 ⟨[(0, []), (1, []), (2, [])], []⟩ h (by kernel_rfl) (by kernel_rfl)
      · refine TS_know 13 (b := false) hb12 (by kernel_rfl) (by kernel_rfl) ?_
        refine TS_know 14 (b := false) hb12 (by kernel_rfl) (by kernel_rfl) ?_
        refine TS_F (by kernel_rfl) rfl ?_
        refine TS_go 1 ?_
        exact TS_meet a2 ⟨[(0, []), (1, []), (2, [])], []⟩ h (by kernel_rfl) (by kernel_rfl)
/-- (multihop/messages.state).element -/
noncomputable def F_messages_state_element_H00 (a0 : S_messages_state) (a1 : Int) (a2 : List Int) : Option (S_messages_state) :=
  (appO 1 a0.elements (Cut.app .whole ([a1, IntKind.wrap .u8 (List.length a2 : Int)] : List Int))).bind fun l1 =>
  (appO 1 l1 (Cut.app .whole a2)).bind fun l2 =>
  some ((S_messages_state.mk l2 a0.router a0.dst))
set_option maxRecDepth 100000 in
set_option maxHeartbeats 40000000 in
theorem ok_messages_state_element_H00 (a0 : S_messages_state) (a1 : Int) (a2 : List Int) (r : S_messages_state) (h : F_messages_state_element_H00 a0 a1 a2 = some r) : ConG Try.prog 60 [.agg [.slc 1 1000003 (List.length a0.elements) (List.map (ecI .u8) a0.elements), .lit (.int .u64 (a0.router)), .lit (.int .u8 ((a0.dst.getD 0 0))), .lit (.int .u8 ((a0.dst.getD 1 0))), .lit (.int .u8 ((a0.dst.getD 2 0))), .lit (.int .u8 ((a0.dst.getD 3 0))), .lit (.int .u8 ((a0.dst.getD 4 0))), .lit (.int .u8 ((a0.dst.getD 5 0))), .lit (.int .u8 ((a0.dst.getD 6 0))), .lit (.int .u8 ((a0.dst.getD 7 0))), .lit (.int .u8 ((a0.dst.getD 8 0))), .lit (.int .u8 ((a0.dst.getD 9 0))), .lit (.int .u8 ((a0.dst.getD 10 0))), .lit (.int .u8 ((a0.dst.getD 11 0))), .lit (.int .u8 ((a0.dst.getD 12 0))), .lit (.int .u8 ((a0.dst.getD 13 0))), .lit (.int .u8 ((a0.dst.getD 14 0))), .lit (.int .u8 ((a0.dst.getD 15 0)))], .c (.lit (.int .u8 (a1))), .c (eS 1 (ecI .u8) (a2))] 5 1 (List.length a0.elements) (.agg [.slc 1 1000003 (List.length r.elements) (List.map (ecI .u8) r.elements), .lit (.int .u64 (r.router)), .lit (.int .u8 ((r.dst.getD 0 0))), .lit (.int .u8 ((r.dst.getD 1 0))), .lit (.int .u8 ((r.dst.getD 2 0))), .lit (.int .u8 ((r.dst.getD 3 0))), .lit (.int .u8 ((r.dst.getD 4 0))), .lit (.int .u8 ((r.dst.getD 5 0))), .lit (.int .u8 ((r.dst.getD 6 0))), .lit (.int .u8 ((r.dst.getD 7 0))), .lit (.int .u8 ((r.dst.getD 8 0))), .lit (.int .u8 ((r.dst.getD 9 0))), .lit (.int .u8 ((r.dst.getD 10 0))), .lit (.int .u8 ((r.dst.getD 11 0))), .lit (.int .u8 ((r.dst.getD 12 0))), .lit (.int .u8 ((r.dst.getD 13 0))), .lit (.int .u8 ((r.dst.getD 14 0))), .lit (.int .u8 ((r.dst.getD 15 0)))]) (List.length r.elements) := by
  unfold F_messages_state_element_H00 at h
  refine con_ofGA [] 22 0 0 _ Try.func60 rfl rfl (by kernel_rfl) rfl rfl (fun K => ?_)
  refine TS_go 13 ?_
  refine TS_litNT 13 5 1 (ecI .u8) [] ([a1, IntKind.wrap .u8 (List.length a2 : Int)] : List Int) (by kernel_rfl) (by kernel_rfl) ?_
  replace h := bindO h
  obtain ⟨l1, hl1, h⟩ := h
  refine TS_appT (d := 1000001) (e := 5) (sz := 1) (N := List.length a0.elements) (ecI .u8) (fun _ => by kernel_rfl) (l1 := a0.elements) (l2 := ([a1, IntKind.wrap .u8 (List.length a2 : Int)] : List Int)) (c := .whole) hl1 (by kernel_rfl) (by kernel_rfl) ?_
  refine TS_go 8 ?_
  replace h := bindO h
  obtain ⟨l2, hl2, h⟩ := h
  refine TS_appT (d := 1000001) (e := 5) (sz := 1) (N := List.length l1) (ecI .u8) (fun _ => by kernel_rfl) (l1 := l1) (l2 := a2) (c := .whole) hl2 (by kernel_rfl) (by kernel_rfl) ?_
  refine TS_go 9 ?_
  have ret := Option.some.inj h
  subst ret
  exact TS_retG (sz1 := 1) (xs1 := List.map (ecI .u8) a0.elements) (by kernel_rfl) (by kernel_rfl) (by kernel_rfl) (by kernel_rfl)

/-- multihop/messages.size -/
noncomputable def F_messages_size (a0 : Int) : Option (Int) :=
  some (iquo .i64 (IntKind.wrap .i64 (a0 + 7)) 8)
set_option maxRecDepth 100000 in
set_option maxHeartbeats 40000000 in
theorem ok_messages_size (a0 : Int) (r : Int) (h : F_messages_size a0 = some r) : Con Try.prog 70 [.c (.lit (.int .i64 (a0)))] [] (.c (.lit (.int .i64 (r)))) [] := by
  unfold F_messages_size at h
  refine con_of [] [] 6 Try.func70 rfl rfl (by kernel_rfl) (fun K => ?_)
  refine TS_go 12 ?_
  have ret := Option.some.inj h
  subst ret
  exact TS_ret (by kernel_rfl) (by kernel_rfl) (by kernel_rfl)

/-- multihop/messages.prefixBytes -/
noncomputable def F_messages_prefixBytes (a0 : S_Prefix) : Option ((List Int)) :=
  (F_messages_size a0.Bits).bind fun v1 =>
  (subO (arrL 16 a0.IP) 0 v1).bind fun l2 =>
  some (l2)
set_option maxRecDepth 100000 in
set_option maxHeartbeats 40000000 in
theorem ok_messages_prefixBytes (a0 : S_Prefix) (r : (List Int)) (h : F_messages_prefixBytes a0 = some r) : Con Try.prog 63 [.agg (S_Prefix.cs a0)] [] (.c (eS 1 (ecI .u8) (r))) [] := by
  unfold F_messages_prefixBytes at h
  refine con_of [[2]] [] 8 Try.func63 rfl rfl (by kernel_rfl) (fun K => ?_)
  refine TS_go 2 ?_
  refine TS_boxF (cs := [.lit (.int .u8 ((a0.IP.getD 0 0))), .lit (.int .u8 ((a0.IP.getD 1 0))), .lit (.int .u8 ((a0.IP.getD 2 0))), .lit (.int .u8 ((a0.IP.getD 3 0))), .lit (.int .u8 ((a0.IP.getD 4 0))), .lit (.int .u8 ((a0.IP.getD 5 0))), .lit (.int .u8 ((a0.IP.getD 6 0))), .lit (.int .u8 ((a0.IP.getD 7 0))), .lit (.int .u8 ((a0.IP.getD 8 0))), .lit (.int .u8 ((a0.IP.getD 9 0))), .lit (.int .u8 ((a0.IP.getD 10 0))), .lit (.int .u8 ((a0.IP.getD 11 0))), .lit (.int .u8 ((a0.IP.getD 12 0))), .lit (.int .u8 ((a0.IP.getD 13 0))), .lit (.int .u8 ((a0.IP.getD 14 0))), .lit (.int .u8 ((a0.IP.getD 15 0))), .lit (.int .i64 (a0.Bits))]) (by kernel_rfl) (by kernel_rfl) ?_
  refine TS_go 7 ?_
  replace h := bindO h
  obtain ⟨v1, hv1, h⟩ := h
  refine TS_call [] (ok_messages_size a0.Bits v1 hv1) (by kernel_rfl) (by kernel_rfl) ?_
  replace h := bindO h
  obtain ⟨_l2, hl2, h⟩ := h
  refine TS_slF (k := .u8) (a := 0) (b := v1) 16 a0.IP (by decide) hl2 (by kernel_rfl) (by kernel_rfl) ?_
  refine TS_go 3 ?_
  have ret := Option.some.inj h
  subst ret
  exact TS_ret (by kernel_rfl) (by kernel_rfl) (by kernel_rfl)

/-- (multihop/messages.state).update -/
noncomputable def F_messages_state_update_H00_l2 (v2 : (List Int)) (v1 : S_messages_state) (s3 : Int) : Option ((Int) ⊕ (Int)) :=
  bif (decide (s3 < (List.length v2 : Int))) then
    (idx v2 s3).bind fun e7 =>
    bif decide ((0 : Int) ≤ s3 ∧ s3 < (16 : Int)) then
      bif (e7 == (List.getD v1.dst (Int.toNat s3) 0)) then
        some (Sum.inl (IntKind.wrap .i64 (s3 + 1)))
      else
        some (Sum.inr s3)
    else none
  else
    some (Sum.inr s3)
noncomputable def F_messages_state_update_H00_j1 (a1 : S_Notice) (v1 : S_messages_state) : Option (S_messages_state) :=
  (F_messages_prefixBytes a1.To.Dst).bind fun v2 =>
  (loopO (F_messages_state_update_H00_l2 v2 v1) 0).bind fun b4 =>
  (F_octets_Append ([IntKind.wrap .u8 b4, IntKind.wrap .u8 a1.To.Dst.Bits, IntKind.wrap .u8 a1.To.Src.Bits] : List Int) (IntKind.wrap .u64 a1.Seq) 2).bind fun v11 =>
  (F_octets_Append v11 (IntKind.wrap .u64 a1.Metric) 2).bind fun v12 =>
  (subO v2 b4 (List.length v2 : Int)).bind fun l13 =>
  (appO 1 v12 (Cut.app .whole l13)).bind fun l14 =>
  (F_messages_prefixBytes a1.To.Src).bind fun v15 =>
  (appO 1 l14 (Cut.app .whole v15)).bind fun l16 =>
  (F_messages_state_element_H00 (S_messages_state.mk v1.elements v1.router a1.To.Dst.IP) 3 l16).bind fun v17 =>
  some (v17)
noncomputable def F_messages_state_update_H00 (a0 : S_messages_state) (a1 : S_Notice) : Option (S_messages_state) :=
  bif (a1.To.Router != a0.router) then
    (F_octets_Append ([] : List Int) a1.To.Router 8).bind fun v19 =>
    (F_messages_state_element_H00 a0 6 v19).bind fun v20 =>
    (F_messages_state_update_H00_j1 a1) (S_messages_state.mk v20.elements a1.To.Router v20.dst)
  else
    (F_messages_state_update_H00_j1 a1) a0
set_option maxRecDepth 100000 in
set_option maxHeartbeats 40000000 in
theorem ok_messages_state_update_H00 (a0 : S_messages_state) (a1 : S_Notice) (r : S_messages_state) (h : F_messages_state_update_H00 a0 a1 = some r) : ConG Try.prog 62 [.agg [.slc 1 1000003 (List.length a0.elements) (List.map (ecI .u8) a0.elements), .lit (.int .u64 (a0.router)), .lit (.int .u8 ((a0.dst.getD 0 0))), .lit (.int .u8 ((a0.dst.getD 1 0))), .lit (.int .u8 ((a0.dst.getD 2 0))), .lit (.int .u8 ((a0.dst.getD 3 0))), .lit (.int .u8 ((a0.dst.getD 4 0))), .lit (.int .u8 ((a0.dst.getD 5 0))), .lit (.int .u8 ((a0.dst.getD 6 0))), .lit (.int .u8 ((a0.dst.getD 7 0))), .lit (.int .u8 ((a0.dst.getD 8 0))), .lit (.int .u8 ((a0.dst.getD 9 0))), .lit (.int .u8 ((a0.dst.getD 10 0))), .lit (.int .u8 ((a0.dst.getD 11 0))), .lit (.int .u8 ((a0.dst.getD 12 0))), .lit (.int .u8 ((a0.dst.getD 13 0))), .lit (.int .u8 ((a0.dst.getD 14 0))), .lit (.int .u8 ((a0.dst.getD 15 0)))], .agg (S_Notice.cs a1)] 5 1 (List.length a0.elements) (.agg [.slc 1 1000003 (List.length r.elements) (List.map (ecI .u8) r.elements), .lit (.int .u64 (r.router)), .lit (.int .u8 ((r.dst.getD 0 0))), .lit (.int .u8 ((r.dst.getD 1 0))), .lit (.int .u8 ((r.dst.getD 2 0))), .lit (.int .u8 ((r.dst.getD 3 0))), .lit (.int .u8 ((r.dst.getD 4 0))), .lit (.int .u8 ((r.dst.getD 5 0))), .lit (.int .u8 ((r.dst.getD 6 0))), .lit (.int .u8 ((r.dst.getD 7 0))), .lit (.int .u8 ((r.dst.getD 8 0))), .lit (.int .u8 ((r.dst.getD 9 0))), .lit (.int .u8 ((r.dst.getD 10 0))), .lit (.int .u8 ((r.dst.getD 11 0))), .lit (.int .u8 ((r.dst.getD 12 0))), .lit (.int .u8 ((r.dst.getD 13 0))), .lit (.int .u8 ((r.dst.getD 14 0))), .lit (.int .u8 ((r.dst.getD 15 0)))]) (List.length r.elements) := by
  unfold F_messages_state_update_H00 at h
  refine con_ofGA [] 87 0 0 _ Try.func62 rfl rfl (by kernel_rfl) rfl rfl (fun K => ?_)
  refine TS_go 6 ?_
  refine TS_cut ⟨[(2000000, []), (2, []), (3, []), (4, [])], [(1000001, (1000001, [])), (2, (2, [])), (3, (3, [])), (4, (4, []))]⟩ (.mk [.code (codeAt [1] (bodyOf Try.f62))] .normal ⟨[(2000000, .c (.slc 1 1000003 (List.length a0.elements) (List.map (ecI .u8) a0.elements))), (2, .c (.box 2 0)), (3, .c (.box 3 0)), (4, .c (.box 4 0))], [(1000001, .spare 5 1 (List.length a0.elements)), (2, .box [.slc 1 1000003 (List.length a0.elements) (List.map (ecI .u8) a0.elements), .lit (.int .u64 (a0.router)), .lit (.int .u8 ((a0.dst.getD 0 0))), .lit (.int .u8 ((a0.dst.getD 1 0))), .lit (.int .u8 ((a0.dst.getD 2 0))), .lit (.int .u8 ((a0.dst.getD 3 0))), .lit (.int .u8 ((a0.dst.getD 4 0))), .lit (.int .u8 ((a0.dst.getD 5 0))), .lit (.int .u8 ((a0.dst.getD 6 0))), .lit (.int .u8 ((a0.dst.getD 7 0))), .lit (.int .u8 ((a0.dst.getD 8 0))), .lit (.int .u8 ((a0.dst.getD 9 0))), .lit (.int .u8 ((a0.dst.getD 10 0))), .lit (.int .u8 ((a0.dst.getD 11 0))), .lit (.int .u8 ((a0.dst.getD 12 0))), .lit (.int .u8 ((a0.dst.getD 13 0))), .lit (.int .u8 ((a0.dst.getD 14 0))), .lit (.int .u8 ((a0.dst.getD 15 0)))]), (3, .box [.lit (.int .i64 (a1.Kind)), .lit (.int .u16 (a1.Seq)), .lit (.int .i64 (a1.Metric)), .lit (.int .u64 (a1.Neighbour)), .lit (.int .u8 ((a1.To.Dst.IP.getD 0 0))), .lit (.int .u8 ((a1.To.Dst.IP.getD 1 0))), .lit (.int .u8 ((a1.To.Dst.IP.getD 2 0))), .lit (.int .u8 ((a1.To.Dst.IP.getD 3 0))), .lit (.int .u8 ((a1.To.Dst.IP.getD 4 0))), .lit (.int .u8 ((a1.To.Dst.IP.getD 5 0))), .lit (.int .u8 ((a1.To.Dst.IP.getD 6 0))), .lit (.int .u8 ((a1.To.Dst.IP.getD 7 0))), .lit (.int .u8 ((a1.To.Dst.IP.getD 8 0))), .lit (.int .u8 ((a1.To.Dst.IP.getD 9 0))), .lit (.int .u8 ((a1.To.Dst.IP.getD 10 0))), .lit (.int .u8 ((a1.To.Dst.IP.getD 11 0))), .lit (.int .u8 ((a1.To.Dst.IP.getD 12 0))), .lit (.int .u8 ((a1.To.Dst.IP.getD 13 0))), .lit (.int .u8 ((a1.To.Dst.IP.getD 14 0))), .lit (.int .u8 ((a1.To.Dst.IP.getD 15 0))), .lit (.int .i64 (a1.To.Dst.Bits)), .lit (.int .u8 ((a1.To.Src.IP.getD 0 0))), .lit (.int .u8 ((a1.To.Src.IP.getD 1 0))), .lit (.int .u8 ((a1.To.Src.IP.getD 2 0))), .lit (.int .u8 ((a1.To.Src.IP.getD 3 0))), .lit (.int .u8 ((a1.To.Src.IP.getD 4 0))), .lit (.int .u8 ((a1.To.Src.IP.getD 5 0))), .lit (.int .u8 ((a1.To.Src.IP.getD 6 0))), .lit (.int .u8 ((a1.To.Src.IP.getD 7 0))), .lit (.int .u8 ((a1.To.Src.IP.getD 8 0))), .lit (.int .u8 ((a1.To.Src.IP.getD 9 0))), .lit (.int .u8 ((a1.To.Src.IP.getD 10 0))), .lit (.int .u8 ((a1.To.Src.IP.getD 11 0))), .lit (.int .u8 ((a1.To.Src.IP.getD 12 0))), .lit (.int .u8 ((a1.To.Src.IP.getD 13 0))), .lit (.int .u8 ((a1.To.Src.IP.getD 14 0))), .lit (.int .u8 ((a1.To.Src.IP.getD 15 0))), .lit (.int .i64 (a1.To.Src.Bits)), .lit (.int .u64 (a1.To.Router)), .lit (.int .i64 (a1.Hops))]), (4, .box [.lit (.slice none 0 0), .lit (.int .u64 (0)), .lit (.int .u8 (0)), .lit (.int .u8 (0)), .lit (.int .u8 (0)), .lit (.int .u8 (0)), .lit (.int .u8 (0)), .lit (.int .u8 (0)), .lit (.int .u8 (0)), .lit (.int .u8 (0)), .lit (.int .u8 (0)), .lit (.int .u8 (0)), .lit (.int .u8 (0)), .lit (.int .u8 (0)), .lit (.int .u8 (0)), .lit (.int .u8 (0)), .lit (.int .u8 (0)), .lit (.int .u8 (0))])]⟩) (by kernel_rfl) (by kernel_rfl) ?_
  refine TS_joinB ⟨[(2, []), (3, []), (4, []), (2000000, [])], [(2, (2, [])), (3, (3, [])), (4, (4, [])), (1000001, (1000001, []))]⟩ (fun (v1 : S_messages_state) => []) (fun (v1 : S_messages_state) => [(2, .box [.slc 1 1000003 (List.length v1.elements) (List.map (ecI .u8) v1.elements), .lit (.int .u64 (v1.router)), .lit (.int .u8 ((v1.dst.getD 0 0))), .lit (.int .u8 ((v1.dst.getD 1 0))), .lit (.int .u8 ((v1.dst.getD 2 0))), .lit (.int .u8 ((v1.dst.getD 3 0))), .lit (.int .u8 ((v1.dst.getD 4 0))), .lit (.int .u8 ((v1.dst.getD 5 0))), .lit (.int .u8 ((v1.dst.getD 6 0))), .lit (.int .u8 ((v1.dst.getD 7 0))), .lit (.int .u8 ((v1.dst.getD 8 0))), .lit (.int .u8 ((v1.dst.getD 9 0))), .lit (.int .u8 ((v1.dst.getD 10 0))), .lit (.int .u8 ((v1.dst.getD 11 0))), .lit (.int .u8 ((v1.dst.getD 12 0))), .lit (.int .u8 ((v1.dst.getD 13 0))), .lit (.int .u8 ((v1.dst.getD 14 0))), .lit (.int .u8 ((v1.dst.getD 15 0)))]), (1000001, .spare 5 1 (List.length v1.elements))]) (F_messages_state_update_H00_j1 a1) r ?_ ?_
  · clear h
    intro v1 h
    unfold F_messages_state_update_H00_j1 at h
    refine TS_go 5 ?_
    replace h := bindO h
    obtain ⟨v2, hv2, h⟩ := h
    refine TS_call [] (ok_messages_prefixBytes a1.To.Dst v2 hv2) (by kernel_rfl) (by kernel_rfl) ?_
    refine TS_go 8 ?_
    refine TS_cut ⟨[(2, []), (3, []), (4, []), (2000000, []), (5, []), (6, [])], [(2, (2, [])), (3, (3, [])), (4, (4, [])), (1000001, (1000001, []))]⟩ (.mk [.code (codeAt [1, 1, 1, 1, 0, 0] (bodyOf Try.f62)), .blk 0, .code (codeAt [1, 1, 1, 1, 1] (bodyOf Try.f62))] .normal ⟨[(2, .c (.box 2 0)), (3, .c (.box 3 0)), (4, .c (.box 4 0)), (2000000, .c (.slc 1 1000003 (List.length a0.elements) (List.map (ecI .u8) a0.elements))), (5, .c (.slc 1 0 (List.length v2) (List.map (ecI .u8) v2))), (6, .c (.lit (.int .i64 (0))))], [(2, .box [.slc 1 1000003 (List.length v1.elements) (List.map (ecI .u8) v1.elements), .lit (.int .u64 (v1.router)), .lit (.int .u8 ((v1.dst.getD 0 0))), .lit (.int .u8 ((v1.dst.getD 1 0))), .lit (.int .u8 ((v1.dst.getD 2 0))), .lit (.int .u8 ((v1.dst.getD 3 0))), .lit (.int .u8 ((v1.dst.getD 4 0))), .lit (.int .u8 ((v1.dst.getD 5 0))), .lit (.int .u8 ((v1.dst.getD 6 0))), .lit (.int .u8 ((v1.dst.getD 7 0))), .lit (.int .u8 ((v1.dst.getD 8 0))), .lit (.int .u8 ((v1.dst.getD 9 0))), .lit (.int .u8 ((v1.dst.getD 10 0))), .lit (.int .u8 ((v1.dst.getD 11 0))), .lit (.int .u8 ((v1.dst.getD 12 0))), .lit (.int .u8 ((v1.dst.getD 13 0))), .lit (.int .u8 ((v1.dst.getD 14 0))), .lit (.int .u8 ((v1.dst.getD 15 0)))]), (3, .box [.lit (.int .i64 (a1.Kind)), .lit (.int .u16 (a1.Seq)), .lit (.int .i64 (a1.Metric)), .lit (.int .u64 (a1.Neighbour)), .lit (.int .u8 ((a1.To.Dst.IP.getD 0 0))), .lit (.int .u8 ((a1.To.Dst.IP.getD 1 0))), .lit (.int .u8 ((a1.To.Dst.IP.getD 2 0))), .lit (.int .u8 ((a1.To.Dst.IP.getD 3 0))), .lit (.int .u8 ((a1.To.Dst.IP.getD 4 0))), .lit (.int .u8 ((a1.To.Dst.IP.getD 5 0))), .lit (.int .u8 ((a1.To.Dst.IP.getD 6 0))), .lit (.int .u8 ((a1.To.Dst.IP.getD 7 0))), .lit (.int .u8 ((a1.To.Dst.IP.getD 8 0))), .lit (.int .u8 ((a1.To.Dst.IP.getD 9 0))), .lit (.int .u8 ((a1.To.Dst.IP.getD 10 0))), .lit (.int .u8 ((a1.To.Dst.IP.getD 11 0))), .lit (.int .u8 ((a1.To.Dst.IP.getD 12 0))), .lit (.int .u8 ((a1.To.Dst.IP.getD 13 0))), .lit (.int .u8 ((a1.To.Dst.IP.getD 14 0))), .lit (.int .u8 ((a1.To.Dst.IP.getD 15 0))), .lit (.int .i64 (a1.To.Dst.Bits)), .lit (.int .u8 ((a1.To.Src.IP.getD 0 0))), .lit (.int .u8 ((a1.To.Src.IP.getD 1 0))), .lit (.int .u8 ((a1.To.Src.IP.getD 2 0))), .lit (.int .u8 ((a1.To.Src.IP.getD 3 0))), .lit (.int .u8 ((a1.To.Src.IP.getD 4 0))), .lit (.int .u8 ((a1.To.Src.IP.getD 5 0))), .lit (.int .u8 ((a1.To.Src.IP.getD 6 0))), .lit (.int .u8 ((a1.To.Src.IP.getD 7 0))), .lit (.int .u8 ((a1.To.Src.IP.getD 8 0))), .lit (.int .u8 ((a1.To.Src.IP.getD 9 0))), .lit (.int .u8 ((a1.To.Src.IP.getD 10 0))), .lit (.int .u8 ((a1.To.Src.IP.getD 11 0))), .lit (.int .u8 ((a1.To.Src.IP.getD 12 0))), .lit (.int .u8 ((a1.To.Src.IP.getD 13 0))), .lit (.int .u8 ((a1.To.Src.IP.getD 14 0))), .lit (.int .u8 ((a1.To.Src.IP.getD 15 0))), .lit (.int .i64 (a1.To.Src.Bits)), .lit (.int .u64 (a1.To.Router)), .lit (.int .i64 (a1.Hops))]), (4, .box [.lit (.slice none 0 0), .lit (.int .u64 (0)), .lit (.int .u8 (0)), .lit (.int .u8 (0)), .lit (.int .u8 (0)), .lit (.int .u8 (0)), .lit (.int .u8 (0)), .lit (.int .u8 (0)), .lit (.int .u8 (0)), .lit (.int .u8 (0)), .lit (.int .u8 (0)), .lit (.int .u8 (0)), .lit (.int .u8 (0)), .lit (.int .u8 (0)), .lit (.int .u8 (0)), .lit (.int .u8 (0)), .lit (.int .u8 (0)), .lit (.int .u8 (0))]), (1000001, .spare 5 1 (List.length v1.elements))]⟩) (by kernel_rfl) (by kernel_rfl) ?_
    replace h := bindO h
    obtain ⟨y5, hl2, hK2⟩ := h
    refine TS_loopB (F_messages_state_update_H00_l2 v2 v1) ⟨[(2, []), (3, []), (4, []), (5, []), (6, []), (2000000, [])], [(2, (2, [])), (3, (3, [])), (4, (4, [])), (1000001, (1000001, []))]⟩ (fun (s3 : Int) => [(6, .c (.lit (.int .i64 (s3))))]) (fun (s3 : Int) => []) 0 y5 (.exit 0) (fun (b : Int) => b) ⟨[(2, []), (3, []), (4, []), (5, []), (6, []), (2000000, [])], [(2, (2, [])), (3, (3, [])), (4, (4, [])), (1000001, (1000001, []))]⟩ (fun (b4 : Int) => [(6, .c (.lit (.int .i64 (b4))))]) (fun (b4 : Int) => []) hl2 (by kernel_rfl) (by kernel_rfl) ?_ ?_
    · intro s3 x h hy2
      unfold F_messages_state_update_H00_l2 at h
      refine TS_go 2 ?_
      refine TS_draw (by kernel_rfl) ?_
      refine TD_go 4 ?_
      replace h := condO h
      rcases h with ⟨hb6, h⟩ | ⟨hb6, h⟩
      · refine TD_know 32 (b := true) hb6 trivial (by kernel_rfl) (by kernel_rfl) ?_
        refine TD_go 2 ?_
        replace h := bindO h
        obtain ⟨_e7, he7, h⟩ := h
        refine TD_idx (ecI .u8) he7 (by kernel_rfl) (by kernel_rfl) ?_
        refine TD_go 3 ?_
        replace h := chkO h
        obtain ⟨hc8, h⟩ := h
        refine TD_idxA 2 2 16 (i := s3) hc8 (by kernel_rfl) (by kernel_rfl) ?_
        refine TD_ldA .u8 2 16 (i := s3) v1.dst hc8 (by kernel_rfl) (by kernel_rfl) ?_
        refine TD_go 2 ?_
        refine TD_end (by kernel_rfl) ?_
        replace h := condO h
        rcases h with ⟨hb9, h⟩ | ⟨hb9, h⟩
        · refine TS_know 31 (b := true) hb6 (by kernel_rfl) (by kernel_rfl) ?_
          refine TS_know 41 (b := true) hb9 (by kernel_rfl) (by kernel_rfl) ?_
          refine TS_know 42 (b := true) hb9 (by kernel_rfl) (by kernel_rfl) ?_
          refine TS_T (by kernel_rfl) rfl ?_
          refine TS_go 8 ?_
          have ret := Option.some.inj h
          subst ret
          exact TS_againB _ ⟨[(2, []), (3, []), (4, []), (5, []), (6, []), (2000000, [])], [(2, (2, [])), (3, (3, [])), (4, (4, [])), (1000001, (1000001, []))]⟩ rfl (by kernel_rfl) (by kernel_rfl)
        · refine TS_know 31 (b := true) hb6 (by kernel_rfl) (by kernel_rfl) ?_
          refine TS_know 41 (b := false) hb9 (by kernel_rfl) (by kernel_rfl) ?_
          refine TS_know 42 (b := false) hb9 (by kernel_rfl) (by kernel_rfl) ?_
          refine TS_F (by kernel_rfl) rfl ?_
          refine TS_go 2 ?_
          have ret := Option.some.inj h
          subst ret
          exact TS_brkB s3 ⟨[(2, []), (3, []), (4, []), (5, []), (6, []), (2000000, [])], [(2, (2, [])), (3, (3, [])), (4, (4, [])), (1000001, (1000001, []))]⟩ rfl (by kernel_rfl) (by kernel_rfl) (by kernel_rfl)
      · refine TD_know 32 (b := false) hb6 trivial (by kernel_rfl) (by kernel_rfl) ?_
        refine TD_go 10 ?_
        refine TD_end (by kernel_rfl) ?_
        refine TS_F (by kernel_rfl) rfl ?_
        refine TS_go 2 ?_
        have ret := Option.some.inj h
        subst ret
        exact TS_brkB s3 ⟨[(2, []), (3, []), (4, []), (5, []), (6, []), (2000000, [])], [(2, (2, [])), (3, (3, [])), (4, (4, [])), (1000001, (1000001, []))]⟩ rfl (by kernel_rfl) (by kernel_rfl) (by kernel_rfl)
    · intro b4 hb
      subst y5
      have h := hK2
      refine TS_go 15 ?_
      refine TS_litNT 57 5 1 (ecI .u8) [] ([IntKind.wrap .u8 b4, IntKind.wrap .u8 a1.To.Dst.Bits, IntKind.wrap .u8 a1.To.Src.Bits] : List Int) (by kernel_rfl) (by kernel_rfl) ?_
      refine TS_go 8 ?_
      replace h := bindO h
      obtain ⟨v11, hv11, h⟩ := h
      refine TS_con [[2]] [(62, 900000)] none (okT_octets_Append ([IntKind.wrap .u8 b4, IntKind.wrap .u8 a1.To.Dst.Bits, IntKind.wrap .u8 a1.To.Src.Bits] : List Int) (IntKind.wrap .u64 a1.Seq) 2 v11 hv11) (by kernel_rfl) (by kernel_rfl) (by kernel_rfl) ?_
      refine TS_go 8 ?_
      replace h := bindO h
      obtain ⟨v12, hv12, h⟩ := h
      refine TS_con [[2]] [(67, 900000)] none (okT_octets_Append v11 (IntKind.wrap .u64 a1.Metric) 2 v12 hv12) (by kernel_rfl) (by kernel_rfl) (by kernel_rfl) ?_
      refine TS_go 7 ?_
      replace h := bindO h
      obtain ⟨l13, hl13, h⟩ := h
      refine TS_sub (ecI .u8) 1 hl13 (by kernel_rfl) (by kernel_rfl) ?_
      replace h := bindO h
      obtain ⟨l14, hl14, h⟩ := h
      refine TS_appT (d := 67) (e := 5) (sz := 1) (N := List.length v12) (ecI .u8) (fun _ => by kernel_rfl) (l1 := v12) (l2 := l13) (c := .whole) hl14 (by kernel_rfl) (by kernel_rfl) ?_
      refine TS_go 8 ?_
      replace h := bindO h
      obtain ⟨v15, hv15, h⟩ := h
      refine TS_call [] (ok_messages_prefixBytes a1.To.Src v15 hv15) (by kernel_rfl) (by kernel_rfl) ?_
      replace h := bindO h
      obtain ⟨l16, hl16, h⟩ := h
      refine TS_appT (d := 67) (e := 5) (sz := 1) (N := List.length l14) (ecI .u8) (fun _ => by kernel_rfl) (l1 := l14) (l2 := v15) (c := .whole) hl16 (by kernel_rfl) (by kernel_rfl) ?_
      refine TS_go 15 ?_
      replace h := bindO h
      obtain ⟨v17, hv17, h⟩ := h
      refine TS_conG 1000001 [[], [], [2]] (ok_messages_state_element_H00 (S_messages_state.mk v1.elements v1.router a1.To.Dst.IP) 3 l16 v17 hv17) (by kernel_rfl) (by kernel_rfl) (by kernel_rfl) ?_
      refine TS_go 3 ?_
      have ret := Option.some.inj h
      subst ret
      exact TS_retG (sz1 := 1) (xs1 := List.map (ecI .u8) a0.elements) (by kernel_rfl) (by kernel_rfl) (by kernel_rfl) (by kernel_rfl)
  · refine TS_go 9 ?_
    replace h := condO h
    rcases h with ⟨hb18, h⟩ | ⟨hb18, h⟩
    · refine TS_know 13 (b := true) hb18 (by kernel_rfl) (by kernel_rfl) ?_
      refine TS_T (by kernel_rfl) rfl ?_
      refine TS_go 1 ?_
      refine TS_draw (by kernel_rfl) ?_
      refine TD_go 4 ?_
      replace h := bindO h
      obtain ⟨v19, hv19, h⟩ := h
      refine TD_conX (d := 18) (e := 900000) [[2]] (okT_octets_Append ([] : List Int) a1.To.Router 8 v19 hv19) (by kernel_rfl) (by kernel_rfl) ?_
      replace h := bindO h
      obtain ⟨v20, hv20, h⟩ := h
      refine TD_conG 1000001 [[], [], [2]] (ok_messages_state_element_H00 a0 6 v19 v20 hv20) (by kernel_rfl) (by kernel_rfl) (by kernel_rfl) ?_
      refine TD_go 1 ?_
      refine TD_end (by kernel_rfl) ?_
      refine TS_go 7 ?_
      exact TS_meet (S_messages_state.mk v20.elements a1.To.Router v20.dst) ⟨[(2, []), (3, []), (4, []), (2000000, [])], [(2, (2, [])), (3, (3, [])), (4, (4, [])), (1000001, (1000001, []))]⟩ h (by kernel_rfl) (by kernel_rfl)
    · refine TS_know 13 (b := false) hb18 (by kernel_rfl) (by kernel_rfl) ?_
      refine TS_F (by kernel_rfl) rfl ?_
      refine TS_go 1 ?_
      exact TS_meet a0 ⟨[(2, []), (3, []), (4, []), (2000000, [])], [(2, (2, [])), (3, (3, [])), (4, (4, [])), (1000001, (1000001, []))]⟩ h (by kernel_rfl) (by kernel_rfl)

/-- (multihop/messages.state).notice -/
noncomputable def F_messages_state_notice_H00_j1 (a1 : S_Notice) (a0 : S_messages_state) (v10 : (List Int) × Int) : Option (S_messages_state) :=
  (F_messages_prefixBytes a1.To.Dst).bind fun v11 =>
  (appO 1 v10.1 (Cut.app .whole v11)).bind fun l12 =>
  (F_messages_prefixBytes a1.To.Src).bind fun v13 =>
  (appO 1 l12 (Cut.app .whole v13)).bind fun l14 =>
  (F_messages_state_element_H00 a0 v10.2 l14).bind fun v15 =>
  some (v15)
noncomputable def F_messages_state_notice_H00 (a0 : S_messages_state) (a1 : S_Notice) : Option (S_messages_state) :=
  bif (a1.Kind == 1) then
    (F_octets_Append ([] : List Int) (IntKind.wrap .u64 a1.Seq) 2).bind fun v2 =>
    (F_messages_state_element_H00 a0 1 v2).bind fun v3 =>
    some (v3)
  else
    bif (a1.Kind == 2) then
      (F_octets_Append ([] : List Int) a1.Neighbour 8).bind fun v5 =>
      (F_octets_Append v5 (IntKind.wrap .u64 a1.Metric) 2).bind fun v6 =>
      (F_messages_state_element_H00 a0 2 v6).bind fun v7 =>
      some (v7)
    else
      bif (a1.Kind == 3) then
        (F_messages_state_update_H00 a0 a1).bind fun v9 =>
        some (v9)
      else
        bif (a1.Kind == 5) then
          (F_octets_Append ([IntKind.wrap .u8 a1.To.Dst.Bits, IntKind.wrap .u8 a1.To.Src.Bits] : List Int) (IntKind.wrap .u64 a1.Seq) 2).bind fun v17 =>
          (appO 1 v17 (Cut.app .whole ([IntKind.wrap .u8 a1.Hops] : List Int))).bind fun l18 =>
          (F_octets_Append l18 a1.To.Router 8).bind fun v19 =>
          (F_messages_state_notice_H00_j1 a1 a0) (v19, 5)
        else
          (F_messages_state_notice_H00_j1 a1 a0) (([IntKind.wrap .u8 a1.To.Dst.Bits, IntKind.wrap .u8 a1.To.Src.Bits] : List Int), 4)
set_option maxRecDepth 100000 in
set_option maxHeartbeats 40000000 in
theorem ok_messages_state_notice_H00 (a0 : S_messages_state) (a1 : S_Notice) (r : S_messages_state) (h : F_messages_state_notice_H00 a0 a1 = some r) : ConG Try.prog 46 [.agg [.slc 1 1000003 (List.length a0.elements) (List.map (ecI .u8) a0.elements), .lit (.int .u64 (a0.router)), .lit (.int .u8 ((a0.dst.getD 0 0))), .lit (.int .u8 ((a0.dst.getD 1 0))), .lit (.int .u8 ((a0.dst.getD 2 0))), .lit (.int .u8 ((a0.dst.getD 3 0))), .lit (.int .u8 ((a0.dst.getD 4 0))), .lit (.int .u8 ((a0.dst.getD 5 0))), .lit (.int .u8 ((a0.dst.getD 6 0))), .lit (.int .u8 ((a0.dst.getD 7 0))), .lit (.int .u8 ((a0.dst.getD 8 0))), .lit (.int .u8 ((a0.dst.getD 9 0))), .lit (.int .u8 ((a0.dst.getD 10 0))), .lit (.int .u8 ((a0.dst.getD 11 0))), .lit (.int .u8 ((a0.dst.getD 12 0))), .lit (.int .u8 ((a0.dst.getD 13 0))), .lit (.int .u8 ((a0.dst.getD 14 0))), .lit (.int .u8 ((a0.dst.getD 15 0)))], .agg (S_Notice.cs a1)] 5 1 (List.length a0.elements) (.agg [.slc 1 1000003 (List.length r.elements) (List.map (ecI .u8) r.elements), .lit (.int .u64 (r.router)), .lit (.int .u8 ((r.dst.getD 0 0))), .lit (.int .u8 ((r.dst.getD 1 0))), .lit (.int .u8 ((r.dst.getD 2 0))), .lit (.int .u8 ((r.dst.getD 3 0))), .lit (.int .u8 ((r.dst.getD 4 0))), .lit (.int .u8 ((r.dst.getD 5 0))), .lit (.int .u8 ((r.dst.getD 6 0))), .lit (.int .u8 ((r.dst.getD 7 0))), .lit (.int .u8 ((r.dst.getD 8 0))), .lit (.int .u8 ((r.dst.getD 9 0))), .lit (.int .u8 ((r.dst.getD 10 0))), .lit (.int .u8 ((r.dst.getD 11 0))), .lit (.int .u8 ((r.dst.getD 12 0))), .lit (.int .u8 ((r.dst.getD 13 0))), .lit (.int .u8 ((r.dst.getD 14 0))), .lit (.int .u8 ((r.dst.getD 15 0)))]) (List.length r.elements) := by
  unfold F_messages_state_notice_H00 at h
  refine con_ofGA [] 80 0 0 _ Try.func46 rfl rfl (by kernel_rfl) rfl rfl (fun K => ?_)
  refine TS_go 22 ?_
  replace h := condO h
  rcases h with ⟨hb1, h⟩ | ⟨hb1, h⟩
  · refine TS_know 10 (b := true) hb1 (by kernel_rfl) (by kernel_rfl) ?_
    refine TS_know 9 (b := true) hb1 (by kernel_rfl) (by kernel_rfl) ?_
    refine TS_T (by kernel_rfl) rfl ?_
    refine TS_go 1 ?_
    refine TS_draw (by kernel_rfl) ?_
    refine TD_go 4 ?_
    replace h := bindO h
    obtain ⟨v2, hv2, h⟩ := h
    refine TD_conX (d := 15) (e := 900000) [[2]] (okT_octets_Append ([] : List Int) (IntKind.wrap .u64 a1.Seq) 2 v2 hv2) (by kernel_rfl) (by kernel_rfl) ?_
    replace h := bindO h
    obtain ⟨v3, hv3, h⟩ := h
    refine TD_conG 1000001 [[], [], [2]] (ok_messages_state_element_H00 a0 1 v2 v3 hv3) (by kernel_rfl) (by kernel_rfl) (by kernel_rfl) ?_
    refine TD_go 1 ?_
    refine TD_end (by kernel_rfl) ?_
    refine TS_go 3 ?_
    have ret := Option.some.inj h
    subst ret
    exact TS_retG (sz1 := 1) (xs1 := List.map (ecI .u8) a0.elements) (by kernel_rfl) (by kernel_rfl) (by kernel_rfl) (by kernel_rfl)
  · refine TS_know 10 (b := false) hb1 (by kernel_rfl) (by kernel_rfl) ?_
    refine TS_know 9 (b := false) hb1 (by kernel_rfl) (by kernel_rfl) ?_
    refine TS_F (by kernel_rfl) rfl ?_
    refine TS_go 5 ?_
    replace h := condO h
    rcases h with ⟨hb4, h⟩ | ⟨hb4, h⟩
    · refine TS_know 18 (b := true) hb4 (by kernel_rfl) (by kernel_rfl) ?_
      refine TS_know 17 (b := true) hb4 (by kernel_rfl) (by kernel_rfl) ?_
      refine TS_T (by kernel_rfl) rfl ?_
      refine TS_go 5 ?_
      replace h := bindO h
      obtain ⟨v5, hv5, h⟩ := h
      refine TS_con [[2]] [(22, 900000)] none (okT_octets_Append ([] : List Int) a1.Neighbour 8 v5 hv5) (by kernel_rfl) (by kernel_rfl) (by kernel_rfl) ?_
      refine TS_go 3 ?_
      refine TS_draw (by kernel_rfl) ?_
      refine TD_go 5 ?_
      replace h := bindO h
      obtain ⟨v6, hv6, h⟩ := h
      refine TD_conX (d := 28) (e := 900000) [[2]] (okT_octets_Append v5 (IntKind.wrap .u64 a1.Metric) 2 v6 hv6) (by kernel_rfl) (by kernel_rfl) ?_
      replace h := bindO h
      obtain ⟨v7, hv7, h⟩ := h
      refine TD_conG 1000001 [[], [], [2]] (ok_messages_state_element_H00 a0 2 v6 v7 hv7) (by kernel_rfl) (by kernel_rfl) (by kernel_rfl) ?_
      refine TD_go 1 ?_
      refine TD_end (by kernel_rfl) ?_
      refine TS_go 3 ?_
      have ret := Option.some.inj h
      subst ret
      exact TS_retG (sz1 := 1) (xs1 := List.map (ecI .u8) a0.elements) (by kernel_rfl) (by kernel_rfl) (by kernel_rfl) (by kernel_rfl)
    · refine TS_know 18 (b := false) hb4 (by kernel_rfl) (by kernel_rfl) ?_
      refine TS_know 17 (b := false) hb4 (by kernel_rfl) (by kernel_rfl) ?_
      refine TS_F (by kernel_rfl) rfl ?_
      refine TS_go 5 ?_
      replace h := condO h
      rcases h with ⟨hb8, h⟩ | ⟨hb8, h⟩
      · refine TS_know 31 (b := true) hb8 (by kernel_rfl) (by kernel_rfl) ?_
        refine TS_know 30 (b := true) hb8 (by kernel_rfl) (by kernel_rfl) ?_
        refine TS_T (by kernel_rfl) rfl ?_
        refine TS_go 4 ?_
        replace h := bindO h
        obtain ⟨v9, hv9, h⟩ := h
        refine TS_conG 1000001 [] (ok_messages_state_update_H00 a0 a1 v9 hv9) (by kernel_rfl) (by kernel_rfl) (by kernel_rfl) ?_
        refine TS_go 5 ?_
        have ret := Option.some.inj h
        subst ret
        exact TS_retG (sz1 := 1) (xs1 := List.map (ecI .u8) a0.elements) (by kernel_rfl) (by kernel_rfl) (by kernel_rfl) (by kernel_rfl)
      · refine TS_know 31 (b := false) hb8 (by kernel_rfl) (by kernel_rfl) ?_
        refine TS_know 30 (b := false) hb8 (by kernel_rfl) (by kernel_rfl) ?_
        refine TS_F (by kernel_rfl) rfl ?_
        refine TS_go 18 ?_
        refine TS_litNT 45 5 1 (ecI .u8) [] ([IntKind.wrap .u8 a1.To.Dst.Bits, IntKind.wrap .u8 a1.To.Src.Bits] : List Int) (by kernel_rfl) (by kernel_rfl) ?_
        refine TS_go 2 ?_
        refine TS_cut ⟨[(2000000, []), (2, []), (3, []), (4, []), (5, []), (6, [])], [(1000001, (1000001, [])), (2, (2, [])), (3, (3, [])), (4, (4, [])), (45, (45, []))]⟩ (.mk [.code (codeAt [1, 1, 1, 1, 1] (bodyOf Try.f46))] .normal ⟨[(2000000, .c (.slc 1 1000003 (List.length a0.elements) (List.map (ecI .u8) a0.elements))), (2, .c (.box 2 0)), (3, .c (.box 3 0)), (4, .c (.box 4 0)), (5, .c (.slc 1 47 (List.length ([IntKind.wrap .u8 a1.To.Dst.Bits, IntKind.wrap .u8 a1.To.Src.Bits] : List Int)) (List.map (ecI .u8) ([IntKind.wrap .u8 a1.To.Dst.Bits, IntKind.wrap .u8 a1.To.Src.Bits] : List Int)))), (6, .c (.lit (.int .u8 (4))))], [(1000001, .spare 5 1 (List.length a0.elements)), (2, .box [.slc 1 1000003 (List.length a0.elements) (List.map (ecI .u8) a0.elements), .lit (.int .u64 (a0.router)), .lit (.int .u8 ((a0.dst.getD 0 0))), .lit (.int .u8 ((a0.dst.getD 1 0))), .lit (.int .u8 ((a0.dst.getD 2 0))), .lit (.int .u8 ((a0.dst.getD 3 0))), .lit (.int .u8 ((a0.dst.getD 4 0))), .lit (.int .u8 ((a0.dst.getD 5 0))), .lit (.int .u8 ((a0.dst.getD 6 0))), .lit (.int .u8 ((a0.dst.getD 7 0))), .lit (.int .u8 ((a0.dst.getD 8 0))), .lit (.int .u8 ((a0.dst.getD 9 0))), .lit (.int .u8 ((a0.dst.getD 10 0))), .lit (.int .u8 ((a0.dst.getD 11 0))), .lit (.int .u8 ((a0.dst.getD 12 0))), .lit (.int .u8 ((a0.dst.getD 13 0))), .lit (.int .u8 ((a0.dst.getD 14 0))), .lit (.int .u8 ((a0.dst.getD 15 0)))]), (3, .box [.lit (.int .i64 (a1.Kind)), .lit (.int .u16 (a1.Seq)), .lit (.int .i64 (a1.Metric)), .lit (.int .u64 (a1.Neighbour)), .lit (.int .u8 ((a1.To.Dst.IP.getD 0 0))), .lit (.int .u8 ((a1.To.Dst.IP.getD 1 0))), .lit (.int .u8 ((a1.To.Dst.IP.getD 2 0))), .lit (.int .u8 ((a1.To.Dst.IP.getD 3 0))), .lit (.int .u8 ((a1.To.Dst.IP.getD 4 0))), .lit (.int .u8 ((a1.To.Dst.IP.getD 5 0))), .lit (.int .u8 ((a1.To.Dst.IP.getD 6 0))), .lit (.int .u8 ((a1.To.Dst.IP.getD 7 0))), .lit (.int .u8 ((a1.To.Dst.IP.getD 8 0))), .lit (.int .u8 ((a1.To.Dst.IP.getD 9 0))), .lit (.int .u8 ((a1.To.Dst.IP.getD 10 0))), .lit (.int .u8 ((a1.To.Dst.IP.getD 11 0))), .lit (.int .u8 ((a1.To.Dst.IP.getD 12 0))), .lit (.int .u8 ((a1.To.Dst.IP.getD 13 0))), .lit (.int .u8 ((a1.To.Dst.IP.getD 14 0))), .lit (.int .u8 ((a1.To.Dst.IP.getD 15 0))), .lit (.int .i64 (a1.To.Dst.Bits)), .lit (.int .u8 ((a1.To.Src.IP.getD 0 0))), .lit (.int .u8 ((a1.To.Src.IP.getD 1 0))), .lit (.int .u8 ((a1.To.Src.IP.getD 2 0))), .lit (.int .u8 ((a1.To.Src.IP.getD 3 0))), .lit (.int .u8 ((a1.To.Src.IP.getD 4 0))), .lit (.int .u8 ((a1.To.Src.IP.getD 5 0))), .lit (.int .u8 ((a1.To.Src.IP.getD 6 0))), .lit (.int .u8 ((a1.To.Src.IP.getD 7 0))), .lit (.int .u8 ((a1.To.Src.IP.getD 8 0))), .lit (.int .u8 ((a1.To.Src.IP.getD 9 0))), .lit (.int .u8 ((a1.To.Src.IP.getD 10 0))), .lit (.int .u8 ((a1.To.Src.IP.getD 11 0))), .lit (.int .u8 ((a1.To.Src.IP.getD 12 0))), .lit (.int .u8 ((a1.To.Src.IP.getD 13 0))), .lit (.int .u8 ((a1.To.Src.IP.getD 14 0))), .lit (.int .u8 ((a1.To.Src.IP.getD 15 0))), .lit (.int .i64 (a1.To.Src.Bits)), .lit (.int .u64 (a1.To.Router)), .lit (.int .i64 (a1.Hops))]), (4, .box [.lit (.slice none 0 0), .lit (.int .u64 (0)), .lit (.int .u8 (0)), .lit (.int .u8 (0)), .lit (.int .u8 (0)), .lit (.int .u8 (0)), .lit (.int .u8 (0)), .lit (.int .u8 (0)), .lit (.int .u8 (0)), .lit (.int .u8 (0)), .lit (.int .u8 (0)), .lit (.int .u8 (0)), .lit (.int .u8 (0)), .lit (.int .u8 (0)), .lit (.int .u8 (0)), .lit (.int .u8 (0)), .lit (.int .u8 (0)), .lit (.int .u8 (0))]), (45, .spare 5 1 (List.length ([IntKind.wrap .u8 a1.To.Dst.Bits, IntKind.wrap .u8 a1.To.Src.Bits] : List Int)))]⟩) (by kernel_rfl) (by kernel_rfl) ?_
        refine TS_joinB ⟨[(2, []), (3, []), (4, []), (5, []), (6, []), (2000000, [])], [(2, (2, [])), (3, (3, [])), (4, (4, [])), (45, (45, [])), (1000001, (1000001, []))]⟩ (fun (v10 : (List Int) × Int) => [(5, .c (.slc 1 47 (List.length v10.1) (List.map (ecI .u8) v10.1))), (6, .c (.lit (.int .u8 (v10.2))))]) (fun (v10 : (List Int) × Int) => [(45, .spare 5 1 (List.length v10.1))]) (F_messages_state_notice_H00_j1 a1 a0) r ?_ ?_
        · clear h
          intro v10 h
          unfold F_messages_state_notice_H00_j1 at h
          refine TS_go 6 ?_
          replace h := bindO h
          obtain ⟨v11, hv11, h⟩ := h
          refine TS_call [] (ok_messages_prefixBytes a1.To.Dst v11 hv11) (by kernel_rfl) (by kernel_rfl) ?_
          replace h := bindO h
          obtain ⟨l12, hl12, h⟩ := h
          refine TS_appT (d := 45) (e := 5) (sz := 1) (N := List.length v10.1) (ecI .u8) (fun _ => by kernel_rfl) (l1 := v10.1) (l2 := v11) (c := .whole) hl12 (by kernel_rfl) (by kernel_rfl) ?_
          refine TS_go 3 ?_
          refine TS_draw (by kernel_rfl) ?_
          refine TD_go 6 ?_
          replace h := bindO h
          obtain ⟨v13, hv13, h⟩ := h
          refine TD_call [] (ok_messages_prefixBytes a1.To.Src v13 hv13) (by kernel_rfl) (by kernel_rfl) ?_
          replace h := bindO h
          obtain ⟨l14, hl14, h⟩ := h
          refine TD_appT (d := 45) (e := 5) (sz := 1) (N := List.length l12) (ecI .u8) (fun _ => by kernel_rfl) (l1 := l12) (l2 := v13) (c := .whole) hl14 (by kernel_rfl) (by kernel_rfl) ?_
          replace h := bindO h
          obtain ⟨v15, hv15, h⟩ := h
          refine TD_conG 1000001 [[], [], [2]] (ok_messages_state_element_H00 a0 v10.2 l14 v15 hv15) (by kernel_rfl) (by kernel_rfl) (by kernel_rfl) ?_
          refine TD_go 1 ?_
          refine TD_end (by kernel_rfl) ?_
          refine TS_go 1 ?_
          have ret := Option.some.inj h
          subst ret
          exact TS_retG (sz1 := 1) (xs1 := List.map (ecI .u8) a0.elements) (by kernel_rfl) (by kernel_rfl) (by kernel_rfl) (by kernel_rfl)
        · refine TS_go 6 ?_
          replace h := condO h
          rcases h with ⟨hb16, h⟩ | ⟨hb16, h⟩
          · refine TS_know 48 (b := true) hb16 (by kernel_rfl) (by kernel_rfl) ?_
            refine TS_T (by kernel_rfl) rfl ?_
            refine TS_go 10 ?_
            replace h := bindO h
            obtain ⟨v17, hv17, h⟩ := h
            refine TS_con [[2]] [(53, 900000)] none (okT_octets_Append ([IntKind.wrap .u8 a1.To.Dst.Bits, IntKind.wrap .u8 a1.To.Src.Bits] : List Int) (IntKind.wrap .u64 a1.Seq) 2 v17 hv17) (by kernel_rfl) (by kernel_rfl) (by kernel_rfl) ?_
            refine TS_go 8 ?_
            refine TS_litNT 58 5 1 (ecI .u8) [] ([IntKind.wrap .u8 a1.Hops] : List Int) (by kernel_rfl) (by kernel_rfl) ?_
            replace h := bindO h
            obtain ⟨l18, hl18, h⟩ := h
            refine TS_appT (d := 53) (e := 5) (sz := 1) (N := List.length v17) (ecI .u8) (fun _ => by kernel_rfl) (l1 := v17) (l2 := ([IntKind.wrap .u8 a1.Hops] : List Int)) (c := .whole) hl18 (by kernel_rfl) (by kernel_rfl) ?_
            refine TS_go 7 ?_
            replace h := bindO h
            obtain ⟨v19, hv19, h⟩ := h
            refine TS_con [[2]] [(64, 900000)] none (okT_octets_Append l18 a1.To.Router 8 v19 hv19) (by kernel_rfl) (by kernel_rfl) (by kernel_rfl) ?_
            refine TS_go 2 ?_
            exact TS_meet (v19, 5) ⟨[(2, []), (3, []), (4, []), (5, []), (6, []), (2000000, [])], [(2, (2, [])), (3, (3, [])), (4, (4, [])), (64, (45, [])), (1000001, (1000001, []))]⟩ h (by kernel_rfl) (by kernel_rfl)
          · refine TS_know 48 (b := false) hb16 (by kernel_rfl) (by kernel_rfl) ?_
            refine TS_F (by kernel_rfl) rfl ?_
            refine TS_go 1 ?_
            exact TS_meet (([IntKind.wrap .u8 a1.To.Dst.Bits, IntKind.wrap .u8 a1.To.Src.Bits] : List Int), 4) ⟨[(2, []), (3, []), (4, []), (5, []), (6, []), (2000000, [])], [(2, (2, [])), (3, (3, [])), (4, (4, [])), (45, (45, [])), (1000001, (1000001, []))]⟩ h (by kernel_rfl) (by kernel_rfl)

/-- (multihop/messages.state).packet -/
noncomputable def F_messages_state_packet (a0 : S_messages_state) (a1 : Int) : Option ((List Int)) :=
  (F_octets_Append ([42, 1] : List Int) (IntKind.wrap .u64 a1) 5).bind fun v1 =>
  (F_octets_Append v1 (IntKind.wrap .u64 (List.length a0.elements : Int)) 2).bind fun v2 =>
  (appO 1 v2 (Cut.app .whole a0.elements)).bind fun l3 =>
  some (l3)
set_option maxRecDepth 100000 in
set_option maxHeartbeats 40000000 in
theorem okT_messages_state_packet (a0 : S_messages_state) (a1 : Int) (r : (List Int)) (h : F_messages_state_packet a0 a1 = some r) : Con Try.prog 47 [.agg (S_messages_state.cs a0), .c (.lit (.int .i64 (a1)))] [] (.c (.slc 1 900002 (List.length r) (List.map (ecI .u8) r))) [(900000, .spare 5 1 (List.length r))] := by
  unfold F_messages_state_packet at h
  refine con_of [] [(900000, [])] 20 Try.func47 rfl rfl (by kernel_rfl) (fun K => ?_)
  refine TS_go 7 ?_
  refine TS_litNT 6 5 1 (ecI .u8) [] ([42, 1] : List Int) (by kernel_rfl) (by kernel_rfl) ?_
  refine TS_go 2 ?_
  replace h := bindO h
  obtain ⟨v1, hv1, h⟩ := h
  refine TS_con [[2]] [(9, 900000)] none (okT_octets_Append ([42, 1] : List Int) (IntKind.wrap .u64 a1) 5 v1 hv1) (by kernel_rfl) (by kernel_rfl) (by kernel_rfl) ?_
  refine TS_go 9 ?_
  replace h := bindO h
  obtain ⟨v2, hv2, h⟩ := h
  refine TS_con [[2]] [(15, 900000)] none (okT_octets_Append v1 (IntKind.wrap .u64 (List.length a0.elements : Int)) 2 v2 hv2) (by kernel_rfl) (by kernel_rfl) (by kernel_rfl) ?_
  refine TS_go 7 ?_
  replace h := bindO h
  obtain ⟨_l3, hl3, h⟩ := h
  refine TS_appT (d := 15) (e := 5) (sz := 1) (N := List.length v2) (ecI .u8) (fun _ => by kernel_rfl) (l1 := v2) (l2 := a0.elements) (c := .whole) hl3 (by kernel_rfl) (by kernel_rfl) ?_
  refine TS_go 2 ?_
  refine TS_fitU ⟨[(4, [])], [(15, (900000, []))]⟩ (by kernel_rfl) ?_
  refine TS_go 1 ?_
  have ret := Option.some.inj h
  subst ret
  exact TS_ret (by kernel_rfl) (by kernel_rfl) (by kernel_rfl)
/-- multihop/messages.Encode -/
noncomputable def F_messages_Encode_l1 (a1 : List S_Notice) (s6 : Int × S_messages_state) : Option ((Int × S_messages_state) ⊕ (S_messages_state)) :=
  bif (decide (s6.1 < (List.length a1 : Int))) then
    (idx a1 s6.1).bind fun e10 =>
    (F_messages_state_notice_H00 s6.2 e10).bind fun v11 =>
    some (Sum.inl (IntKind.wrap .i64 (s6.1 + 1), v11))
  else
    some (Sum.inr s6.2)
noncomputable def F_messages_Encode (a0 : Int) (a1 : List S_Notice) : Option ((List Int) × Int) :=
  bif (decide ((List.length a1 : Int) > 64)) then
    some ((([] : List Int), 3))
  else
    (F_messages_allValid a1).bind fun v2 =>
    bif v2 then
      (F_messages_isCreation a0).bind fun v4 =>
      bif v4 then
        (loopO (F_messages_Encode_l1 a1) (0, (S_messages_state.mk ([] : List Int) 0 [0, 0, 0, 0, 0, 0, 0, 0, 0, 0, 0, 0, 0, 0, 0, 0]))).bind fun b7 =>
        (F_messages_state_packet b7 a0).bind fun v13 =>
        some ((v13, 0))
      else
        some ((([] : List Int), 2))
    else
      some ((([] : List Int), 1))
set_option maxRecDepth 100000 in
set_option maxHeartbeats 40000000 in
theorem okT_messages_Encode (a0 : Int) (a1 : List S_Notice) (r : (List Int) × Int) (h : F_messages_Encode a0 a1 = some r) : Con Try.prog 21 [.c (.lit (.int .i64 (a0))), .c (eS 40 S_Notice.cs (a1))] [] (.tup [(false, [.slc 1 900002 (List.length r.1) (List.map (ecI .u8) r.1)]), (false, [.lit (.int .i64 (r.2))])]) [(900000, .spare 5 1 (List.length r.1))] := by
  unfold F_messages_Encode at h
  refine con_of [] [(900000, [])] 31 Try.func21 rfl rfl (by kernel_rfl) (fun K => ?_)
  refine TS_go 12 ?_
  replace h := condO h
  rcases h with ⟨hb1, h⟩ | ⟨hb1, h⟩
  · refine TS_know 11 (b := true) hb1 (by kernel_rfl) (by kernel_rfl) ?_
    refine TS_T (by kernel_rfl) rfl ?_
    refine TS_go 5 ?_
    refine TS_nilT 4 600000 5 1 (by kernel_rfl) ?_
    refine TS_fitU ⟨[(4, []), (5, [])], [(600000, (900000, []))]⟩ (by kernel_rfl) ?_
    refine TS_go 2 ?_
    have ret := Option.some.inj h
    subst ret
    exact TS_ret (by kernel_rfl) (by kernel_rfl) (by kernel_rfl)
  · refine TS_know 11 (b := false) hb1 (by kernel_rfl) (by kernel_rfl) ?_
    refine TS_F (by kernel_rfl) rfl ?_
    refine TS_go 5 ?_
    replace h := bindO h
    obtain ⟨v2, hv2, h⟩ := h
    refine TS_call [] (ok_messages_allValid a1 v2 hv2) (by kernel_rfl) (by kernel_rfl) ?_
    refine TS_go 2 ?_
    replace h := condO h
    rcases h with ⟨hb3, h⟩ | ⟨hb3, h⟩
    · subst hb3
      refine TS_F (by kernel_rfl) rfl ?_
      refine TS_go 5 ?_
      replace h := bindO h
      obtain ⟨v4, hv4, h⟩ := h
      refine TS_call [] (ok_messages_isCreation a0 v4 hv4) (by kernel_rfl) (by kernel_rfl) ?_
      refine TS_go 2 ?_
      replace h := condO h
      rcases h with ⟨hb5, h⟩ | ⟨hb5, h⟩
      · subst hb5
        refine TS_F (by kernel_rfl) rfl ?_
        refine TS_go 13 ?_
        refine TS_nilB 6 0 600000 5 1 (by kernel_rfl) ?_
        refine TS_cut ⟨[(0, []), (6, []), (18, []), (19, []), (20, [])], [(6, (6, [])), (600000, (600000, []))]⟩ (.mk [.code (codeAt [1, 1, 1, 1, 1, 0, 1, 0] (bodyOf Try.f21)), .blk 0, .code (codeAt [1, 1, 1, 1, 1, 1] (bodyOf Try.f21))] .normal ⟨[(0, .c (.lit (.int .i64 (a0)))), (6, .c (.box 6 0)), (18, .c (.slc 40 0 (List.length a1) (List.map S_Notice.cs a1))), (19, .c (.lit (.int .i64 ((List.length a1 : Int))))), (20, .c (.lit (.int .i64 (0))))], [(6, .box [.slc 1 600002 (List.length ([] : List Int)) (List.map (ecI .u8) ([] : List Int)), .lit (.int .u64 (0)), .lit (.int .u8 (0)), .lit (.int .u8 (0)), .lit (.int .u8 (0)), .lit (.int .u8 (0)), .lit (.int .u8 (0)), .lit (.int .u8 (0)), .lit (.int .u8 (0)), .lit (.int .u8 (0)), .lit (.int .u8 (0)), .lit (.int .u8 (0)), .lit (.int .u8 (0)), .lit (.int .u8 (0)), .lit (.int .u8 (0)), .lit (.int .u8 (0)), .lit (.int .u8 (0)), .lit (.int .u8 (0))]), (600000, .spare 5 1 (List.length ([] : List Int)))]⟩) (by kernel_rfl) (by kernel_rfl) ?_
        replace h := bindO h
        obtain ⟨y8, hl1, hK1⟩ := h
        refine TS_loopB (F_messages_Encode_l1 a1) ⟨[(0, []), (6, []), (18, []), (19, []), (20, [])], [(6, (6, [])), (600000, (600000, []))]⟩ (fun (s6 : Int × S_messages_state) => [(20, .c (.lit (.int .i64 (s6.1))))]) (fun (s6 : Int × S_messages_state) => [(6, .box [.slc 1 600002 (List.length s6.2.elements) (List.map (ecI .u8) s6.2.elements), .lit (.int .u64 (s6.2.router)), .lit (.int .u8 ((s6.2.dst.getD 0 0))), .lit (.int .u8 ((s6.2.dst.getD 1 0))), .lit (.int .u8 ((s6.2.dst.getD 2 0))), .lit (.int .u8 ((s6.2.dst.getD 3 0))), .lit (.int .u8 ((s6.2.dst.getD 4 0))), .lit (.int .u8 ((s6.2.dst.getD 5 0))), .lit (.int .u8 ((s6.2.dst.getD 6 0))), .lit (.int .u8 ((s6.2.dst.getD 7 0))), .lit (.int .u8 ((s6.2.dst.getD 8 0))), .lit (.int .u8 ((s6.2.dst.getD 9 0))), .lit (.int .u8 ((s6.2.dst.getD 10 0))), .lit (.int .u8 ((s6.2.dst.getD 11 0))), .lit (.int .u8 ((s6.2.dst.getD 12 0))), .lit (.int .u8 ((s6.2.dst.getD 13 0))), .lit (.int .u8 ((s6.2.dst.getD 14 0))), .lit (.int .u8 ((s6.2.dst.getD 15 0)))]), (600000, .spare 5 1 (List.length s6.2.elements))]) (0, (S_messages_state.mk ([] : List Int) 0 [0, 0, 0, 0, 0, 0, 0, 0, 0, 0, 0, 0, 0, 0, 0, 0])) y8 (.exit 0) (fun (b : S_messages_state) => b) ⟨[(0, []), (6, [])], [(6, (6, [])), (600000, (600000, []))]⟩ (fun (b7 : S_messages_state) => []) (fun (b7 : S_messages_state) => [(6, .box [.slc 1 600002 (List.length b7.elements) (List.map (ecI .u8) b7.elements), .lit (.int .u64 (b7.router)), .lit (.int .u8 ((b7.dst.getD 0 0))), .lit (.int .u8 ((b7.dst.getD 1 0))), .lit (.int .u8 ((b7.dst.getD 2 0))), .lit (.int .u8 ((b7.dst.getD 3 0))), .lit (.int .u8 ((b7.dst.getD 4 0))), .lit (.int .u8 ((b7.dst.getD 5 0))), .lit (.int .u8 ((b7.dst.getD 6 0))), .lit (.int .u8 ((b7.dst.getD 7 0))), .lit (.int .u8 ((b7.dst.getD 8 0))), .lit (.int .u8 ((b7.dst.getD 9 0))), .lit (.int .u8 ((b7.dst.getD 10 0))), .lit (.int .u8 ((b7.dst.getD 11 0))), .lit (.int .u8 ((b7.dst.getD 12 0))), .lit (.int .u8 ((b7.dst.getD 13 0))), .lit (.int .u8 ((b7.dst.getD 14 0))), .lit (.int .u8 ((b7.dst.getD 15 0)))]), (600000, .spare 5 1 (List.length b7.elements))]) hl1 (by kernel_rfl) (by kernel_rfl) ?_ ?_
        · intro s6 x h hy1
          unfold F_messages_Encode_l1 at h
          refine TS_go 5 ?_
          replace h := condO h
          rcases h with ⟨hb9, h⟩ | ⟨hb9, h⟩
          · refine TS_know 21 (b := true) hb9 (by kernel_rfl) (by kernel_rfl) ?_
            refine TS_T (by kernel_rfl) rfl ?_
            refine TS_go 5 ?_
            replace h := bindO h
            obtain ⟨e10, he10, h⟩ := h
            refine TS_idx S_Notice.cs he10 (by kernel_rfl) (by kernel_rfl) ?_
            refine TS_go 7 ?_
            replace h := bindO h
            obtain ⟨v11, hv11, h⟩ := h
            refine TS_conG 600000 [] (ok_messages_state_notice_H00 s6.2 e10 v11 hv11) (by kernel_rfl) (by kernel_rfl) (by kernel_rfl) ?_
            refine TS_go 7 ?_
            have ret := Option.some.inj h
            subst ret
            exact TS_againB _ ⟨[(0, []), (6, []), (18, []), (19, []), (20, [])], [(6, (6, [])), (600000, (600000, []))]⟩ rfl (by kernel_rfl) (by kernel_rfl)
          · refine TS_know 21 (b := false) hb9 (by kernel_rfl) (by kernel_rfl) ?_
            refine TS_F (by kernel_rfl) rfl ?_
            refine TS_go 2 ?_
            have ret := Option.some.inj h
            subst ret
            exact TS_brkB s6.2 ⟨[(0, []), (6, [])], [(6, (6, [])), (600000, (600000, []))]⟩ rfl (by kernel_rfl) (by kernel_rfl) (by kernel_rfl)
        · intro b7 hb
          subst y8
          have h := hK1
          refine TS_go 5 ?_
          replace h := bindO h
          obtain ⟨v13, hv13, h⟩ := h
          refine TS_con [[2]] [(30, 900000)] none (okT_messages_state_packet b7 a0 v13 hv13) (by kernel_rfl) (by kernel_rfl) (by kernel_rfl) ?_
          refine TS_go 3 ?_
          refine TS_fitU ⟨[(4, []), (5, [])], [(30, (900000, []))]⟩ (by kernel_rfl) ?_
          refine TS_go 1 ?_
          have ret := Option.some.inj h
          subst ret
          exact TS_ret (by kernel_rfl) (by kernel_rfl) (by kernel_rfl)
      · subst hb5
        refine TS_T (by kernel_rfl) rfl ?_
        refine TS_go 5 ?_
        refine TS_nilT 4 600000 5 1 (by kernel_rfl) ?_
        refine TS_fitU ⟨[(4, []), (5, [])], [(600000, (900000, []))]⟩ (by kernel_rfl) ?_
        refine TS_go 2 ?_
        have ret := Option.some.inj h
        subst ret
        exact TS_ret (by kernel_rfl) (by kernel_rfl) (by kernel_rfl)
    · subst hb3
      refine TS_T (by kernel_rfl) rfl ?_
      refine TS_go 5 ?_
      refine TS_nilT 4 600000 5 1 (by kernel_rfl) ?_
      refine TS_fitU ⟨[(4, []), (5, [])], [(600000, (900000, []))]⟩ (by kernel_rfl) ?_
      refine TS_go 2 ?_
      have ret := Option.some.inj h
      subst ret
      exact TS_ret (by kernel_rfl) (by kernel_rfl) (by kernel_rfl)
/-- multihop/octets.Uint -/
noncomputable def F_octets_Uint_l1 (l5 : List Int) (s6 : Int × Int) : Option ((Int × Int) ⊕ (Int)) :=
  bif (decide (s6.2 < (List.length l5 : Int))) then
    (idx l5 s6.2).bind fun e10 =>
    some (Sum.inl (ior .u64 (ishl .u64 s6.1 8) (IntKind.wrap .u64 e10), IntKind.wrap .i64 (s6.2 + 1)))
  else
    some (Sum.inr s6.1)
noncomputable def F_octets_Uint (a0 : List Int) (a1 : Int) (a2 : Int) : Option (Int × Bool) :=
  bif (decide (a2 < 1)) then
    some ((0, false))
  else
    bif (decide (a2 > 8)) then
      some ((0, false))
    else
      bif (decide (a1 < 0)) then
        some ((0, false))
      else
        bif (decide (a1 > (IntKind.wrap .i64 ((List.length a0 : Int) - a2)))) then
          some ((0, false))
        else
          (subO a0 a1 (IntKind.wrap .i64 (a1 + a2))).bind fun l5 =>
          (loopO (F_octets_Uint_l1 l5) (0, 0)).bind fun b7 =>
          some ((b7, true))
set_option maxRecDepth 100000 in
set_option maxHeartbeats 40000000 in
theorem ok_octets_Uint (a0 : List Int) (a1 : Int) (a2 : Int) (r : Int × Bool) (h : F_octets_Uint a0 a1 a2 = some r) : Con Try.prog 48 [.c (eS 1 (ecI .u8) (a0)), .c (.lit (.int .i64 (a1))), .c (.lit (.int .i64 (a2)))] [] (.tup [(false, [.lit (.int .u64 (r.1))]), (false, [.lit (.bool (r.2))])]) [] := by
  unfold F_octets_Uint at h
  refine con_of [] [] 47 Try.func48 rfl rfl (by kernel_rfl) (fun K => ?_)
  refine TS_go 11 ?_
  replace h := condO h
  rcases h with ⟨hb1, h⟩ | ⟨hb1, h⟩
  · refine TS_know 12 (b := true) hb1 (by kernel_rfl) (by kernel_rfl) ?_
    refine TS_know 13 (b := true) hb1 (by kernel_rfl) (by kernel_rfl) ?_
    refine TS_go 16 ?_
    refine TS_T (by kernel_rfl) rfl ?_
    refine TS_go 7 ?_
    have ret := Option.some.inj h
    subst ret
    exact TS_ret (by kernel_rfl) (by kernel_rfl) (by kernel_rfl)
  · refine TS_know 12 (b := false) hb1 (by kernel_rfl) (by kernel_rfl) ?_
    refine TS_know 13 (b := false) hb1 (by kernel_rfl) (by kernel_rfl) ?_
    refine TS_go 4 ?_
    replace h := condO h
    rcases h with ⟨hb2, h⟩ | ⟨hb2, h⟩
    · refine TS_know 15 (b := true) hb2 (by kernel_rfl) (by kernel_rfl) ?_
      refine TS_know 16 (b := true) hb2 (by kernel_rfl) (by kernel_rfl) ?_
      refine TS_know 17 (b := true) hb2 (by kernel_rfl) (by kernel_rfl) ?_
      refine TS_go 12 ?_
      refine TS_T (by kernel_rfl) rfl ?_
      refine TS_go 7 ?_
      have ret := Option.some.inj h
      subst ret
      exact TS_ret (by kernel_rfl) (by kernel_rfl) (by kernel_rfl)
    · refine TS_know 15 (b := false) hb2 (by kernel_rfl) (by kernel_rfl) ?_
      refine TS_know 16 (b := false) hb2 (by kernel_rfl) (by kernel_rfl) ?_
      refine TS_know 17 (b := false) hb2 (by kernel_rfl) (by kernel_rfl) ?_
      refine TS_go 4 ?_
      replace h := condO h
      rcases h with ⟨hb3, h⟩ | ⟨hb3, h⟩
      · refine TS_know 19 (b := true) hb3 (by kernel_rfl) (by kernel_rfl) ?_
        refine TS_know 20 (b := true) hb3 (by kernel_rfl) (by kernel_rfl) ?_
        refine TS_know 21 (b := true) hb3 (by kernel_rfl) (by kernel_rfl) ?_
        refine TS_go 8 ?_
        refine TS_T (by kernel_rfl) rfl ?_
        refine TS_go 7 ?_
        have ret := Option.some.inj h
        subst ret
        exact TS_ret (by kernel_rfl) (by kernel_rfl) (by kernel_rfl)
      · refine TS_know 19 (b := false) hb3 (by kernel_rfl) (by kernel_rfl) ?_
        refine TS_know 20 (b := false) hb3 (by kernel_rfl) (by kernel_rfl) ?_
        refine TS_know 21 (b := false) hb3 (by kernel_rfl) (by kernel_rfl) ?_
        refine TS_go 8 ?_
        replace h := condO h
        rcases h with ⟨hb4, h⟩ | ⟨hb4, h⟩
        · refine TS_know 27 (b := true) hb4 (by kernel_rfl) (by kernel_rfl) ?_
          refine TS_know 28 (b := true) hb4 (by kernel_rfl) (by kernel_rfl) ?_
          refine TS_T (by kernel_rfl) rfl ?_
          refine TS_go 7 ?_
          have ret := Option.some.inj h
          subst ret
          exact TS_ret (by kernel_rfl) (by kernel_rfl) (by kernel_rfl)
        · refine TS_know 27 (b := false) hb4 (by kernel_rfl) (by kernel_rfl) ?_
          refine TS_know 28 (b := false) hb4 (by kernel_rfl) (by kernel_rfl) ?_
          refine TS_F (by kernel_rfl) rfl ?_
          refine TS_go 13 ?_
          replace h := bindO h
          obtain ⟨l5, hl5, h⟩ := h
          refine TS_sub (ecI .u8) 1 hl5 (by kernel_rfl) (by kernel_rfl) ?_
          refine TS_go 4 ?_
          refine TS_cut ⟨[(8, []), (34, []), (35, []), (36, [])], []⟩ (.mk [.code (codeAt [1, 1, 1, 0, 1, 0] (bodyOf Try.f48)), .blk 0, .code (codeAt [1, 1, 1, 1] (bodyOf Try.f48))] .normal ⟨[(8, .c (.lit (.int .u64 (0)))), (34, .c (.slc 1 0 (List.length l5) (List.map (ecI .u8) l5))), (35, .c (.lit (.int .i64 ((List.length l5 : Int))))), (36, .c (.lit (.int .i64 (0))))], []⟩) (by kernel_rfl) (by kernel_rfl) ?_
          replace h := bindO h
          obtain ⟨y8, hl1, hK1⟩ := h
          refine TS_loopB (F_octets_Uint_l1 l5) ⟨[(8, []), (34, []), (35, []), (36, [])], []⟩ (fun (s6 : Int × Int) => [(8, .c (.lit (.int .u64 (s6.1)))), (36, .c (.lit (.int .i64 (s6.2))))]) (fun (s6 : Int × Int) => []) (0, 0) y8 (.exit 0) (fun (b : Int) => b) ⟨[(8, [])], []⟩ (fun (b7 : Int) => [(8, .c (.lit (.int .u64 (b7))))]) (fun (b7 : Int) => []) hl1 (by kernel_rfl) (by kernel_rfl) ?_ ?_
          · intro s6 x h hy1
            unfold F_octets_Uint_l1 at h
            refine TS_go 5 ?_
            replace h := condO h
            rcases h with ⟨hb9, h⟩ | ⟨hb9, h⟩
            · refine TS_know 37 (b := true) hb9 (by kernel_rfl) (by kernel_rfl) ?_
              refine TS_T (by kernel_rfl) rfl ?_
              refine TS_go 5 ?_
              replace h := bindO h
              obtain ⟨_e10, he10, h⟩ := h
              refine TS_idx (ecI .u8) he10 (by kernel_rfl) (by kernel_rfl) ?_
              refine TS_go 16 ?_
              have ret := Option.some.inj h
              subst ret
              exact TS_againB _ ⟨[(8, []), (34, []), (35, []), (36, [])], []⟩ rfl (by kernel_rfl) (by kernel_rfl)
            · refine TS_know 37 (b := false) hb9 (by kernel_rfl) (by kernel_rfl) ?_
              refine TS_F (by kernel_rfl) rfl ?_
              refine TS_go 2 ?_
              have ret := Option.some.inj h
              subst ret
              exact TS_brkB s6.1 ⟨[(8, [])], []⟩ rfl (by kernel_rfl) (by kernel_rfl) (by kernel_rfl)
          · intro b7 hb
            subst y8
            have h := hK1
            refine TS_go 8 ?_
            have ret := Option.some.inj h
            subst ret
            exact TS_ret (by kernel_rfl) (by kernel_rfl) (by kernel_rfl)

/-- multihop/messages.read1 -/
noncomputable def F_messages_read_1_R472 (a0 : Int) (a1 : Int) (a2 : List Int) : Option (Int) :=
  (F_octets_Uint a2 a0 a1).bind fun v1 =>
  some (v1.1)
set_option maxRecDepth 100000 in
set_option maxHeartbeats 40000000 in
theorem ok_messages_read_1_R472 (a0 : Int) (a1 : Int) (a2 : List Int) (r : Int) (h : F_messages_read_1_R472 a0 a1 a2 = some r) : Con Try.prog 71 [.c (.lit (.int .i64 (a0))), .c (.lit (.int .i64 (a1))), .c (.ref ([eS 1 (ecI .u8) (a2)]))] [] (.c (.lit (.int .u64 (r)))) [] := by
  unfold F_messages_read_1_R472 at h
  refine con_of [] [] 16 Try.func71 rfl rfl (by kernel_rfl) (fun K => ?_)
  refine TS_go 9 ?_
  replace h := bindO h
  obtain ⟨v1, hv1, h⟩ := h
  refine TS_call [] (ok_octets_Uint a2 a0 a1 v1 hv1) (by kernel_rfl) (by kernel_rfl) ?_
  refine TS_go 12 ?_
  have ret := Option.some.inj h
  subst ret
  exact TS_ret (by kernel_rfl) (by kernel_rfl) (by kernel_rfl)

/-- multihop/messages.prefixes -/
noncomputable def F_messages_prefixes (a0 : S_Notice) (a1 : Int) (a2 : Int) (a3 : Int) (a4 : List Int) (a5 : List Int) (a6 : Int) : Option (S_Notice × Bool) :=
  bif (decide (a1 > 128)) then
    some (((S_Notice.mk 0 0 0 0 (S_Destination.mk (S_Prefix.mk [0, 0, 0, 0, 0, 0, 0, 0, 0, 0, 0, 0, 0, 0, 0, 0] 0) (S_Prefix.mk [0, 0, 0, 0, 0, 0, 0, 0, 0, 0, 0, 0, 0, 0, 0, 0] 0) 0) 0), false))
  else
    bif (decide (a2 > 128)) then
      some (((S_Notice.mk 0 0 0 0 (S_Destination.mk (S_Prefix.mk [0, 0, 0, 0, 0, 0, 0, 0, 0, 0, 0, 0, 0, 0, 0, 0] 0) (S_Prefix.mk [0, 0, 0, 0, 0, 0, 0, 0, 0, 0, 0, 0, 0, 0, 0, 0] 0) 0) 0), false))
    else
      (F_messages_size (IntKind.wrap .i64 a1)).bind fun v3 =>
      bif (decide (a3 > (IntKind.wrap .u64 v3))) then
        some (((S_Notice.mk 0 0 0 0 (S_Destination.mk (S_Prefix.mk [0, 0, 0, 0, 0, 0, 0, 0, 0, 0, 0, 0, 0, 0, 0, 0] 0) (S_Prefix.mk [0, 0, 0, 0, 0, 0, 0, 0, 0, 0, 0, 0, 0, 0, 0, 0] 0) 0) 0), false))
      else
        bif (decide ((List.length a5 : Int) < a6)) then
          some (((S_Notice.mk 0 0 0 0 (S_Destination.mk (S_Prefix.mk [0, 0, 0, 0, 0, 0, 0, 0, 0, 0, 0, 0, 0, 0, 0, 0] 0) (S_Prefix.mk [0, 0, 0, 0, 0, 0, 0, 0, 0, 0, 0, 0, 0, 0, 0, 0] 0) 0) 0), false))
        else
          (F_messages_size (IntKind.wrap .i64 a1)).bind fun v6 =>
          (F_messages_size (IntKind.wrap .i64 a2)).bind fun v7 =>
          bif ((List.length a5 : Int) != (IntKind.wrap .i64 ((IntKind.wrap .i64 (a6 + (IntKind.wrap .i64 (v6 - (IntKind.wrap .i64 a3))))) + v7))) then
            some (((S_Notice.mk 0 0 0 0 (S_Destination.mk (S_Prefix.mk [0, 0, 0, 0, 0, 0, 0, 0, 0, 0, 0, 0, 0, 0, 0, 0] 0) (S_Prefix.mk [0, 0, 0, 0, 0, 0, 0, 0, 0, 0, 0, 0, 0, 0, 0, 0] 0) 0) 0), false))
          else
            (subO (arrL 16 a4) 0 (IntKind.wrap .i64 a3)).bind fun l9 =>
            bif decide ((0 : Int) ≤ (IntKind.wrap .i64 a3) ∧ (IntKind.wrap .i64 a3) ≤ (16 : Int) ∧ (16 : Int) ≤ (16 : Int)) then
              (subO a5 a6 (IntKind.wrap .i64 (a6 + (IntKind.wrap .i64 (v6 - (IntKind.wrap .i64 a3)))))).bind fun l11 =>
              bif decide ((Int.toNat (IntKind.wrap .i64 a3)) + (Int.toNat (16 : Int) - Int.toNat (IntKind.wrap .i64 a3)) ≤ 16) then
                (subO a5 (IntKind.wrap .i64 (a6 + (IntKind.wrap .i64 (v6 - (IntKind.wrap .i64 a3))))) (List.length a5 : Int)).bind fun l13 =>
                some (((S_Notice.mk a0.Kind a0.Seq a0.Metric a0.Neighbour (S_Destination.mk (S_Prefix.mk (cpAt 16 (cpA 16 a0.To.Dst.IP (Cut.app .whole l9)) (Int.toNat (IntKind.wrap .i64 a3)) (Int.toNat (16 : Int) - Int.toNat (IntKind.wrap .i64 a3)) (Cut.app .whole l11)) (IntKind.wrap .i64 a1)) (S_Prefix.mk (cpA 16 a0.To.Src.IP (Cut.app .whole l13)) (IntKind.wrap .i64 a2)) a0.To.Router) a0.Hops), true))
              else none
            else none
set_option maxRecDepth 100000 in
set_option maxHeartbeats 40000000 in
theorem ok_messages_prefixes (a0 : S_Notice) (a1 : Int) (a2 : Int) (a3 : Int) (a4 : List Int) (a5 : List Int) (a6 : Int) (r : S_Notice × Bool) (h : F_messages_prefixes a0 a1 a2 a3 a4 a5 a6 = some r) : Con Try.prog 72 [.agg (S_Notice.cs a0), .c (.lit (.int .u64 (a1))), .c (.lit (.int .u64 (a2))), .c (.lit (.int .u64 (a3))), .agg (arrS .u8 16 a4), .c (eS 1 (ecI .u8) (a5)), .c (.lit (.int .i64 (a6)))] [] (.tup [(true, S_Notice.cs r.1), (false, [.lit (.bool (r.2))])]) [] := by
  unfold F_messages_prefixes at h
  refine con_of [] [] 98 Try.func72 rfl rfl (by kernel_rfl) (fun K => ?_)
  refine TS_go 3 ?_
  refine TS_boxF (cs := [.lit (.int .u8 ((a4.getD 0 0))), .lit (.int .u8 ((a4.getD 1 0))), .lit (.int .u8 ((a4.getD 2 0))), .lit (.int .u8 ((a4.getD 3 0))), .lit (.int .u8 ((a4.getD 4 0))), .lit (.int .u8 ((a4.getD 5 0))), .lit (.int .u8 ((a4.getD 6 0))), .lit (.int .u8 ((a4.getD 7 0))), .lit (.int .u8 ((a4.getD 8 0))), .lit (.int .u8 ((a4.getD 9 0))), .lit (.int .u8 ((a4.getD 10 0))), .lit (.int .u8 ((a4.getD 11 0))), .lit (.int .u8 ((a4.getD 12 0))), .lit (.int .u8 ((a4.getD 13 0))), .lit (.int .u8 ((a4.getD 14 0))), .lit (.int .u8 ((a4.getD 15 0)))]) (by kernel_rfl) (by kernel_rfl) ?_
  refine TS_go 9 ?_
  replace h := condO h
  rcases h with ⟨hb1, h⟩ | ⟨hb1, h⟩
  · refine TS_know 19 (b := true) hb1 (by kernel_rfl) (by kernel_rfl) ?_
    refine TS_know 20 (b := true) hb1 (by kernel_rfl) (by kernel_rfl) ?_
    refine TS_go 18 ?_
    refine TS_T (by kernel_rfl) rfl ?_
    refine TS_go 8 ?_
    have ret := Option.some.inj h
    subst ret
    exact TS_ret (by kernel_rfl) (by kernel_rfl) (by kernel_rfl)
  · refine TS_know 19 (b := false) hb1 (by kernel_rfl) (by kernel_rfl) ?_
    refine TS_know 20 (b := false) hb1 (by kernel_rfl) (by kernel_rfl) ?_
    refine TS_go 4 ?_
    replace h := condO h
    rcases h with ⟨hb2, h⟩ | ⟨hb2, h⟩
    · refine TS_know 22 (b := true) hb2 (by kernel_rfl) (by kernel_rfl) ?_
      refine TS_know 23 (b := true) hb2 (by kernel_rfl) (by kernel_rfl) ?_
      refine TS_know 24 (b := true) hb2 (by kernel_rfl) (by kernel_rfl) ?_
      refine TS_go 14 ?_
      refine TS_T (by kernel_rfl) rfl ?_
      refine TS_go 8 ?_
      have ret := Option.some.inj h
      subst ret
      exact TS_ret (by kernel_rfl) (by kernel_rfl) (by kernel_rfl)
    · refine TS_know 22 (b := false) hb2 (by kernel_rfl) (by kernel_rfl) ?_
      refine TS_know 23 (b := false) hb2 (by kernel_rfl) (by kernel_rfl) ?_
      refine TS_know 24 (b := false) hb2 (by kernel_rfl) (by kernel_rfl) ?_
      refine TS_go 3 ?_
      replace h := bindO h
      obtain ⟨v3, hv3, h⟩ := h
      refine TS_call [] (ok_messages_size (IntKind.wrap .i64 a1) v3 hv3) (by kernel_rfl) (by kernel_rfl) ?_
      refine TS_go 4 ?_
      replace h := condO h
      rcases h with ⟨hb4, h⟩ | ⟨hb4, h⟩
      · refine TS_know 30 (b := true) hb4 (by kernel_rfl) (by kernel_rfl) ?_
        refine TS_know 31 (b := true) hb4 (by kernel_rfl) (by kernel_rfl) ?_
        refine TS_know 32 (b := true) hb4 (by kernel_rfl) (by kernel_rfl) ?_
        refine TS_go 6 ?_
        refine TS_T (by kernel_rfl) rfl ?_
        refine TS_go 8 ?_
        have ret := Option.some.inj h
        subst ret
        exact TS_ret (by kernel_rfl) (by kernel_rfl) (by kernel_rfl)
      · refine TS_know 30 (b := false) hb4 (by kernel_rfl) (by kernel_rfl) ?_
        refine TS_know 31 (b := false) hb4 (by kernel_rfl) (by kernel_rfl) ?_
        refine TS_know 32 (b := false) hb4 (by kernel_rfl) (by kernel_rfl) ?_
        refine TS_go 6 ?_
        replace h := condO h
        rcases h with ⟨hb5, h⟩ | ⟨hb5, h⟩
        · refine TS_know 36 (b := true) hb5 (by kernel_rfl) (by kernel_rfl) ?_
          refine TS_know 37 (b := true) hb5 (by kernel_rfl) (by kernel_rfl) ?_
          refine TS_T (by kernel_rfl) rfl ?_
          refine TS_go 8 ?_
          have ret := Option.some.inj h
          subst ret
          exact TS_ret (by kernel_rfl) (by kernel_rfl) (by kernel_rfl)
        · refine TS_know 36 (b := false) hb5 (by kernel_rfl) (by kernel_rfl) ?_
          refine TS_know 37 (b := false) hb5 (by kernel_rfl) (by kernel_rfl) ?_
          refine TS_F (by kernel_rfl) rfl ?_
          refine TS_go 7 ?_
          replace h := bindO h
          obtain ⟨v6, hv6, h⟩ := h
          refine TS_call [] (ok_messages_size (IntKind.wrap .i64 a1) v6 hv6) (by kernel_rfl) (by kernel_rfl) ?_
          refine TS_go 16 ?_
          replace h := bindO h
          obtain ⟨v7, hv7, h⟩ := h
          refine TS_call [] (ok_messages_size (IntKind.wrap .i64 a2) v7 hv7) (by kernel_rfl) (by kernel_rfl) ?_
          refine TS_go 3 ?_
          replace h := condO h
          rcases h with ⟨hb8, h⟩ | ⟨hb8, h⟩
          · refine TS_know 56 (b := true) hb8 (by kernel_rfl) (by kernel_rfl) ?_
            refine TS_T (by kernel_rfl) rfl ?_
            refine TS_go 8 ?_
            have ret := Option.some.inj h
            subst ret
            exact TS_ret (by kernel_rfl) (by kernel_rfl) (by kernel_rfl)
          · refine TS_know 56 (b := false) hb8 (by kernel_rfl) (by kernel_rfl) ?_
            refine TS_F (by kernel_rfl) rfl ?_
            refine TS_go 17 ?_
            refine TS_draw (by kernel_rfl) ?_
            refine TD_go 3 ?_
            refine TD_win 7 4 16 (a := 0) (b := 16) (by decide) (by decide) (by kernel_rfl) (by kernel_rfl) ?_
            refine TD_go 1 ?_
            replace h := bindO h
            obtain ⟨l9, hl9, h⟩ := h
            refine TD_slF (k := .u8) (a := 0) (b := IntKind.wrap .i64 a3) 16 a4 (by decide) hl9 (by kernel_rfl) (by kernel_rfl) ?_
            refine TD_cpW (k := .u8) 7 4 16 a0.To.Dst.IP l9 .whole (pre := [.lit (.int .i64 (a0.Kind)), .lit (.int .u16 (a0.Seq)), .lit (.int .i64 (a0.Metric)), .lit (.int .u64 (a0.Neighbour))]) (post := [.lit (.int .i64 (IntKind.wrap .i64 a1)), .lit (.int .u8 ((a0.To.Src.IP.getD 0 0))), .lit (.int .u8 ((a0.To.Src.IP.getD 1 0))), .lit (.int .u8 ((a0.To.Src.IP.getD 2 0))), .lit (.int .u8 ((a0.To.Src.IP.getD 3 0))), .lit (.int .u8 ((a0.To.Src.IP.getD 4 0))), .lit (.int .u8 ((a0.To.Src.IP.getD 5 0))), .lit (.int .u8 ((a0.To.Src.IP.getD 6 0))), .lit (.int .u8 ((a0.To.Src.IP.getD 7 0))), .lit (.int .u8 ((a0.To.Src.IP.getD 8 0))), .lit (.int .u8 ((a0.To.Src.IP.getD 9 0))), .lit (.int .u8 ((a0.To.Src.IP.getD 10 0))), .lit (.int .u8 ((a0.To.Src.IP.getD 11 0))), .lit (.int .u8 ((a0.To.Src.IP.getD 12 0))), .lit (.int .u8 ((a0.To.Src.IP.getD 13 0))), .lit (.int .u8 ((a0.To.Src.IP.getD 14 0))), .lit (.int .u8 ((a0.To.Src.IP.getD 15 0))), .lit (.int .i64 (IntKind.wrap .i64 a2)), .lit (.int .u64 (a0.To.Router)), .lit (.int .i64 (a0.Hops))]) (by kernel_rfl) (by kernel_rfl) (by kernel_rfl) ?_
            refine TD_end (by kernel_rfl) ?_
            refine TS_go 1 ?_
            refine TS_draw (by kernel_rfl) ?_
            refine TD_go 4 ?_
            replace h := chkO h
            obtain ⟨hc10, h⟩ := h
            refine TD_win 7 4 16 (a := IntKind.wrap .i64 a3) (b := (16 : Int)) hc10 (by decide) (by kernel_rfl) (by kernel_rfl) ?_
            refine TD_go 5 ?_
            replace h := bindO h
            obtain ⟨l11, hl11, h⟩ := h
            refine TD_sub (ecI .u8) 1 hl11 (by kernel_rfl) (by kernel_rfl) ?_
            replace h := chkO h
            obtain ⟨hc12, h⟩ := h
            refine TD_cpV (k := .u8) 7 4 16 (Int.toNat (IntKind.wrap .i64 a3)) (Int.toNat (16 : Int) - Int.toNat (IntKind.wrap .i64 a3)) (cpA 16 a0.To.Dst.IP (Cut.app .whole l9)) l11 .whole (pre := [.lit (.int .i64 (a0.Kind)), .lit (.int .u16 (a0.Seq)), .lit (.int .i64 (a0.Metric)), .lit (.int .u64 (a0.Neighbour))]) (post := [.lit (.int .i64 (IntKind.wrap .i64 a1)), .lit (.int .u8 ((a0.To.Src.IP.getD 0 0))), .lit (.int .u8 ((a0.To.Src.IP.getD 1 0))), .lit (.int .u8 ((a0.To.Src.IP.getD 2 0))), .lit (.int .u8 ((a0.To.Src.IP.getD 3 0))), .lit (.int .u8 ((a0.To.Src.IP.getD 4 0))), .lit (.int .u8 ((a0.To.Src.IP.getD 5 0))), .lit (.int .u8 ((a0.To.Src.IP.getD 6 0))), .lit (.int .u8 ((a0.To.Src.IP.getD 7 0))), .lit (.int .u8 ((a0.To.Src.IP.getD 8 0))), .lit (.int .u8 ((a0.To.Src.IP.getD 9 0))), .lit (.int .u8 ((a0.To.Src.IP.getD 10 0))), .lit (.int .u8 ((a0.To.Src.IP.getD 11 0))), .lit (.int .u8 ((a0.To.Src.IP.getD 12 0))), .lit (.int .u8 ((a0.To.Src.IP.getD 13 0))), .lit (.int .u8 ((a0.To.Src.IP.getD 14 0))), .lit (.int .u8 ((a0.To.Src.IP.getD 15 0))), .lit (.int .i64 (IntKind.wrap .i64 a2)), .lit (.int .u64 (a0.To.Router)), .lit (.int .i64 (a0.Hops))]) (by kernel_rfl) hc12 (by kernel_rfl) (by kernel_rfl) ?_
            refine TD_end (by kernel_rfl) ?_
            refine TS_go 1 ?_
            refine TS_draw (by kernel_rfl) ?_
            refine TD_go 3 ?_
            refine TD_win 7 21 16 (a := 0) (b := 16) (by decide) (by decide) (by kernel_rfl) (by kernel_rfl) ?_
            refine TD_go 4 ?_
            replace h := bindO h
            obtain ⟨l13, hl13, h⟩ := h
            refine TD_sub (ecI .u8) 1 hl13 (by kernel_rfl) (by kernel_rfl) ?_
            refine TD_cpW (k := .u8) 7 21 16 a0.To.Src.IP l13 .whole (pre := [.lit (.int .i64 (a0.Kind)), .lit (.int .u16 (a0.Seq)), .lit (.int .i64 (a0.Metric)), .lit (.int .u64 (a0.Neighbour)), .lit (.int .u8 (((cpAt 16 (cpA 16 a0.To.Dst.IP (Cut.app .whole l9)) (Int.toNat (IntKind.wrap .i64 a3)) (Int.toNat (16 : Int) - Int.toNat (IntKind.wrap .i64 a3)) (Cut.app .whole l11)).getD 0 0))), .lit (.int .u8 (((cpAt 16 (cpA 16 a0.To.Dst.IP (Cut.app .whole l9)) (Int.toNat (IntKind.wrap .i64 a3)) (Int.toNat (16 : Int) - Int.toNat (IntKind.wrap .i64 a3)) (Cut.app .whole l11)).getD 1 0))), .lit (.int .u8 (((cpAt 16 (cpA 16 a0.To.Dst.IP (Cut.app .whole l9)) (Int.toNat (IntKind.wrap .i64 a3)) (Int.toNat (16 : Int) - Int.toNat (IntKind.wrap .i64 a3)) (Cut.app .whole l11)).getD 2 0))), .lit (.int .u8 (((cpAt 16 (cpA 16 a0.To.Dst.IP (Cut.app .whole l9)) (Int.toNat (IntKind.wrap .i64 a3)) (Int.toNat (16 : Int) - Int.toNat (IntKind.wrap .i64 a3)) (Cut.app .whole l11)).getD 3 0))), .lit (.int .u8 (((cpAt 16 (cpA 16 a0.To.Dst.IP (Cut.app .whole l9)) (Int.toNat (IntKind.wrap .i64 a3)) (Int.toNat (16 : Int) - Int.toNat (IntKind.wrap .i64 a3)) (Cut.app .whole l11)).getD 4 0))), .lit (.int .u8 (((cpAt 16 (cpA 16 a0.To.Dst.IP (Cut.app .whole l9)) (Int.toNat (IntKind.wrap .i64 a3)) (Int.toNat (16 : Int) - Int.toNat (IntKind.wrap .i64 a3)) (Cut.app .whole l11)).getD 5 0))), .lit (.int .u8 (((cpAt 16 (cpA 16 a0.To.Dst.IP (Cut.app .whole l9)) (Int.toNat (IntKind.wrap .i64 a3)) (Int.toNat (16 : Int) - Int.toNat (IntKind.wrap .i64 a3)) (Cut.app .whole l11)).getD 6 0))), .lit (.int .u8 (((cpAt 16 (cpA 16 a0.To.Dst.IP (Cut.app .whole l9)) (Int.toNat (IntKind.wrap .i64 a3)) (Int.toNat (16 : Int) - Int.toNat (IntKind.wrap .i64 a3)) (Cut.app .whole l11)).getD 7 0))), .lit (.int .u8 (((cpAt 16 (cpA 16 a0.To.Dst.IP (Cut.app .whole l9)) (Int.toNat (IntKind.wrap .i64 a3)) (Int.toNat (16 : Int) - Int.toNat (IntKind.wrap .i64 a3)) (Cut.app .whole l11)).getD 8 0))), .lit (.int .u8 (((cpAt 16 (cpA 16 a0.To.Dst.IP (Cut.app .whole l9)) (Int.toNat (IntKind.wrap .i64 a3)) (Int.toNat (16 : Int) - Int.toNat (IntKind.wrap .i64 a3)) (Cut.app .whole l11)).getD 9 0))), .lit (.int .u8 (((cpAt 16 (cpA 16 a0.To.Dst.IP (Cut.app .whole l9)) (Int.toNat (IntKind.wrap .i64 a3)) (Int.toNat (16 : Int) - Int.toNat (IntKind.wrap .i64 a3)) (Cut.app .whole l11)).getD 10 0))), .lit (.int .u8 (((cpAt 16 (cpA 16 a0.To.Dst.IP (Cut.app .whole l9)) (Int.toNat (IntKind.wrap .i64 a3)) (Int.toNat (16 : Int) - Int.toNat (IntKind.wrap .i64 a3)) (Cut.app .whole l11)).getD 11 0))), .lit (.int .u8 (((cpAt 16 (cpA 16 a0.To.Dst.IP (Cut.app .whole l9)) (Int.toNat (IntKind.wrap .i64 a3)) (Int.toNat (16 : Int) - Int.toNat (IntKind.wrap .i64 a3)) (Cut.app .whole l11)).getD 12 0))), .lit (.int .u8 (((cpAt 16 (cpA 16 a0.To.Dst.IP (Cut.app .whole l9)) (Int.toNat (IntKind.wrap .i64 a3)) (Int.toNat (16 : Int) - Int.toNat (IntKind.wrap .i64 a3)) (Cut.app .whole l11)).getD 13 0))), .lit (.int .u8 (((cpAt 16 (cpA 16 a0.To.Dst.IP (Cut.app .whole l9)) (Int.toNat (IntKind.wrap .i64 a3)) (Int.toNat (16 : Int) - Int.toNat (IntKind.wrap .i64 a3)) (Cut.app .whole l11)).getD 14 0))), .lit (.int .u8 (((cpAt 16 (cpA 16 a0.To.Dst.IP (Cut.app .whole l9)) (Int.toNat (IntKind.wrap .i64 a3)) (Int.toNat (16 : Int) - Int.toNat (IntKind.wrap .i64 a3)) (Cut.app .whole l11)).getD 15 0))), .lit (.int .i64 (IntKind.wrap .i64 a1))]) (post := [.lit (.int .i64 (IntKind.wrap .i64 a2)), .lit (.int .u64 (a0.To.Router)), .lit (.int .i64 (a0.Hops))]) (by kernel_rfl) (by kernel_rfl) (by kernel_rfl) ?_
            refine TD_end (by kernel_rfl) ?_
            refine TS_go 7 ?_
            have ret := Option.some.inj h
            subst ret
            exact TS_ret (by kernel_rfl) (by kernel_rfl) (by kernel_rfl)

/-- multihop/messages.read -/
noncomputable def F_messages_read (a0 : Int) (a1 : List Int) (a2 : S_messages_state) : Option (S_Notice × Bool) :=
  bif (a0 == 1) then
    (F_messages_read_1_R472 0 2 a1).bind fun v2 =>
    some (((S_Notice.mk 1 (IntKind.wrap .u16 v2) 0 0 (S_Destination.mk (S_Prefix.mk [0, 0, 0, 0, 0, 0, 0, 0, 0, 0, 0, 0, 0, 0, 0, 0] 0) (S_Prefix.mk [0, 0, 0, 0, 0, 0, 0, 0, 0, 0, 0, 0, 0, 0, 0, 0] 0) 0) 0), true))
  else
    bif (a0 == 2) then
      (F_messages_read_1_R472 0 8 a1).bind fun v4 =>
      (F_messages_read_1_R472 8 2 a1).bind fun v5 =>
      some (((S_Notice.mk 2 0 (IntKind.wrap .i64 v5) v4 (S_Destination.mk (S_Prefix.mk [0, 0, 0, 0, 0, 0, 0, 0, 0, 0, 0, 0, 0, 0, 0, 0] 0) (S_Prefix.mk [0, 0, 0, 0, 0, 0, 0, 0, 0, 0, 0, 0, 0, 0, 0, 0] 0) 0) 0), true))
    else
      bif (a0 == 3) then
        (F_messages_read_1_R472 3 2 a1).bind fun v7 =>
        (F_messages_read_1_R472 5 2 a1).bind fun v8 =>
        (F_messages_read_1_R472 1 1 a1).bind fun v9 =>
        (F_messages_read_1_R472 2 1 a1).bind fun v10 =>
        (F_messages_read_1_R472 0 1 a1).bind fun v11 =>
        (F_messages_prefixes (S_Notice.mk 3 (IntKind.wrap .u16 v7) (IntKind.wrap .i64 v8) 0 (S_Destination.mk (S_Prefix.mk [0, 0, 0, 0, 0, 0, 0, 0, 0, 0, 0, 0, 0, 0, 0, 0] 0) (S_Prefix.mk [0, 0, 0, 0, 0, 0, 0, 0, 0, 0, 0, 0, 0, 0, 0, 0] 0) a2.router) 0) v9 v10 v11 a2.dst a1 7).bind fun v12 =>
        some ((v12.1, v12.2))
      else
        bif (a0 == 4) then
          (F_messages_read_1_R472 0 1 a1).bind fun v14 =>
          (F_messages_read_1_R472 1 1 a1).bind fun v15 =>
          (F_messages_prefixes (S_Notice.mk 4 0 0 0 (S_Destination.mk (S_Prefix.mk [0, 0, 0, 0, 0, 0, 0, 0, 0, 0, 0, 0, 0, 0, 0, 0] 0) (S_Prefix.mk [0, 0, 0, 0, 0, 0, 0, 0, 0, 0, 0, 0, 0, 0, 0, 0] 0) 0) 0) v14 v15 0 a2.dst a1 2).bind fun v16 =>
          some ((v16.1, v16.2))
        else
          bif (a0 == 5) then
            (F_messages_read_1_R472 2 2 a1).bind fun v18 =>
            (F_messages_read_1_R472 4 1 a1).bind fun v19 =>
            (F_messages_read_1_R472 5 8 a1).bind fun v20 =>
            (F_messages_read_1_R472 0 1 a1).bind fun v21 =>
            (F_messages_read_1_R472 1 1 a1).bind fun v22 =>
            (F_messages_prefixes (S_Notice.mk 5 (IntKind.wrap .u16 v18) 0 0 (S_Destination.mk (S_Prefix.mk [0, 0, 0, 0, 0, 0, 0, 0, 0, 0, 0, 0, 0, 0, 0, 0] 0) (S_Prefix.mk [0, 0, 0, 0, 0, 0, 0, 0, 0, 0, 0, 0, 0, 0, 0, 0] 0) v20) (IntKind.wrap .i64 v19)) v21 v22 0 a2.dst a1 13).bind fun v23 =>
            some ((v23.1, v23.2))
          else
            some (((S_Notice.mk 0 0 0 0 (S_Destination.mk (S_Prefix.mk [0, 0, 0, 0, 0, 0, 0, 0, 0, 0, 0, 0, 0, 0, 0, 0] 0) (S_Prefix.mk [0, 0, 0, 0, 0, 0, 0, 0, 0, 0, 0, 0, 0, 0, 0, 0] 0) 0) 0), false))
set_option maxRecDepth 100000 in
set_option maxHeartbeats 40000000 in
theorem ok_messages_read (a0 : Int) (a1 : List Int) (a2 : S_messages_state) (r : S_Notice × Bool) (h : F_messages_read a0 a1 a2 = some r) : Con Try.prog 64 [.c (.lit (.int .u8 (a0))), .c (eS 1 (ecI .u8) (a1)), .agg (S_messages_state.cs a2)] [] (.tup [(true, S_Notice.cs r.1), (false, [.lit (.bool (r.2))])]) [] := by
  unfold F_messages_read at h
  refine con_of [] [] 93 Try.func64 rfl rfl (by kernel_rfl) (fun K => ?_)
  refine TS_go 2 ?_
  refine TS_boxF (cs := [.slc 1 0 (List.length a1) (List.map (ecI .u8) a1)]) (by kernel_rfl) (by kernel_rfl) ?_
  refine TS_go 6 ?_
  refine TS_mkf (f := 71) (cs := [.ref [.slc 1 0 (List.length a1) (List.map (ecI .u8) a1)]]) (by kernel_rfl) (by kernel_rfl) ?_
  refine TS_go 13 ?_
  replace h := condO h
  rcases h with ⟨hb1, h⟩ | ⟨hb1, h⟩
  · refine TS_know 15 (b := true) hb1 (by kernel_rfl) (by kernel_rfl) ?_
    refine TS_know 14 (b := true) hb1 (by kernel_rfl) (by kernel_rfl) ?_
    refine TS_T (by kernel_rfl) rfl ?_
    refine TS_go 3 ?_
    replace h := bindO h
    obtain ⟨v2, hv2, h⟩ := h
    refine TS_call [] (ok_messages_read_1_R472 0 2 a1 v2 hv2) (by kernel_rfl) (by kernel_rfl) ?_
    refine TS_go 8 ?_
    have ret := Option.some.inj h
    subst ret
    exact TS_ret (by kernel_rfl) (by kernel_rfl) (by kernel_rfl)
  · refine TS_know 15 (b := false) hb1 (by kernel_rfl) (by kernel_rfl) ?_
    refine TS_know 14 (b := false) hb1 (by kernel_rfl) (by kernel_rfl) ?_
    refine TS_F (by kernel_rfl) rfl ?_
    refine TS_go 5 ?_
    replace h := condO h
    rcases h with ⟨hb3, h⟩ | ⟨hb3, h⟩
    · refine TS_know 21 (b := true) hb3 (by kernel_rfl) (by kernel_rfl) ?_
      refine TS_know 20 (b := true) hb3 (by kernel_rfl) (by kernel_rfl) ?_
      refine TS_T (by kernel_rfl) rfl ?_
      refine TS_go 3 ?_
      replace h := bindO h
      obtain ⟨v4, hv4, h⟩ := h
      refine TS_call [] (ok_messages_read_1_R472 0 8 a1 v4 hv4) (by kernel_rfl) (by kernel_rfl) ?_
      refine TS_go 1 ?_
      replace h := bindO h
      obtain ⟨v5, hv5, h⟩ := h
      refine TS_call [] (ok_messages_read_1_R472 8 2 a1 v5 hv5) (by kernel_rfl) (by kernel_rfl) ?_
      refine TS_go 8 ?_
      have ret := Option.some.inj h
      subst ret
      exact TS_ret (by kernel_rfl) (by kernel_rfl) (by kernel_rfl)
    · refine TS_know 21 (b := false) hb3 (by kernel_rfl) (by kernel_rfl) ?_
      refine TS_know 20 (b := false) hb3 (by kernel_rfl) (by kernel_rfl) ?_
      refine TS_F (by kernel_rfl) rfl ?_
      refine TS_go 5 ?_
      replace h := condO h
      rcases h with ⟨hb6, h⟩ | ⟨hb6, h⟩
      · refine TS_know 29 (b := true) hb6 (by kernel_rfl) (by kernel_rfl) ?_
        refine TS_know 28 (b := true) hb6 (by kernel_rfl) (by kernel_rfl) ?_
        refine TS_T (by kernel_rfl) rfl ?_
        refine TS_go 3 ?_
        replace h := bindO h
        obtain ⟨v7, hv7, h⟩ := h
        refine TS_call [] (ok_messages_read_1_R472 3 2 a1 v7 hv7) (by kernel_rfl) (by kernel_rfl) ?_
        refine TS_go 2 ?_
        replace h := bindO h
        obtain ⟨v8, hv8, h⟩ := h
        refine TS_call [] (ok_messages_read_1_R472 5 2 a1 v8 hv8) (by kernel_rfl) (by kernel_rfl) ?_
        refine TS_go 14 ?_
        refine TS_draw (by kernel_rfl) ?_
        refine TD_go 2 ?_
        replace h := bindO h
        obtain ⟨v9, hv9, h⟩ := h
        refine TD_call [] (ok_messages_read_1_R472 1 1 a1 v9 hv9) (by kernel_rfl) (by kernel_rfl) ?_
        refine TD_go 1 ?_
        replace h := bindO h
        obtain ⟨v10, hv10, h⟩ := h
        refine TD_call [] (ok_messages_read_1_R472 2 1 a1 v10 hv10) (by kernel_rfl) (by kernel_rfl) ?_
        refine TD_go 1 ?_
        replace h := bindO h
        obtain ⟨v11, hv11, h⟩ := h
        refine TD_call [] (ok_messages_read_1_R472 0 1 a1 v11 hv11) (by kernel_rfl) (by kernel_rfl) ?_
        refine TD_go 3 ?_
        replace h := bindO h
        obtain ⟨v12, hv12, h⟩ := h
        refine TD_call [] (ok_messages_prefixes (S_Notice.mk 3 (IntKind.wrap .u16 v7) (IntKind.wrap .i64 v8) 0 (S_Destination.mk (S_Prefix.mk [0, 0, 0, 0, 0, 0, 0, 0, 0, 0, 0, 0, 0, 0, 0, 0] 0) (S_Prefix.mk [0, 0, 0, 0, 0, 0, 0, 0, 0, 0, 0, 0, 0, 0, 0, 0] 0) a2.router) 0) v9 v10 v11 a2.dst a1 7 v12 hv12) (by kernel_rfl) (by kernel_rfl) ?_
        refine TD_go 4 ?_
        refine TD_end (by kernel_rfl) ?_
        refine TS_go 3 ?_
        have ret := Option.some.inj h
        subst ret
        exact TS_ret (by kernel_rfl) (by kernel_rfl) (by kernel_rfl)
      · refine TS_know 29 (b := false) hb6 (by kernel_rfl) (by kernel_rfl) ?_
        refine TS_know 28 (b := false) hb6 (by kernel_rfl) (by kernel_rfl) ?_
        refine TS_F (by kernel_rfl) rfl ?_
        refine TS_go 5 ?_
        replace h := condO h
        rcases h with ⟨hb13, h⟩ | ⟨hb13, h⟩
        · refine TS_know 55 (b := true) hb13 (by kernel_rfl) (by kernel_rfl) ?_
          refine TS_know 54 (b := true) hb13 (by kernel_rfl) (by kernel_rfl) ?_
          refine TS_T (by kernel_rfl) rfl ?_
          refine TS_go 7 ?_
          refine TS_draw (by kernel_rfl) ?_
          refine TD_go 2 ?_
          replace h := bindO h
          obtain ⟨v14, hv14, h⟩ := h
          refine TD_call [] (ok_messages_read_1_R472 0 1 a1 v14 hv14) (by kernel_rfl) (by kernel_rfl) ?_
          refine TD_go 1 ?_
          replace h := bindO h
          obtain ⟨v15, hv15, h⟩ := h
          refine TD_call [] (ok_messages_read_1_R472 1 1 a1 v15 hv15) (by kernel_rfl) (by kernel_rfl) ?_
          refine TD_go 3 ?_
          replace h := bindO h
          obtain ⟨v16, hv16, h⟩ := h
          refine TD_call [] (ok_messages_prefixes (S_Notice.mk 4 0 0 0 (S_Destination.mk (S_Prefix.mk [0, 0, 0, 0, 0, 0, 0, 0, 0, 0, 0, 0, 0, 0, 0, 0] 0) (S_Prefix.mk [0, 0, 0, 0, 0, 0, 0, 0, 0, 0, 0, 0, 0, 0, 0, 0] 0) 0) 0) v14 v15 0 a2.dst a1 2 v16 hv16) (by kernel_rfl) (by kernel_rfl) ?_
          refine TD_go 4 ?_
          refine TD_end (by kernel_rfl) ?_
          refine TS_go 3 ?_
          have ret := Option.some.inj h
          subst ret
          exact TS_ret (by kernel_rfl) (by kernel_rfl) (by kernel_rfl)
        · refine TS_know 55 (b := false) hb13 (by kernel_rfl) (by kernel_rfl) ?_
          refine TS_know 54 (b := false) hb13 (by kernel_rfl) (by kernel_rfl) ?_
          refine TS_F (by kernel_rfl) rfl ?_
          refine TS_go 5 ?_
          replace h := condO h
          rcases h with ⟨hb17, h⟩ | ⟨hb17, h⟩
          · refine TS_know 69 (b := true) hb17 (by kernel_rfl) (by kernel_rfl) ?_
            refine TS_know 68 (b := true) hb17 (by kernel_rfl) (by kernel_rfl) ?_
            refine TS_T (by kernel_rfl) rfl ?_
            refine TS_go 3 ?_
            replace h := bindO h
            obtain ⟨v18, hv18, h⟩ := h
            refine TS_call [] (ok_messages_read_1_R472 2 2 a1 v18 hv18) (by kernel_rfl) (by kernel_rfl) ?_
            refine TS_go 2 ?_
            replace h := bindO h
            obtain ⟨v19, hv19, h⟩ := h
            refine TS_call [] (ok_messages_read_1_R472 4 1 a1 v19 hv19) (by kernel_rfl) (by kernel_rfl) ?_
            refine TS_go 8 ?_
            replace h := bindO h
            obtain ⟨v20, hv20, h⟩ := h
            refine TS_call [] (ok_messages_read_1_R472 5 8 a1 v20 hv20) (by kernel_rfl) (by kernel_rfl) ?_
            refine TS_go 5 ?_
            refine TS_draw (by kernel_rfl) ?_
            refine TD_go 2 ?_
            replace h := bindO h
            obtain ⟨v21, hv21, h⟩ := h
            refine TD_call [] (ok_messages_read_1_R472 0 1 a1 v21 hv21) (by kernel_rfl) (by kernel_rfl) ?_
            refine TD_go 1 ?_
            replace h := bindO h
            obtain ⟨v22, hv22, h⟩ := h
            refine TD_call [] (ok_messages_read_1_R472 1 1 a1 v22 hv22) (by kernel_rfl) (by kernel_rfl) ?_
            refine TD_go 3 ?_
            replace h := bindO h
            obtain ⟨v23, hv23, h⟩ := h
            refine TD_call [] (ok_messages_prefixes (S_Notice.mk 5 (IntKind.wrap .u16 v18) 0 0 (S_Destination.mk (S_Prefix.mk [0, 0, 0, 0, 0, 0, 0, 0, 0, 0, 0, 0, 0, 0, 0, 0] 0) (S_Prefix.mk [0, 0, 0, 0, 0, 0, 0, 0, 0, 0, 0, 0, 0, 0, 0, 0] 0) v20) (IntKind.wrap .i64 v19)) v21 v22 0 a2.dst a1 13 v23 hv23) (by kernel_rfl) (by kernel_rfl) ?_
            refine TD_go 4 ?_
            refine TD_end (by kernel_rfl) ?_
            refine TS_go 3 ?_
            have ret := Option.some.inj h
            subst ret
            exact TS_ret (by kernel_rfl) (by kernel_rfl) (by kernel_rfl)
          · refine TS_know 69 (b := false) hb17 (by kernel_rfl) (by kernel_rfl) ?_
            refine TS_know 68 (b := false) hb17 (by kernel_rfl) (by kernel_rfl) ?_
            refine TS_F (by kernel_rfl) rfl ?_
            refine TS_go 9 ?_
            have ret := Option.some.inj h
            subst ret
            exact TS_ret (by kernel_rfl) (by kernel_rfl) (by kernel_rfl)

/-- multihop/messages.parse -/
noncomputable def F_messages_parse_j2 (s1 : (List Int) × (List S_Notice) × S_messages_state) (v16 : S_Notice × Bool) (l12 : List Int) (v18 : S_messages_state) : Option (((List Int) × (List S_Notice) × S_messages_state) ⊕ (((List S_Notice)) ⊕ ((List S_Notice) × Bool))) :=
  (appO 96 s1.2.1 (Cut.app .whole ([v16.1] : List S_Notice))).bind fun l19 =>
  some (Sum.inl (l12, l19, v18))
noncomputable def F_messages_parse_l1  (s1 : (List Int) × (List S_Notice) × S_messages_state) : Option (((List Int) × (List S_Notice) × S_messages_state) ⊕ (((List S_Notice)) ⊕ ((List S_Notice) × Bool))) :=
  bif (decide ((List.length s1.1 : Int) > 0)) then
    bif (decide ((List.length s1.1 : Int) < 2)) then
      some (Sum.inr (Sum.inr (([] : List S_Notice), false)))
    else
      (idx s1.1 1).bind fun e6 =>
      bif (decide ((IntKind.wrap .i64 ((List.length s1.1 : Int) - 2)) < (IntKind.wrap .i64 e6))) then
        some (Sum.inr (Sum.inr (([] : List S_Notice), false)))
      else
        bif (decide ((List.length s1.2.1 : Int) > 64)) then
          some (Sum.inr (Sum.inr (([] : List S_Notice), false)))
        else
          (idx s1.1 0).bind fun e9 =>
          (idx s1.1 1).bind fun e10 =>
          (subO s1.1 2 (IntKind.wrap .i64 (2 + (IntKind.wrap .i64 e10)))).bind fun l11 =>
          (subO s1.1 (IntKind.wrap .i64 (2 + (List.length l11 : Int))) (List.length s1.1 : Int)).bind fun l12 =>
          bif (e9 == 6) then
            (F_octets_Uint l11 0 8).bind fun v14 =>
            bif v14.2 then
              some (Sum.inl (l12, s1.2.1, (S_messages_state.mk s1.2.2.elements v14.1 s1.2.2.dst)))
            else
              some (Sum.inr (Sum.inr (([] : List S_Notice), false)))
          else
            (F_messages_read e9 l11 s1.2.2).bind fun v16 =>
            bif v16.2 then
              bif (v16.1.Kind == 3) then
                (F_messages_parse_j2 s1 v16 l12) (S_messages_state.mk s1.2.2.elements s1.2.2.router v16.1.To.Dst.IP)
              else
                (F_messages_parse_j2 s1 v16 l12) s1.2.2
            else
              some (Sum.inr (Sum.inr (([] : List S_Notice), false)))
  else
    some (Sum.inr (Sum.inl s1.2.1))
noncomputable def F_messages_parse (a0 : List Int) : Option ((List S_Notice) × Bool) :=
  (loopO (F_messages_parse_l1) (a0, ([] : List S_Notice), (S_messages_state.mk ([] : List Int) 0 [0, 0, 0, 0, 0, 0, 0, 0, 0, 0, 0, 0, 0, 0, 0, 0]))).bind (Sum.elim (fun b2 =>
    some ((b2, true))
  ) (fun w21 => some w21))
set_option maxRecDepth 100000 in
set_option maxHeartbeats 40000000 in
theorem okT_messages_parse (a0 : List Int) (r : (List S_Notice) × Bool) (h : F_messages_parse a0 = some r) : Con Try.prog 49 [.c (eS 1 (ecI .u8) (a0))] [] (.tup [(false, [.slc 40 900002 (List.length r.1) (List.map S_Notice.cs r.1)]), (false, [.lit (.bool (r.2))])]) [(900000, .spare 39 40 (List.length r.1))] := by
  unfold F_messages_parse at h
  refine con_of [] [(900000, [])] 81 Try.func49 rfl rfl (by kernel_rfl) (fun K => ?_)
  refine TS_go 15 ?_
  refine TS_nilT 4 600000 39 40 (by kernel_rfl) ?_
  refine TS_cut ⟨[(0, []), (4, []), (5, [])], [(5, (5, [])), (600000, (600000, []))]⟩ (.mk [.code (codeAt [1, 1, 1, 0, 0] (bodyOf Try.f49)), .blk 0, .code (codeAt [1, 1, 1, 1] (bodyOf Try.f49))] .normal ⟨[(0, .c (.slc 1 0 (List.length a0) (List.map (ecI .u8) a0))), (4, .c (.slc 40 600002 (List.length ([] : List S_Notice)) (List.map S_Notice.cs ([] : List S_Notice)))), (5, .c (.box 5 0))], [(5, .box [.lit (.slice none 0 0), .lit (.int .u64 (0)), .lit (.int .u8 (0)), .lit (.int .u8 (0)), .lit (.int .u8 (0)), .lit (.int .u8 (0)), .lit (.int .u8 (0)), .lit (.int .u8 (0)), .lit (.int .u8 (0)), .lit (.int .u8 (0)), .lit (.int .u8 (0)), .lit (.int .u8 (0)), .lit (.int .u8 (0)), .lit (.int .u8 (0)), .lit (.int .u8 (0)), .lit (.int .u8 (0)), .lit (.int .u8 (0)), .lit (.int .u8 (0))]), (600000, .spare 39 40 (List.length ([] : List S_Notice)))]⟩) (by kernel_rfl) (by kernel_rfl) ?_
  replace h := bindO h
  obtain ⟨y3, hl1, hK1⟩ := h
  refine TS_loopB (F_messages_parse_l1) ⟨[(0, []), (4, []), (5, [])], [(600000, (600000, [])), (5, (5, [2]))]⟩ (fun (s1 : (List Int) × (List S_Notice) × S_messages_state) => [(0, .c (eS 1 (ecI .u8) (s1.1))), (4, .c (.slc 40 600002 (List.length s1.2.1) (List.map S_Notice.cs s1.2.1)))]) (fun (s1 : (List Int) × (List S_Notice) × S_messages_state) => [(5, .box (S_messages_state.cs s1.2.2)), (600000, .spare 39 40 (List.length s1.2.1))]) (a0, ([] : List S_Notice), (S_messages_state.mk ([] : List Int) 0 [0, 0, 0, 0, 0, 0, 0, 0, 0, 0, 0, 0, 0, 0, 0, 0])) y3 (.exit 0) (fun (b : (List S_Notice)) => (Sum.inl b : ((List S_Notice)) ⊕ ((List S_Notice) × Bool))) ⟨[(4, [])], [(600000, (600000, []))]⟩ (fun (b2 : (List S_Notice)) => [(4, .c (.slc 40 600002 (List.length b2) (List.map S_Notice.cs b2)))]) (fun (b2 : (List S_Notice)) => [(600000, .spare 39 40 (List.length b2))]) hl1 (by kernel_rfl) (by kernel_rfl) ?_ ?_
  · intro s1 x h hy1
    unfold F_messages_parse_l1 at h
    refine TS_go 7 ?_
    replace h := condO h
    rcases h with ⟨hb4, h⟩ | ⟨hb4, h⟩
    · refine TS_know 14 (b := true) hb4 (by kernel_rfl) (by kernel_rfl) ?_
      refine TS_T (by kernel_rfl) rfl ?_
      refine TS_go 9 ?_
      replace h := condO h
      rcases h with ⟨hb5, h⟩ | ⟨hb5, h⟩
      · refine TS_know 17 (b := true) hb5 (by kernel_rfl) (by kernel_rfl) ?_
        refine TS_know 18 (b := true) hb5 (by kernel_rfl) (by kernel_rfl) ?_
        refine TS_go 15 ?_
        refine TS_T (by kernel_rfl) rfl ?_
        refine TS_go 5 ?_
        refine TS_nilT 2 600001 39 40 (by kernel_rfl) ?_
        refine TS_fitU ⟨[(2, []), (3, [])], [(600001, (900000, []))]⟩ (by kernel_rfl) ?_
        refine TS_go 3 ?_
        have ret := Option.some.inj h
        subst ret
        have hy1q := hy1 _ rfl
        subst hy1q
        replace h := (elimR hK1)
        refine TS_retB rfl (by kernel_rfl) ?_
        refine TS_go 2 ?_
        have ret := Option.some.inj h
        subst ret
        exact TS_ret (by kernel_rfl) (by kernel_rfl) (by kernel_rfl)
      · refine TS_know 17 (b := false) hb5 (by kernel_rfl) (by kernel_rfl) ?_
        refine TS_know 18 (b := false) hb5 (by kernel_rfl) (by kernel_rfl) ?_
        refine TS_go 4 ?_
        replace h := bindO h
        obtain ⟨_e6, he6, h⟩ := h
        refine TS_idx (ecI .u8) he6 (by kernel_rfl) (by kernel_rfl) ?_
        refine TS_go 5 ?_
        replace h := condO h
        rcases h with ⟨hb7, h⟩ | ⟨hb7, h⟩
        · refine TS_know 26 (b := true) hb7 (by kernel_rfl) (by kernel_rfl) ?_
          refine TS_know 27 (b := true) hb7 (by kernel_rfl) (by kernel_rfl) ?_
          refine TS_know 28 (b := true) hb7 (by kernel_rfl) (by kernel_rfl) ?_
          refine TS_go 5 ?_
          refine TS_T (by kernel_rfl) rfl ?_
          refine TS_go 5 ?_
          refine TS_nilT 2 600001 39 40 (by kernel_rfl) ?_
          refine TS_fitU ⟨[(2, []), (3, [])], [(600001, (900000, []))]⟩ (by kernel_rfl) ?_
          refine TS_go 3 ?_
          have ret := Option.some.inj h
          subst ret
          have hy1q := hy1 _ rfl
          subst hy1q
          replace h := (elimR hK1)
          refine TS_retB rfl (by kernel_rfl) ?_
          refine TS_go 2 ?_
          have ret := Option.some.inj h
          subst ret
          exact TS_ret (by kernel_rfl) (by kernel_rfl) (by kernel_rfl)
        · refine TS_know 26 (b := false) hb7 (by kernel_rfl) (by kernel_rfl) ?_
          refine TS_know 27 (b := false) hb7 (by kernel_rfl) (by kernel_rfl) ?_
          refine TS_know 28 (b := false) hb7 (by kernel_rfl) (by kernel_rfl) ?_
          refine TS_go 5 ?_
          replace h := condO h
          rcases h with ⟨hb8, h⟩ | ⟨hb8, h⟩
          · refine TS_know 31 (b := true) hb8 (by kernel_rfl) (by kernel_rfl) ?_
            refine TS_know 32 (b := true) hb8 (by kernel_rfl) (by kernel_rfl) ?_
            refine TS_T (by kernel_rfl) rfl ?_
            refine TS_go 5 ?_
            refine TS_nilT 2 600001 39 40 (by kernel_rfl) ?_
            refine TS_fitU ⟨[(2, []), (3, [])], [(600001, (900000, []))]⟩ (by kernel_rfl) ?_
            refine TS_go 3 ?_
            have ret := Option.some.inj h
            subst ret
            have hy1q := hy1 _ rfl
            subst hy1q
            replace h := (elimR hK1)
            refine TS_retB rfl (by kernel_rfl) ?_
            refine TS_go 2 ?_
            have ret := Option.some.inj h
            subst ret
            exact TS_ret (by kernel_rfl) (by kernel_rfl) (by kernel_rfl)
          · refine TS_know 31 (b := false) hb8 (by kernel_rfl) (by kernel_rfl) ?_
            refine TS_know 32 (b := false) hb8 (by kernel_rfl) (by kernel_rfl) ?_
            refine TS_F (by kernel_rfl) rfl ?_
            refine TS_go 2 ?_
            refine TS_draw (by kernel_rfl) ?_
            refine TD_go 1 ?_
            replace h := bindO h
            obtain ⟨e9, he9, h⟩ := h
            refine TD_idx (ecI .u8) he9 (by kernel_rfl) (by kernel_rfl) ?_
            refine TD_go 3 ?_
            replace h := bindO h
            obtain ⟨_e10, he10, h⟩ := h
            refine TD_idx (ecI .u8) he10 (by kernel_rfl) (by kernel_rfl) ?_
            refine TD_go 3 ?_
            replace h := bindO h
            obtain ⟨l11, hl11, h⟩ := h
            refine TD_sub (ecI .u8) 1 hl11 (by kernel_rfl) (by kernel_rfl) ?_
            refine TD_go 2 ?_
            refine TD_end (by kernel_rfl) ?_
            refine TS_go 6 ?_
            replace h := bindO h
            obtain ⟨l12, hl12, h⟩ := h
            refine TS_sub (ecI .u8) 1 hl12 (by kernel_rfl) (by kernel_rfl) ?_
            refine TS_go 8 ?_
            replace h := condO h
            rcases h with ⟨hb13, h⟩ | ⟨hb13, h⟩
            · refine TS_know 49 (b := true) hb13 (by kernel_rfl) (by kernel_rfl) ?_
              refine TS_T (by kernel_rfl) rfl ?_
              refine TS_go 3 ?_
              replace h := bindO h
              obtain ⟨v14, hv14, h⟩ := h
              refine TS_call [] (ok_octets_Uint l11 0 8 v14 hv14) (by kernel_rfl) (by kernel_rfl) ?_
              refine TS_go 12 ?_
              replace h := condO h
              rcases h with ⟨hb15, h⟩ | ⟨hb15, h⟩
              · refine TS_know 54 (b := true) hb15 (by kernel_rfl) (by kernel_rfl) ?_
                refine TS_know 9 (b := true) hb15 (by kernel_rfl) (by kernel_rfl) ?_
                refine TS_know 55 (b := true) hb15 (by kernel_rfl) (by kernel_rfl) ?_
                refine TS_know 56 (b := false) (notF hb15) (by kernel_rfl) (by kernel_rfl) ?_
                refine TS_F (by kernel_rfl) rfl ?_
                refine TS_go 10 ?_
                have ret := Option.some.inj h
                subst ret
                exact TS_againB _ ⟨[(0, []), (4, []), (5, [])], [(600000, (600000, [])), (5, (5, []))]⟩ rfl (by kernel_rfl) (by kernel_rfl)
              · refine TS_know 54 (b := false) hb15 (by kernel_rfl) (by kernel_rfl) ?_
                refine TS_know 9 (b := false) hb15 (by kernel_rfl) (by kernel_rfl) ?_
                refine TS_know 55 (b := false) hb15 (by kernel_rfl) (by kernel_rfl) ?_
                refine TS_know 56 (b := true) (notT hb15) (by kernel_rfl) (by kernel_rfl) ?_
                refine TS_T (by kernel_rfl) rfl ?_
                refine TS_go 5 ?_
                refine TS_nilT 2 600001 39 40 (by kernel_rfl) ?_
                refine TS_fitU ⟨[(2, []), (3, [])], [(600001, (900000, []))]⟩ (by kernel_rfl) ?_
                refine TS_go 4 ?_
                have ret := Option.some.inj h
                subst ret
                have hy1q := hy1 _ rfl
                subst hy1q
                replace h := (elimR hK1)
                refine TS_retB rfl (by kernel_rfl) ?_
                refine TS_go 2 ?_
                have ret := Option.some.inj h
                subst ret
                exact TS_ret (by kernel_rfl) (by kernel_rfl) (by kernel_rfl)
            · refine TS_know 49 (b := false) hb13 (by kernel_rfl) (by kernel_rfl) ?_
              refine TS_F (by kernel_rfl) rfl ?_
              refine TS_go 6 ?_
              replace h := bindO h
              obtain ⟨v16, hv16, h⟩ := h
              refine TS_call [] (ok_messages_read e9 l11 s1.2.2 v16 hv16) (by kernel_rfl) (by kernel_rfl) ?_
              refine TS_go 13 ?_
              replace h := condO h
              rcases h with ⟨hb17, h⟩ | ⟨hb17, h⟩
              · refine TS_know 65 (b := true) hb17 (by kernel_rfl) (by kernel_rfl) ?_
                refine TS_know 11 (b := true) hb17 (by kernel_rfl) (by kernel_rfl) ?_
                refine TS_know 66 (b := true) hb17 (by kernel_rfl) (by kernel_rfl) ?_
                refine TS_know 67 (b := false) (notF hb17) (by kernel_rfl) (by kernel_rfl) ?_
                refine TS_F (by kernel_rfl) rfl ?_
                refine TS_go 1 ?_
                refine TS_cut ⟨[(0, []), (4, []), (5, []), (10, [])], [(600000, (600000, [])), (5, (5, [])), (10, (10, []))]⟩ (.mk [.code (codeAt [1, 1, 1, 0, 0, 0, 1, 0, 1, 1, 1, 1, 1, 1] (bodyOf Try.f49)), .blk 1] .normal ⟨[(0, .c (.slc 1 0 (List.length l12) (List.map (ecI .u8) l12))), (4, .c (.slc 40 600002 (List.length s1.2.1) (List.map S_Notice.cs s1.2.1))), (5, .c (.box 5 0)), (10, .c (.box 10 0))], [(600000, .spare 39 40 (List.length s1.2.1)), (5, .box [.slc 1 0 (List.length s1.2.2.elements) (List.map (ecI .u8) s1.2.2.elements), .lit (.int .u64 (s1.2.2.router)), .lit (.int .u8 ((s1.2.2.dst.getD 0 0))), .lit (.int .u8 ((s1.2.2.dst.getD 1 0))), .lit (.int .u8 ((s1.2.2.dst.getD 2 0))), .lit (.int .u8 ((s1.2.2.dst.getD 3 0))), .lit (.int .u8 ((s1.2.2.dst.getD 4 0))), .lit (.int .u8 ((s1.2.2.dst.getD 5 0))), .lit (.int .u8 ((s1.2.2.dst.getD 6 0))), .lit (.int .u8 ((s1.2.2.dst.getD 7 0))), .lit (.int .u8 ((s1.2.2.dst.getD 8 0))), .lit (.int .u8 ((s1.2.2.dst.getD 9 0))), .lit (.int .u8 ((s1.2.2.dst.getD 10 0))), .lit (.int .u8 ((s1.2.2.dst.getD 11 0))), .lit (.int .u8 ((s1.2.2.dst.getD 12 0))), .lit (.int .u8 ((s1.2.2.dst.getD 13 0))), .lit (.int .u8 ((s1.2.2.dst.getD 14 0))), .lit (.int .u8 ((s1.2.2.dst.getD 15 0)))]), (10, .box [.lit (.int .i64 (v16.1.Kind)), .lit (.int .u16 (v16.1.Seq)), .lit (.int .i64 (v16.1.Metric)), .lit (.int .u64 (v16.1.Neighbour)), .lit (.int .u8 ((v16.1.To.Dst.IP.getD 0 0))), .lit (.int .u8 ((v16.1.To.Dst.IP.getD 1 0))), .lit (.int .u8 ((v16.1.To.Dst.IP.getD 2 0))), .lit (.int .u8 ((v16.1.To.Dst.IP.getD 3 0))), .lit (.int .u8 ((v16.1.To.Dst.IP.getD 4 0))), .lit (.int .u8 ((v16.1.To.Dst.IP.getD 5 0))), .lit (.int .u8 ((v16.1.To.Dst.IP.getD 6 0))), .lit (.int .u8 ((v16.1.To.Dst.IP.getD 7 0))), .lit (.int .u8 ((v16.1.To.Dst.IP.getD 8 0))), .lit (.int .u8 ((v16.1.To.Dst.IP.getD 9 0))), .lit (.int .u8 ((v16.1.To.Dst.IP.getD 10 0))), .lit (.int .u8 ((v16.1.To.Dst.IP.getD 11 0))), .lit (.int .u8 ((v16.1.To.Dst.IP.getD 12 0))), .lit (.int .u8 ((v16.1.To.Dst.IP.getD 13 0))), .lit (.int .u8 ((v16.1.To.Dst.IP.getD 14 0))), .lit (.int .u8 ((v16.1.To.Dst.IP.getD 15 0))), .lit (.int .i64 (v16.1.To.Dst.Bits)), .lit (.int .u8 ((v16.1.To.Src.IP.getD 0 0))), .lit (.int .u8 ((v16.1.To.Src.IP.getD 1 0))), .lit (.int .u8 ((v16.1.To.Src.IP.getD 2 0))), .lit (.int .u8 ((v16.1.To.Src.IP.getD 3 0))), .lit (.int .u8 ((v16.1.To.Src.IP.getD 4 0))), .lit (.int .u8 ((v16.1.To.Src.IP.getD 5 0))), .lit (.int .u8 ((v16.1.To.Src.IP.getD 6 0))), .lit (.int .u8 ((v16.1.To.Src.IP.getD 7 0))), .lit (.int .u8 ((v16.1.To.Src.IP.getD 8 0))), .lit (.int .u8 ((v16.1.To.Src.IP.getD 9 0))), .lit (.int .u8 ((v16.1.To.Src.IP.getD 10 0))), .lit (.int .u8 ((v16.1.To.Src.IP.getD 11 0))), .lit (.int .u8 ((v16.1.To.Src.IP.getD 12 0))), .lit (.int .u8 ((v16.1.To.Src.IP.getD 13 0))), .lit (.int .u8 ((v16.1.To.Src.IP.getD 14 0))), .lit (.int .u8 ((v16.1.To.Src.IP.getD 15 0))), .lit (.int .i64 (v16.1.To.Src.Bits)), .lit (.int .u64 (v16.1.To.Router)), .lit (.int .i64 (v16.1.Hops))])]⟩) (by kernel_rfl) (by kernel_rfl) ?_
                refine TS_joinB ⟨[(0, []), (4, []), (5, []), (10, [])], [(600000, (600000, [])), (5, (5, [])), (10, (10, []))]⟩ (fun (v18 : S_messages_state) => []) (fun (v18 : S_messages_state) => [(5, .box (S_messages_state.cs v18))]) (F_messages_parse_j2 s1 v16 l12) x ?_ ?_
                · clear h
                  intro v18 h
                  unfold F_messages_parse_j2 at h
                  refine TS_go 3 ?_
                  refine TS_litNT 78 39 40 S_Notice.cs [] ([v16.1] : List S_Notice) (by kernel_rfl) (by kernel_rfl) ?_
                  replace h := bindO h
                  obtain ⟨_l19, hl19, h⟩ := h
                  refine TS_appT (d := 600000) (e := 39) (sz := 40) (N := List.length s1.2.1) S_Notice.cs (fun _ => by kernel_rfl) (l1 := s1.2.1) (l2 := ([v16.1] : List S_Notice)) (c := .whole) hl19 (by kernel_rfl) (by kernel_rfl) ?_
                  refine TS_go 3 ?_
                  have ret := Option.some.inj h
                  subst ret
                  exact TS_againB _ ⟨[(0, []), (4, []), (5, [])], [(600000, (600000, [])), (5, (5, []))]⟩ rfl (by kernel_rfl) (by kernel_rfl)
                · refine TS_go 6 ?_
                  replace h := condO h
                  rcases h with ⟨hb20, h⟩ | ⟨hb20, h⟩
                  · refine TS_know 70 (b := true) hb20 (by kernel_rfl) (by kernel_rfl) ?_
                    refine TS_T (by kernel_rfl) rfl ?_
                    refine TS_go 8 ?_
                    exact TS_meet (S_messages_state.mk s1.2.2.elements s1.2.2.router v16.1.To.Dst.IP) ⟨[(0, []), (4, []), (5, []), (10, [])], [(600000, (600000, [])), (5, (5, [])), (10, (10, []))]⟩ h (by kernel_rfl) (by kernel_rfl)
                  · refine TS_know 70 (b := false) hb20 (by kernel_rfl) (by kernel_rfl) ?_
                    refine TS_F (by kernel_rfl) rfl ?_
                    refine TS_go 1 ?_
                    exact TS_meet s1.2.2 ⟨[(0, []), (4, []), (5, []), (10, [])], [(600000, (600000, [])), (5, (5, [])), (10, (10, []))]⟩ h (by kernel_rfl) (by kernel_rfl)
              · refine TS_know 65 (b := false) hb17 (by kernel_rfl) (by kernel_rfl) ?_
                refine TS_know 11 (b := false) hb17 (by kernel_rfl) (by kernel_rfl) ?_
                refine TS_know 66 (b := false) hb17 (by kernel_rfl) (by kernel_rfl) ?_
                refine TS_know 67 (b := true) (notT hb17) (by kernel_rfl) (by kernel_rfl) ?_
                refine TS_T (by kernel_rfl) rfl ?_
                refine TS_go 5 ?_
                refine TS_nilT 2 600001 39 40 (by kernel_rfl) ?_
                refine TS_fitU ⟨[(2, []), (3, [])], [(600001, (900000, []))]⟩ (by kernel_rfl) ?_
                refine TS_go 3 ?_
                have ret := Option.some.inj h
                subst ret
                have hy1q := hy1 _ rfl
                subst hy1q
                replace h := (elimR hK1)
                refine TS_retB rfl (by kernel_rfl) ?_
                refine TS_go 2 ?_
                have ret := Option.some.inj h
                subst ret
                exact TS_ret (by kernel_rfl) (by kernel_rfl) (by kernel_rfl)
    · refine TS_know 14 (b := false) hb4 (by kernel_rfl) (by kernel_rfl) ?_
      refine TS_F (by kernel_rfl) rfl ?_
      refine TS_go 2 ?_
      have ret := Option.some.inj h
      subst ret
      exact TS_brkB s1.2.1 ⟨[(4, [])], [(600000, (600000, []))]⟩ rfl (by kernel_rfl) (by kernel_rfl) (by kernel_rfl)
  · intro b2 hb
    subst y3
    have h := elimL hK1
    refine TS_go 7 ?_
    refine TS_fitU ⟨[(2, []), (3, [])], [(600000, (900000, []))]⟩ (by kernel_rfl) ?_
    refine TS_go 1 ?_
    have ret := Option.some.inj h
    subst ret
    exact TS_ret (by kernel_rfl) (by kernel_rfl) (by kernel_rfl)
/-- bytes.Equal -/
noncomputable def F_bytes_Equal (a0 : List Int) (a1 : List Int) : Option (Bool) :=
  some (((u8L (Cut.app .whole a0)) == (u8L (Cut.app .whole a1))))
set_option maxRecDepth 100000 in
set_option maxHeartbeats 40000000 in
theorem ok_bytes_Equal (a0 : List Int) (a1 : List Int) (r : Bool) (h : F_bytes_Equal a0 a1 = some r) : Con Try.prog 28 [.c (eS 1 (ecI .u8) (a0)), .c (eS 1 (ecI .u8) (a1))] [] (.c (.lit (.bool (r)))) [] := by
  unfold F_bytes_Equal at h
  refine con_of [] [] 10 Try.func28 rfl rfl (by kernel_rfl) (fun K => ?_)
  refine TS_go 7 ?_
  refine TS_b2s a0 .whole (by kernel_rfl) (by kernel_rfl) ?_
  refine TS_go 1 ?_
  refine TS_b2s a1 .whole (by kernel_rfl) (by kernel_rfl) ?_
  refine TS_str .eql (u8L (Cut.app .whole a0)) (u8L (Cut.app .whole a1)) rfl (by kernel_rfl) (by kernel_rfl) ?_
  refine TS_go 3 ?_
  have ret := Option.some.inj h
  subst ret
  exact TS_ret (by kernel_rfl) (by kernel_rfl) (by kernel_rfl)
end
section
open Go.RowKit
attribute [local irreducible] TS go TD goD

/-- multihop/messages.Decode -/
noncomputable def F_messages_Decode (a0 : List Int) : Option (Int × (List S_Notice) × Int) :=
  bif (decide ((List.length a0 : Int) < 9)) then
    some ((0, ([] : List S_Notice), 4))
  else
    (F_octets_Uint a0 2 5).bind fun v2 =>
    (F_octets_Uint a0 7 2).bind fun v3 =>
    bif (decide ((IntKind.wrap .i64 ((List.length a0 : Int) - 9)) < (IntKind.wrap .i64 v3.1))) then
      some ((0, ([] : List S_Notice), 4))
    else
      (subO a0 9 (List.length a0 : Int)).bind fun l5 =>
      (F_messages_parse l5).bind fun v6 =>
      bif v6.2 then
        (F_messages_Encode (IntKind.wrap .i64 v2.1) v6.1).bind fun v8 =>
        bif (v8.2 != 0) then
          some ((0, ([] : List S_Notice), 5))
        else
          (F_bytes_Equal v8.1 a0).bind fun v10 =>
          bif v10 then
            some ((IntKind.wrap .i64 v2.1, v6.1, 0))
          else
            some ((0, ([] : List S_Notice), 5))
      else
        some ((0, ([] : List S_Notice), 5))
set_option maxRecDepth 100000 in
set_option maxHeartbeats 40000000 in
theorem okT_messages_Decode (a0 : List Int) (r : Int × (List S_Notice) × Int) (h : F_messages_Decode a0 = some r) : Con Try.prog 22 [.c (eS 1 (ecI .u8) (a0))] [] (.tup [(false, [.lit (.int .i64 (r.1))]), (false, [.slc 40 900066 (List.length r.2.1) (List.map S_Notice.cs r.2.1)]), (false, [.lit (.int .i64 (r.2.2))])]) [(900064, .spare 39 40 (List.length r.2.1))] := by
  unfold F_messages_Decode at h
  refine con_of [] [(900064, [])] 58 Try.func22 rfl rfl (by kernel_rfl) (fun K => ?_)
  refine TS_go 13 ?_
  replace h := condO h
  rcases h with ⟨hb1, h⟩ | ⟨hb1, h⟩
  · refine TS_know 15 (b := true) hb1 (by kernel_rfl) (by kernel_rfl) ?_
    refine TS_T (by kernel_rfl) rfl ?_
    refine TS_go 6 ?_
    refine TS_nilT 3 600000 39 40 (by kernel_rfl) ?_
    refine TS_fitU ⟨[(2, []), (3, []), (4, [])], [(600000, (900064, []))]⟩ (by kernel_rfl) ?_
    refine TS_go 2 ?_
    have ret := Option.some.inj h
    subst ret
    exact TS_ret (by kernel_rfl) (by kernel_rfl) (by kernel_rfl)
  · refine TS_know 15 (b := false) hb1 (by kernel_rfl) (by kernel_rfl) ?_
    refine TS_F (by kernel_rfl) rfl ?_
    refine TS_go 4 ?_
    replace h := bindO h
    obtain ⟨v2, hv2, h⟩ := h
    refine TS_call [] (ok_octets_Uint a0 2 5 v2 hv2) (by kernel_rfl) (by kernel_rfl) ?_
    refine TS_go 9 ?_
    replace h := bindO h
    obtain ⟨v3, hv3, h⟩ := h
    refine TS_call [] (ok_octets_Uint a0 7 2 v3 hv3) (by kernel_rfl) (by kernel_rfl) ?_
    refine TS_go 16 ?_
    replace h := condO h
    rcases h with ⟨hb4, h⟩ | ⟨hb4, h⟩
    · refine TS_know 31 (b := true) hb4 (by kernel_rfl) (by kernel_rfl) ?_
      refine TS_T (by kernel_rfl) rfl ?_
      refine TS_go 6 ?_
      refine TS_nilT 3 600000 39 40 (by kernel_rfl) ?_
      refine TS_fitU ⟨[(2, []), (3, []), (4, [])], [(600000, (900064, []))]⟩ (by kernel_rfl) ?_
      refine TS_go 2 ?_
      have ret := Option.some.inj h
      subst ret
      exact TS_ret (by kernel_rfl) (by kernel_rfl) (by kernel_rfl)
    · refine TS_know 31 (b := false) hb4 (by kernel_rfl) (by kernel_rfl) ?_
      refine TS_F (by kernel_rfl) rfl ?_
      refine TS_go 4 ?_
      replace h := bindO h
      obtain ⟨l5, hl5, h⟩ := h
      refine TS_sub (ecI .u8) 1 hl5 (by kernel_rfl) (by kernel_rfl) ?_
      replace h := bindO h
      obtain ⟨v6, hv6, h⟩ := h
      refine TS_con [] [(35, 900000)] none (okT_messages_parse l5 v6 hv6) (by kernel_rfl) (by kernel_rfl) (by kernel_rfl) ?_
      refine TS_go 12 ?_
      replace h := condO h
      rcases h with ⟨hb7, h⟩ | ⟨hb7, h⟩
      · refine TS_know 37 (b := true) hb7 (by kernel_rfl) (by kernel_rfl) ?_
        refine TS_know 10 (b := true) hb7 (by kernel_rfl) (by kernel_rfl) ?_
        refine TS_know 38 (b := true) hb7 (by kernel_rfl) (by kernel_rfl) ?_
        refine TS_know 39 (b := false) (notF hb7) (by kernel_rfl) (by kernel_rfl) ?_
        refine TS_F (by kernel_rfl) rfl ?_
        refine TS_go 6 ?_
        replace h := bindO h
        obtain ⟨v8, hv8, h⟩ := h
        refine TS_con [[], [41]] [(44, 900000)] none (okT_messages_Encode (IntKind.wrap .i64 v2.1) v6.1 v8 hv8) (by kernel_rfl) (by kernel_rfl) (by kernel_rfl) ?_
        refine TS_go 12 ?_
        replace h := condO h
        rcases h with ⟨hb9, h⟩ | ⟨hb9, h⟩
        · refine TS_know 48 (b := true) hb9 (by kernel_rfl) (by kernel_rfl) ?_
          refine TS_know 49 (b := true) hb9 (by kernel_rfl) (by kernel_rfl) ?_
          refine TS_go 6 ?_
          refine TS_T (by kernel_rfl) rfl ?_
          refine TS_go 6 ?_
          refine TS_nilT 3 600000 39 40 (by kernel_rfl) ?_
          refine TS_fitU ⟨[(2, []), (3, []), (4, [])], [(600000, (900064, []))]⟩ (by kernel_rfl) ?_
          refine TS_go 2 ?_
          have ret := Option.some.inj h
          subst ret
          exact TS_ret (by kernel_rfl) (by kernel_rfl) (by kernel_rfl)
        · refine TS_know 48 (b := false) hb9 (by kernel_rfl) (by kernel_rfl) ?_
          refine TS_know 49 (b := false) hb9 (by kernel_rfl) (by kernel_rfl) ?_
          refine TS_go 2 ?_
          replace h := bindO h
          obtain ⟨v10, hv10, h⟩ := h
          refine TS_call [[2]] (ok_bytes_Equal v8.1 a0 v10 hv10) (by kernel_rfl) (by kernel_rfl) ?_
          refine TS_go 3 ?_
          replace h := condO h
          rcases h with ⟨hb11, h⟩ | ⟨hb11, h⟩
          · subst hb11
            refine TS_F (by kernel_rfl) rfl ?_
            refine TS_go 10 ?_
            refine TS_fitU ⟨[(2, []), (3, []), (4, [])], [(35, (900064, []))]⟩ (by kernel_rfl) ?_
            refine TS_go 1 ?_
            have ret := Option.some.inj h
            subst ret
            exact TS_ret (by kernel_rfl) (by kernel_rfl) (by kernel_rfl)
          · subst hb11
            refine TS_T (by kernel_rfl) rfl ?_
            refine TS_go 6 ?_
            refine TS_nilT 3 600000 39 40 (by kernel_rfl) ?_
            refine TS_fitU ⟨[(2, []), (3, []), (4, [])], [(600000, (900064, []))]⟩ (by kernel_rfl) ?_
            refine TS_go 2 ?_
            have ret := Option.some.inj h
            subst ret
            exact TS_ret (by kernel_rfl) (by kernel_rfl) (by kernel_rfl)
      · refine TS_know 37 (b := false) hb7 (by kernel_rfl) (by kernel_rfl) ?_
        refine TS_know 10 (b := false) hb7 (by kernel_rfl) (by kernel_rfl) ?_
        refine TS_know 38 (b := false) hb7 (by kernel_rfl) (by kernel_rfl) ?_
        refine TS_know 39 (b := true) (notT hb7) (by kernel_rfl) (by kernel_rfl) ?_
        refine TS_T (by kernel_rfl) rfl ?_
        refine TS_go 6 ?_
        refine TS_nilT 3 600000 39 40 (by kernel_rfl) ?_
        refine TS_fitU ⟨[(2, []), (3, []), (4, [])], [(600000, (900064, []))]⟩ (by kernel_rfl) ?_
        refine TS_go 2 ?_
        have ret := Option.some.inj h
        subst ret
        exact TS_ret (by kernel_rfl) (by kernel_rfl) (by kernel_rfl)
/-- multihop/multihoplaw29.known -/
noncomputable def F_law29_known  : Option (Bool) :=
  (F_messages_Encode 7 ([(S_Notice.mk 1 258 0 0 (S_Destination.mk (S_Prefix.mk [0, 0, 0, 0, 0, 0, 0, 0, 0, 0, 0, 0, 0, 0, 0, 0] 0) (S_Prefix.mk [0, 0, 0, 0, 0, 0, 0, 0, 0, 0, 0, 0, 0, 0, 0, 0] 0) 0) 0)] : List S_Notice)).bind fun v1 =>
  (F_messages_Decode v1.1).bind fun v2 =>
  bif (v1.2 == 0) then
    bif (v2.2.2 == 0) then
      (F_bytes_Equal v1.1 ([42, 1, 0, 0, 0, 0, 7, 0, 4, 1, 2, 1, 2] : List Int)).bind fun v5 =>
      bif v5 then
        bif (v2.1 == 7) then
          bif ((List.length v2.2.1 : Int) == 1) then
            (idx v2.2.1 0).bind fun e9 =>
            some ((e9.Seq == 258))
          else
            some (false)
        else
          some (false)
      else
        some (false)
    else
      some (false)
  else
    some (false)
set_option maxRecDepth 100000 in
set_option maxHeartbeats 40000000 in
theorem ok_law29_known  (r : Bool) (h : F_law29_known  = some r) : Con Try.prog 10 [] [] (.c (.lit (.bool (r)))) [] := by
  unfold F_law29_known at h
  refine con_of [] [] 45 Try.func10 rfl rfl (by kernel_rfl) (fun K => ?_)
  refine TS_go 7 ?_
  refine TS_litNT 8 39 40 S_Notice.cs [] ([(S_Notice.mk 1 258 0 0 (S_Destination.mk (S_Prefix.mk [0, 0, 0, 0, 0, 0, 0, 0, 0, 0, 0, 0, 0, 0, 0, 0] 0) (S_Prefix.mk [0, 0, 0, 0, 0, 0, 0, 0, 0, 0, 0, 0, 0, 0, 0, 0] 0) 0) 0)] : List S_Notice) (by kernel_rfl) (by kernel_rfl) ?_
  replace h := bindO h
  obtain ⟨v1, hv1, h⟩ := h
  refine TS_con [[], [41]] [(9, 900000)] none (okT_messages_Encode 7 ([(S_Notice.mk 1 258 0 0 (S_Destination.mk (S_Prefix.mk [0, 0, 0, 0, 0, 0, 0, 0, 0, 0, 0, 0, 0, 0, 0, 0] 0) (S_Prefix.mk [0, 0, 0, 0, 0, 0, 0, 0, 0, 0, 0, 0, 0, 0, 0, 0] 0) 0) 0)] : List S_Notice) v1 hv1) (by kernel_rfl) (by kernel_rfl) (by kernel_rfl) ?_
  refine TS_go 9 ?_
  replace h := bindO h
  obtain ⟨v2, hv2, h⟩ := h
  refine TS_con [[2]] [(14, 900064)] none (okT_messages_Decode v1.1 v2 hv2) (by kernel_rfl) (by kernel_rfl) (by kernel_rfl) ?_
  refine TS_go 13 ?_
  replace h := condO h
  rcases h with ⟨hb3, h⟩ | ⟨hb3, h⟩
  · refine TS_know 19 (b := true) hb3 (by kernel_rfl) (by kernel_rfl) ?_
    refine TS_know 20 (b := true) hb3 (by kernel_rfl) (by kernel_rfl) ?_
    refine TS_go 4 ?_
    replace h := condO h
    rcases h with ⟨hb4, h⟩ | ⟨hb4, h⟩
    · refine TS_know 22 (b := true) hb4 (by kernel_rfl) (by kernel_rfl) ?_
      refine TS_know 23 (b := true) hb4 (by kernel_rfl) (by kernel_rfl) ?_
      refine TS_know 24 (b := true) hb4 (by kernel_rfl) (by kernel_rfl) ?_
      refine TS_go 1 ?_
      refine TS_litNT 26 5 1 (ecI .u8) [] ([42, 1, 0, 0, 0, 0, 7, 0, 4, 1, 2, 1, 2] : List Int) (by kernel_rfl) (by kernel_rfl) ?_
      replace h := bindO h
      obtain ⟨v5, hv5, h⟩ := h
      refine TS_call [[2], [2]] (ok_bytes_Equal v1.1 ([42, 1, 0, 0, 0, 0, 7, 0, 4, 1, 2, 1, 2] : List Int) v5 hv5) (by kernel_rfl) (by kernel_rfl) ?_
      refine TS_go 2 ?_
      replace h := condO h
      rcases h with ⟨hb6, h⟩ | ⟨hb6, h⟩
      · subst hb6
        refine TS_go 4 ?_
        replace h := condO h
        rcases h with ⟨hb7, h⟩ | ⟨hb7, h⟩
        · refine TS_know 31 (b := true) hb7 (by kernel_rfl) (by kernel_rfl) ?_
          refine TS_know 32 (b := true) hb7 (by kernel_rfl) (by kernel_rfl) ?_
          refine TS_know 33 (b := true) hb7 (by kernel_rfl) (by kernel_rfl) ?_
          refine TS_go 5 ?_
          replace h := condO h
          rcases h with ⟨hb8, h⟩ | ⟨hb8, h⟩
          · refine TS_know 36 (b := true) hb8 (by kernel_rfl) (by kernel_rfl) ?_
            refine TS_know 37 (b := true) hb8 (by kernel_rfl) (by kernel_rfl) ?_
            refine TS_know 38 (b := true) hb8 (by kernel_rfl) (by kernel_rfl) ?_
            refine TS_go 1 ?_
            replace h := bindO h
            obtain ⟨_e9, he9, h⟩ := h
            refine TS_idx S_Notice.cs he9 (by kernel_rfl) (by kernel_rfl) ?_
            refine TS_go 7 ?_
            have ret := Option.some.inj h
            subst ret
            exact TS_ret (by kernel_rfl) (by kernel_rfl) (by kernel_rfl)
          · refine TS_know 36 (b := false) hb8 (by kernel_rfl) (by kernel_rfl) ?_
            refine TS_know 37 (b := false) hb8 (by kernel_rfl) (by kernel_rfl) ?_
            refine TS_know 38 (b := false) hb8 (by kernel_rfl) (by kernel_rfl) ?_
            refine TS_go 9 ?_
            have ret := Option.some.inj h
            subst ret
            exact TS_ret (by kernel_rfl) (by kernel_rfl) (by kernel_rfl)
        · refine TS_know 31 (b := false) hb7 (by kernel_rfl) (by kernel_rfl) ?_
          refine TS_know 32 (b := false) hb7 (by kernel_rfl) (by kernel_rfl) ?_
          refine TS_know 33 (b := false) hb7 (by kernel_rfl) (by kernel_rfl) ?_
          refine TS_go 14 ?_
          have ret := Option.some.inj h
          subst ret
          exact TS_ret (by kernel_rfl) (by kernel_rfl) (by kernel_rfl)
      · subst hb6
        refine TS_go 18 ?_
        have ret := Option.some.inj h
        subst ret
        exact TS_ret (by kernel_rfl) (by kernel_rfl) (by kernel_rfl)
    · refine TS_know 22 (b := false) hb4 (by kernel_rfl) (by kernel_rfl) ?_
      refine TS_know 23 (b := false) hb4 (by kernel_rfl) (by kernel_rfl) ?_
      refine TS_know 24 (b := false) hb4 (by kernel_rfl) (by kernel_rfl) ?_
      refine TS_go 23 ?_
      have ret := Option.some.inj h
      subst ret
      exact TS_ret (by kernel_rfl) (by kernel_rfl) (by kernel_rfl)
  · refine TS_know 19 (b := false) hb3 (by kernel_rfl) (by kernel_rfl) ?_
    refine TS_know 20 (b := false) hb3 (by kernel_rfl) (by kernel_rfl) ?_
    refine TS_go 27 ?_
    have ret := Option.some.inj h
    subst ret
    exact TS_ret (by kernel_rfl) (by kernel_rfl) (by kernel_rfl)

/-- multihop/multihopmade.New -/
noncomputable def F_made_New_j1  (v1 : (List Int)) : Option (S_multihopmade_Tape) :=
  some ((S_multihopmade_Tape.mk v1 0))
noncomputable def F_made_New (a0 : List Int) : Option (S_multihopmade_Tape) :=
  bif (decide ((List.length a0 : Int) > 400)) then
    (subO a0 0 400).bind fun l3 =>
    (F_made_New_j1) l3
  else
    (F_made_New_j1) a0
set_option maxRecDepth 100000 in
set_option maxHeartbeats 40000000 in
theorem ok_made_New (a0 : List Int) (r : S_multihopmade_Tape) (h : F_made_New a0 = some r) : Con Try.prog 11 [.c (eS 1 (ecI .i64) (a0))] [] (.c (.box 10 0)) [(10, .box (S_multihopmade_Tape.cs r))] := by
  unfold F_made_New at h
  refine con_of [] [(10, [2])] 11 Try.func11 rfl rfl (by kernel_rfl) (fun K => ?_)
  refine TS_go 4 ?_
  refine TS_cut ⟨[(0, [])], []⟩ (.mk [.code (codeAt [1] (bodyOf Try.f11))] .normal ⟨[(0, .c (.slc 1 0 (List.length a0) (List.map (ecI .i64) a0)))], []⟩) (by kernel_rfl) (by kernel_rfl) ?_
  refine TS_joinB ⟨[(0, [])], []⟩ (fun (v1 : (List Int)) => [(0, .c (eS 1 (ecI .i64) (v1)))]) (fun (v1 : (List Int)) => []) (F_made_New_j1) r ?_ ?_
  · clear h
    intro v1 h
    unfold F_made_New_j1 at h
    refine TS_go 8 ?_
    have ret := Option.some.inj h
    subst ret
    exact TS_ret (by kernel_rfl) (by kernel_rfl) (by kernel_rfl)
  · refine TS_go 6 ?_
    replace h := condO h
    rcases h with ⟨hb2, h⟩ | ⟨hb2, h⟩
    · refine TS_know 5 (b := true) hb2 (by kernel_rfl) (by kernel_rfl) ?_
      refine TS_T (by kernel_rfl) rfl ?_
      refine TS_go 2 ?_
      replace h := bindO h
      obtain ⟨l3, hl3, h⟩ := h
      refine TS_sub (ecI .i64) 1 hl3 (by kernel_rfl) (by kernel_rfl) ?_
      refine TS_go 2 ?_
      exact TS_meet l3 ⟨[(0, [])], []⟩ h (by kernel_rfl) (by kernel_rfl)
    · refine TS_know 5 (b := false) hb2 (by kernel_rfl) (by kernel_rfl) ?_
      refine TS_F (by kernel_rfl) rfl ?_
      refine TS_go 1 ?_
      exact TS_meet a0 ⟨[(0, [])], []⟩ h (by kernel_rfl) (by kernel_rfl)

/-- (*multihop/multihopmade.Tape).Next -/
noncomputable def F_made_Tape_Next_j1 (a0 : S_multihopmade_Tape) (v4 : Int) : Option (Int × S_multihopmade_Tape) :=
  some ((v4, (S_multihopmade_Tape.mk a0.l (IntKind.wrap .i64 (a0.at_ + 1)))))
noncomputable def F_made_Tape_Next (a0 : S_multihopmade_Tape) (a1 : Int) : Option (Int × S_multihopmade_Tape) :=
  bif (decide (a0.at_ ≥ (List.length a0.l : Int))) then
    some ((0, a0))
  else
    (idx a0.l a0.at_).bind fun e2 =>
    bif decide (a1 ≠ 0) then
      bif (decide ((Int.tmod e2 a1) < 0)) then
        (F_made_Tape_Next_j1 a0) (IntKind.wrap .i64 ((Int.tmod e2 a1) + a1))
      else
        (F_made_Tape_Next_j1 a0) (Int.tmod e2 a1)
    else none
set_option maxRecDepth 100000 in
set_option maxHeartbeats 40000000 in
theorem ok_made_Tape_Next (a0 : S_multihopmade_Tape) (a1 : Int) (r : Int × S_multihopmade_Tape) (h : F_made_Tape_Next a0 a1 = some r) : Con Try.prog 20 [.c (.box 1000000 0), .c (.lit (.int .i64 (a1)))] [(1000000, .box (S_multihopmade_Tape.cs a0))] (.c (.lit (.int .i64 (r.1)))) [(1000000, .box (S_multihopmade_Tape.cs r.2))] := by
  unfold F_made_Tape_Next at h
  refine con_of [] [(1000000, [2])] 41 Try.func20 rfl rfl (by kernel_rfl) (fun K => ?_)
  refine TS_go 6 ?_
  refine TS_draw (by kernel_rfl) ?_
  refine TD_go 10 ?_
  refine TD_end (by kernel_rfl) ?_
  replace h := condO h
  rcases h with ⟨hb1, h⟩ | ⟨hb1, h⟩
  · refine TS_know 15 (b := true) hb1 (by kernel_rfl) (by kernel_rfl) ?_
    refine TS_T (by kernel_rfl) rfl ?_
    refine TS_go 6 ?_
    have ret := Option.some.inj h
    subst ret
    exact TS_ret (by kernel_rfl) (by kernel_rfl) (by kernel_rfl)
  · refine TS_know 15 (b := false) hb1 (by kernel_rfl) (by kernel_rfl) ?_
    refine TS_F (by kernel_rfl) rfl ?_
    refine TS_go 2 ?_
    refine TS_draw (by kernel_rfl) ?_
    refine TD_go 8 ?_
    replace h := bindO h
    obtain ⟨e2, he2, h⟩ := h
    refine TD_idx (ecI .i64) he2 (by kernel_rfl) (by kernel_rfl) ?_
    refine TD_go 2 ?_
    replace h := chkO h
    obtain ⟨hc3, h⟩ := h
    refine TD_num (op := .rem) (k := .i64) (k' := .i64) (m := e2) (i := a1) (of_decide_eq_true hc3) rfl (by simp) (by kernel_rfl) (by kernel_rfl) ?_
    refine TD_go 1 ?_
    refine TD_end (by kernel_rfl) ?_
    refine TS_go 11 ?_
    refine TS_cut ⟨[(1, []), (5, [])], [(1000000, (1000000, []))]⟩ (.mk [.code (codeAt [1, 1, 1, 1] (bodyOf Try.f20))] .normal ⟨[(1, .c (.lit (.int .i64 (a1)))), (5, .c (.lit (.int .i64 (Int.tmod e2 a1))))], [(1000000, .box [.slc 1 0 (List.length a0.l) (List.map (ecI .i64) a0.l), .lit (.int .i64 (IntKind.wrap .i64 (a0.at_ + 1)))])]⟩) (by kernel_rfl) (by kernel_rfl) ?_
    refine TS_joinB ⟨[(5, [])], [(1000000, (1000000, []))]⟩ (fun (v4 : Int) => [(5, .c (.lit (.int .i64 (v4))))]) (fun (v4 : Int) => []) (F_made_Tape_Next_j1 a0) r ?_ ?_
    · clear h
      intro v4 h
      unfold F_made_Tape_Next_j1 at h
      refine TS_go 6 ?_
      have ret := Option.some.inj h
      subst ret
      exact TS_ret (by kernel_rfl) (by kernel_rfl) (by kernel_rfl)
    · refine TS_go 5 ?_
      replace h := condO h
      rcases h with ⟨hb5, h⟩ | ⟨hb5, h⟩
      · refine TS_know 36 (b := true) hb5 (by kernel_rfl) (by kernel_rfl) ?_
        refine TS_T (by kernel_rfl) rfl ?_
        refine TS_go 6 ?_
        exact TS_meet (IntKind.wrap .i64 ((Int.tmod e2 a1) + a1)) ⟨[(5, [])], [(1000000, (1000000, []))]⟩ h (by kernel_rfl) (by kernel_rfl)
      · refine TS_know 36 (b := false) hb5 (by kernel_rfl) (by kernel_rfl) ?_
        refine TS_F (by kernel_rfl) rfl ?_
        refine TS_go 1 ?_
        exact TS_meet (Int.tmod e2 a1) ⟨[(5, [])], [(1000000, (1000000, []))]⟩ h (by kernel_rfl) (by kernel_rfl)

/-- multihop/multihopworld.Seq -/
noncomputable def F_world_Seq (a0 : S_multihopmade_Tape) : Option (Int × S_multihopmade_Tape) :=
  (F_made_Tape_Next a0 6).bind fun v1 =>
  some ((IntKind.wrap .u16 (IntKind.wrap .i64 (v1.1 - 2)), v1.2))
set_option maxRecDepth 100000 in
set_option maxHeartbeats 40000000 in
theorem ok_world_Seq (a0 : S_multihopmade_Tape) (r : Int × S_multihopmade_Tape) (h : F_world_Seq a0 = some r) : Con Try.prog 32 [.c (.box 1000000 0)] [(1000000, .box (S_multihopmade_Tape.cs a0))] (.c (.lit (.int .u16 (r.1)))) [(1000000, .box (S_multihopmade_Tape.cs r.2))] := by
  unfold F_world_Seq at h
  refine con_of [] [(1000000, [2])] 7 Try.func32 rfl rfl (by kernel_rfl) (fun K => ?_)
  refine TS_go 7 ?_
  replace h := bindO h
  obtain ⟨v1, hv1, h⟩ := h
  refine TS_con [] [] (some (1000000, 0)) (ok_made_Tape_Next a0 6 v1 hv1) (by kernel_rfl) (by kernel_rfl) (by kernel_rfl) ?_
  refine TS_go 5 ?_
  have ret := Option.some.inj h
  subst ret
  exact TS_ret (by kernel_rfl) (by kernel_rfl) (by kernel_rfl)

/-- multihop/multihopworld.EUI -/
noncomputable def F_world_EUI (a0 : S_multihopmade_Tape) : Option (Int × S_multihopmade_Tape) :=
  (F_made_Tape_Next a0 5).bind fun v1 =>
  some ((IntKind.wrap .u64 (IntKind.wrap .i64 (1 + v1.1)), v1.2))
set_option maxRecDepth 100000 in
set_option maxHeartbeats 40000000 in
theorem ok_world_EUI (a0 : S_multihopmade_Tape) (r : Int × S_multihopmade_Tape) (h : F_world_EUI a0 = some r) : Con Try.prog 33 [.c (.box 1000000 0)] [(1000000, .box (S_multihopmade_Tape.cs a0))] (.c (.lit (.int .u64 (r.1)))) [(1000000, .box (S_multihopmade_Tape.cs r.2))] := by
  unfold F_world_EUI at h
  refine con_of [] [(1000000, [2])] 7 Try.func33 rfl rfl (by kernel_rfl) (fun K => ?_)
  refine TS_go 7 ?_
  replace h := bindO h
  obtain ⟨v1, hv1, h⟩ := h
  refine TS_con [] [] (some (1000000, 0)) (ok_made_Tape_Next a0 5 v1 hv1) (by kernel_rfl) (by kernel_rfl) (by kernel_rfl) ?_
  refine TS_go 5 ?_
  have ret := Option.some.inj h
  subst ret
  exact TS_ret (by kernel_rfl) (by kernel_rfl) (by kernel_rfl)

/-- multihop/multihopworld.Cost -/
noncomputable def F_world_Cost (a0 : S_multihopmade_Tape) : Option (Int × S_multihopmade_Tape) :=
  (F_made_Tape_Next a0 6).bind fun v1 =>
  bif (v1.1 == 0) then
    (F_made_Tape_Next v1.2 4).bind fun v3 =>
    some ((v3.1, v3.2))
  else
    bif (v1.1 == 1) then
      (F_made_Tape_Next v1.2 600).bind fun v5 =>
      some ((IntKind.wrap .i64 (65534 - v5.1), v5.2))
    else
      (F_made_Tape_Next v1.2 30).bind fun v6 =>
      some ((IntKind.wrap .i64 (256 + (IntKind.wrap .i64 (32 * v6.1))), v6.2))
set_option maxRecDepth 100000 in
set_option maxHeartbeats 40000000 in
theorem ok_world_Cost (a0 : S_multihopmade_Tape) (r : Int × S_multihopmade_Tape) (h : F_world_Cost a0 = some r) : Con Try.prog 34 [.c (.box 1000000 0)] [(1000000, .box (S_multihopmade_Tape.cs a0))] (.c (.lit (.int .i64 (r.1)))) [(1000000, .box (S_multihopmade_Tape.cs r.2))] := by
  unfold F_world_Cost at h
  refine con_of [] [(1000000, [2])] 18 Try.func34 rfl rfl (by kernel_rfl) (fun K => ?_)
  refine TS_go 8 ?_
  replace h := bindO h
  obtain ⟨v1, hv1, h⟩ := h
  refine TS_con [] [] (some (1000000, 0)) (ok_made_Tape_Next a0 6 v1 hv1) (by kernel_rfl) (by kernel_rfl) (by kernel_rfl) ?_
  refine TS_go 7 ?_
  replace h := condO h
  rcases h with ⟨hb2, h⟩ | ⟨hb2, h⟩
  · refine TS_know 6 (b := true) hb2 (by kernel_rfl) (by kernel_rfl) ?_
    refine TS_know 5 (b := true) hb2 (by kernel_rfl) (by kernel_rfl) ?_
    refine TS_T (by kernel_rfl) rfl ?_
    refine TS_go 3 ?_
    replace h := bindO h
    obtain ⟨v3, hv3, h⟩ := h
    refine TS_con [] [] (some (1000000, 0)) (ok_made_Tape_Next v1.2 4 v3 hv3) (by kernel_rfl) (by kernel_rfl) (by kernel_rfl) ?_
    refine TS_go 5 ?_
    have ret := Option.some.inj h
    subst ret
    exact TS_ret (by kernel_rfl) (by kernel_rfl) (by kernel_rfl)
  · refine TS_know 6 (b := false) hb2 (by kernel_rfl) (by kernel_rfl) ?_
    refine TS_know 5 (b := false) hb2 (by kernel_rfl) (by kernel_rfl) ?_
    refine TS_F (by kernel_rfl) rfl ?_
    refine TS_go 5 ?_
    replace h := condO h
    rcases h with ⟨hb4, h⟩ | ⟨hb4, h⟩
    · refine TS_know 10 (b := true) hb4 (by kernel_rfl) (by kernel_rfl) ?_
      refine TS_know 9 (b := true) hb4 (by kernel_rfl) (by kernel_rfl) ?_
      refine TS_T (by kernel_rfl) rfl ?_
      refine TS_go 3 ?_
      replace h := bindO h
      obtain ⟨v5, hv5, h⟩ := h
      refine TS_con [] [] (some (1000000, 0)) (ok_made_Tape_Next v1.2 600 v5 hv5) (by kernel_rfl) (by kernel_rfl) (by kernel_rfl) ?_
      refine TS_go 6 ?_
      have ret := Option.some.inj h
      subst ret
      exact TS_ret (by kernel_rfl) (by kernel_rfl) (by kernel_rfl)
    · refine TS_know 10 (b := false) hb4 (by kernel_rfl) (by kernel_rfl) ?_
      refine TS_know 9 (b := false) hb4 (by kernel_rfl) (by kernel_rfl) ?_
      refine TS_F (by kernel_rfl) rfl ?_
      refine TS_go 5 ?_
      replace h := bindO h
      obtain ⟨v6, hv6, h⟩ := h
      refine TS_con [] [] (some (1000000, 0)) (ok_made_Tape_Next v1.2 30 v6 hv6) (by kernel_rfl) (by kernel_rfl) (by kernel_rfl) ?_
      refine TS_go 5 ?_
      have ret := Option.some.inj h
      subst ret
      exact TS_ret (by kernel_rfl) (by kernel_rfl) (by kernel_rfl)

/-- (*multihop/multihopmade.Tape).Bool -/
noncomputable def F_made_Tape_Bool (a0 : S_multihopmade_Tape) (a1 : Int) : Option (Bool × S_multihopmade_Tape) :=
  (F_made_Tape_Next a0 a1).bind fun v1 =>
  some (((v1.1 == (IntKind.wrap .i64 (a1 - 1))), v1.2))
set_option maxRecDepth 100000 in
set_option maxHeartbeats 40000000 in
theorem ok_made_Tape_Bool (a0 : S_multihopmade_Tape) (a1 : Int) (r : Bool × S_multihopmade_Tape) (h : F_made_Tape_Bool a0 a1 = some r) : Con Try.prog 35 [.c (.box 1000000 0), .c (.lit (.int .i64 (a1)))] [(1000000, .box (S_multihopmade_Tape.cs a0))] (.c (.lit (.bool (r.1)))) [(1000000, .box (S_multihopmade_Tape.cs r.2))] := by
  unfold F_made_Tape_Bool at h
  refine con_of [] [(1000000, [2])] 11 Try.func35 rfl rfl (by kernel_rfl) (fun K => ?_)
  refine TS_go 8 ?_
  replace h := bindO h
  obtain ⟨v1, hv1, h⟩ := h
  refine TS_con [] [] (some (1000000, 0)) (ok_made_Tape_Next a0 a1 v1 hv1) (by kernel_rfl) (by kernel_rfl) (by kernel_rfl) ?_
  refine TS_go 6 ?_
  have ret := Option.some.inj h
  subst ret
  exact TS_ret (by kernel_rfl) (by kernel_rfl) (by kernel_rfl)

/-- (*multihop/multihopmade.Tape).Word -/
noncomputable def F_made_Tape_Word (a0 : S_multihopmade_Tape) : Option (Int × S_multihopmade_Tape) :=
  (F_made_Tape_Next a0 65536).bind fun v1 =>
  (F_made_Tape_Next v1.2 5).bind fun v2 =>
  bif (v2.1 == 0) then
    some ((IntKind.wrap .u64 v1.1, v2.2))
  else
    bif (v2.1 == 1) then
      some ((IntKind.wrap .u64 ((ishl .u64 (IntKind.wrap .u64 v1.1) 48) + (IntKind.wrap .u64 v1.1)), v2.2))
    else
      bif (v2.1 == 2) then
        some ((IntKind.wrap .u64 (9223372036854775808 + (IntKind.wrap .u64 v1.1)), v2.2))
      else
        bif (v2.1 == 3) then
          some ((IntKind.wrap .u64 (18446744073709551615 - (Int.tmod (IntKind.wrap .u64 v1.1) 4)), v2.2))
        else
          some ((Int.tmod (IntKind.wrap .u64 v1.1) 4, v2.2))
set_option maxRecDepth 100000 in
set_option maxHeartbeats 40000000 in
theorem ok_made_Tape_Word (a0 : S_multihopmade_Tape) (r : Int × S_multihopmade_Tape) (h : F_made_Tape_Word a0 = some r) : Con Try.prog 36 [.c (.box 1000000 0)] [(1000000, .box (S_multihopmade_Tape.cs a0))] (.c (.lit (.int .u64 (r.1)))) [(1000000, .box (S_multihopmade_Tape.cs r.2))] := by
  unfold F_made_Tape_Word at h
  refine con_of [] [(1000000, [2])] 29 Try.func36 rfl rfl (by kernel_rfl) (fun K => ?_)
  refine TS_go 7 ?_
  replace h := bindO h
  obtain ⟨v1, hv1, h⟩ := h
  refine TS_con [] [] (some (1000000, 0)) (ok_made_Tape_Next a0 65536 v1 hv1) (by kernel_rfl) (by kernel_rfl) (by kernel_rfl) ?_
  refine TS_go 7 ?_
  replace h := bindO h
  obtain ⟨v2, hv2, h⟩ := h
  refine TS_con [] [] (some (1000000, 0)) (ok_made_Tape_Next v1.2 5 v2 hv2) (by kernel_rfl) (by kernel_rfl) (by kernel_rfl) ?_
  refine TS_go 7 ?_
  replace h := condO h
  rcases h with ⟨hb3, h⟩ | ⟨hb3, h⟩
  · refine TS_know 10 (b := true) hb3 (by kernel_rfl) (by kernel_rfl) ?_
    refine TS_know 9 (b := true) hb3 (by kernel_rfl) (by kernel_rfl) ?_
    refine TS_T (by kernel_rfl) rfl ?_
    refine TS_go 8 ?_
    have ret := Option.some.inj h
    subst ret
    exact TS_ret (by kernel_rfl) (by kernel_rfl) (by kernel_rfl)
  · refine TS_know 10 (b := false) hb3 (by kernel_rfl) (by kernel_rfl) ?_
    refine TS_know 9 (b := false) hb3 (by kernel_rfl) (by kernel_rfl) ?_
    refine TS_F (by kernel_rfl) rfl ?_
    refine TS_go 5 ?_
    replace h := condO h
    rcases h with ⟨hb4, h⟩ | ⟨hb4, h⟩
    · refine TS_know 13 (b := true) hb4 (by kernel_rfl) (by kernel_rfl) ?_
      refine TS_know 12 (b := true) hb4 (by kernel_rfl) (by kernel_rfl) ?_
      refine TS_T (by kernel_rfl) rfl ?_
      refine TS_go 11 ?_
      have ret := Option.some.inj h
      subst ret
      exact TS_ret (by kernel_rfl) (by kernel_rfl) (by kernel_rfl)
    · refine TS_know 13 (b := false) hb4 (by kernel_rfl) (by kernel_rfl) ?_
      refine TS_know 12 (b := false) hb4 (by kernel_rfl) (by kernel_rfl) ?_
      refine TS_F (by kernel_rfl) rfl ?_
      refine TS_go 5 ?_
      replace h := condO h
      rcases h with ⟨hb5, h⟩ | ⟨hb5, h⟩
      · refine TS_know 19 (b := true) hb5 (by kernel_rfl) (by kernel_rfl) ?_
        refine TS_know 18 (b := true) hb5 (by kernel_rfl) (by kernel_rfl) ?_
        refine TS_T (by kernel_rfl) rfl ?_
        refine TS_go 9 ?_
        have ret := Option.some.inj h
        subst ret
        exact TS_ret (by kernel_rfl) (by kernel_rfl) (by kernel_rfl)
      · refine TS_know 19 (b := false) hb5 (by kernel_rfl) (by kernel_rfl) ?_
        refine TS_know 18 (b := false) hb5 (by kernel_rfl) (by kernel_rfl) ?_
        refine TS_F (by kernel_rfl) rfl ?_
        refine TS_go 5 ?_
        replace h := condO h
        rcases h with ⟨hb6, h⟩ | ⟨hb6, h⟩
        · refine TS_know 23 (b := true) hb6 (by kernel_rfl) (by kernel_rfl) ?_
          refine TS_know 22 (b := true) hb6 (by kernel_rfl) (by kernel_rfl) ?_
          refine TS_T (by kernel_rfl) rfl ?_
          refine TS_go 10 ?_
          have ret := Option.some.inj h
          subst ret
          exact TS_ret (by kernel_rfl) (by kernel_rfl) (by kernel_rfl)
        · refine TS_know 23 (b := false) hb6 (by kernel_rfl) (by kernel_rfl) ?_
          refine TS_know 22 (b := false) hb6 (by kernel_rfl) (by kernel_rfl) ?_
          refine TS_F (by kernel_rfl) rfl ?_
          refine TS_go 9 ?_
          have ret := Option.some.inj h
          subst ret
          exact TS_ret (by kernel_rfl) (by kernel_rfl) (by kernel_rfl)

/-- multihop/multihopworld.IP -/
noncomputable def F_world_IP_j1  (v4 : S_multihopmade_Tape × (List Int)) : Option ((List Int) × S_multihopmade_Tape) :=
  some ((v4.2, v4.1))
noncomputable def F_world_IP (a0 : S_multihopmade_Tape) : Option ((List Int) × S_multihopmade_Tape) :=
  (F_made_Tape_Next a0 2).bind fun v1 =>
  (F_made_Tape_Next v1.2 2).bind fun v2 =>
  (F_made_Tape_Next v2.2 6).bind fun v3 =>
  (F_made_Tape_Bool v3.2 9).bind fun v5 =>
  bif v5.1 then
    (F_made_Tape_Next v5.2 16).bind fun v7 =>
    bif decide ((0 : Int) ≤ v7.1 ∧ v7.1 < (16 : Int)) then
      (F_made_Tape_Next v7.2 8).bind fun v9 =>
      bif decide (0 ≤ (IntKind.wrap .u64 v9.1)) then
        bif decide ((0 : Int) ≤ v7.1 ∧ v7.1 < (16 : Int)) then
          (F_world_IP_j1) (v9.2, (setA 16 [32, 1, 13, 184, 0, IntKind.wrap .u8 v1.1, IntKind.wrap .u8 v2.1, 0, 0, 0, 0, 0, 0, 0, 0, IntKind.wrap .u8 v3.1] (Int.toNat v7.1) (ixor .u8 (List.getD [32, 1, 13, 184, 0, IntKind.wrap .u8 v1.1, IntKind.wrap .u8 v2.1, 0, 0, 0, 0, 0, 0, 0, 0, IntKind.wrap .u8 v3.1] (Int.toNat v7.1) 0) (ishl .u8 1 (IntKind.wrap .u64 v9.1)))))
        else none
      else none
    else none
  else
    (F_world_IP_j1) (v5.2, [32, 1, 13, 184, 0, IntKind.wrap .u8 v1.1, IntKind.wrap .u8 v2.1, 0, 0, 0, 0, 0, 0, 0, 0, IntKind.wrap .u8 v3.1])
set_option maxRecDepth 100000 in
set_option maxHeartbeats 40000000 in
theorem ok_world_IP (a0 : S_multihopmade_Tape) (r : (List Int) × S_multihopmade_Tape) (h : F_world_IP a0 = some r) : Con Try.prog 56 [.c (.box 1000000 0)] [(1000000, .box (S_multihopmade_Tape.cs a0))] (.agg (arrS .u8 16 r.1)) [(1000000, .box (S_multihopmade_Tape.cs r.2))] := by
  unfold F_world_IP at h
  refine con_of [] [(1000000, [2])] 28 Try.func56 rfl rfl (by kernel_rfl) (fun K => ?_)
  refine TS_go 7 ?_
  replace h := bindO h
  obtain ⟨v1, hv1, h⟩ := h
  refine TS_con [] [] (some (1000000, 0)) (ok_made_Tape_Next a0 2 v1 hv1) (by kernel_rfl) (by kernel_rfl) (by kernel_rfl) ?_
  refine TS_go 2 ?_
  replace h := bindO h
  obtain ⟨v2, hv2, h⟩ := h
  refine TS_con [] [] (some (1000000, 0)) (ok_made_Tape_Next v1.2 2 v2 hv2) (by kernel_rfl) (by kernel_rfl) (by kernel_rfl) ?_
  refine TS_go 8 ?_
  replace h := bindO h
  obtain ⟨v3, hv3, h⟩ := h
  refine TS_con [] [] (some (1000000, 0)) (ok_made_Tape_Next v2.2 6 v3 hv3) (by kernel_rfl) (by kernel_rfl) (by kernel_rfl) ?_
  refine TS_go 4 ?_
  refine TS_cut ⟨[(0, []), (2, []), (3, [])], [(1000000, (1000000, [])), (2, (2, [])), (3, (3, []))]⟩ (.mk [.code (codeAt [1, 1, 1] (bodyOf Try.f56))] .normal ⟨[(0, .c (.box 1000000 0)), (2, .c (.box 2 0)), (3, .c (.box 3 0))], [(1000000, .box [.slc 1 0 (List.length v3.2.l) (List.map (ecI .i64) v3.2.l), .lit (.int .i64 (v3.2.at_))]), (2, .box [.lit (.int .u8 (0)), .lit (.int .u8 (0)), .lit (.int .u8 (0)), .lit (.int .u8 (0)), .lit (.int .u8 (0)), .lit (.int .u8 (0)), .lit (.int .u8 (0)), .lit (.int .u8 (0)), .lit (.int .u8 (0)), .lit (.int .u8 (0)), .lit (.int .u8 (0)), .lit (.int .u8 (0)), .lit (.int .u8 (0)), .lit (.int .u8 (0)), .lit (.int .u8 (0)), .lit (.int .u8 (0))]), (3, .box [.lit (.int .u8 (32)), .lit (.int .u8 (1)), .lit (.int .u8 (13)), .lit (.int .u8 (184)), .lit (.int .u8 (0)), .lit (.int .u8 (IntKind.wrap .u8 v1.1)), .lit (.int .u8 (IntKind.wrap .u8 v2.1)), .lit (.int .u8 (0)), .lit (.int .u8 (0)), .lit (.int .u8 (0)), .lit (.int .u8 (0)), .lit (.int .u8 (0)), .lit (.int .u8 (0)), .lit (.int .u8 (0)), .lit (.int .u8 (0)), .lit (.int .u8 (IntKind.wrap .u8 v3.1))])]⟩) (by kernel_rfl) (by kernel_rfl) ?_
  refine TS_joinB ⟨[(2, []), (3, [])], [(1000000, (1000000, [])), (2, (2, [])), (3, (3, []))]⟩ (fun (v4 : S_multihopmade_Tape × (List Int)) => []) (fun (v4 : S_multihopmade_Tape × (List Int)) => [(1000000, .box (S_multihopmade_Tape.cs v4.1)), (3, .box (arrS .u8 16 v4.2))]) (F_world_IP_j1) r ?_ ?_
  · clear h
    intro v4 h
    unfold F_world_IP_j1 at h
    refine TS_go 6 ?_
    have ret := Option.some.inj h
    subst ret
    exact TS_ret (by kernel_rfl) (by kernel_rfl) (by kernel_rfl)
  · refine TS_go 3 ?_
    replace h := bindO h
    obtain ⟨v5, hv5, h⟩ := h
    refine TS_con [] [] (some (1000000, 0)) (ok_made_Tape_Bool v3.2 9 v5 hv5) (by kernel_rfl) (by kernel_rfl) (by kernel_rfl) ?_
    refine TS_go 1 ?_
    replace h := condO h
    rcases h with ⟨hb6, h⟩ | ⟨hb6, h⟩
    · refine TS_know 16 (b := true) hb6 (by kernel_rfl) (by kernel_rfl) ?_
      refine TS_T (by kernel_rfl) rfl ?_
      refine TS_draw (by kernel_rfl) ?_
      refine TD_go 1 ?_
      replace h := bindO h
      obtain ⟨v7, hv7, h⟩ := h
      refine TD_con (_h := []) (_h' := []) [] 1000000 0 [.slc 1 0 (List.length v5.2.l) (List.map (ecI .i64) v5.2.l), .lit (.int .i64 (v5.2.at_))] _ _ (ok_made_Tape_Next v5.2 16 v7 hv7) (by kernel_rfl) (by kernel_rfl) (by kernel_rfl) (by kernel_rfl) ?_
      replace h := chkO h
      obtain ⟨hc8, h⟩ := h
      refine TD_idxA 3 0 16 (i := v7.1) hc8 (by kernel_rfl) (by kernel_rfl) ?_
      refine TD_ldA .u8 0 16 (i := v7.1) [32, 1, 13, 184, 0, IntKind.wrap .u8 v1.1, IntKind.wrap .u8 v2.1, 0, 0, 0, 0, 0, 0, 0, 0, IntKind.wrap .u8 v3.1] hc8 (by kernel_rfl) (by kernel_rfl) ?_
      refine TD_go 1 ?_
      replace h := bindO h
      obtain ⟨v9, hv9, h⟩ := h
      refine TD_con (_h := []) (_h' := []) [] 1000000 0 [.slc 1 0 (List.length v7.2.l) (List.map (ecI .i64) v7.2.l), .lit (.int .i64 (v7.2.at_))] _ _ (ok_made_Tape_Next v7.2 8 v9 hv9) (by kernel_rfl) (by kernel_rfl) (by kernel_rfl) (by kernel_rfl) ?_
      refine TD_go 1 ?_
      replace h := chkO h
      obtain ⟨hc10, h⟩ := h
      refine TD_num (op := .shl) (k := .u8) (k' := .u64) (m := 1) (i := IntKind.wrap .u64 v9.1) (of_decide_eq_true hc10) rfl (by simp) (by kernel_rfl) (by kernel_rfl) ?_
      refine TD_go 1 ?_
      replace h := chkO h
      obtain ⟨hc11, h⟩ := h
      refine TD_idxA 3 0 16 (i := v7.1) hc11 (by kernel_rfl) (by kernel_rfl) ?_
      refine TD_stA (k := .u8) (d := 3) 0 16 (i := v7.1) (v := ixor .u8 (List.getD [32, 1, 13, 184, 0, IntKind.wrap .u8 v1.1, IntKind.wrap .u8 v2.1, 0, 0, 0, 0, 0, 0, 0, 0, IntKind.wrap .u8 v3.1] (Int.toNat v7.1) 0) (ishl .u8 1 (IntKind.wrap .u64 v9.1))) [32, 1, 13, 184, 0, IntKind.wrap .u8 v1.1, IntKind.wrap .u8 v2.1, 0, 0, 0, 0, 0, 0, 0, 0, IntKind.wrap .u8 v3.1] (pre := []) (post := []) hc11 (by kernel_rfl) (by kernel_rfl) (by kernel_rfl) ?_
      refine TD_end (by kernel_rfl) ?_
      exact TS_meet (v9.2, (setA 16 [32, 1, 13, 184, 0, IntKind.wrap .u8 v1.1, IntKind.wrap .u8 v2.1, 0, 0, 0, 0, 0, 0, 0, 0, IntKind.wrap .u8 v3.1] (Int.toNat v7.1) (ixor .u8 (List.getD [32, 1, 13, 184, 0, IntKind.wrap .u8 v1.1, IntKind.wrap .u8 v2.1, 0, 0, 0, 0, 0, 0, 0, 0, IntKind.wrap .u8 v3.1] (Int.toNat v7.1) 0) (ishl .u8 1 (IntKind.wrap .u64 v9.1))))) ⟨[(2, []), (3, [])], [(1000000, (1000000, [])), (2, (2, [])), (3, (3, []))]⟩ h (by kernel_rfl) (by kernel_rfl)
    · refine TS_know 16 (b := false) hb6 (by kernel_rfl) (by kernel_rfl) ?_
      refine TS_F (by kernel_rfl) rfl ?_
      refine TS_go 1 ?_
      exact TS_meet (v5.2, [32, 1, 13, 184, 0, IntKind.wrap .u8 v1.1, IntKind.wrap .u8 v2.1, 0, 0, 0, 0, 0, 0, 0, 0, IntKind.wrap .u8 v3.1]) ⟨[(2, []), (3, [])], [(1000000, (1000000, [])), (2, (2, [])), (3, (3, []))]⟩ h (by kernel_rfl) (by kernel_rfl)

/-- multihop/multihopref04.bit -/
noncomputable def F_ref04_bit (a0 : List Int) (a1 : Int) : Option (Int) :=
  bif decide ((0 : Int) ≤ (iquo .i64 a1 8) ∧ (iquo .i64 a1 8) < (16 : Int)) then
    bif decide (0 ≤ (IntKind.wrap .u64 (7 - (IntKind.wrap .u64 (Int.tmod a1 8))))) then
      some (iand .u8 (ishr .u8 (List.getD a0 (Int.toNat (iquo .i64 a1 8)) 0) (IntKind.wrap .u64 (7 - (IntKind.wrap .u64 (Int.tmod a1 8))))) 1)
    else none
  else none
set_option maxRecDepth 100000 in
set_option maxHeartbeats 40000000 in
theorem ok_ref04_bit (a0 : List Int) (a1 : Int) (r : Int) (h : F_ref04_bit a0 a1 = some r) : Con Try.prog 59 [.agg (arrS .u8 16 a0), .c (.lit (.int .i64 (a1)))] [] (.c (.lit (.int .u8 (r)))) [] := by
  unfold F_ref04_bit at h
  refine con_of [] [] 15 Try.func59 rfl rfl (by kernel_rfl) (fun K => ?_)
  refine TS_go 9 ?_
  replace h := chkO h
  obtain ⟨hc1, h⟩ := h
  refine TS_idxA 2 0 16 (i := iquo .i64 a1 8) hc1 (by kernel_rfl) (by kernel_rfl) ?_
  refine TS_ldA .u8 0 16 (i := iquo .i64 a1 8) a0 hc1 (by kernel_rfl) (by kernel_rfl) ?_
  refine TS_go 4 ?_
  replace h := chkO h
  obtain ⟨hc2, h⟩ := h
  refine TS_num (op := .shr) (k := .u8) (k' := .u64) (m := (List.getD a0 (Int.toNat (iquo .i64 a1 8)) 0)) (i := IntKind.wrap .u64 (7 - (IntKind.wrap .u64 (Int.tmod a1 8)))) (of_decide_eq_true hc2) rfl (by simp) (by kernel_rfl) (by kernel_rfl) ?_
  refine TS_go 4 ?_
  have ret := Option.some.inj h
  subst ret
  exact TS_ret (by kernel_rfl) (by kernel_rfl) (by kernel_rfl)

/-- multihop/multihopref04.Mask -/
noncomputable def F_ref04_Mask_l1 (a1 : Int) (a0 : List Int) (s1 : Int × S_Prefix) : Option ((Int × S_Prefix) ⊕ (S_Prefix)) :=
  bif (decide (s1.1 < (if 128 < if a1 < 0 then 0 else a1 then 128 else if a1 < 0 then 0 else a1))) then
    bif decide ((0 : Int) ≤ (iquo .i64 s1.1 8) ∧ (iquo .i64 s1.1 8) < (16 : Int)) then
      (F_ref04_bit a0 s1.1).bind fun v6 =>
      bif decide (0 ≤ (IntKind.wrap .u64 (7 - (IntKind.wrap .u64 (Int.tmod s1.1 8))))) then
        bif decide ((0 : Int) ≤ (iquo .i64 s1.1 8) ∧ (iquo .i64 s1.1 8) < (16 : Int)) then
          some (Sum.inl (IntKind.wrap .i64 (s1.1 + 1), (S_Prefix.mk (setA 16 s1.2.IP (Int.toNat (iquo .i64 s1.1 8)) (ior .u8 (List.getD s1.2.IP (Int.toNat (iquo .i64 s1.1 8)) 0) (ishl .u8 v6 (IntKind.wrap .u64 (7 - (IntKind.wrap .u64 (Int.tmod s1.1 8))))))) s1.2.Bits)))
        else none
      else none
    else none
  else
    some (Sum.inr s1.2)
noncomputable def F_ref04_Mask (a0 : List Int) (a1 : Int) : Option (S_Prefix) :=
  (loopO (F_ref04_Mask_l1 a1 a0) (0, (S_Prefix.mk [0, 0, 0, 0, 0, 0, 0, 0, 0, 0, 0, 0, 0, 0, 0, 0] (if 128 < if a1 < 0 then 0 else a1 then 128 else if a1 < 0 then 0 else a1)))).bind fun b2 =>
  some (b2)
set_option maxRecDepth 100000 in
set_option maxHeartbeats 40000000 in
theorem ok_ref04_Mask (a0 : List Int) (a1 : Int) (r : S_Prefix) (h : F_ref04_Mask a0 a1 = some r) : Con Try.prog 55 [.agg (arrS .u8 16 a0), .c (.lit (.int .i64 (a1)))] [] (.agg (S_Prefix.cs r)) [] := by
  unfold F_ref04_Mask at h
  refine con_of [] [] 34 Try.func55 rfl rfl (by kernel_rfl) (fun K => ?_)
  refine TS_go 25 ?_
  refine TS_cut ⟨[(1, []), (2, []), (4, []), (5, []), (6, [])], [(2, (2, [])), (4, (4, [])), (5, (5, []))]⟩ (.mk [.code (codeAt [1, 1, 1, 0, 1, 0] (bodyOf Try.f55)), .blk 0, .code (codeAt [1, 1, 1, 1] (bodyOf Try.f55))] .normal ⟨[(1, .c (.lit (.int .i64 (if 128 < if a1 < 0 then 0 else a1 then 128 else if a1 < 0 then 0 else a1)))), (2, .c (.box 2 0)), (4, .c (.box 4 0)), (5, .c (.box 5 0)), (6, .c (.lit (.int .i64 (0))))], [(2, .box [.lit (.int .u8 ((a0.getD 0 0))), .lit (.int .u8 ((a0.getD 1 0))), .lit (.int .u8 ((a0.getD 2 0))), .lit (.int .u8 ((a0.getD 3 0))), .lit (.int .u8 ((a0.getD 4 0))), .lit (.int .u8 ((a0.getD 5 0))), .lit (.int .u8 ((a0.getD 6 0))), .lit (.int .u8 ((a0.getD 7 0))), .lit (.int .u8 ((a0.getD 8 0))), .lit (.int .u8 ((a0.getD 9 0))), .lit (.int .u8 ((a0.getD 10 0))), .lit (.int .u8 ((a0.getD 11 0))), .lit (.int .u8 ((a0.getD 12 0))), .lit (.int .u8 ((a0.getD 13 0))), .lit (.int .u8 ((a0.getD 14 0))), .lit (.int .u8 ((a0.getD 15 0)))]), (4, .box [.lit (.int .u8 (0)), .lit (.int .u8 (0)), .lit (.int .u8 (0)), .lit (.int .u8 (0)), .lit (.int .u8 (0)), .lit (.int .u8 (0)), .lit (.int .u8 (0)), .lit (.int .u8 (0)), .lit (.int .u8 (0)), .lit (.int .u8 (0)), .lit (.int .u8 (0)), .lit (.int .u8 (0)), .lit (.int .u8 (0)), .lit (.int .u8 (0)), .lit (.int .u8 (0)), .lit (.int .u8 (0)), .lit (.int .i64 (0))]), (5, .box [.lit (.int .u8 (0)), .lit (.int .u8 (0)), .lit (.int .u8 (0)), .lit (.int .u8 (0)), .lit (.int .u8 (0)), .lit (.int .u8 (0)), .lit (.int .u8 (0)), .lit (.int .u8 (0)), .lit (.int .u8 (0)), .lit (.int .u8 (0)), .lit (.int .u8 (0)), .lit (.int .u8 (0)), .lit (.int .u8 (0)), .lit (.int .u8 (0)), .lit (.int .u8 (0)), .lit (.int .u8 (0)), .lit (.int .i64 (if 128 < if a1 < 0 then 0 else a1 then 128 else if a1 < 0 then 0 else a1))])]⟩) (by kernel_rfl) (by kernel_rfl) ?_
  replace h := bindO h
  obtain ⟨y3, hl1, hK1⟩ := h
  refine TS_loopB (F_ref04_Mask_l1 a1 a0) ⟨[(1, []), (2, []), (4, []), (5, []), (6, [])], [(2, (2, [])), (4, (4, [])), (5, (5, []))]⟩ (fun (s1 : Int × S_Prefix) => [(6, .c (.lit (.int .i64 (s1.1))))]) (fun (s1 : Int × S_Prefix) => [(5, .box (S_Prefix.cs s1.2))]) (0, (S_Prefix.mk [0, 0, 0, 0, 0, 0, 0, 0, 0, 0, 0, 0, 0, 0, 0, 0] (if 128 < if a1 < 0 then 0 else a1 then 128 else if a1 < 0 then 0 else a1))) y3 (.exit 0) (fun (b : S_Prefix) => b) ⟨[(4, []), (5, [])], [(4, (4, [])), (5, (5, []))]⟩ (fun (b2 : S_Prefix) => []) (fun (b2 : S_Prefix) => [(5, .box (S_Prefix.cs b2))]) hl1 (by kernel_rfl) (by kernel_rfl) ?_ ?_
  · intro s1 x h hy1
    unfold F_ref04_Mask_l1 at h
    refine TS_go 7 ?_
    replace h := condO h
    rcases h with ⟨hb4, h⟩ | ⟨hb4, h⟩
    · refine TS_know 14 (b := true) hb4 (by kernel_rfl) (by kernel_rfl) ?_
      refine TS_T (by kernel_rfl) rfl ?_
      refine TS_go 3 ?_
      refine TS_draw (by kernel_rfl) ?_
      refine TD_go 3 ?_
      replace h := chkO h
      obtain ⟨hc5, h⟩ := h
      refine TD_idxA 5 0 16 (i := iquo .i64 s1.1 8) hc5 (by kernel_rfl) (by kernel_rfl) ?_
      refine TD_ldA .u8 0 16 (i := iquo .i64 s1.1 8) s1.2.IP hc5 (by kernel_rfl) (by kernel_rfl) ?_
      refine TD_go 2 ?_
      replace h := bindO h
      obtain ⟨v6, hv6, h⟩ := h
      refine TD_call [] (ok_ref04_bit a0 s1.1 v6 hv6) (by kernel_rfl) (by kernel_rfl) ?_
      refine TD_go 4 ?_
      replace h := chkO h
      obtain ⟨hc7, h⟩ := h
      refine TD_num (op := .shl) (k := .u8) (k' := .u64) (m := v6) (i := IntKind.wrap .u64 (7 - (IntKind.wrap .u64 (Int.tmod s1.1 8)))) (of_decide_eq_true hc7) rfl (by simp) (by kernel_rfl) (by kernel_rfl) ?_
      refine TD_go 2 ?_
      replace h := chkO h
      obtain ⟨hc8, h⟩ := h
      refine TD_idxA 5 0 16 (i := iquo .i64 s1.1 8) hc8 (by kernel_rfl) (by kernel_rfl) ?_
      refine TD_stA (k := .u8) (d := 5) 0 16 (i := iquo .i64 s1.1 8) (v := ior .u8 (List.getD s1.2.IP (Int.toNat (iquo .i64 s1.1 8)) 0) (ishl .u8 v6 (IntKind.wrap .u64 (7 - (IntKind.wrap .u64 (Int.tmod s1.1 8)))))) s1.2.IP (pre := []) (post := [.lit (.int .i64 (s1.2.Bits))]) hc8 (by kernel_rfl) (by kernel_rfl) (by kernel_rfl) ?_
      refine TD_end (by kernel_rfl) ?_
      refine TS_go 6 ?_
      have ret := Option.some.inj h
      subst ret
      exact TS_againB _ ⟨[(1, []), (2, []), (4, []), (5, []), (6, [])], [(2, (2, [])), (4, (4, [])), (5, (5, []))]⟩ rfl (by kernel_rfl) (by kernel_rfl)
    · refine TS_know 14 (b := false) hb4 (by kernel_rfl) (by kernel_rfl) ?_
      refine TS_F (by kernel_rfl) rfl ?_
      refine TS_go 2 ?_
      have ret := Option.some.inj h
      subst ret
      exact TS_brkB s1.2 ⟨[(4, []), (5, [])], [(4, (4, [])), (5, (5, []))]⟩ rfl (by kernel_rfl) (by kernel_rfl) (by kernel_rfl)
  · intro b2 hb
    subst y3
    have h := hK1
    refine TS_go 7 ?_
    have ret := Option.some.inj h
    subst ret
    exact TS_ret (by kernel_rfl) (by kernel_rfl) (by kernel_rfl)

/-- multihop/multihopworld.Prefix -/
noncomputable def F_world_Prefix_j1  (v3 : Int × S_multihopmade_Tape) : Option (S_Prefix × S_multihopmade_Tape) :=
  (F_world_IP v3.2).bind fun v4 =>
  (F_ref04_Mask v4.1 v3.1).bind fun v5 =>
  some ((v5, v4.2))
noncomputable def F_world_Prefix (a0 : S_multihopmade_Tape) : Option (S_Prefix × S_multihopmade_Tape) :=
  (F_made_Tape_Next a0 10).bind fun v1 =>
  (idx ([128, 128, 64, 56, 48, 32, 0, 127, 3, 60] : List Int) v1.1).bind fun e2 =>
  (F_made_Tape_Bool v1.2 7).bind fun v6 =>
  bif v6.1 then
    (F_made_Tape_Next v6.2 129).bind fun v8 =>
    (F_world_Prefix_j1) (v8.1, v8.2)
  else
    (F_world_Prefix_j1) (e2, v6.2)
set_option maxRecDepth 100000 in
set_option maxHeartbeats 40000000 in
theorem ok_world_Prefix (a0 : S_multihopmade_Tape) (r : S_Prefix × S_multihopmade_Tape) (h : F_world_Prefix a0 = some r) : Con Try.prog 57 [.c (.box 1000000 0)] [(1000000, .box (S_multihopmade_Tape.cs a0))] (.agg (S_Prefix.cs r.1)) [(1000000, .box (S_multihopmade_Tape.cs r.2))] := by
  unfold F_world_Prefix at h
  refine con_of [] [(1000000, [2])] 17 Try.func57 rfl rfl (by kernel_rfl) (fun K => ?_)
  refine TS_go 6 ?_
  refine TS_litNT 4 3 1 (ecI .i64) [] ([128, 128, 64, 56, 48, 32, 0, 127, 3, 60] : List Int) (by kernel_rfl) (by kernel_rfl) ?_
  refine TS_go 1 ?_
  replace h := bindO h
  obtain ⟨v1, hv1, h⟩ := h
  refine TS_con [] [] (some (1000000, 0)) (ok_made_Tape_Next a0 10 v1 hv1) (by kernel_rfl) (by kernel_rfl) (by kernel_rfl) ?_
  replace h := bindO h
  obtain ⟨e2, he2, h⟩ := h
  refine TS_idx (ecI .i64) he2 (by kernel_rfl) (by kernel_rfl) ?_
  refine TS_go 3 ?_
  refine TS_cut ⟨[(0, []), (2, []), (3, [])], [(1000000, (1000000, [])), (2, (2, []))]⟩ (.mk [.code (codeAt [1, 1] (bodyOf Try.f57))] .normal ⟨[(0, .c (.box 1000000 0)), (2, .c (.box 2 0)), (3, .c (.lit (.int .i64 (e2))))], [(1000000, .box [.slc 1 0 (List.length v1.2.l) (List.map (ecI .i64) v1.2.l), .lit (.int .i64 (v1.2.at_))]), (2, .box [.lit (.int .u8 (0)), .lit (.int .u8 (0)), .lit (.int .u8 (0)), .lit (.int .u8 (0)), .lit (.int .u8 (0)), .lit (.int .u8 (0)), .lit (.int .u8 (0)), .lit (.int .u8 (0)), .lit (.int .u8 (0)), .lit (.int .u8 (0)), .lit (.int .u8 (0)), .lit (.int .u8 (0)), .lit (.int .u8 (0)), .lit (.int .u8 (0)), .lit (.int .u8 (0)), .lit (.int .u8 (0)), .lit (.int .i64 (0))])]⟩) (by kernel_rfl) (by kernel_rfl) ?_
  refine TS_joinB ⟨[(0, []), (2, []), (3, [])], [(1000000, (1000000, [])), (2, (2, []))]⟩ (fun (v3 : Int × S_multihopmade_Tape) => [(3, .c (.lit (.int .i64 (v3.1))))]) (fun (v3 : Int × S_multihopmade_Tape) => [(1000000, .box (S_multihopmade_Tape.cs v3.2))]) (F_world_Prefix_j1) r ?_ ?_
  · clear h
    intro v3 h
    unfold F_world_Prefix_j1 at h
    refine TS_go 3 ?_
    replace h := bindO h
    obtain ⟨v4, hv4, h⟩ := h
    refine TS_con [] [] (some (1000000, 0)) (ok_world_IP v3.2 v4 hv4) (by kernel_rfl) (by kernel_rfl) (by kernel_rfl) ?_
    refine TS_go 1 ?_
    replace h := bindO h
    obtain ⟨v5, hv5, h⟩ := h
    refine TS_call [] (ok_ref04_Mask v4.1 v3.1 v5 hv5) (by kernel_rfl) (by kernel_rfl) ?_
    refine TS_go 3 ?_
    have ret := Option.some.inj h
    subst ret
    exact TS_ret (by kernel_rfl) (by kernel_rfl) (by kernel_rfl)
  · refine TS_go 3 ?_
    replace h := bindO h
    obtain ⟨v6, hv6, h⟩ := h
    refine TS_con [] [] (some (1000000, 0)) (ok_made_Tape_Bool v1.2 7 v6 hv6) (by kernel_rfl) (by kernel_rfl) (by kernel_rfl) ?_
    refine TS_go 1 ?_
    replace h := condO h
    rcases h with ⟨hb7, h⟩ | ⟨hb7, h⟩
    · refine TS_know 10 (b := true) hb7 (by kernel_rfl) (by kernel_rfl) ?_
      refine TS_T (by kernel_rfl) rfl ?_
      refine TS_go 2 ?_
      replace h := bindO h
      obtain ⟨v8, hv8, h⟩ := h
      refine TS_con [] [] (some (1000000, 0)) (ok_made_Tape_Next v6.2 129 v8 hv8) (by kernel_rfl) (by kernel_rfl) (by kernel_rfl) ?_
      refine TS_go 2 ?_
      exact TS_meet (v8.1, v8.2) ⟨[(0, []), (2, []), (3, [])], [(1000000, (1000000, [])), (2, (2, []))]⟩ h (by kernel_rfl) (by kernel_rfl)
    · refine TS_know 10 (b := false) hb7 (by kernel_rfl) (by kernel_rfl) ?_
      refine TS_F (by kernel_rfl) rfl ?_
      refine TS_go 1 ?_
      exact TS_meet (e2, v6.2) ⟨[(0, []), (2, []), (3, [])], [(1000000, (1000000, [])), (2, (2, []))]⟩ h (by kernel_rfl) (by kernel_rfl)

/-- multihop/multihopworld.To -/
noncomputable def F_world_To_j1  (v6 : S_multihopmade_Tape × S_Destination) : Option (S_Destination × S_multihopmade_Tape) :=
  some ((v6.2, v6.1))
noncomputable def F_world_To (a0 : S_multihopmade_Tape) : Option (S_Destination × S_multihopmade_Tape) :=
  (F_world_IP a0).bind fun v1 =>
  (F_made_Tape_Next v1.2 4).bind fun v2 =>
  (idx ([128, 128, 64, 0] : List Int) v2.1).bind fun e3 =>
  (F_ref04_Mask v1.1 e3).bind fun v4 =>
  (F_world_EUI v2.2).bind fun v5 =>
  (F_made_Tape_Bool v5.2 3).bind fun v7 =>
  bif v7.1 then
    (F_world_Prefix v7.2).bind fun v9 =>
    (F_world_To_j1) (v9.2, (S_Destination.mk v4 v9.1 v5.1))
  else
    (F_world_To_j1) (v7.2, (S_Destination.mk v4 (S_Prefix.mk [0, 0, 0, 0, 0, 0, 0, 0, 0, 0, 0, 0, 0, 0, 0, 0] 0) v5.1))
set_option maxRecDepth 100000 in
set_option maxHeartbeats 40000000 in
theorem ok_world_To (a0 : S_multihopmade_Tape) (r : S_Destination × S_multihopmade_Tape) (h : F_world_To a0 = some r) : Con Try.prog 37 [.c (.box 1000000 0)] [(1000000, .box (S_multihopmade_Tape.cs a0))] (.agg (S_Destination.cs r.1)) [(1000000, .box (S_multihopmade_Tape.cs r.2))] := by
  unfold F_world_To at h
  refine con_of [] [(1000000, [2])] 21 Try.func37 rfl rfl (by kernel_rfl) (fun K => ?_)
  refine TS_go 7 ?_
  replace h := bindO h
  obtain ⟨v1, hv1, h⟩ := h
  refine TS_con [] [] (some (1000000, 0)) (ok_world_IP a0 v1 hv1) (by kernel_rfl) (by kernel_rfl) (by kernel_rfl) ?_
  refine TS_litNT 6 3 1 (ecI .i64) [] ([128, 128, 64, 0] : List Int) (by kernel_rfl) (by kernel_rfl) ?_
  refine TS_go 1 ?_
  replace h := bindO h
  obtain ⟨v2, hv2, h⟩ := h
  refine TS_con [] [] (some (1000000, 0)) (ok_made_Tape_Next v1.2 4 v2 hv2) (by kernel_rfl) (by kernel_rfl) (by kernel_rfl) ?_
  replace h := bindO h
  obtain ⟨e3, he3, h⟩ := h
  refine TS_idx (ecI .i64) he3 (by kernel_rfl) (by kernel_rfl) ?_
  refine TS_go 1 ?_
  replace h := bindO h
  obtain ⟨v4, hv4, h⟩ := h
  refine TS_call [] (ok_ref04_Mask v1.1 e3 v4 hv4) (by kernel_rfl) (by kernel_rfl) ?_
  refine TS_go 1 ?_
  replace h := bindO h
  obtain ⟨v5, hv5, h⟩ := h
  refine TS_con [] [] (some (1000000, 0)) (ok_world_EUI v2.2 v5 hv5) (by kernel_rfl) (by kernel_rfl) (by kernel_rfl) ?_
  refine TS_go 4 ?_
  refine TS_cut ⟨[(0, []), (2, []), (3, [])], [(1000000, (1000000, [])), (2, (2, [])), (3, (3, []))]⟩ (.mk [.code (codeAt [1, 1] (bodyOf Try.f37))] .normal ⟨[(0, .c (.box 1000000 0)), (2, .c (.box 2 0)), (3, .c (.box 3 0))], [(1000000, .box [.slc 1 0 (List.length v5.2.l) (List.map (ecI .i64) v5.2.l), .lit (.int .i64 (v5.2.at_))]), (2, .box [.lit (.int .u8 (0)), .lit (.int .u8 (0)), .lit (.int .u8 (0)), .lit (.int .u8 (0)), .lit (.int .u8 (0)), .lit (.int .u8 (0)), .lit (.int .u8 (0)), .lit (.int .u8 (0)), .lit (.int .u8 (0)), .lit (.int .u8 (0)), .lit (.int .u8 (0)), .lit (.int .u8 (0)), .lit (.int .u8 (0)), .lit (.int .u8 (0)), .lit (.int .u8 (0)), .lit (.int .u8 (0)), .lit (.int .i64 (0)), .lit (.int .u8 (0)), .lit (.int .u8 (0)), .lit (.int .u8 (0)), .lit (.int .u8 (0)), .lit (.int .u8 (0)), .lit (.int .u8 (0)), .lit (.int .u8 (0)), .lit (.int .u8 (0)), .lit (.int .u8 (0)), .lit (.int .u8 (0)), .lit (.int .u8 (0)), .lit (.int .u8 (0)), .lit (.int .u8 (0)), .lit (.int .u8 (0)), .lit (.int .u8 (0)), .lit (.int .u8 (0)), .lit (.int .i64 (0)), .lit (.int .u64 (0))]), (3, .box [.lit (.int .u8 ((v4.IP.getD 0 0))), .lit (.int .u8 ((v4.IP.getD 1 0))), .lit (.int .u8 ((v4.IP.getD 2 0))), .lit (.int .u8 ((v4.IP.getD 3 0))), .lit (.int .u8 ((v4.IP.getD 4 0))), .lit (.int .u8 ((v4.IP.getD 5 0))), .lit (.int .u8 ((v4.IP.getD 6 0))), .lit (.int .u8 ((v4.IP.getD 7 0))), .lit (.int .u8 ((v4.IP.getD 8 0))), .lit (.int .u8 ((v4.IP.getD 9 0))), .lit (.int .u8 ((v4.IP.getD 10 0))), .lit (.int .u8 ((v4.IP.getD 11 0))), .lit (.int .u8 ((v4.IP.getD 12 0))), .lit (.int .u8 ((v4.IP.getD 13 0))), .lit (.int .u8 ((v4.IP.getD 14 0))), .lit (.int .u8 ((v4.IP.getD 15 0))), .lit (.int .i64 (v4.Bits)), .lit (.int .u8 (0)), .lit (.int .u8 (0)), .lit (.int .u8 (0)), .lit (.int .u8 (0)), .lit (.int .u8 (0)), .lit (.int .u8 (0)), .lit (.int .u8 (0)), .lit (.int .u8 (0)), .lit (.int .u8 (0)), .lit (.int .u8 (0)), .lit (.int .u8 (0)), .lit (.int .u8 (0)), .lit (.int .u8 (0)), .lit (.int .u8 (0)), .lit (.int .u8 (0)), .lit (.int .u8 (0)), .lit (.int .i64 (0)), .lit (.int .u64 (v5.1))])]⟩) (by kernel_rfl) (by kernel_rfl) ?_
  refine TS_joinB ⟨[(2, []), (3, [])], [(1000000, (1000000, [])), (2, (2, [])), (3, (3, []))]⟩ (fun (v6 : S_multihopmade_Tape × S_Destination) => []) (fun (v6 : S_multihopmade_Tape × S_Destination) => [(1000000, .box (S_multihopmade_Tape.cs v6.1)), (3, .box (S_Destination.cs v6.2))]) (F_world_To_j1) r ?_ ?_
  · clear h
    intro v6 h
    unfold F_world_To_j1 at h
    refine TS_go 6 ?_
    have ret := Option.some.inj h
    subst ret
    exact TS_ret (by kernel_rfl) (by kernel_rfl) (by kernel_rfl)
  · refine TS_go 3 ?_
    replace h := bindO h
    obtain ⟨v7, hv7, h⟩ := h
    refine TS_con [] [] (some (1000000, 0)) (ok_made_Tape_Bool v5.2 3 v7 hv7) (by kernel_rfl) (by kernel_rfl) (by kernel_rfl) ?_
    refine TS_go 1 ?_
    replace h := condO h
    rcases h with ⟨hb8, h⟩ | ⟨hb8, h⟩
    · refine TS_know 16 (b := true) hb8 (by kernel_rfl) (by kernel_rfl) ?_
      refine TS_T (by kernel_rfl) rfl ?_
      refine TS_go 2 ?_
      replace h := bindO h
      obtain ⟨v9, hv9, h⟩ := h
      refine TS_con [] [] (some (1000000, 0)) (ok_world_Prefix v7.2 v9 hv9) (by kernel_rfl) (by kernel_rfl) (by kernel_rfl) ?_
      refine TS_go 3 ?_
      exact TS_meet (v9.2, (S_Destination.mk v4 v9.1 v5.1)) ⟨[(2, []), (3, [])], [(1000000, (1000000, [])), (2, (2, [])), (3, (3, []))]⟩ h (by kernel_rfl) (by kernel_rfl)
    · refine TS_know 16 (b := false) hb8 (by kernel_rfl) (by kernel_rfl) ?_
      refine TS_F (by kernel_rfl) rfl ?_
      refine TS_go 1 ?_
      exact TS_meet (v7.2, (S_Destination.mk v4 (S_Prefix.mk [0, 0, 0, 0, 0, 0, 0, 0, 0, 0, 0, 0, 0, 0, 0, 0] 0) v5.1)) ⟨[(2, []), (3, [])], [(1000000, (1000000, [])), (2, (2, [])), (3, (3, []))]⟩ h (by kernel_rfl) (by kernel_rfl)

/-- multihop/multihopworld.Notice -/
noncomputable def F_world_Notice_j1  (v2 : S_multihopmade_Tape × S_Notice) : Option (S_Notice × S_multihopmade_Tape) :=
  some ((v2.2, v2.1))
noncomputable def F_world_Notice (a0 : S_multihopmade_Tape) : Option (S_Notice × S_multihopmade_Tape) :=
  (F_made_Tape_Next a0 5).bind fun v1 =>
  bif ((IntKind.wrap .i64 (1 + v1.1)) == 1) then
    (F_world_Seq v1.2).bind fun v4 =>
    (F_world_Notice_j1) (v4.2, (S_Notice.mk (IntKind.wrap .i64 (1 + v1.1)) v4.1 0 0 (S_Destination.mk (S_Prefix.mk [0, 0, 0, 0, 0, 0, 0, 0, 0, 0, 0, 0, 0, 0, 0, 0] 0) (S_Prefix.mk [0, 0, 0, 0, 0, 0, 0, 0, 0, 0, 0, 0, 0, 0, 0, 0] 0) 0) 0))
  else
    bif ((IntKind.wrap .i64 (1 + v1.1)) == 2) then
      (F_world_EUI v1.2).bind fun v6 =>
      (F_world_Cost v6.2).bind fun v7 =>
      (F_made_Tape_Bool v7.2 5).bind fun v8 =>
      bif v8.1 then
        (F_made_Tape_Word v8.2).bind fun v10 =>
        (F_world_Notice_j1) (v10.2, (S_Notice.mk (IntKind.wrap .i64 (1 + v1.1)) 0 v7.1 (ior .u64 v10.1 1) (S_Destination.mk (S_Prefix.mk [0, 0, 0, 0, 0, 0, 0, 0, 0, 0, 0, 0, 0, 0, 0, 0] 0) (S_Prefix.mk [0, 0, 0, 0, 0, 0, 0, 0, 0, 0, 0, 0, 0, 0, 0, 0] 0) 0) 0))
      else
        (F_world_Notice_j1) (v8.2, (S_Notice.mk (IntKind.wrap .i64 (1 + v1.1)) 0 v7.1 v6.1 (S_Destination.mk (S_Prefix.mk [0, 0, 0, 0, 0, 0, 0, 0, 0, 0, 0, 0, 0, 0, 0, 0] 0) (S_Prefix.mk [0, 0, 0, 0, 0, 0, 0, 0, 0, 0, 0, 0, 0, 0, 0, 0] 0) 0) 0))
    else
      bif ((IntKind.wrap .i64 (1 + v1.1)) == 3) then
        (F_world_To v1.2).bind fun v12 =>
        (F_world_Seq v12.2).bind fun v13 =>
        (F_world_Cost v13.2).bind fun v14 =>
        (F_made_Tape_Bool v14.2 5).bind fun v15 =>
        bif v15.1 then
          (F_world_Notice_j1) (v15.2, (S_Notice.mk (IntKind.wrap .i64 (1 + v1.1)) v13.1 65535 0 v12.1 0))
        else
          (F_world_Notice_j1) (v15.2, (S_Notice.mk (IntKind.wrap .i64 (1 + v1.1)) v13.1 v14.1 0 v12.1 0))
      else
        bif ((IntKind.wrap .i64 (1 + v1.1)) == 4) then
          (F_world_To v1.2).bind fun v18 =>
          (F_made_Tape_Bool v18.2 3).bind fun v19 =>
          bif v19.1 then
            (F_world_Notice_j1) (v19.2, (S_Notice.mk (IntKind.wrap .i64 (1 + v1.1)) 0 0 0 (S_Destination.mk (S_Prefix.mk [0, 0, 0, 0, 0, 0, 0, 0, 0, 0, 0, 0, 0, 0, 0, 0] 0) (S_Prefix.mk [0, 0, 0, 0, 0, 0, 0, 0, 0, 0, 0, 0, 0, 0, 0, 0] 0) 0) 0))
          else
            (F_world_Notice_j1) (v19.2, (S_Notice.mk (IntKind.wrap .i64 (1 + v1.1)) 0 0 0 (S_Destination.mk v18.1.Dst v18.1.Src 0) 0))
        else
          bif ((IntKind.wrap .i64 (1 + v1.1)) == 5) then
            (F_world_To v1.2).bind fun v22 =>
            (F_world_Seq v22.2).bind fun v23 =>
            (F_made_Tape_Next v23.2 32).bind fun v24 =>
            (F_world_Notice_j1) (v24.2, (S_Notice.mk (IntKind.wrap .i64 (1 + v1.1)) v23.1 0 0 v22.1 (IntKind.wrap .i64 (1 + v24.1))))
          else
            (F_world_Notice_j1) (v1.2, (S_Notice.mk (IntKind.wrap .i64 (1 + v1.1)) 0 0 0 (S_Destination.mk (S_Prefix.mk [0, 0, 0, 0, 0, 0, 0, 0, 0, 0, 0, 0, 0, 0, 0, 0] 0) (S_Prefix.mk [0, 0, 0, 0, 0, 0, 0, 0, 0, 0, 0, 0, 0, 0, 0, 0] 0) 0) 0))
set_option maxRecDepth 100000 in
set_option maxHeartbeats 40000000 in
theorem ok_world_Notice (a0 : S_multihopmade_Tape) (r : S_Notice × S_multihopmade_Tape) (h : F_world_Notice a0 = some r) : Con Try.prog 15 [.c (.box 1000000 0)] [(1000000, .box (S_multihopmade_Tape.cs a0))] (.agg (S_Notice.cs r.1)) [(1000000, .box (S_multihopmade_Tape.cs r.2))] := by
  unfold F_world_Notice at h
  refine con_of [] [(1000000, [2])] 67 Try.func15 rfl rfl (by kernel_rfl) (fun K => ?_)
  refine TS_go 7 ?_
  replace h := bindO h
  obtain ⟨v1, hv1, h⟩ := h
  refine TS_con [] [] (some (1000000, 0)) (ok_made_Tape_Next a0 5 v1 hv1) (by kernel_rfl) (by kernel_rfl) (by kernel_rfl) ?_
  refine TS_go 5 ?_
  refine TS_cut ⟨[(0, []), (2, []), (3, [])], [(1000000, (1000000, [])), (2, (2, [])), (3, (3, []))]⟩ (.mk [.code (codeAt [1, 1] (bodyOf Try.f15))] .normal ⟨[(0, .c (.box 1000000 0)), (2, .c (.box 2 0)), (3, .c (.box 3 0))], [(1000000, .box [.slc 1 0 (List.length v1.2.l) (List.map (ecI .i64) v1.2.l), .lit (.int .i64 (v1.2.at_))]), (2, .box [.lit (.int .i64 (0)), .lit (.int .u16 (0)), .lit (.int .i64 (0)), .lit (.int .u64 (0)), .lit (.int .u8 (0)), .lit (.int .u8 (0)), .lit (.int .u8 (0)), .lit (.int .u8 (0)), .lit (.int .u8 (0)), .lit (.int .u8 (0)), .lit (.int .u8 (0)), .lit (.int .u8 (0)), .lit (.int .u8 (0)), .lit (.int .u8 (0)), .lit (.int .u8 (0)), .lit (.int .u8 (0)), .lit (.int .u8 (0)), .lit (.int .u8 (0)), .lit (.int .u8 (0)), .lit (.int .u8 (0)), .lit (.int .i64 (0)), .lit (.int .u8 (0)), .lit (.int .u8 (0)), .lit (.int .u8 (0)), .lit (.int .u8 (0)), .lit (.int .u8 (0)), .lit (.int .u8 (0)), .lit (.int .u8 (0)), .lit (.int .u8 (0)), .lit (.int .u8 (0)), .lit (.int .u8 (0)), .lit (.int .u8 (0)), .lit (.int .u8 (0)), .lit (.int .u8 (0)), .lit (.int .u8 (0)), .lit (.int .u8 (0)), .lit (.int .u8 (0)), .lit (.int .i64 (0)), .lit (.int .u64 (0)), .lit (.int .i64 (0))]), (3, .box [.lit (.int .i64 (IntKind.wrap .i64 (1 + v1.1))), .lit (.int .u16 (0)), .lit (.int .i64 (0)), .lit (.int .u64 (0)), .lit (.int .u8 (0)), .lit (.int .u8 (0)), .lit (.int .u8 (0)), .lit (.int .u8 (0)), .lit (.int .u8 (0)), .lit (.int .u8 (0)), .lit (.int .u8 (0)), .lit (.int .u8 (0)), .lit (.int .u8 (0)), .lit (.int .u8 (0)), .lit (.int .u8 (0)), .lit (.int .u8 (0)), .lit (.int .u8 (0)), .lit (.int .u8 (0)), .lit (.int .u8 (0)), .lit (.int .u8 (0)), .lit (.int .i64 (0)), .lit (.int .u8 (0)), .lit (.int .u8 (0)), .lit (.int .u8 (0)), .lit (.int .u8 (0)), .lit (.int .u8 (0)), .lit (.int .u8 (0)), .lit (.int .u8 (0)), .lit (.int .u8 (0)), .lit (.int .u8 (0)), .lit (.int .u8 (0)), .lit (.int .u8 (0)), .lit (.int .u8 (0)), .lit (.int .u8 (0)), .lit (.int .u8 (0)), .lit (.int .u8 (0)), .lit (.int .u8 (0)), .lit (.int .i64 (0)), .lit (.int .u64 (0)), .lit (.int .i64 (0))])]⟩) (by kernel_rfl) (by kernel_rfl) ?_
  refine TS_joinB ⟨[(2, []), (3, [])], [(1000000, (1000000, [])), (2, (2, [])), (3, (3, []))]⟩ (fun (v2 : S_multihopmade_Tape × S_Notice) => []) (fun (v2 : S_multihopmade_Tape × S_Notice) => [(1000000, .box (S_multihopmade_Tape.cs v2.1)), (3, .box (S_Notice.cs v2.2))]) (F_world_Notice_j1) r ?_ ?_
  · clear h
    intro v2 h
    unfold F_world_Notice_j1 at h
    refine TS_go 6 ?_
    have ret := Option.some.inj h
    subst ret
    exact TS_ret (by kernel_rfl) (by kernel_rfl) (by kernel_rfl)
  · refine TS_go 11 ?_
    replace h := condO h
    rcases h with ⟨hb3, h⟩ | ⟨hb3, h⟩
    · refine TS_know 11 (b := true) hb3 (by kernel_rfl) (by kernel_rfl) ?_
      refine TS_know 10 (b := true) hb3 (by kernel_rfl) (by kernel_rfl) ?_
      refine TS_T (by kernel_rfl) rfl ?_
      refine TS_go 2 ?_
      replace h := bindO h
      obtain ⟨v4, hv4, h⟩ := h
      refine TS_con [] [] (some (1000000, 0)) (ok_world_Seq v1.2 v4 hv4) (by kernel_rfl) (by kernel_rfl) (by kernel_rfl) ?_
      refine TS_go 4 ?_
      exact TS_meet (v4.2, (S_Notice.mk (IntKind.wrap .i64 (1 + v1.1)) v4.1 0 0 (S_Destination.mk (S_Prefix.mk [0, 0, 0, 0, 0, 0, 0, 0, 0, 0, 0, 0, 0, 0, 0, 0] 0) (S_Prefix.mk [0, 0, 0, 0, 0, 0, 0, 0, 0, 0, 0, 0, 0, 0, 0, 0] 0) 0) 0)) ⟨[(2, []), (3, [])], [(1000000, (1000000, [])), (2, (2, [])), (3, (3, []))]⟩ h (by kernel_rfl) (by kernel_rfl)
    · refine TS_know 11 (b := false) hb3 (by kernel_rfl) (by kernel_rfl) ?_
      refine TS_know 10 (b := false) hb3 (by kernel_rfl) (by kernel_rfl) ?_
      refine TS_F (by kernel_rfl) rfl ?_
      refine TS_go 5 ?_
      replace h := condO h
      rcases h with ⟨hb5, h⟩ | ⟨hb5, h⟩
      · refine TS_know 16 (b := true) hb5 (by kernel_rfl) (by kernel_rfl) ?_
        refine TS_know 15 (b := true) hb5 (by kernel_rfl) (by kernel_rfl) ?_
        refine TS_T (by kernel_rfl) rfl ?_
        refine TS_go 3 ?_
        replace h := bindO h
        obtain ⟨v6, hv6, h⟩ := h
        refine TS_con [] [] (some (1000000, 0)) (ok_world_EUI v1.2 v6 hv6) (by kernel_rfl) (by kernel_rfl) (by kernel_rfl) ?_
        refine TS_go 1 ?_
        replace h := bindO h
        obtain ⟨v7, hv7, h⟩ := h
        refine TS_con [] [] (some (1000000, 0)) (ok_world_Cost v6.2 v7 hv7) (by kernel_rfl) (by kernel_rfl) (by kernel_rfl) ?_
        refine TS_go 8 ?_
        replace h := bindO h
        obtain ⟨v8, hv8, h⟩ := h
        refine TS_con [] [] (some (1000000, 0)) (ok_made_Tape_Bool v7.2 5 v8 hv8) (by kernel_rfl) (by kernel_rfl) (by kernel_rfl) ?_
        refine TS_go 1 ?_
        replace h := condO h
        rcases h with ⟨hb9, h⟩ | ⟨hb9, h⟩
        · refine TS_know 24 (b := true) hb9 (by kernel_rfl) (by kernel_rfl) ?_
          refine TS_T (by kernel_rfl) rfl ?_
          refine TS_go 2 ?_
          replace h := bindO h
          obtain ⟨v10, hv10, h⟩ := h
          refine TS_con [] [] (some (1000000, 0)) (ok_made_Tape_Word v8.2 v10 hv10) (by kernel_rfl) (by kernel_rfl) (by kernel_rfl) ?_
          refine TS_go 5 ?_
          exact TS_meet (v10.2, (S_Notice.mk (IntKind.wrap .i64 (1 + v1.1)) 0 v7.1 (ior .u64 v10.1 1) (S_Destination.mk (S_Prefix.mk [0, 0, 0, 0, 0, 0, 0, 0, 0, 0, 0, 0, 0, 0, 0, 0] 0) (S_Prefix.mk [0, 0, 0, 0, 0, 0, 0, 0, 0, 0, 0, 0, 0, 0, 0, 0] 0) 0) 0)) ⟨[(2, []), (3, [])], [(1000000, (1000000, [])), (2, (2, [])), (3, (3, []))]⟩ h (by kernel_rfl) (by kernel_rfl)
        · refine TS_know 24 (b := false) hb9 (by kernel_rfl) (by kernel_rfl) ?_
          refine TS_F (by kernel_rfl) rfl ?_
          refine TS_go 2 ?_
          exact TS_meet (v8.2, (S_Notice.mk (IntKind.wrap .i64 (1 + v1.1)) 0 v7.1 v6.1 (S_Destination.mk (S_Prefix.mk [0, 0, 0, 0, 0, 0, 0, 0, 0, 0, 0, 0, 0, 0, 0, 0] 0) (S_Prefix.mk [0, 0, 0, 0, 0, 0, 0, 0, 0, 0, 0, 0, 0, 0, 0, 0] 0) 0) 0)) ⟨[(2, []), (3, [])], [(1000000, (1000000, [])), (2, (2, [])), (3, (3, []))]⟩ h (by kernel_rfl) (by kernel_rfl)
      · refine TS_know 16 (b := false) hb5 (by kernel_rfl) (by kernel_rfl) ?_
        refine TS_know 15 (b := false) hb5 (by kernel_rfl) (by kernel_rfl) ?_
        refine TS_F (by kernel_rfl) rfl ?_
        refine TS_go 5 ?_
        replace h := condO h
        rcases h with ⟨hb11, h⟩ | ⟨hb11, h⟩
        · refine TS_know 30 (b := true) hb11 (by kernel_rfl) (by kernel_rfl) ?_
          refine TS_know 29 (b := true) hb11 (by kernel_rfl) (by kernel_rfl) ?_
          refine TS_T (by kernel_rfl) rfl ?_
          refine TS_go 3 ?_
          replace h := bindO h
          obtain ⟨v12, hv12, h⟩ := h
          refine TS_con [] [] (some (1000000, 0)) (ok_world_To v1.2 v12 hv12) (by kernel_rfl) (by kernel_rfl) (by kernel_rfl) ?_
          refine TS_go 1 ?_
          replace h := bindO h
          obtain ⟨v13, hv13, h⟩ := h
          refine TS_con [] [] (some (1000000, 0)) (ok_world_Seq v12.2 v13 hv13) (by kernel_rfl) (by kernel_rfl) (by kernel_rfl) ?_
          refine TS_go 1 ?_
          replace h := bindO h
          obtain ⟨v14, hv14, h⟩ := h
          refine TS_con [] [] (some (1000000, 0)) (ok_world_Cost v13.2 v14 hv14) (by kernel_rfl) (by kernel_rfl) (by kernel_rfl) ?_
          refine TS_go 10 ?_
          replace h := bindO h
          obtain ⟨v15, hv15, h⟩ := h
          refine TS_con [] [] (some (1000000, 0)) (ok_made_Tape_Bool v14.2 5 v15 hv15) (by kernel_rfl) (by kernel_rfl) (by kernel_rfl) ?_
          refine TS_go 1 ?_
          replace h := condO h
          rcases h with ⟨hb16, h⟩ | ⟨hb16, h⟩
          · refine TS_know 41 (b := true) hb16 (by kernel_rfl) (by kernel_rfl) ?_
            refine TS_T (by kernel_rfl) rfl ?_
            refine TS_go 5 ?_
            exact TS_meet (v15.2, (S_Notice.mk (IntKind.wrap .i64 (1 + v1.1)) v13.1 65535 0 v12.1 0)) ⟨[(2, []), (3, [])], [(1000000, (1000000, [])), (2, (2, [])), (3, (3, []))]⟩ h (by kernel_rfl) (by kernel_rfl)
          · refine TS_know 41 (b := false) hb16 (by kernel_rfl) (by kernel_rfl) ?_
            refine TS_F (by kernel_rfl) rfl ?_
            refine TS_go 2 ?_
            exact TS_meet (v15.2, (S_Notice.mk (IntKind.wrap .i64 (1 + v1.1)) v13.1 v14.1 0 v12.1 0)) ⟨[(2, []), (3, [])], [(1000000, (1000000, [])), (2, (2, [])), (3, (3, []))]⟩ h (by kernel_rfl) (by kernel_rfl)
        · refine TS_know 30 (b := false) hb11 (by kernel_rfl) (by kernel_rfl) ?_
          refine TS_know 29 (b := false) hb11 (by kernel_rfl) (by kernel_rfl) ?_
          refine TS_F (by kernel_rfl) rfl ?_
          refine TS_go 5 ?_
          replace h := condO h
          rcases h with ⟨hb17, h⟩ | ⟨hb17, h⟩
          · refine TS_know 44 (b := true) hb17 (by kernel_rfl) (by kernel_rfl) ?_
            refine TS_know 43 (b := true) hb17 (by kernel_rfl) (by kernel_rfl) ?_
            refine TS_T (by kernel_rfl) rfl ?_
            refine TS_go 3 ?_
            replace h := bindO h
            obtain ⟨v18, hv18, h⟩ := h
            refine TS_con [] [] (some (1000000, 0)) (ok_world_To v1.2 v18 hv18) (by kernel_rfl) (by kernel_rfl) (by kernel_rfl) ?_
            refine TS_go 12 ?_
            replace h := bindO h
            obtain ⟨v19, hv19, h⟩ := h
            refine TS_con [] [] (some (1000000, 0)) (ok_made_Tape_Bool v18.2 3 v19 hv19) (by kernel_rfl) (by kernel_rfl) (by kernel_rfl) ?_
            refine TS_go 1 ?_
            replace h := condO h
            rcases h with ⟨hb20, h⟩ | ⟨hb20, h⟩
            · refine TS_know 51 (b := true) hb20 (by kernel_rfl) (by kernel_rfl) ?_
              refine TS_T (by kernel_rfl) rfl ?_
              refine TS_go 6 ?_
              exact TS_meet (v19.2, (S_Notice.mk (IntKind.wrap .i64 (1 + v1.1)) 0 0 0 (S_Destination.mk (S_Prefix.mk [0, 0, 0, 0, 0, 0, 0, 0, 0, 0, 0, 0, 0, 0, 0, 0] 0) (S_Prefix.mk [0, 0, 0, 0, 0, 0, 0, 0, 0, 0, 0, 0, 0, 0, 0, 0] 0) 0) 0)) ⟨[(2, []), (3, [])], [(1000000, (1000000, [])), (2, (2, [])), (3, (3, []))]⟩ h (by kernel_rfl) (by kernel_rfl)
            · refine TS_know 51 (b := false) hb20 (by kernel_rfl) (by kernel_rfl) ?_
              refine TS_F (by kernel_rfl) rfl ?_
              refine TS_go 2 ?_
              exact TS_meet (v19.2, (S_Notice.mk (IntKind.wrap .i64 (1 + v1.1)) 0 0 0 (S_Destination.mk v18.1.Dst v18.1.Src 0) 0)) ⟨[(2, []), (3, [])], [(1000000, (1000000, [])), (2, (2, [])), (3, (3, []))]⟩ h (by kernel_rfl) (by kernel_rfl)
          · refine TS_know 44 (b := false) hb17 (by kernel_rfl) (by kernel_rfl) ?_
            refine TS_know 43 (b := false) hb17 (by kernel_rfl) (by kernel_rfl) ?_
            refine TS_F (by kernel_rfl) rfl ?_
            refine TS_go 5 ?_
            replace h := condO h
            rcases h with ⟨hb21, h⟩ | ⟨hb21, h⟩
            · refine TS_know 55 (b := true) hb21 (by kernel_rfl) (by kernel_rfl) ?_
              refine TS_know 54 (b := true) hb21 (by kernel_rfl) (by kernel_rfl) ?_
              refine TS_T (by kernel_rfl) rfl ?_
              refine TS_go 2 ?_
              replace h := bindO h
              obtain ⟨v22, hv22, h⟩ := h
              refine TS_con [] [] (some (1000000, 0)) (ok_world_To v1.2 v22 hv22) (by kernel_rfl) (by kernel_rfl) (by kernel_rfl) ?_
              refine TS_go 1 ?_
              replace h := bindO h
              obtain ⟨v23, hv23, h⟩ := h
              refine TS_con [] [] (some (1000000, 0)) (ok_world_Seq v22.2 v23 hv23) (by kernel_rfl) (by kernel_rfl) (by kernel_rfl) ?_
              refine TS_go 1 ?_
              replace h := bindO h
              obtain ⟨v24, hv24, h⟩ := h
              refine TS_con [] [] (some (1000000, 0)) (ok_made_Tape_Next v23.2 32 v24 hv24) (by kernel_rfl) (by kernel_rfl) (by kernel_rfl) ?_
              refine TS_go 9 ?_
              exact TS_meet (v24.2, (S_Notice.mk (IntKind.wrap .i64 (1 + v1.1)) v23.1 0 0 v22.1 (IntKind.wrap .i64 (1 + v24.1)))) ⟨[(2, []), (3, [])], [(1000000, (1000000, [])), (2, (2, [])), (3, (3, []))]⟩ h (by kernel_rfl) (by kernel_rfl)
            · refine TS_know 55 (b := false) hb21 (by kernel_rfl) (by kernel_rfl) ?_
              refine TS_know 54 (b := false) hb21 (by kernel_rfl) (by kernel_rfl) ?_
              refine TS_F (by kernel_rfl) rfl ?_
              refine TS_go 2 ?_
              exact TS_meet (v1.2, (S_Notice.mk (IntKind.wrap .i64 (1 + v1.1)) 0 0 0 (S_Destination.mk (S_Prefix.mk [0, 0, 0, 0, 0, 0, 0, 0, 0, 0, 0, 0, 0, 0, 0, 0] 0) (S_Prefix.mk [0, 0, 0, 0, 0, 0, 0, 0, 0, 0, 0, 0, 0, 0, 0, 0] 0) 0) 0)) ⟨[(2, []), (3, [])], [(1000000, (1000000, [])), (2, (2, [])), (3, (3, []))]⟩ h (by kernel_rfl) (by kernel_rfl)

/-- multihop/multihopworld.Notices -/
noncomputable def F_world_Notices_l1  (s2 : (List S_Notice) × Int × S_multihopmade_Tape) : Option (((List S_Notice) × Int × S_multihopmade_Tape) ⊕ ((List S_Notice) × S_multihopmade_Tape)) :=
  bif (decide (s2.2.1 > 0)) then
    (F_world_Notice s2.2.2).bind fun v6 =>
    (appO 96 s2.1 (Cut.app .whole ([v6.1] : List S_Notice))).bind fun l7 =>
    some (Sum.inl (l7, IntKind.wrap .i64 (s2.2.1 - 1), v6.2))
  else
    some (Sum.inr (s2.1, s2.2.2))
noncomputable def F_world_Notices (a0 : S_multihopmade_Tape) (a1 : Int) : Option ((List S_Notice) × S_multihopmade_Tape) :=
  (F_made_Tape_Next a0 (IntKind.wrap .i64 (a1 + 1))).bind fun v1 =>
  (loopO (F_world_Notices_l1) (([] : List S_Notice), v1.1, v1.2)).bind fun b3 =>
  some ((b3.1, b3.2))
set_option maxRecDepth 100000 in
set_option maxHeartbeats 40000000 in
theorem okT_world_Notices (a0 : S_multihopmade_Tape) (a1 : Int) (r : (List S_Notice) × S_multihopmade_Tape) (h : F_world_Notices a0 a1 = some r) : Con Try.prog 12 [.c (.box 1000000 0), .c (.lit (.int .i64 (a1)))] [(1000000, .box (S_multihopmade_Tape.cs a0))] (.c (.slc 40 900002 (List.length r.1) (List.map S_Notice.cs r.1))) [(1000000, .box (S_multihopmade_Tape.cs r.2)), (900000, .spare 39 40 (List.length r.1))] := by
  unfold F_world_Notices at h
  refine con_of [] [(1000000, [2]), (900000, [])] 21 Try.func12 rfl rfl (by kernel_rfl) (fun K => ?_)
  refine TS_go 14 ?_
  replace h := bindO h
  obtain ⟨v1, hv1, h⟩ := h
  refine TS_con [] [] (some (1000000, 0)) (ok_made_Tape_Next a0 (IntKind.wrap .i64 (a1 + 1)) v1 hv1) (by kernel_rfl) (by kernel_rfl) (by kernel_rfl) ?_
  refine TS_go 3 ?_
  refine TS_nilT 5 600000 39 40 (by kernel_rfl) ?_
  refine TS_cut ⟨[(0, []), (5, []), (6, [])], [(1000000, (1000000, [])), (600000, (600000, []))]⟩ (.mk [.code (codeAt [1, 1, 0, 1, 0] (bodyOf Try.f12)), .blk 0, .code (codeAt [1, 1, 1] (bodyOf Try.f12))] .normal ⟨[(0, .c (.box 1000000 0)), (5, .c (.slc 40 600002 (List.length ([] : List S_Notice)) (List.map S_Notice.cs ([] : List S_Notice)))), (6, .c (.lit (.int .i64 (v1.1))))], [(1000000, .box [.slc 1 0 (List.length v1.2.l) (List.map (ecI .i64) v1.2.l), .lit (.int .i64 (v1.2.at_))]), (600000, .spare 39 40 (List.length ([] : List S_Notice)))]⟩) (by kernel_rfl) (by kernel_rfl) ?_
  replace h := bindO h
  obtain ⟨y4, hl1, hK1⟩ := h
  refine TS_loopB (F_world_Notices_l1) ⟨[(0, []), (5, []), (6, [])], [(1000000, (1000000, [])), (600000, (600000, []))]⟩ (fun (s2 : (List S_Notice) × Int × S_multihopmade_Tape) => [(5, .c (.slc 40 600002 (List.length s2.1) (List.map S_Notice.cs s2.1))), (6, .c (.lit (.int .i64 (s2.2.1))))]) (fun (s2 : (List S_Notice) × Int × S_multihopmade_Tape) => [(1000000, .box (S_multihopmade_Tape.cs s2.2.2)), (600000, .spare 39 40 (List.length s2.1))]) (([] : List S_Notice), v1.1, v1.2) y4 (.exit 0) (fun (b : (List S_Notice) × S_multihopmade_Tape) => b) ⟨[(5, [])], [(1000000, (1000000, [])), (600000, (600000, []))]⟩ (fun (b3 : (List S_Notice) × S_multihopmade_Tape) => [(5, .c (.slc 40 600002 (List.length b3.1) (List.map S_Notice.cs b3.1)))]) (fun (b3 : (List S_Notice) × S_multihopmade_Tape) => [(1000000, .box (S_multihopmade_Tape.cs b3.2)), (600000, .spare 39 40 (List.length b3.1))]) hl1 (by kernel_rfl) (by kernel_rfl) ?_ ?_
  · intro s2 x h hy1
    unfold F_world_Notices_l1 at h
    refine TS_go 6 ?_
    replace h := condO h
    rcases h with ⟨hb5, h⟩ | ⟨hb5, h⟩
    · refine TS_know 12 (b := true) hb5 (by kernel_rfl) (by kernel_rfl) ?_
      refine TS_T (by kernel_rfl) rfl ?_
      refine TS_go 6 ?_
      replace h := bindO h
      obtain ⟨v6, hv6, h⟩ := h
      refine TS_con [] [] (some (1000000, 0)) (ok_world_Notice s2.2.2 v6 hv6) (by kernel_rfl) (by kernel_rfl) (by kernel_rfl) ?_
      refine TS_litNT 18 39 40 S_Notice.cs [] ([v6.1] : List S_Notice) (by kernel_rfl) (by kernel_rfl) ?_
      replace h := bindO h
      obtain ⟨_l7, hl7, h⟩ := h
      refine TS_appT (d := 600000) (e := 39) (sz := 40) (N := List.length s2.1) S_Notice.cs (fun _ => by kernel_rfl) (l1 := s2.1) (l2 := ([v6.1] : List S_Notice)) (c := .whole) hl7 (by kernel_rfl) (by kernel_rfl) ?_
      refine TS_go 8 ?_
      have ret := Option.some.inj h
      subst ret
      exact TS_againB _ ⟨[(0, []), (5, []), (6, [])], [(1000000, (1000000, [])), (600000, (600000, []))]⟩ rfl (by kernel_rfl) (by kernel_rfl)
    · refine TS_know 12 (b := false) hb5 (by kernel_rfl) (by kernel_rfl) ?_
      refine TS_F (by kernel_rfl) rfl ?_
      refine TS_go 2 ?_
      have ret := Option.some.inj h
      subst ret
      exact TS_brkB (s2.1, s2.2.2) ⟨[(5, [])], [(1000000, (1000000, [])), (600000, (600000, []))]⟩ rfl (by kernel_rfl) (by kernel_rfl) (by kernel_rfl)
  · intro b3 hb
    subst y4
    have h := hK1
    refine TS_go 6 ?_
    refine TS_fitU ⟨[(4, [])], [(600000, (900000, [])), (1000000, (1000000, []))]⟩ (by kernel_rfl) ?_
    refine TS_go 1 ?_
    have ret := Option.some.inj h
    subst ret
    exact TS_ret (by kernel_rfl) (by kernel_rfl) (by kernel_rfl)
end
section
open Go.RowKit
attribute [local irreducible] TS go TD goD

/-- multihop/multihopmade.Mod -/
noncomputable def F_made_Mod_j1  (v2 : Int) : Option (Int) :=
  some (v2)
noncomputable def F_made_Mod (a0 : Int) (a1 : Int) : Option (Int) :=
  bif decide (a1 ≠ 0) then
    bif (decide ((Int.tmod a0 a1) < 0)) then
      (F_made_Mod_j1) (IntKind.wrap .i64 ((Int.tmod a0 a1) + a1))
    else
      (F_made_Mod_j1) (Int.tmod a0 a1)
  else none
set_option maxRecDepth 100000 in
set_option maxHeartbeats 40000000 in
theorem ok_made_Mod (a0 : Int) (a1 : Int) (r : Int) (h : F_made_Mod a0 a1 = some r) : Con Try.prog 19 [.c (.lit (.int .i64 (a0))), .c (.lit (.int .i64 (a1)))] [] (.c (.lit (.int .i64 (r)))) [] := by
  unfold F_made_Mod at h
  refine con_of [] [] 14 Try.func19 rfl rfl (by kernel_rfl) (fun K => ?_)
  refine TS_go 8 ?_
  replace h := chkO h
  obtain ⟨hc1, h⟩ := h
  refine TS_num (op := .rem) (k := .i64) (k' := .i64) (m := a0) (i := a1) (of_decide_eq_true hc1) rfl (by simp) (by kernel_rfl) (by kernel_rfl) ?_
  refine TS_go 2 ?_
  refine TS_cut ⟨[(0, []), (1, [])], []⟩ (.mk [.code (codeAt [1, 1] (bodyOf Try.f19))] .normal ⟨[(0, .c (.lit (.int .i64 (Int.tmod a0 a1)))), (1, .c (.lit (.int .i64 (a1))))], []⟩) (by kernel_rfl) (by kernel_rfl) ?_
  refine TS_joinB ⟨[(0, [])], []⟩ (fun (v2 : Int) => [(0, .c (.lit (.int .i64 (v2))))]) (fun (v2 : Int) => []) (F_made_Mod_j1) r ?_ ?_
  · clear h
    intro v2 h
    unfold F_made_Mod_j1 at h
    refine TS_go 6 ?_
    have ret := Option.some.inj h
    subst ret
    exact TS_ret (by kernel_rfl) (by kernel_rfl) (by kernel_rfl)
  · refine TS_go 5 ?_
    replace h := condO h
    rcases h with ⟨hb3, h⟩ | ⟨hb3, h⟩
    · refine TS_know 9 (b := true) hb3 (by kernel_rfl) (by kernel_rfl) ?_
      refine TS_T (by kernel_rfl) rfl ?_
      refine TS_go 6 ?_
      exact TS_meet (IntKind.wrap .i64 ((Int.tmod a0 a1) + a1)) ⟨[(0, [])], []⟩ h (by kernel_rfl) (by kernel_rfl)
    · refine TS_know 9 (b := false) hb3 (by kernel_rfl) (by kernel_rfl) ?_
      refine TS_F (by kernel_rfl) rfl ?_
      refine TS_go 1 ?_
      exact TS_meet (Int.tmod a0 a1) ⟨[(0, [])], []⟩ h (by kernel_rfl) (by kernel_rfl)

/-- slices.Equal[[]multihop/api.Noticemultihop/api.Notice] -/
noncomputable def F_slices_Equal_api_Notice_api_Notice_l1 (a0 : List S_Notice) (a1 : List S_Notice) (s2 : Int) : Option ((Int) ⊕ ((Unit) ⊕ (Bool))) :=
  bif (decide (s2 < (List.length a0 : Int))) then
    (idx a0 s2).bind fun e6 =>
    (idx a1 s2).bind fun e7 =>
    bif (S_Notice.eqb e6 e7) then
      some (Sum.inl (IntKind.wrap .i64 (s2 + 1)))
    else
      some (Sum.inr (Sum.inr false))
  else
    some (Sum.inr (Sum.inl ()))
noncomputable def F_slices_Equal_api_Notice_api_Notice (a0 : List S_Notice) (a1 : List S_Notice) : Option (Bool) :=
  bif ((List.length a0 : Int) != (List.length a1 : Int)) then
    some (false)
  else
    (loopO (F_slices_Equal_api_Notice_api_Notice_l1 a0 a1) 0).bind (Sum.elim (fun b3 =>
      some (true)
    ) (fun w9 => some w9))
set_option maxRecDepth 100000 in
set_option maxHeartbeats 40000000 in
theorem ok_slices_Equal_api_Notice_api_Notice (a0 : List S_Notice) (a1 : List S_Notice) (r : Bool) (h : F_slices_Equal_api_Notice_api_Notice a0 a1 = some r) : Con Try.prog 24 [.c (eS 40 S_Notice.cs (a0)), .c (eS 40 S_Notice.cs (a1))] [] (.c (.lit (.bool (r)))) [] := by
  unfold F_slices_Equal_api_Notice_api_Notice at h
  refine con_of [] [] 26 Try.func24 rfl rfl (by kernel_rfl) (fun K => ?_)
  refine TS_go 13 ?_
  replace h := condO h
  rcases h with ⟨hb1, h⟩ | ⟨hb1, h⟩
  · refine TS_know 10 (b := true) hb1 (by kernel_rfl) (by kernel_rfl) ?_
    refine TS_T (by kernel_rfl) rfl ?_
    refine TS_go 6 ?_
    have ret := Option.some.inj h
    subst ret
    exact TS_ret (by kernel_rfl) (by kernel_rfl) (by kernel_rfl)
  · refine TS_know 10 (b := false) hb1 (by kernel_rfl) (by kernel_rfl) ?_
    refine TS_F (by kernel_rfl) rfl ?_
    refine TS_go 9 ?_
    refine TS_cut ⟨[(0, []), (1, []), (12, []), (13, [])], []⟩ (.mk [.code (codeAt [1, 1, 0, 1, 0] (bodyOf Try.f24)), .blk 0, .code (codeAt [1, 1, 1] (bodyOf Try.f24))] .normal ⟨[(0, .c (.slc 40 0 (List.length a0) (List.map S_Notice.cs a0))), (1, .c (.slc 40 0 (List.length a1) (List.map S_Notice.cs a1))), (12, .c (.lit (.int .i64 ((List.length a0 : Int))))), (13, .c (.lit (.int .i64 (0))))], []⟩) (by kernel_rfl) (by kernel_rfl) ?_
    replace h := bindO h
    obtain ⟨y4, hl1, hK1⟩ := h
    refine TS_loopB (F_slices_Equal_api_Notice_api_Notice_l1 a0 a1) ⟨[(0, []), (1, []), (12, []), (13, [])], []⟩ (fun (s2 : Int) => [(13, .c (.lit (.int .i64 (s2))))]) (fun (s2 : Int) => []) 0 y4 (.exit 0) (fun (b : Unit) => (Sum.inl b : (Unit) ⊕ (Bool))) ⟨[], []⟩ (fun (b3 : Unit) => []) (fun (b3 : Unit) => []) hl1 (by kernel_rfl) (by kernel_rfl) ?_ ?_
    · intro s2 x h hy1
      unfold F_slices_Equal_api_Notice_api_Notice_l1 at h
      refine TS_go 5 ?_
      replace h := condO h
      rcases h with ⟨hb5, h⟩ | ⟨hb5, h⟩
      · refine TS_know 14 (b := true) hb5 (by kernel_rfl) (by kernel_rfl) ?_
        refine TS_T (by kernel_rfl) rfl ?_
        refine TS_go 9 ?_
        refine TS_draw (by kernel_rfl) ?_
        refine TD_go 2 ?_
        replace h := bindO h
        obtain ⟨_e6, he6, h⟩ := h
        refine TD_idx S_Notice.cs he6 (by kernel_rfl) (by kernel_rfl) ?_
        refine TD_go 3 ?_
        replace h := bindO h
        obtain ⟨_e7, he7, h⟩ := h
        refine TD_idx S_Notice.cs he7 (by kernel_rfl) (by kernel_rfl) ?_
        refine TD_go 2 ?_
        refine TD_end (by kernel_rfl) ?_
        replace h := condO h
        rcases h with ⟨hb8, h⟩ | ⟨hb8, h⟩
        · refine TS_know 24 (b := false) (notF hb8) (by kernel_rfl) (by kernel_rfl) ?_
          refine TS_F (by kernel_rfl) rfl ?_
          refine TS_go 6 ?_
          have ret := Option.some.inj h
          subst ret
          exact TS_againB _ ⟨[(0, []), (1, []), (12, []), (13, [])], []⟩ rfl (by kernel_rfl) (by kernel_rfl)
        · refine TS_know 24 (b := true) (notT hb8) (by kernel_rfl) (by kernel_rfl) ?_
          refine TS_T (by kernel_rfl) rfl ?_
          refine TS_go 7 ?_
          have ret := Option.some.inj h
          subst ret
          have hy1q := hy1 _ rfl
          subst hy1q
          replace h := (elimR hK1)
          refine TS_retB rfl (by kernel_rfl) ?_
          refine TS_go 2 ?_
          have ret := Option.some.inj h
          subst ret
          exact TS_ret (by kernel_rfl) (by kernel_rfl) (by kernel_rfl)
      · refine TS_know 14 (b := false) hb5 (by kernel_rfl) (by kernel_rfl) ?_
        refine TS_F (by kernel_rfl) rfl ?_
        refine TS_go 2 ?_
        have ret := Option.some.inj h
        subst ret
        exact TS_brkB () ⟨[], []⟩ rfl (by kernel_rfl) (by kernel_rfl) (by kernel_rfl)
    · intro b3 hb
      subst y4
      have h := elimL hK1
      refine TS_go 6 ?_
      have ret := Option.some.inj h
      subst ret
      exact TS_ret (by kernel_rfl) (by kernel_rfl) (by kernel_rfl)

/-- multihop/messages.Pack -/
noncomputable def F_messages_Pack_l2 (s7 : (List S_Notice) × (List (List Int))) (a2 : Int) (s11 : Int × S_messages_state) : Option ((Int × S_messages_state) ⊕ (Int × S_messages_state)) :=
  bif (decide (s11.1 < (if 64 < (List.length s7.1 : Int) then 64 else (List.length s7.1 : Int)))) then
    (idx s7.1 s11.1).bind fun e15 =>
    (F_messages_state_notice_H00 s11.2 e15).bind fun v16 =>
    bif (decide ((IntKind.wrap .i64 (9 + (List.length v16.elements : Int))) > a2)) then
      some (Sum.inr (s11.1, s11.2))
    else
      some (Sum.inl (IntKind.wrap .i64 (s11.1 + 1), v16))
  else
    some (Sum.inr (s11.1, s11.2))
noncomputable def F_messages_Pack_l1 (a2 : Int) (a0 : Int) (s7 : (List S_Notice) × (List (List Int))) : Option (((List S_Notice) × (List (List Int))) ⊕ ((List (List Int)))) :=
  bif (decide ((List.length s7.1 : Int) > 0)) then
    (loopO (F_messages_Pack_l2 s7 a2) (0, (S_messages_state.mk ([] : List Int) 0 [0, 0, 0, 0, 0, 0, 0, 0, 0, 0, 0, 0, 0, 0, 0, 0]))).bind fun b12 =>
    (F_messages_state_packet b12.2 a0).bind fun v19 =>
    (appO 24 s7.2 (Cut.app .whole ([v19] : List (List Int)))).bind fun l20 =>
    (subO s7.1 b12.1 (List.length s7.1 : Int)).bind fun l21 =>
    some (Sum.inl (l21, l20))
  else
    some (Sum.inr s7.2)
noncomputable def F_messages_Pack (a0 : Int) (a1 : List S_Notice) (a2 : Int) : Option ((List (List Int)) × Int) :=
  (F_messages_allValid a1).bind fun v1 =>
  bif v1 then
    (F_messages_isCreation a0).bind fun v3 =>
    bif v3 then
      bif (decide (a2 < 72)) then
        some ((([] : List (List Int)), 2))
      else
        bif (decide (a2 > 1280)) then
          some ((([] : List (List Int)), 2))
        else
          (loopO (F_messages_Pack_l1 a2 a0) (a1, ([] : List (List Int)))).bind fun b8 =>
          some ((b8, 0))
    else
      some ((([] : List (List Int)), 2))
  else
    some ((([] : List (List Int)), 1))
set_option maxRecDepth 100000 in
set_option maxHeartbeats 40000000 in
theorem okT_messages_Pack (a0 : Int) (a1 : List S_Notice) (a2 : Int) (r : (List (List Int)) × Int) (h : F_messages_Pack a0 a1 a2 = some r) : Con Try.prog 25 [.c (.lit (.int .i64 (a0))), .c (eS 40 S_Notice.cs (a1)), .c (.lit (.int .i64 (a2)))] [] (.tup [(false, [.slc 1 900002 (List.length r.1) (List.map (ecS 1 (ecI .u8)) r.1)]), (false, [.lit (.int .i64 (r.2))])]) [(900000, .spare 47 1 (List.length r.1))] := by
  unfold F_messages_Pack at h
  refine con_of [] [(900000, [])] 59 Try.func25 rfl rfl (by kernel_rfl) (fun K => ?_)
  refine TS_go 9 ?_
  replace h := bindO h
  obtain ⟨v1, hv1, h⟩ := h
  refine TS_call [] (ok_messages_allValid a1 v1 hv1) (by kernel_rfl) (by kernel_rfl) ?_
  refine TS_go 2 ?_
  replace h := condO h
  rcases h with ⟨hb2, h⟩ | ⟨hb2, h⟩
  · subst hb2
    refine TS_F (by kernel_rfl) rfl ?_
    refine TS_go 5 ?_
    replace h := bindO h
    obtain ⟨v3, hv3, h⟩ := h
    refine TS_call [] (ok_messages_isCreation a0 v3 hv3) (by kernel_rfl) (by kernel_rfl) ?_
    refine TS_go 2 ?_
    replace h := condO h
    rcases h with ⟨hb4, h⟩ | ⟨hb4, h⟩
    · subst hb4
      refine TS_go 4 ?_
      replace h := condO h
      rcases h with ⟨hb5, h⟩ | ⟨hb5, h⟩
      · refine TS_know 20 (b := true) hb5 (by kernel_rfl) (by kernel_rfl) ?_
        refine TS_know 21 (b := true) hb5 (by kernel_rfl) (by kernel_rfl) ?_
        refine TS_know 22 (b := true) hb5 (by kernel_rfl) (by kernel_rfl) ?_
        refine TS_go 4 ?_
        refine TS_T (by kernel_rfl) rfl ?_
        refine TS_go 5 ?_
        refine TS_nilT 6 600000 47 1 (by kernel_rfl) ?_
        refine TS_fitU ⟨[(6, []), (7, [])], [(600000, (900000, []))]⟩ (by kernel_rfl) ?_
        refine TS_go 2 ?_
        have ret := Option.some.inj h
        subst ret
        exact TS_ret (by kernel_rfl) (by kernel_rfl) (by kernel_rfl)
      · refine TS_know 20 (b := false) hb5 (by kernel_rfl) (by kernel_rfl) ?_
        refine TS_know 21 (b := false) hb5 (by kernel_rfl) (by kernel_rfl) ?_
        refine TS_know 22 (b := false) hb5 (by kernel_rfl) (by kernel_rfl) ?_
        refine TS_go 4 ?_
        replace h := condO h
        rcases h with ⟨hb6, h⟩ | ⟨hb6, h⟩
        · refine TS_know 24 (b := true) hb6 (by kernel_rfl) (by kernel_rfl) ?_
          refine TS_know 25 (b := true) hb6 (by kernel_rfl) (by kernel_rfl) ?_
          refine TS_T (by kernel_rfl) rfl ?_
          refine TS_go 5 ?_
          refine TS_nilT 6 600000 47 1 (by kernel_rfl) ?_
          refine TS_fitU ⟨[(6, []), (7, [])], [(600000, (900000, []))]⟩ (by kernel_rfl) ?_
          refine TS_go 2 ?_
          have ret := Option.some.inj h
          subst ret
          exact TS_ret (by kernel_rfl) (by kernel_rfl) (by kernel_rfl)
        · refine TS_know 24 (b := false) hb6 (by kernel_rfl) (by kernel_rfl) ?_
          refine TS_know 25 (b := false) hb6 (by kernel_rfl) (by kernel_rfl) ?_
          refine TS_F (by kernel_rfl) rfl ?_
          refine TS_go 7 ?_
          refine TS_nilT 8 600000 47 1 (by kernel_rfl) ?_
          refine TS_cut ⟨[(0, []), (1, []), (2, []), (8, [])], [(600000, (600000, []))]⟩ (.mk [.code (codeAt [1, 1, 1, 1, 0, 0] (bodyOf Try.f25)), .blk 0, .code (codeAt [1, 1, 1, 1, 1] (bodyOf Try.f25))] .normal ⟨[(0, .c (.lit (.int .i64 (a0)))), (1, .c (.slc 40 0 (List.length a1) (List.map S_Notice.cs a1))), (2, .c (.lit (.int .i64 (a2)))), (8, .c (.slc 1 600002 (List.length ([] : List (List Int))) (List.map (ecS 1 (ecI .u8)) ([] : List (List Int)))))], [(600000, .spare 47 1 (List.length ([] : List (List Int))))]⟩) (by kernel_rfl) (by kernel_rfl) ?_
          replace h := bindO h
          obtain ⟨y9, hl1, hK1⟩ := h
          refine TS_loopB (F_messages_Pack_l1 a2 a0) ⟨[(0, []), (1, []), (2, []), (8, [])], [(600000, (600000, []))]⟩ (fun (s7 : (List S_Notice) × (List (List Int))) => [(1, .c (eS 40 S_Notice.cs (s7.1))), (8, .c (.slc 1 600002 (List.length s7.2) (List.map (ecS 1 (ecI .u8)) s7.2)))]) (fun (s7 : (List S_Notice) × (List (List Int))) => [(600000, .spare 47 1 (List.length s7.2))]) (a1, ([] : List (List Int))) y9 (.exit 0) (fun (b : (List (List Int))) => b) ⟨[(8, [])], [(600000, (600000, []))]⟩ (fun (b8 : (List (List Int))) => [(8, .c (.slc 1 600002 (List.length b8) (List.map (ecS 1 (ecI .u8)) b8)))]) (fun (b8 : (List (List Int))) => [(600000, .spare 47 1 (List.length b8))]) hl1 (by kernel_rfl) (by kernel_rfl) ?_ ?_
          · intro s7 x h hy1
            unfold F_messages_Pack_l1 at h
            refine TS_go 7 ?_
            replace h := condO h
            rcases h with ⟨hb10, h⟩ | ⟨hb10, h⟩
            · refine TS_know 28 (b := true) hb10 (by kernel_rfl) (by kernel_rfl) ?_
              refine TS_T (by kernel_rfl) rfl ?_
              refine TS_go 12 ?_
              refine TS_nilB 9 0 600001 5 1 (by kernel_rfl) ?_
              refine TS_cut ⟨[(0, []), (1, []), (2, []), (8, []), (9, []), (10, [])], [(600000, (600000, [])), (9, (9, [])), (600001, (600001, []))]⟩ (.mk [.code (codeAt [1, 1, 1, 1, 0, 0, 0, 1, 0, 1, 1, 0, 0] (bodyOf Try.f25)), .blk 2, .code (codeAt [1, 1, 1, 1, 0, 0, 0, 1, 0, 1, 1, 1] (bodyOf Try.f25)), .blk 1] .normal ⟨[(0, .c (.lit (.int .i64 (a0)))), (1, .c (.slc 40 0 (List.length s7.1) (List.map S_Notice.cs s7.1))), (2, .c (.lit (.int .i64 (a2)))), (8, .c (.slc 1 600002 (List.length s7.2) (List.map (ecS 1 (ecI .u8)) s7.2))), (9, .c (.box 9 0)), (10, .c (.lit (.int .i64 (0))))], [(600000, .spare 47 1 (List.length s7.2)), (9, .box [.slc 1 600003 (List.length ([] : List Int)) (List.map (ecI .u8) ([] : List Int)), .lit (.int .u64 (0)), .lit (.int .u8 (0)), .lit (.int .u8 (0)), .lit (.int .u8 (0)), .lit (.int .u8 (0)), .lit (.int .u8 (0)), .lit (.int .u8 (0)), .lit (.int .u8 (0)), .lit (.int .u8 (0)), .lit (.int .u8 (0)), .lit (.int .u8 (0)), .lit (.int .u8 (0)), .lit (.int .u8 (0)), .lit (.int .u8 (0)), .lit (.int .u8 (0)), .lit (.int .u8 (0)), .lit (.int .u8 (0))]), (600001, .spare 5 1 (List.length ([] : List Int)))]⟩) (by kernel_rfl) (by kernel_rfl) ?_
              replace h := bindO h
              obtain ⟨y13, hl2, hK2⟩ := h
              refine TS_loopB (F_messages_Pack_l2 s7 a2) ⟨[(0, []), (1, []), (2, []), (8, []), (9, []), (10, [])], [(600000, (600000, [])), (9, (9, [])), (600001, (600001, []))]⟩ (fun (s11 : Int × S_messages_state) => [(10, .c (.lit (.int .i64 (s11.1))))]) (fun (s11 : Int × S_messages_state) => [(9, .box [.slc 1 600003 (List.length s11.2.elements) (List.map (ecI .u8) s11.2.elements), .lit (.int .u64 (s11.2.router)), .lit (.int .u8 ((s11.2.dst.getD 0 0))), .lit (.int .u8 ((s11.2.dst.getD 1 0))), .lit (.int .u8 ((s11.2.dst.getD 2 0))), .lit (.int .u8 ((s11.2.dst.getD 3 0))), .lit (.int .u8 ((s11.2.dst.getD 4 0))), .lit (.int .u8 ((s11.2.dst.getD 5 0))), .lit (.int .u8 ((s11.2.dst.getD 6 0))), .lit (.int .u8 ((s11.2.dst.getD 7 0))), .lit (.int .u8 ((s11.2.dst.getD 8 0))), .lit (.int .u8 ((s11.2.dst.getD 9 0))), .lit (.int .u8 ((s11.2.dst.getD 10 0))), .lit (.int .u8 ((s11.2.dst.getD 11 0))), .lit (.int .u8 ((s11.2.dst.getD 12 0))), .lit (.int .u8 ((s11.2.dst.getD 13 0))), .lit (.int .u8 ((s11.2.dst.getD 14 0))), .lit (.int .u8 ((s11.2.dst.getD 15 0)))]), (600001, .spare 5 1 (List.length s11.2.elements))]) (0, (S_messages_state.mk ([] : List Int) 0 [0, 0, 0, 0, 0, 0, 0, 0, 0, 0, 0, 0, 0, 0, 0, 0])) y13 (.exit 2) (fun (b : Int × S_messages_state) => b) ⟨[(0, []), (1, []), (2, []), (8, []), (9, []), (10, [])], [(600000, (600000, [])), (9, (9, [2]))]⟩ (fun (b12 : Int × S_messages_state) => [(10, .c (.lit (.int .i64 (b12.1))))]) (fun (b12 : Int × S_messages_state) => [(9, .box (S_messages_state.cs b12.2))]) hl2 (by kernel_rfl) (by kernel_rfl) ?_ ?_
              · intro s11 x h hy2
                unfold F_messages_Pack_l2 at h
                refine TS_go 9 ?_
                replace h := condO h
                rcases h with ⟨hb14, h⟩ | ⟨hb14, h⟩
                · refine TS_know 33 (b := true) hb14 (by kernel_rfl) (by kernel_rfl) ?_
                  refine TS_T (by kernel_rfl) rfl ?_
                  refine TS_go 3 ?_
                  refine TS_draw (by kernel_rfl) ?_
                  refine TD_go 3 ?_
                  replace h := bindO h
                  obtain ⟨e15, he15, h⟩ := h
                  refine TD_idx S_Notice.cs he15 (by kernel_rfl) (by kernel_rfl) ?_
                  refine TD_go 1 ?_
                  replace h := bindO h
                  obtain ⟨v16, hv16, h⟩ := h
                  refine TD_conG 600001 [] (ok_messages_state_notice_H00 s11.2 e15 v16 hv16) (by kernel_rfl) (by kernel_rfl) (by kernel_rfl) ?_
                  refine TD_go 2 ?_
                  refine TD_end (by kernel_rfl) ?_
                  refine TS_go 10 ?_
                  replace h := condO h
                  rcases h with ⟨hb17, h⟩ | ⟨hb17, h⟩
                  · refine TS_know 45 (b := true) hb17 (by kernel_rfl) (by kernel_rfl) ?_
                    refine TS_T (by kernel_rfl) rfl ?_
                    refine TS_go 3 ?_
                    have ret := Option.some.inj h
                    subst ret
                    exact TS_brkB (s11.1, s11.2) ⟨[(0, []), (1, []), (2, []), (8, []), (9, []), (10, [])], [(600000, (600000, [])), (9, (9, [2]))]⟩ rfl (by kernel_rfl) (by kernel_rfl) (by kernel_rfl)
                  · refine TS_know 45 (b := false) hb17 (by kernel_rfl) (by kernel_rfl) ?_
                    refine TS_F (by kernel_rfl) rfl ?_
                    refine TS_go 12 ?_
                    have ret := Option.some.inj h
                    subst ret
                    exact TS_againB _ ⟨[(0, []), (1, []), (2, []), (8, []), (9, []), (10, [])], [(600000, (600000, [])), (9, (9, [])), (600001, (600001, []))]⟩ rfl (by kernel_rfl) (by kernel_rfl)
                · refine TS_know 33 (b := false) hb14 (by kernel_rfl) (by kernel_rfl) ?_
                  refine TS_F (by kernel_rfl) rfl ?_
                  refine TS_go 2 ?_
                  have ret := Option.some.inj h
                  subst ret
                  exact TS_brkB (s11.1, s11.2) ⟨[(0, []), (1, []), (2, []), (8, []), (9, []), (10, [])], [(600000, (600000, [])), (9, (9, [2]))]⟩ rfl (by kernel_rfl) (by kernel_rfl) (by kernel_rfl)
              · intro b12 hb
                subst y13
                have h := hK2
                refine TS_go 6 ?_
                replace h := bindO h
                obtain ⟨v19, hv19, h⟩ := h
                refine TS_con [] [(52, 900000)] none (okT_messages_state_packet b12.2 a0 v19 hv19) (by kernel_rfl) (by kernel_rfl) (by kernel_rfl) ?_
                refine TS_litNT 53 47 1 (ecS 1 (ecI .u8)) [2] ([v19] : List (List Int)) (by kernel_rfl) (by kernel_rfl) ?_
                replace h := bindO h
                obtain ⟨_l20, hl20, h⟩ := h
                refine TS_appT (d := 600000) (e := 47) (sz := 1) (N := List.length s7.2) (ecS 1 (ecI .u8)) (fun _ => by kernel_rfl) (l1 := s7.2) (l2 := ([v19] : List (List Int))) (c := .whole) hl20 (by kernel_rfl) (by kernel_rfl) ?_
                refine TS_go 5 ?_
                replace h := bindO h
                obtain ⟨_l21, hl21, h⟩ := h
                refine TS_sub S_Notice.cs 40 hl21 (by kernel_rfl) (by kernel_rfl) ?_
                refine TS_go 3 ?_
                have ret := Option.some.inj h
                subst ret
                exact TS_againB _ ⟨[(0, []), (1, []), (2, []), (8, [])], [(600000, (600000, []))]⟩ rfl (by kernel_rfl) (by kernel_rfl)
            · refine TS_know 28 (b := false) hb10 (by kernel_rfl) (by kernel_rfl) ?_
              refine TS_F (by kernel_rfl) rfl ?_
              refine TS_go 2 ?_
              have ret := Option.some.inj h
              subst ret
              exact TS_brkB s7.2 ⟨[(8, [])], [(600000, (600000, []))]⟩ rfl (by kernel_rfl) (by kernel_rfl) (by kernel_rfl)
          · intro b8 hb
            subst y9
            have h := hK1
            refine TS_go 7 ?_
            refine TS_fitU ⟨[(6, []), (7, [])], [(600000, (900000, []))]⟩ (by kernel_rfl) ?_
            refine TS_go 1 ?_
            have ret := Option.some.inj h
            subst ret
            exact TS_ret (by kernel_rfl) (by kernel_rfl) (by kernel_rfl)
    · subst hb4
      refine TS_go 8 ?_
      refine TS_T (by kernel_rfl) rfl ?_
      refine TS_go 5 ?_
      refine TS_nilT 6 600000 47 1 (by kernel_rfl) ?_
      refine TS_fitU ⟨[(6, []), (7, [])], [(600000, (900000, []))]⟩ (by kernel_rfl) ?_
      refine TS_go 2 ?_
      have ret := Option.some.inj h
      subst ret
      exact TS_ret (by kernel_rfl) (by kernel_rfl) (by kernel_rfl)
  · subst hb2
    refine TS_T (by kernel_rfl) rfl ?_
    refine TS_go 5 ?_
    refine TS_nilT 6 600000 47 1 (by kernel_rfl) ?_
    refine TS_fitU ⟨[(6, []), (7, [])], [(600000, (900000, []))]⟩ (by kernel_rfl) ?_
    refine TS_go 2 ?_
    have ret := Option.some.inj h
    subst ret
    exact TS_ret (by kernel_rfl) (by kernel_rfl) (by kernel_rfl)
end
section
open Go.RowKit
attribute [local irreducible] TS go TD goD

/-- multihop/multihoplaw29.MessagesWhole -/
noncomputable def F_law29_MessagesWhole_l1 (v5 : (List (List Int)) × Int) (v3 : Int) (v4 : Int) (s7 : (List S_Notice) × Int) : Option (((List S_Notice) × Int) ⊕ (((List S_Notice)) ⊕ (Bool))) :=
  bif (decide (s7.2 < (List.length v5.1 : Int))) then
    (idx v5.1 s7.2).bind fun e11 =>
    (F_messages_Decode e11).bind fun v12 =>
    bif (v12.2.2 != 0) then
      some (Sum.inr (Sum.inr false))
    else
      bif (v12.1 != v3) then
        some (Sum.inr (Sum.inr false))
      else
        bif (decide ((List.length e11 : Int) > (IntKind.wrap .i64 (72 + v4)))) then
          some (Sum.inr (Sum.inr false))
        else
          bif ((List.length v12.2.1 : Int) == 0) then
            some (Sum.inr (Sum.inr false))
          else
            (appO 96 s7.1 (Cut.app .whole v12.2.1)).bind fun l17 =>
            some (Sum.inl (l17, IntKind.wrap .i64 (s7.2 + 1)))
  else
    some (Sum.inr (Sum.inl s7.1))
noncomputable def F_law29_MessagesWhole (a0 : List Int) (a1 : Int) (a2 : Int) : Option (Bool) :=
  (F_made_New a0).bind fun v1 =>
  (F_world_Notices v1 20).bind fun v2 =>
  (F_made_Mod a1 1099511627776).bind fun v3 =>
  (F_made_Mod a2 200).bind fun v4 =>
  (F_messages_Pack v3 v2.1 (IntKind.wrap .i64 (72 + v4))).bind fun v5 =>
  bif (v5.2 != 0) then
    some (false)
  else
    (loopO (F_law29_MessagesWhole_l1 v5 v3 v4) (([] : List S_Notice), 0)).bind (Sum.elim (fun b8 =>
      (F_slices_Equal_api_Notice_api_Notice b8 v2.1).bind fun v19 =>
      bif v19 then
        (F_law29_known ).bind fun v21 =>
        some (v21)
      else
        some (false)
    ) (fun w18 => some w18))
set_option maxRecDepth 100000 in
set_option maxHeartbeats 40000000 in
theorem ok_law29_MessagesWhole (a0 : List Int) (a1 : Int) (a2 : Int) (r : Bool) (h : F_law29_MessagesWhole a0 a1 a2 = some r) : Con Try.prog 7 [.c (eS 1 (ecI .i64) (a0)), .c (.lit (.int .i64 (a1))), .c (.lit (.int .i64 (a2)))] [] (.c (.lit (.bool (r)))) [] := by
  unfold F_law29_MessagesWhole at h
  refine con_of [] [] 75 Try.func7 rfl rfl (by kernel_rfl) (fun K => ?_)
  refine TS_go 7 ?_
  replace h := bindO h
  obtain ⟨v1, hv1, h⟩ := h
  refine TS_con [] [(18, 10)] none (ok_made_New a0 v1 hv1) (by kernel_rfl) (by kernel_rfl) (by kernel_rfl) ?_
  refine TS_go 5 ?_
  replace h := bindO h
  obtain ⟨v2, hv2, h⟩ := h
  refine TS_con [] [(20, 900000)] (some (18, 0)) (okT_world_Notices v1 20 v2 hv2) (by kernel_rfl) (by kernel_rfl) (by kernel_rfl) ?_
  refine TS_go 5 ?_
  replace h := bindO h
  obtain ⟨v3, hv3, h⟩ := h
  refine TS_call [] (ok_made_Mod a1 1099511627776 v3 hv3) (by kernel_rfl) (by kernel_rfl) ?_
  refine TS_go 1 ?_
  replace h := bindO h
  obtain ⟨v4, hv4, h⟩ := h
  refine TS_call [] (ok_made_Mod a2 200 v4 hv4) (by kernel_rfl) (by kernel_rfl) ?_
  refine TS_go 9 ?_
  replace h := bindO h
  obtain ⟨v5, hv5, h⟩ := h
  refine TS_con [[], [41]] [(30, 900000)] none (okT_messages_Pack v3 v2.1 (IntKind.wrap .i64 (72 + v4)) v5 hv5) (by kernel_rfl) (by kernel_rfl) (by kernel_rfl) ?_
  refine TS_go 12 ?_
  replace h := condO h
  rcases h with ⟨hb6, h⟩ | ⟨hb6, h⟩
  · refine TS_know 34 (b := true) hb6 (by kernel_rfl) (by kernel_rfl) ?_
    refine TS_T (by kernel_rfl) rfl ?_
    refine TS_go 6 ?_
    have ret := Option.some.inj h
    subst ret
    exact TS_ret (by kernel_rfl) (by kernel_rfl) (by kernel_rfl)
  · refine TS_know 34 (b := false) hb6 (by kernel_rfl) (by kernel_rfl) ?_
    refine TS_F (by kernel_rfl) rfl ?_
    refine TS_go 13 ?_
    refine TS_nilT 11 600000 39 40 (by kernel_rfl) ?_
    refine TS_cut ⟨[(1, []), (2, []), (8, []), (11, []), (35, []), (36, []), (37, [])], [(20, (20, [])), (30, (30, [])), (600000, (600000, []))]⟩ (.mk [.code (codeAt [1, 1, 1, 1, 1, 1, 1, 0, 1, 0] (bodyOf Try.f7)), .blk 0, .code (codeAt [1, 1, 1, 1, 1, 1, 1, 1] (bodyOf Try.f7))] .normal ⟨[(1, .c (.lit (.int .i64 (v3)))), (2, .c (.lit (.int .i64 (IntKind.wrap .i64 (72 + v4))))), (8, .c (.slc 40 22 (List.length v2.1) (List.map S_Notice.cs v2.1))), (11, .c (.slc 40 600002 (List.length ([] : List S_Notice)) (List.map S_Notice.cs ([] : List S_Notice)))), (35, .c (.slc 1 32 (List.length v5.1) (List.map (ecS 1 (ecI .u8)) v5.1))), (36, .c (.lit (.int .i64 ((List.length v5.1 : Int))))), (37, .c (.lit (.int .i64 (0))))], [(20, .spare 39 40 (List.length v2.1)), (30, .spare 47 1 (List.length v5.1)), (600000, .spare 39 40 (List.length ([] : List S_Notice)))]⟩) (by kernel_rfl) (by kernel_rfl) ?_
    replace h := bindO h
    obtain ⟨y9, hl1, hK1⟩ := h
    refine TS_loopB (F_law29_MessagesWhole_l1 v5 v3 v4) ⟨[(1, []), (2, []), (8, []), (11, []), (35, []), (36, []), (37, [])], [(20, (20, [])), (600000, (600000, [])), (30, (30, []))]⟩ (fun (s7 : (List S_Notice) × Int) => [(11, .c (.slc 40 600002 (List.length s7.1) (List.map S_Notice.cs s7.1))), (37, .c (.lit (.int .i64 (s7.2))))]) (fun (s7 : (List S_Notice) × Int) => [(600000, .spare 39 40 (List.length s7.1))]) (([] : List S_Notice), 0) y9 (.exit 0) (fun (b : (List S_Notice)) => (Sum.inl b : ((List S_Notice)) ⊕ (Bool))) ⟨[(8, []), (11, [])], [(20, (20, [])), (600000, (600000, []))]⟩ (fun (b8 : (List S_Notice)) => [(11, .c (.slc 40 600002 (List.length b8) (List.map S_Notice.cs b8)))]) (fun (b8 : (List S_Notice)) => [(600000, .spare 39 40 (List.length b8))]) hl1 (by kernel_rfl) (by kernel_rfl) ?_ ?_
    · intro s7 x h hy1
      unfold F_law29_MessagesWhole_l1 at h
      refine TS_go 5 ?_
      replace h := condO h
      rcases h with ⟨hb10, h⟩ | ⟨hb10, h⟩
      · refine TS_know 38 (b := true) hb10 (by kernel_rfl) (by kernel_rfl) ?_
        refine TS_T (by kernel_rfl) rfl ?_
        refine TS_go 5 ?_
        replace h := bindO h
        obtain ⟨e11, he11, h⟩ := h
        refine TS_idx (ecS 1 (ecI .u8)) he11 (by kernel_rfl) (by kernel_rfl) ?_
        refine TS_go 6 ?_
        replace h := bindO h
        obtain ⟨v12, hv12, h⟩ := h
        refine TS_con [] [(43, 900064)] none (okT_messages_Decode e11 v12 hv12) (by kernel_rfl) (by kernel_rfl) (by kernel_rfl) ?_
        refine TS_go 14 ?_
        replace h := condO h
        rcases h with ⟨hb13, h⟩ | ⟨hb13, h⟩
        · refine TS_know 48 (b := true) hb13 (by kernel_rfl) (by kernel_rfl) ?_
          refine TS_know 49 (b := true) hb13 (by kernel_rfl) (by kernel_rfl) ?_
          refine TS_go 16 ?_
          refine TS_T (by kernel_rfl) rfl ?_
          refine TS_go 8 ?_
          have ret := Option.some.inj h
          subst ret
          have hy1q := hy1 _ rfl
          subst hy1q
          replace h := (elimR hK1)
          refine TS_retB rfl (by kernel_rfl) ?_
          refine TS_go 2 ?_
          have ret := Option.some.inj h
          subst ret
          exact TS_ret (by kernel_rfl) (by kernel_rfl) (by kernel_rfl)
        · refine TS_know 48 (b := false) hb13 (by kernel_rfl) (by kernel_rfl) ?_
          refine TS_know 49 (b := false) hb13 (by kernel_rfl) (by kernel_rfl) ?_
          refine TS_go 5 ?_
          replace h := condO h
          rcases h with ⟨hb14, h⟩ | ⟨hb14, h⟩
          · refine TS_know 52 (b := true) hb14 (by kernel_rfl) (by kernel_rfl) ?_
            refine TS_know 53 (b := true) hb14 (by kernel_rfl) (by kernel_rfl) ?_
            refine TS_know 54 (b := true) hb14 (by kernel_rfl) (by kernel_rfl) ?_
            refine TS_go 11 ?_
            refine TS_T (by kernel_rfl) rfl ?_
            refine TS_go 8 ?_
            have ret := Option.some.inj h
            subst ret
            have hy1q := hy1 _ rfl
            subst hy1q
            replace h := (elimR hK1)
            refine TS_retB rfl (by kernel_rfl) ?_
            refine TS_go 2 ?_
            have ret := Option.some.inj h
            subst ret
            exact TS_ret (by kernel_rfl) (by kernel_rfl) (by kernel_rfl)
          · refine TS_know 52 (b := false) hb14 (by kernel_rfl) (by kernel_rfl) ?_
            refine TS_know 53 (b := false) hb14 (by kernel_rfl) (by kernel_rfl) ?_
            refine TS_know 54 (b := false) hb14 (by kernel_rfl) (by kernel_rfl) ?_
            refine TS_go 6 ?_
            replace h := condO h
            rcases h with ⟨hb15, h⟩ | ⟨hb15, h⟩
            · refine TS_know 58 (b := true) hb15 (by kernel_rfl) (by kernel_rfl) ?_
              refine TS_know 59 (b := true) hb15 (by kernel_rfl) (by kernel_rfl) ?_
              refine TS_know 60 (b := true) hb15 (by kernel_rfl) (by kernel_rfl) ?_
              refine TS_go 5 ?_
              refine TS_T (by kernel_rfl) rfl ?_
              refine TS_go 8 ?_
              have ret := Option.some.inj h
              subst ret
              have hy1q := hy1 _ rfl
              subst hy1q
              replace h := (elimR hK1)
              refine TS_retB rfl (by kernel_rfl) ?_
              refine TS_go 2 ?_
              have ret := Option.some.inj h
              subst ret
              exact TS_ret (by kernel_rfl) (by kernel_rfl) (by kernel_rfl)
            · refine TS_know 58 (b := false) hb15 (by kernel_rfl) (by kernel_rfl) ?_
              refine TS_know 59 (b := false) hb15 (by kernel_rfl) (by kernel_rfl) ?_
              refine TS_know 60 (b := false) hb15 (by kernel_rfl) (by kernel_rfl) ?_
              refine TS_go 5 ?_
              replace h := condO h
              rcases h with ⟨hb16, h⟩ | ⟨hb16, h⟩
              · refine TS_know 63 (b := true) hb16 (by kernel_rfl) (by kernel_rfl) ?_
                refine TS_know 64 (b := true) hb16 (by kernel_rfl) (by kernel_rfl) ?_
                refine TS_T (by kernel_rfl) rfl ?_
                refine TS_go 8 ?_
                have ret := Option.some.inj h
                subst ret
                have hy1q := hy1 _ rfl
                subst hy1q
                replace h := (elimR hK1)
                refine TS_retB rfl (by kernel_rfl) ?_
                refine TS_go 2 ?_
                have ret := Option.some.inj h
                subst ret
                exact TS_ret (by kernel_rfl) (by kernel_rfl) (by kernel_rfl)
              · refine TS_know 63 (b := false) hb16 (by kernel_rfl) (by kernel_rfl) ?_
                refine TS_know 64 (b := false) hb16 (by kernel_rfl) (by kernel_rfl) ?_
                refine TS_F (by kernel_rfl) rfl ?_
                refine TS_go 4 ?_
                replace h := bindO h
                obtain ⟨_l17, hl17, h⟩ := h
                refine TS_appT (d := 600000) (e := 39) (sz := 40) (N := List.length s7.1) S_Notice.cs (fun _ => by kernel_rfl) (l1 := s7.1) (l2 := v12.2.1) (c := .whole) hl17 (by kernel_rfl) (by kernel_rfl) ?_
                refine TS_go 7 ?_
                have ret := Option.some.inj h
                subst ret
                exact TS_againB _ ⟨[(1, []), (2, []), (8, []), (11, []), (35, []), (36, []), (37, [])], [(20, (20, [])), (600000, (600000, [])), (30, (30, []))]⟩ rfl (by kernel_rfl) (by kernel_rfl)
      · refine TS_know 38 (b := false) hb10 (by kernel_rfl) (by kernel_rfl) ?_
        refine TS_F (by kernel_rfl) rfl ?_
        refine TS_go 2 ?_
        have ret := Option.some.inj h
        subst ret
        exact TS_brkB s7.1 ⟨[(8, []), (11, [])], [(20, (20, [])), (600000, (600000, []))]⟩ rfl (by kernel_rfl) (by kernel_rfl) (by kernel_rfl)
    · intro b8 hb
      subst y9
      have h := elimL hK1
      refine TS_go 5 ?_
      replace h := bindO h
      obtain ⟨v19, hv19, h⟩ := h
      refine TS_call [[41], [41]] (ok_slices_Equal_api_Notice_api_Notice b8 v2.1 v19 hv19) (by kernel_rfl) (by kernel_rfl) ?_
      refine TS_go 1 ?_
      replace h := condO h
      rcases h with ⟨hb20, h⟩ | ⟨hb20, h⟩
      · subst hb20
        replace h := bindO h
        obtain ⟨v21, hv21, h⟩ := h
        refine TS_call [] (ok_law29_known  v21 hv21) (by kernel_rfl) (by kernel_rfl) ?_
        refine TS_go 4 ?_
        have ret := Option.some.inj h
        subst ret
        exact TS_ret (by kernel_rfl) (by kernel_rfl) (by kernel_rfl)
      · subst hb20
        refine TS_go 5 ?_
        have ret := Option.some.inj h
        subst ret
        exact TS_ret (by kernel_rfl) (by kernel_rfl) (by kernel_rfl)
end
section
open Go.ChangeShapes Go.WideShapes Go.ChangeAt Go.RowKit

theorem own : ownKnob Try.prog.godebug = none := by kernel_rfl
theorem laidOut : laidOutB Try.prog = true := by kernel_rfl

/-- the arguments read as before -/
theorem trodAll_below {H : Type} {enc : TypeId × Value → H} {P : Program} (hl : laidOutB P = true) {W W' : World} (hb : Below W.heap.size W W') :
    ∀ {ts : List TypeId} {vs : List Value} {ds : List (DataW H)} {ps : List MemPlace}, ts.all (fun t => P.readableRec t && decide (t < P.types.size)) = true →
      DataW.TrodAll enc P W 0 (fun _ => true) true ts vs ds ps → DataW.TrodAll enc P W' 0 (fun b => decide (b < W.heap.size)) true ts vs ds ps
  | [], _, _, _, _, h => by
    obtain ⟨rfl, rfl, rfl⟩ := trodAll_nil h
    exact trodAll_mk0
  | t :: ts, vs, ds, ps, hr, h => by
    obtain ⟨v, vs', d, ds', p, q, rfl, rfl, rfl, h1, h2⟩ := trodAll_cons h
    simp only [List.all_cons, Bool.and_eq_true, decide_eq_true_eq] at hr
    have lt : ∀ x ∈ p, x.block < W.heap.size := by obtain ⟨m, hm⟩ := h1; exact DataW.trod_lt m _ _ _ hm
    exact trodAll_cons_mk (Below.trod hl hr.1.1 hr.1.2 h1 hb lt) (trodAll_below hl hb hr.2 h2)

/-- the reader that sees all -/
def rdAll (w : World) : Rd := fun b o => w.cell? ⟨b, o, none⟩
def env0 : Env := ⟨fun _ => (0, 0), fun _ => (.slice none 0 0, .slice none 0 0)⟩
theorem vrel_lit (rd : Rd) (g : Env) (v : Value) : VRel rd g v (.c (.lit v)) := IRel.lit v
def ArgsOk (rd : Rd) (g : Env) : List Value → List SV → Prop
  | [], [] => True
  | u :: us, x :: xs => VRel rd g u x ∧ ArgsOk rd g us xs
  | _, _ => False
theorem ArgsOk.get {rd : Rd} {g : Env} : ∀ {us : List Value} {xs : List SV}, ArgsOk rd g us xs → us.length = xs.length ∧ ∀ (i : Nat) (x : SV), xs[i]? = some x → ∃ u, us[i]? = some u ∧ VRel rd g u x
  | [], [], _ => ⟨rfl, fun i x h => by simp at h⟩
  | u :: us, y :: xs, h => by
    obtain ⟨h1, h2⟩ := h
    obtain ⟨k1, k2⟩ := h2.get
    refine ⟨by simp [k1], fun i x hx => ?_⟩
    rcases i with _ | i
    · cases hx; exact ⟨u, rfl, h1⟩
    · exact k2 i x (by simpa using hx)
/-- a law that is true -/
theorem con_true {P : Program} {f : FuncId} {args : List SV} (h : Con P f args [] (.c (.lit (.bool true))) []) {W : World} {us : List Value} (ha : ArgsOk (rdAll W) env0 us args) :
    Calls P f us.toArray W fun e w' => e = .returned (.bool true) ∧ Ext W w' := by
  obtain ⟨h1, h2⟩ := ha.get
  have nol : ∀ d (x : Res), look ([] : Hp) d = some x → False := fun d x hx => by simp [look] at hx
  have noin : ∀ g b o, ¬ InFoot g ([] : Hp) b o := by rintro g b o ⟨d, r, hd, _⟩; exact nol _ _ hd
  refine (h (rdAll W) env0 W us.toArray (fun b o v hv => hv) (by simpa using h1) (fun i x hx => by simpa using h2 i x hx) (fun d x hx => (nol d x hx).elim) (fun d d' r r' b o _ hd => (nol _ _ hd).elim) (fun b o hx => (noin _ _ _ hx).elim)).mono ?_
  rintro e w' ⟨u, g', rfl, hk, _, _, _, _, hu⟩
  have hE : Ext W w' := (hk.weak (fun b o x => noin _ _ _ x)).ext
  refine ⟨?_, hE⟩
  have := (hu (rdAll w') (by
    intro b o v hv
    obtain ⟨g, rfl⟩ := hE
    have hb := World.block_lt_of_cell? _ _ hv
    unfold rdAll
    rw [cell_plus _ _ _ _ _ hb]
    exact hv) (fun b o u _ _ hc => hc)).1
  cases this
  rfl
def wfI (k : IntKind) (n : Int) : Prop := (Lit.int k n).wf = true
def wfA (k : IntKind) (n : Nat) (l : List Int) : Prop := l.length = n ∧ ∀ z ∈ l, wfI k z
def Seg (rd : Rd) (cs : List Value) (off n : Nat) (l : List SC) : Prop := l.length = n ∧ ∀ (j : Nat) (y : SC), l[j]? = some y → ∃ u, cs[off + j]? = some u ∧ IRel rd u y
theorem Seg.append {rd : Rd} {cs : List Value} {off n m : Nat} {l l' : List SC} (h : Seg rd cs off n l) (k : Seg rd cs (off + n) m l') : Seg rd cs off (n + m) (l ++ l') := by
  refine ⟨by rw [List.length_append, h.1, k.1], fun j y hy => ?_⟩
  by_cases hj : j < l.length
  · rw [List.getElem?_append_left hj] at hy
    exact h.2 j y hy
  · rw [List.getElem?_append_right (by omega)] at hy
    obtain ⟨u, h1, h2⟩ := k.2 _ y hy
    have h3 := h.1
    refine ⟨u, ?_, h2⟩
    rw [← h1]
    congr 1
    omega

/-- a value of the type t is the shadow of an α -/
def Opens (P : Program) (t : TypeId) {α : Type} (f : α → List SC) (wf : α → Prop) : Prop :=
  ∀ (H : Type) (enc : TypeId × Value → H) (W : World) (fuel : Nat) (cs : List Value) (x : DataW H × List MemPlace), DataW.trod enc P W 0 (fun _ => true) true fuel t cs = some x → ∃ a : α, Seg (rdAll W) cs 0 cs.length (f a) ∧ wf a

theorem opens_int {P : Program} {t : TypeId} {k : IntKind} (ht : P.underlying t = some (.int k)) : Opens P t (ecI k) (wfI k) := by
  intro H enc W fuel cs x h
  obtain ⟨n, rfl, _, hw⟩ := DataW.trod_int ht h
  refine ⟨n, ⟨rfl, fun j y hy => ?_⟩, hw⟩
  rcases j with _ | j
  · simp only [ecI, List.getElem?_cons_zero, Option.some.injEq] at hy
    subst hy
    exact ⟨_, rfl, .lit _⟩
  · simp [ecI] at hy
end
section
open Go.ChangeShapes Go.WideShapes Go.ChangeAt Go.RowKit

def Wt (P : Program) (t : TypeId) {H : Type} (d : DataW H) : Prop := ∀ n ∈ d.weights P t, n ≤ reachBytes
def OpensR (P : Program) (t : TypeId) {α : Type} (f : α → List SC) (wf : α → Prop) : Prop :=
  ∀ (H : Type) (enc : TypeId × Value → H) (W : World) (fuel : Nat) (cs : List Value) (x : DataW H × List MemPlace), DataW.trod enc P W 0 (fun _ => true) true fuel t cs = some x → Wt P t x.1 → ∃ a : α, Seg (rdAll W) cs 0 cs.length (f a) ∧ wf a
theorem Opens.r {P : Program} {t : TypeId} {α : Type} {f : α → List SC} {wf : α → Prop} (h : Opens P t f wf) : OpensR P t f wf := fun H enc W fuel cs x h1 _ => h H enc W fuel cs x h1
def wfR {α : Type} (p : α → Prop) (l : List α) : Prop := l.length ≤ 140737488351232 ∧ ∀ z ∈ l, p z
theorem mem_weightsAll {H : Type} {P : Program} {e : TypeId} : ∀ {l : List (DataW H)} {d : DataW H}, d ∈ l → ∀ n ∈ d.weights P e, n ∈ DataW.weightsAll P e l
  | x :: l, d, h, n, hn => by
    simp only [DataW.weightsAll, List.mem_append]
    rcases List.mem_cons.1 h with rfl | h
    · exact Or.inl hn
    · exact Or.inr (mem_weightsAll h n hn)
theorem wt_of {H : Type} {P : Program} {ts : List TypeId} {ds : List (DataW H)} (h : (DataW.weightsEach P ts ds).all (· ≤ reachBytes) = true) {j : Nat} {t : TypeId} {d : DataW H} (ht : ts[j]? = some t) (hd : ds[j]? = some d) : Wt P t d := fun n hn => by
  have := List.all_eq_true.1 h _ (DataW.weights_mem_each ht hd n hn)
  simpa using this
theorem opens_sliceR {P : Program} {t e : TypeId} {sz : Nat} (ht : P.underlying t = some (.slice e)) (hsz : P.cellsOf e = sz) {α : Type} {f : α → List SC} {wf : α → Prop} (hop : OpensR P e f wf) (hlen : ∀ a, (f a).length = sz) (hpos : decide (0 < sz) = true) (hby : decide (0 < P.bytesOf e) = true) : OpensR P t (ecS sz f) (wfR wf) := by
  intro H enc W fuel cs x h hw
  have hb := of_decide_eq_true hby
  have hp := of_decide_eq_true hpos
  rcases DataW.trod_slice ht h with ⟨rfl, _⟩ | ⟨a, len, cap, elems, rest, m, _, rfl, rfl, _, hlc, hcm, hel, hg, _⟩
  · refine ⟨[], ⟨rfl, fun j y hy => ?_⟩, by simp, fun z hz => absurd hz (by simp)⟩
    rcases j with _ | j
    · simp only [ecS, List.map_nil, List.getElem?_cons_zero, Option.some.injEq] at hy
      subst hy
      exact ⟨_, rfl, .nil _ _ _ (by decide)⟩
    · simp [ecS] at hy
  · have e0 : DataW.weights P t (.slice (elems.map (·.1)) (rest.map (·.1)) : DataW H) = (((elems.map (·.1)).length + (rest.map (·.1)).length) * P.bytesOf e :: (DataW.weightsAll P e (elems.map (·.1)) ++ DataW.weightsAll P e (rest.map (·.1)))) := by simp [DataW.weights, ht]
    have hlen' : len ≤ 140737488351232 := by
      have h2 := hw (((elems.map (·.1)).length + (rest.map (·.1)).length) * P.bytesOf e) (by rw [e0]; exact List.mem_cons_self)
      have h3 : len * 1 ≤ ((elems.map (·.1)).length + (rest.map (·.1)).length) * P.bytesOf e := Nat.mul_le_mul (by rw [List.length_map, hel]; omega) hb
      have h4 : reachBytes = 140737488351232 := rfl
      omega
    have key : ∀ i, i < len → ∃ (us : List Value) (b : α), W.cells? 0 (a.add (i * sz)) sz = some us ∧ Seg (rdAll W) us 0 us.length (f b) ∧ wf b := by
      intro i hi
      have h1 := hg i hi
      rw [hsz] at h1
      obtain ⟨y, hy⟩ : ∃ y, elems[i]? = some y := ⟨_, List.getElem?_eq_getElem (by omega)⟩
      rw [hy] at h1
      obtain ⟨us, k1, k2⟩ := Option.bind_eq_some_iff.1 h1
      obtain ⟨b, k3, k4⟩ := hop H enc W m us y k2 (fun n hn => hw n (by
        rw [e0]
        exact List.mem_cons_of_mem _ (List.mem_append_left _ (mem_weightsAll (d := y.1) (List.mem_map.2 ⟨y, List.mem_of_getElem? hy, rfl⟩) n hn))))
      exact ⟨us, b, k1, k3, k4⟩
    have key2 : ∃ l : List α, l.length = len ∧ ∀ i b, l[i]? = some b → wf b ∧ ∃ us, W.cells? 0 (a.add (i * sz)) sz = some us ∧ Seg (rdAll W) us 0 us.length (f b) := by
      have : ∀ q, q ≤ len → ∃ l : List α, l.length = q ∧ ∀ i b, l[i]? = some b → wf b ∧ ∃ us, W.cells? 0 (a.add (i * sz)) sz = some us ∧ Seg (rdAll W) us 0 us.length (f b) := by
        intro q
        induction q with
        | zero => exact fun _ => ⟨[], rfl, fun i b hb => by simp at hb⟩
        | succ q ih =>
          intro hq
          obtain ⟨l, hl, hall⟩ := ih (by omega)
          obtain ⟨us, b, k1, k2, k3⟩ := key q (by omega)
          refine ⟨l ++ [b], by simp [hl], fun i c hc => ?_⟩
          by_cases hi : i < l.length
          · rw [List.getElem?_append_left hi] at hc
            exact hall i c hc
          · rw [List.getElem?_append_right (by omega)] at hc
            have hi0 : i - l.length = 0 := by
              have := (List.getElem?_eq_some_iff.1 hc).1
              simp at this
              omega
            rw [hi0] at hc
            cases hc
            have : i = q := by omega
            subst this
            exact ⟨k3, us, k1, k2⟩
      exact this len (Nat.le_refl _)
    obtain ⟨l, hl, hall⟩ := key2
    refine ⟨l, ⟨rfl, fun j y hy => ?_⟩, by omega, fun z hz => ?_⟩
    · rcases j with _ | j
      · simp only [ecS, List.getElem?_cons_zero, Option.some.injEq] at hy
        subst hy
        refine ⟨_, rfl, ?_⟩
        rw [hl]
        by_cases hz : len = 0
        · subst hz
          have : l = [] := List.eq_nil_of_length_eq_zero hl
          subst this
          exact .nil _ _ _ hcm
        · obtain ⟨b0, hb0⟩ : ∃ b, l[0]? = some b := ⟨_, List.getElem?_eq_getElem (by omega)⟩
          obtain ⟨_, us0, k0, _⟩ := hall 0 b0 hb0
          obtain ⟨hlen0, _, hc0⟩ := World.cells?_some k0
          have hcell0 := hc0 0 (by omega)
          obtain ⟨bl, off, spot⟩ := a
          have hspot : spot = none := by
            obtain ⟨z, hz0⟩ : ∃ z, us0[0]? = some z := ⟨_, List.getElem?_eq_getElem (by omega)⟩
            rw [hz0] at hcell0
            simpa [Addr.add] using World.cell?_spot hcell0
          subst hspot
          have cellAt : ∀ i b, l[i]? = some b → ∀ j y, (f b)[j]? = some y → ∃ u, W.cell? ⟨bl, off + i * sz + j, none⟩ = some u ∧ IRel (rdAll W) u y := by
            intro i b hb j y hy
            obtain ⟨_, us, k1, k2⟩ := hall i b hb
            obtain ⟨hlen1, _, hc1⟩ := World.cells?_some k1
            obtain ⟨u, q1, q2⟩ := k2.2 j y hy
            rw [Nat.zero_add] at q1
            have hj : j < sz := by have := (List.getElem?_eq_some_iff.1 hy).1; rw [hlen b] at this; exact this
            have := hc1 j (by omega)
            rw [q1] at this
            refine ⟨u, ?_, q2⟩
            rw [Addr.add_mid, Addr.add_mid] at this
            exact this
          refine .slc bl off len cap sz (l.map f) (fun i j => (W.cell? ⟨bl, off + i * sz + j, none⟩).getD (.bool false)) (by simp [hl]) hlc hcm ?_ ?_ ?_
          · intro x hx
            obtain ⟨b, _, rfl⟩ := List.mem_map.1 hx
            exact hlen b
          · intro i x j y hx hy
            rw [List.getElem?_map] at hx
            obtain ⟨b, hb, rfl⟩ := Option.map_eq_some_iff.1 hx
            obtain ⟨u, q1, _⟩ := cellAt i b hb j y hy
            simp only [rdAll, q1, Option.getD_some]
          · intro i x j y hx hy
            rw [List.getElem?_map] at hx
            obtain ⟨b, hb, rfl⟩ := Option.map_eq_some_iff.1 hx
            obtain ⟨u, q1, q2⟩ := cellAt i b hb j y hy
            simp only [q1, Option.getD_some]
            exact q2
      · simp [ecS] at hy
    · obtain ⟨i, hi⟩ := List.getElem?_of_mem hz
      exact (hall i z hi).1

/-- a single cell as an argument -/
theorem open_cellR {P : Program} {t : TypeId} {H : Type} {enc : TypeId × Value → H} {W : World} {v : Value} {d : DataW H} {p : List MemPlace} {α : Type} {f : α → List SC} {wf : α → Prop} {c : α → SC} (hop : OpensR P t f wf) (hc : ∀ a, f a = [c a]) (hv : v.cells = #[v]) (h : DataW.Trod enc P W 0 (fun _ => true) true t v d p) (hw : Wt P t d) : ∃ a, VRel (rdAll W) env0 v (.c (c a)) ∧ wf a := by
  obtain ⟨fuel, hf⟩ := h
  obtain ⟨a, hs, hw2⟩ := hop H enc W fuel _ _ hf hw
  rw [hv] at hs
  refine ⟨a, ?_, hw2⟩
  obtain ⟨u, k1, k2⟩ := hs.2 0 (c a) (by rw [hc]; rfl)
  simp at k1
  subst k1
  exact k2.c
/-- a slice as an argument -/
theorem open_slcR {P : Program} {t e : TypeId} {H : Type} {enc : TypeId × Value → H} {W : World} {v : Value} {d : DataW H} {p : List MemPlace} {r : Reach} {b0 : Nat} {α : Type} {sz : Nat} {f : α → List SC} {wf : List α → Prop} (hop : OpensR P t (ecS sz f) wf) (ht : P.underlying t = some (.slice e))
    (hv : Value.okWide P W r b0 t v) (h : DataW.Trod enc P W 0 (fun _ => true) true t v d p) (hw : Wt P t d) : ∃ a, VRel (rdAll W) env0 v (.c (eS sz f a)) ∧ wf a := by
  obtain ⟨a0, len, cap, rfl⟩ := okWide_slice ht hv
  exact open_cellR hop (fun a => rfl) rfl h hw
end
section
open Go.ChangeShapes Go.WideShapes Go.ChangeAt Go.RowKit

def S_Prefix.wf (x : S_Prefix) : Prop := wfA .u8 16 x.IP ∧ wfI .i64 x.Bits
def S_Destination.wf (x : S_Destination) : Prop := S_Prefix.wf x.Dst ∧ S_Prefix.wf x.Src ∧ wfI .u64 x.Router
def S_Notice.wf (x : S_Notice) : Prop := wfI .i64 x.Kind ∧ wfI .u16 x.Seq ∧ wfI .i64 x.Metric ∧ wfI .u64 x.Neighbour ∧ S_Destination.wf x.To ∧ wfI .i64 x.Hops
end
end Go.Proofs.Ytcemblilhbidgaa
