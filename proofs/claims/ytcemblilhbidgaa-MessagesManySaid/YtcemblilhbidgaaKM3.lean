/-
  Part 3 of what the proof of this law rests on.
-/
import Derived.Test.YtcemblilhbidgaaKM2
namespace Go.Proofs.Ytcemblilhbidgaa
section
open Go.RowKit
attribute [local irreducible] TS go TD goD

structure S_Prefix where
  IP : List Int
  Bits : Int
def S_Prefix.cs (x : S_Prefix) : List SC := arrS .u8 16 x.IP ++ [.lit (.int .i64 (x.Bits))]
def S_Prefix.eqb (x y : S_Prefix) : Bool := (arrEq 16 x.IP y.IP) && ((x.Bits == y.Bits) && true)

structure S_Destination where
  Dst : S_Prefix
  Src : S_Prefix
  Router : Int
def S_Destination.cs (x : S_Destination) : List SC := S_Prefix.cs x.Dst ++ S_Prefix.cs x.Src ++ [.lit (.int .u64 (x.Router))]
def S_Destination.eqb (x y : S_Destination) : Bool := (S_Prefix.eqb x.Dst y.Dst) && ((S_Prefix.eqb x.Src y.Src) && ((x.Router == y.Router) && true))

structure S_Notice where
  Kind : Int
  Seq : Int
  Metric : Int
  Neighbour : Int
  To : S_Destination
  Hops : Int
def S_Notice.cs (x : S_Notice) : List SC := [.lit (.int .i64 (x.Kind))] ++ [.lit (.int .u16 (x.Seq))] ++ [.lit (.int .i64 (x.Metric))] ++ [.lit (.int .u64 (x.Neighbour))] ++ S_Destination.cs x.To ++ [.lit (.int .i64 (x.Hops))]
def S_Notice.eqb (x y : S_Notice) : Bool := (x.Kind == y.Kind) && ((x.Seq == y.Seq) && ((x.Metric == y.Metric) && ((x.Neighbour == y.Neighbour) && ((S_Destination.eqb x.To y.To) && ((x.Hops == y.Hops) && true)))))

structure S_messages_state where
  elements : List Int
  router : Int
  dst : List Int
def S_messages_state.cs (x : S_messages_state) : List SC := [eS 1 (ecI .u8) (x.elements)] ++ [.lit (.int .u64 (x.router))] ++ arrS .u8 16 x.dst

structure S_multihopmade_Tape where
  l : List Int
  at_ : Int
def S_multihopmade_Tape.cs (x : S_multihopmade_Tape) : List SC := [eS 1 (ecI .i64) (x.l)] ++ [.lit (.int .i64 (x.at_))]

/-- multihop/metric.Valid -/
noncomputable def F_metric_Valid (a0 : Int) : Option (Bool) :=
  bif (decide (a0 ≥ 0)) then
    some ((decide (a0 ≤ 65535)))
  else
    some (false)
set_option maxRecDepth 100000 in
set_option maxHeartbeats 40000000 in
theorem ok_metric_Valid (a0 : Int) (r : Bool) (h : F_metric_Valid a0 = some r) : Con Try.prog 38 [.c (.lit (.int .i64 (a0)))] [] (.c (.lit (.bool (r)))) [] := by
  unfold F_metric_Valid at h
  refine con_of [] [] 9 Try.func38 rfl rfl (by kernel_rfl) (fun K => ?_)
  refine TS_go 9 ?_
  replace h := condO h
  rcases h with ⟨hb1, h⟩ | ⟨hb1, h⟩
  · refine TS_know 4 (b := true) hb1 (by kernel_rfl) (by kernel_rfl) ?_
    refine TS_know 5 (b := true) hb1 (by kernel_rfl) (by kernel_rfl) ?_
    refine TS_go 6 ?_
    have ret := Option.some.inj h
    subst ret
    exact TS_ret (by kernel_rfl) (by kernel_rfl) (by kernel_rfl)
  · refine TS_know 4 (b := false) hb1 (by kernel_rfl) (by kernel_rfl) ?_
    refine TS_know 5 (b := false) hb1 (by kernel_rfl) (by kernel_rfl) ?_
    refine TS_go 6 ?_
    have ret := Option.some.inj h
    subst ret
    exact TS_ret (by kernel_rfl) (by kernel_rfl) (by kernel_rfl)

/-- multihop/address.Mask -/
noncomputable def F_address_Mask_l1 (a0 : List Int) (s1 : Int × S_Prefix) : Option ((Int × S_Prefix) ⊕ (S_Prefix)) :=
  bif (decide (s1.1 < 16)) then
    bif decide ((0 : Int) ≤ s1.1 ∧ s1.1 < (16 : Int)) then
      bif decide (0 ≤ (if 8 < if IntKind.wrap .i64 (s1.2.Bits - (IntKind.wrap .i64 (8 * s1.1))) < 0 then 0 else IntKind.wrap .i64 (s1.2.Bits - (IntKind.wrap .i64 (8 * s1.1))) then 8 else if IntKind.wrap .i64 (s1.2.Bits - (IntKind.wrap .i64 (8 * s1.1))) < 0 then 0 else IntKind.wrap .i64 (s1.2.Bits - (IntKind.wrap .i64 (8 * s1.1))))) then
        bif decide ((0 : Int) ≤ s1.1 ∧ s1.1 < (16 : Int)) then
          some (Sum.inl (IntKind.wrap .i64 (s1.1 + 1), (S_Prefix.mk (setA 16 s1.2.IP (Int.toNat s1.1) (iandNot .u8 (List.getD a0 (Int.toNat s1.1) 0) (ishr .u8 255 (if 8 < if IntKind.wrap .i64 (s1.2.Bits - (IntKind.wrap .i64 (8 * s1.1))) < 0 then 0 else IntKind.wrap .i64 (s1.2.Bits - (IntKind.wrap .i64 (8 * s1.1))) then 8 else if IntKind.wrap .i64 (s1.2.Bits - (IntKind.wrap .i64 (8 * s1.1))) < 0 then 0 else IntKind.wrap .i64 (s1.2.Bits - (IntKind.wrap .i64 (8 * s1.1))))))) s1.2.Bits)))
        else none
      else none
    else none
  else
    some (Sum.inr s1.2)
noncomputable def F_address_Mask (a0 : List Int) (a1 : Int) : Option (S_Prefix) :=
  (loopO (F_address_Mask_l1 a0) (0, (S_Prefix.mk [0, 0, 0, 0, 0, 0, 0, 0, 0, 0, 0, 0, 0, 0, 0, 0] (if 128 < if a1 < 0 then 0 else a1 then 128 else if a1 < 0 then 0 else a1)))).bind fun b2 =>
  some (b2)
set_option maxRecDepth 100000 in
set_option maxHeartbeats 40000000 in
theorem ok_address_Mask (a0 : List Int) (a1 : Int) (r : S_Prefix) (h : F_address_Mask a0 a1 = some r) : Con Try.prog 58 [.agg (arrS .u8 16 a0), .c (.lit (.int .i64 (a1)))] [] (.agg (S_Prefix.cs r)) [] := by
  unfold F_address_Mask at h
  refine con_of [] [] 33 Try.func58 rfl rfl (by kernel_rfl) (fun K => ?_)
  refine TS_go 20 ?_
  refine TS_cut ⟨[(2, []), (4, []), (5, []), (12, [])], [(2, (2, [])), (4, (4, [])), (5, (5, []))]⟩ (.mk [.code (codeAt [1, 1, 0, 1, 0] (bodyOf Try.f58)), .blk 0, .code (codeAt [1, 1, 1] (bodyOf Try.f58))] .normal ⟨[(2, .c (.box 2 0)), (4, .c (.box 4 0)), (5, .c (.box 5 0)), (12, .c (.lit (.int .i64 (0))))], [(2, .box [.lit (.int .u8 ((a0.getD 0 0))), .lit (.int .u8 ((a0.getD 1 0))), .lit (.int .u8 ((a0.getD 2 0))), .lit (.int .u8 ((a0.getD 3 0))), .lit (.int .u8 ((a0.getD 4 0))), .lit (.int .u8 ((a0.getD 5 0))), .lit (.int .u8 ((a0.getD 6 0))), .lit (.int .u8 ((a0.getD 7 0))), .lit (.int .u8 ((a0.getD 8 0))), .lit (.int .u8 ((a0.getD 9 0))), .lit (.int .u8 ((a0.getD 10 0))), .lit (.int .u8 ((a0.getD 11 0))), .lit (.int .u8 ((a0.getD 12 0))), .lit (.int .u8 ((a0.getD 13 0))), .lit (.int .u8 ((a0.getD 14 0))), .lit (.int .u8 ((a0.getD 15 0)))]), (4, .box [.lit (.int .u8 (0)), .lit (.int .u8 (0)), .lit (.int .u8 (0)), .lit (.int .u8 (0)), .lit (.int .u8 (0)), .lit (.int .u8 (0)), .lit (.int .u8 (0)), .lit (.int .u8 (0)), .lit (.int .u8 (0)), .lit (.int .u8 (0)), .lit (.int .u8 (0)), .lit (.int .u8 (0)), .lit (.int .u8 (0)), .lit (.int .u8 (0)), .lit (.int .u8 (0)), .lit (.int .u8 (0)), .lit (.int .i64 (0))]), (5, .box [.lit (.int .u8 (0)), .lit (.int .u8 (0)), .lit (.int .u8 (0)), .lit (.int .u8 (0)), .lit (.int .u8 (0)), .lit (.int .u8 (0)), .lit (.int .u8 (0)), .lit (.int .u8 (0)), .lit (.int .u8 (0)), .lit (.int .u8 (0)), .lit (.int .u8 (0)), .lit (.int .u8 (0)), .lit (.int .u8 (0)), .lit (.int .u8 (0)), .lit (.int .u8 (0)), .lit (.int .u8 (0)), .lit (.int .i64 (if 128 < if a1 < 0 then 0 else a1 then 128 else if a1 < 0 then 0 else a1))])]⟩) (by kernel_rfl) (by kernel_rfl) ?_
  replace h := bindO h
  obtain ⟨y3, hl1, hK1⟩ := h
  refine TS_loopB (F_address_Mask_l1 a0) ⟨[(2, []), (4, []), (5, []), (12, [])], [(2, (2, [])), (4, (4, [])), (5, (5, []))]⟩ (fun (s1 : Int × S_Prefix) => [(12, .c (.lit (.int .i64 (s1.1))))]) (fun (s1 : Int × S_Prefix) => [(5, .box (S_Prefix.cs s1.2))]) (0, (S_Prefix.mk [0, 0, 0, 0, 0, 0, 0, 0, 0, 0, 0, 0, 0, 0, 0, 0] (if 128 < if a1 < 0 then 0 else a1 then 128 else if a1 < 0 then 0 else a1))) y3 (.exit 0) (fun (b : S_Prefix) => b) ⟨[(4, []), (5, [])], [(4, (4, [])), (5, (5, []))]⟩ (fun (b2 : S_Prefix) => []) (fun (b2 : S_Prefix) => [(5, .box (S_Prefix.cs b2))]) hl1 (by kernel_rfl) (by kernel_rfl) ?_ ?_
  · intro s1 x h hy1
    unfold F_address_Mask_l1 at h
    refine TS_go 5 ?_
    replace h := condO h
    rcases h with ⟨hb4, h⟩ | ⟨hb4, h⟩
    · refine TS_know 13 (b := true) hb4 (by kernel_rfl) (by kernel_rfl) ?_
      refine TS_T (by kernel_rfl) rfl ?_
      refine TS_go 19 ?_
      refine TS_draw (by kernel_rfl) ?_
      refine TD_go 2 ?_
      replace h := chkO h
      obtain ⟨hc5, h⟩ := h
      refine TD_idxA 2 0 16 (i := s1.1) hc5 (by kernel_rfl) (by kernel_rfl) ?_
      refine TD_ldA .u8 0 16 (i := s1.1) a0 hc5 (by kernel_rfl) (by kernel_rfl) ?_
      refine TD_go 1 ?_
      replace h := chkO h
      obtain ⟨hc6, h⟩ := h
      refine TD_num (op := .shr) (k := .u8) (k' := .i64) (m := 255) (i := if 8 < if IntKind.wrap .i64 (s1.2.Bits - (IntKind.wrap .i64 (8 * s1.1))) < 0 then 0 else IntKind.wrap .i64 (s1.2.Bits - (IntKind.wrap .i64 (8 * s1.1))) then 8 else if IntKind.wrap .i64 (s1.2.Bits - (IntKind.wrap .i64 (8 * s1.1))) < 0 then 0 else IntKind.wrap .i64 (s1.2.Bits - (IntKind.wrap .i64 (8 * s1.1)))) (of_decide_eq_true hc6) rfl (by simp) (by kernel_rfl) (by kernel_rfl) ?_
      refine TD_go 2 ?_
      replace h := chkO h
      obtain ⟨hc7, h⟩ := h
      refine TD_idxA 5 0 16 (i := s1.1) hc7 (by kernel_rfl) (by kernel_rfl) ?_
      refine TD_stA (k := .u8) (d := 5) 0 16 (i := s1.1) (v := iandNot .u8 (List.getD a0 (Int.toNat s1.1) 0) (ishr .u8 255 (if 8 < if IntKind.wrap .i64 (s1.2.Bits - (IntKind.wrap .i64 (8 * s1.1))) < 0 then 0 else IntKind.wrap .i64 (s1.2.Bits - (IntKind.wrap .i64 (8 * s1.1))) then 8 else if IntKind.wrap .i64 (s1.2.Bits - (IntKind.wrap .i64 (8 * s1.1))) < 0 then 0 else IntKind.wrap .i64 (s1.2.Bits - (IntKind.wrap .i64 (8 * s1.1)))))) s1.2.IP (pre := []) (post := [.lit (.int .i64 (s1.2.Bits))]) hc7 (by kernel_rfl) (by kernel_rfl) (by kernel_rfl) ?_
      refine TD_end (by kernel_rfl) ?_
      refine TS_go 5 ?_
      have ret := Option.some.inj h
      subst ret
      exact TS_againB _ ⟨[(2, []), (4, []), (5, []), (12, [])], [(2, (2, [])), (4, (4, [])), (5, (5, []))]⟩ rfl (by kernel_rfl) (by kernel_rfl)
    · refine TS_know 13 (b := false) hb4 (by kernel_rfl) (by kernel_rfl) ?_
      refine TS_F (by kernel_rfl) rfl ?_
      refine TS_go 2 ?_
      have ret := Option.some.inj h
      subst ret
      exact TS_brkB s1.2 ⟨[(4, []), (5, [])], [(4, (4, [])), (5, (5, []))]⟩ rfl (by kernel_rfl) (by kernel_rfl) (by kernel_rfl)
  · intro b2 hb
    subst y3
    have h := hK1
    refine TS_go 7 ?_
    have ret := Option.some.inj h
    subst ret
    exact TS_ret (by kernel_rfl) (by kernel_rfl) (by kernel_rfl)

/-- multihop/address.ValidPrefix -/
noncomputable def F_address_ValidPrefix (a0 : S_Prefix) : Option (Bool) :=
  bif (decide (a0.Bits ≥ 0)) then
    bif (decide (a0.Bits ≤ 128)) then
      (F_address_Mask a0.IP a0.Bits).bind fun v3 =>
      some ((S_Prefix.eqb v3 a0))
    else
      some (false)
  else
    some (false)
set_option maxRecDepth 100000 in
set_option maxHeartbeats 40000000 in
theorem ok_address_ValidPrefix (a0 : S_Prefix) (r : Bool) (h : F_address_ValidPrefix a0 = some r) : Con Try.prog 40 [.agg (S_Prefix.cs a0)] [] (.c (.lit (.bool (r)))) [] := by
  unfold F_address_ValidPrefix at h
  refine con_of [] [] 20 Try.func40 rfl rfl (by kernel_rfl) (fun K => ?_)
  refine TS_go 6 ?_
  refine TS_draw (by kernel_rfl) ?_
  refine TD_go 3 ?_
  replace h := condO h
  rcases h with ⟨hb1, h⟩ | ⟨hb1, h⟩
  · refine TD_know 6 (b := true) hb1 trivial (by kernel_rfl) (by kernel_rfl) ?_
    refine TD_go 4 ?_
    replace h := condO h
    rcases h with ⟨hb2, h⟩ | ⟨hb2, h⟩
    · refine TD_know 11 (b := true) hb2 trivial (by kernel_rfl) (by kernel_rfl) ?_
      refine TD_go 4 ?_
      replace h := bindO h
      obtain ⟨v3, hv3, h⟩ := h
      refine TD_call [] (ok_address_Mask a0.IP a0.Bits v3 hv3) (by kernel_rfl) (by kernel_rfl) ?_
      refine TD_go 4 ?_
      refine TD_end (by kernel_rfl) ?_
      refine TS_go 1 ?_
      have ret := Option.some.inj h
      subst ret
      exact TS_ret (by kernel_rfl) (by kernel_rfl) (by kernel_rfl)
    · refine TD_know 11 (b := false) hb2 trivial (by kernel_rfl) (by kernel_rfl) ?_
      refine TD_go 9 ?_
      refine TD_end (by kernel_rfl) ?_
      refine TS_go 1 ?_
      have ret := Option.some.inj h
      subst ret
      exact TS_ret (by kernel_rfl) (by kernel_rfl) (by kernel_rfl)
  · refine TD_know 6 (b := false) hb1 trivial (by kernel_rfl) (by kernel_rfl) ?_
    refine TD_go 14 ?_
    refine TD_end (by kernel_rfl) ?_
    refine TS_go 1 ?_
    have ret := Option.some.inj h
    subst ret
    exact TS_ret (by kernel_rfl) (by kernel_rfl) (by kernel_rfl)

/-- multihop/sources.ValidTo -/
noncomputable def F_sources_ValidTo (a0 : S_Destination) : Option (Bool) :=
  (F_address_ValidPrefix a0.Dst).bind fun v1 =>
  bif v1 then
    (F_address_ValidPrefix a0.Src).bind fun v3 =>
    bif v3 then
      some ((a0.Router != 0))
    else
      some (false)
  else
    some (false)
set_option maxRecDepth 100000 in
set_option maxHeartbeats 40000000 in
theorem ok_sources_ValidTo (a0 : S_Destination) (r : Bool) (h : F_sources_ValidTo a0 = some r) : Con Try.prog 39 [.agg (S_Destination.cs a0)] [] (.c (.lit (.bool (r)))) [] := by
  unfold F_sources_ValidTo at h
  refine con_of [] [] 16 Try.func39 rfl rfl (by kernel_rfl) (fun K => ?_)
  refine TS_go 9 ?_
  replace h := bindO h
  obtain ⟨v1, hv1, h⟩ := h
  refine TS_call [] (ok_address_ValidPrefix a0.Dst v1 hv1) (by kernel_rfl) (by kernel_rfl) ?_
  refine TS_go 1 ?_
  replace h := condO h
  rcases h with ⟨hb2, h⟩ | ⟨hb2, h⟩
  · subst hb2
    refine TS_go 2 ?_
    replace h := bindO h
    obtain ⟨v3, hv3, h⟩ := h
    refine TS_call [] (ok_address_ValidPrefix a0.Src v3 hv3) (by kernel_rfl) (by kernel_rfl) ?_
    refine TS_go 2 ?_
    replace h := condO h
    rcases h with ⟨hb4, h⟩ | ⟨hb4, h⟩
    · subst hb4
      refine TS_go 7 ?_
      have ret := Option.some.inj h
      subst ret
      exact TS_ret (by kernel_rfl) (by kernel_rfl) (by kernel_rfl)
    · subst hb4
      refine TS_go 7 ?_
      have ret := Option.some.inj h
      subst ret
      exact TS_ret (by kernel_rfl) (by kernel_rfl) (by kernel_rfl)
  · subst hb2
    refine TS_go 12 ?_
    have ret := Option.some.inj h
    subst ret
    exact TS_ret (by kernel_rfl) (by kernel_rfl) (by kernel_rfl)

/-- multihop/messages.Valid -/
noncomputable def F_messages_Valid (a0 : S_Notice) : Option (Bool) :=
  bif (a0.Kind == 1) then
    some ((S_Notice.eqb a0 (S_Notice.mk a0.Kind a0.Seq 0 0 (S_Destination.mk (S_Prefix.mk [0, 0, 0, 0, 0, 0, 0, 0, 0, 0, 0, 0, 0, 0, 0, 0] 0) (S_Prefix.mk [0, 0, 0, 0, 0, 0, 0, 0, 0, 0, 0, 0, 0, 0, 0, 0] 0) 0) 0)))
  else
    bif (a0.Kind == 2) then
      bif (S_Notice.eqb a0 (S_Notice.mk a0.Kind 0 a0.Metric a0.Neighbour (S_Destination.mk (S_Prefix.mk [0, 0, 0, 0, 0, 0, 0, 0, 0, 0, 0, 0, 0, 0, 0, 0] 0) (S_Prefix.mk [0, 0, 0, 0, 0, 0, 0, 0, 0, 0, 0, 0, 0, 0, 0, 0] 0) 0) 0)) then
        bif (a0.Neighbour != 0) then
          (F_metric_Valid a0.Metric).bind fun v5 =>
          some (v5)
        else
          some (false)
      else
        some (false)
    else
      bif (a0.Kind == 3) then
        bif (S_Notice.eqb a0 (S_Notice.mk a0.Kind a0.Seq a0.Metric 0 a0.To 0)) then
          (F_sources_ValidTo a0.To).bind fun v8 =>
          bif v8 then
            (F_metric_Valid a0.Metric).bind fun v10 =>
            some (v10)
          else
            some (false)
        else
          some (false)
      else
        bif (a0.Kind == 4) then
          bif (S_Notice.eqb a0 (S_Notice.mk a0.Kind 0 0 0 a0.To 0)) then
            bif (a0.To.Router == 0) then
              (F_address_ValidPrefix a0.To.Dst).bind fun v14 =>
              bif v14 then
                (F_address_ValidPrefix a0.To.Src).bind fun v16 =>
                some (v16)
              else
                some (false)
            else
              some (false)
          else
            some (false)
        else
          bif (a0.Kind == 5) then
            bif (S_Notice.eqb a0 (S_Notice.mk a0.Kind a0.Seq 0 0 a0.To a0.Hops)) then
              (F_sources_ValidTo a0.To).bind fun v19 =>
              bif v19 then
                bif (decide (a0.Hops ≥ 1)) then
                  some ((decide (a0.Hops ≤ 32)))
                else
                  some (false)
              else
                some (false)
            else
              some (false)
          else
            some (false)
set_option maxRecDepth 100000 in
set_option maxHeartbeats 40000000 in
theorem ok_messages_Valid (a0 : S_Notice) (r : Bool) (h : F_messages_Valid a0 = some r) : Con Try.prog 16 [.agg (S_Notice.cs a0)] [] (.c (.lit (.bool (r)))) [] := by
  unfold F_messages_Valid at h
  refine con_of [] [] 117 Try.func16 rfl rfl (by kernel_rfl) (fun K => ?_)
  refine TS_go 25 ?_
  replace h := condO h
  rcases h with ⟨hb1, h⟩ | ⟨hb1, h⟩
  · refine TS_know 10 (b := true) hb1 (by kernel_rfl) (by kernel_rfl) ?_
    refine TS_know 9 (b := true) hb1 (by kernel_rfl) (by kernel_rfl) ?_
    refine TS_T (by kernel_rfl) rfl ?_
    refine TS_go 17 ?_
    have ret := Option.some.inj h
    subst ret
    exact TS_ret (by kernel_rfl) (by kernel_rfl) (by kernel_rfl)
  · refine TS_know 10 (b := false) hb1 (by kernel_rfl) (by kernel_rfl) ?_
    refine TS_know 9 (b := false) hb1 (by kernel_rfl) (by kernel_rfl) ?_
    refine TS_F (by kernel_rfl) rfl ?_
    refine TS_go 5 ?_
    replace h := condO h
    rcases h with ⟨hb2, h⟩ | ⟨hb2, h⟩
    · refine TS_know 18 (b := true) hb2 (by kernel_rfl) (by kernel_rfl) ?_
      refine TS_know 17 (b := true) hb2 (by kernel_rfl) (by kernel_rfl) ?_
      refine TS_T (by kernel_rfl) rfl ?_
      refine TS_go 1 ?_
      refine TS_draw (by kernel_rfl) ?_
      refine TD_go 8 ?_
      refine TD_end (by kernel_rfl) ?_
      refine TS_go 6 ?_
      replace h := condO h
      rcases h with ⟨hb3, h⟩ | ⟨hb3, h⟩
      · refine TS_know 27 (b := true) hb3 (by kernel_rfl) (by kernel_rfl) ?_
        refine TS_know 28 (b := true) hb3 (by kernel_rfl) (by kernel_rfl) ?_
        refine TS_go 5 ?_
        replace h := condO h
        rcases h with ⟨hb4, h⟩ | ⟨hb4, h⟩
        · refine TS_know 31 (b := true) hb4 (by kernel_rfl) (by kernel_rfl) ?_
          refine TS_know 32 (b := true) hb4 (by kernel_rfl) (by kernel_rfl) ?_
          refine TS_know 33 (b := true) hb4 (by kernel_rfl) (by kernel_rfl) ?_
          refine TS_go 2 ?_
          replace h := bindO h
          obtain ⟨v5, hv5, h⟩ := h
          refine TS_call [] (ok_metric_Valid a0.Metric v5 hv5) (by kernel_rfl) (by kernel_rfl) ?_
          refine TS_go 6 ?_
          have ret := Option.some.inj h
          subst ret
          exact TS_ret (by kernel_rfl) (by kernel_rfl) (by kernel_rfl)
        · refine TS_know 31 (b := false) hb4 (by kernel_rfl) (by kernel_rfl) ?_
          refine TS_know 32 (b := false) hb4 (by kernel_rfl) (by kernel_rfl) ?_
          refine TS_know 33 (b := false) hb4 (by kernel_rfl) (by kernel_rfl) ?_
          refine TS_go 9 ?_
          have ret := Option.some.inj h
          subst ret
          exact TS_ret (by kernel_rfl) (by kernel_rfl) (by kernel_rfl)
      · refine TS_know 27 (b := false) hb3 (by kernel_rfl) (by kernel_rfl) ?_
        refine TS_know 28 (b := false) hb3 (by kernel_rfl) (by kernel_rfl) ?_
        refine TS_go 14 ?_
        have ret := Option.some.inj h
        subst ret
        exact TS_ret (by kernel_rfl) (by kernel_rfl) (by kernel_rfl)
    · refine TS_know 18 (b := false) hb2 (by kernel_rfl) (by kernel_rfl) ?_
      refine TS_know 17 (b := false) hb2 (by kernel_rfl) (by kernel_rfl) ?_
      refine TS_F (by kernel_rfl) rfl ?_
      refine TS_go 5 ?_
      replace h := condO h
      rcases h with ⟨hb6, h⟩ | ⟨hb6, h⟩
      · refine TS_know 39 (b := true) hb6 (by kernel_rfl) (by kernel_rfl) ?_
        refine TS_know 38 (b := true) hb6 (by kernel_rfl) (by kernel_rfl) ?_
        refine TS_T (by kernel_rfl) rfl ?_
        refine TS_go 1 ?_
        refine TS_draw (by kernel_rfl) ?_
        refine TD_go 12 ?_
        refine TD_end (by kernel_rfl) ?_
        refine TS_go 6 ?_
        replace h := condO h
        rcases h with ⟨hb7, h⟩ | ⟨hb7, h⟩
        · refine TS_know 51 (b := true) hb7 (by kernel_rfl) (by kernel_rfl) ?_
          refine TS_know 52 (b := true) hb7 (by kernel_rfl) (by kernel_rfl) ?_
          refine TS_go 2 ?_
          replace h := bindO h
          obtain ⟨v8, hv8, h⟩ := h
          refine TS_call [] (ok_sources_ValidTo a0.To v8 hv8) (by kernel_rfl) (by kernel_rfl) ?_
          refine TS_go 2 ?_
          replace h := condO h
          rcases h with ⟨hb9, h⟩ | ⟨hb9, h⟩
          · subst hb9
            refine TS_go 2 ?_
            replace h := bindO h
            obtain ⟨v10, hv10, h⟩ := h
            refine TS_call [] (ok_metric_Valid a0.Metric v10 hv10) (by kernel_rfl) (by kernel_rfl) ?_
            refine TS_go 6 ?_
            have ret := Option.some.inj h
            subst ret
            exact TS_ret (by kernel_rfl) (by kernel_rfl) (by kernel_rfl)
          · subst hb9
            refine TS_go 9 ?_
            have ret := Option.some.inj h
            subst ret
            exact TS_ret (by kernel_rfl) (by kernel_rfl) (by kernel_rfl)
        · refine TS_know 51 (b := false) hb7 (by kernel_rfl) (by kernel_rfl) ?_
          refine TS_know 52 (b := false) hb7 (by kernel_rfl) (by kernel_rfl) ?_
          refine TS_go 14 ?_
          have ret := Option.some.inj h
          subst ret
          exact TS_ret (by kernel_rfl) (by kernel_rfl) (by kernel_rfl)
      · refine TS_know 39 (b := false) hb6 (by kernel_rfl) (by kernel_rfl) ?_
        refine TS_know 38 (b := false) hb6 (by kernel_rfl) (by kernel_rfl) ?_
        refine TS_F (by kernel_rfl) rfl ?_
        refine TS_go 5 ?_
        replace h := condO h
        rcases h with ⟨hb11, h⟩ | ⟨hb11, h⟩
        · refine TS_know 63 (b := true) hb11 (by kernel_rfl) (by kernel_rfl) ?_
          refine TS_know 62 (b := true) hb11 (by kernel_rfl) (by kernel_rfl) ?_
          refine TS_T (by kernel_rfl) rfl ?_
          refine TS_go 13 ?_
          replace h := condO h
          rcases h with ⟨hb12, h⟩ | ⟨hb12, h⟩
          · refine TS_know 69 (b := true) hb12 (by kernel_rfl) (by kernel_rfl) ?_
            refine TS_know 70 (b := true) hb12 (by kernel_rfl) (by kernel_rfl) ?_
            refine TS_go 6 ?_
            replace h := condO h
            rcases h with ⟨hb13, h⟩ | ⟨hb13, h⟩
            · refine TS_know 74 (b := true) hb13 (by kernel_rfl) (by kernel_rfl) ?_
              refine TS_know 75 (b := true) hb13 (by kernel_rfl) (by kernel_rfl) ?_
              refine TS_know 76 (b := true) hb13 (by kernel_rfl) (by kernel_rfl) ?_
              refine TS_go 3 ?_
              replace h := bindO h
              obtain ⟨v14, hv14, h⟩ := h
              refine TS_call [] (ok_address_ValidPrefix a0.To.Dst v14 hv14) (by kernel_rfl) (by kernel_rfl) ?_
              refine TS_go 2 ?_
              replace h := condO h
              rcases h with ⟨hb15, h⟩ | ⟨hb15, h⟩
              · subst hb15
                refine TS_go 3 ?_
                replace h := bindO h
                obtain ⟨v16, hv16, h⟩ := h
                refine TS_call [] (ok_address_ValidPrefix a0.To.Src v16 hv16) (by kernel_rfl) (by kernel_rfl) ?_
                refine TS_go 6 ?_
                have ret := Option.some.inj h
                subst ret
                exact TS_ret (by kernel_rfl) (by kernel_rfl) (by kernel_rfl)
              · subst hb15
                refine TS_go 10 ?_
                have ret := Option.some.inj h
                subst ret
                exact TS_ret (by kernel_rfl) (by kernel_rfl) (by kernel_rfl)
            · refine TS_know 74 (b := false) hb13 (by kernel_rfl) (by kernel_rfl) ?_
              refine TS_know 75 (b := false) hb13 (by kernel_rfl) (by kernel_rfl) ?_
              refine TS_know 76 (b := false) hb13 (by kernel_rfl) (by kernel_rfl) ?_
              refine TS_go 16 ?_
              have ret := Option.some.inj h
              subst ret
              exact TS_ret (by kernel_rfl) (by kernel_rfl) (by kernel_rfl)
          · refine TS_know 69 (b := false) hb12 (by kernel_rfl) (by kernel_rfl) ?_
            refine TS_know 70 (b := false) hb12 (by kernel_rfl) (by kernel_rfl) ?_
            refine TS_go 22 ?_
            have ret := Option.some.inj h
            subst ret
            exact TS_ret (by kernel_rfl) (by kernel_rfl) (by kernel_rfl)
        · refine TS_know 63 (b := false) hb11 (by kernel_rfl) (by kernel_rfl) ?_
          refine TS_know 62 (b := false) hb11 (by kernel_rfl) (by kernel_rfl) ?_
          refine TS_F (by kernel_rfl) rfl ?_
          refine TS_go 5 ?_
          replace h := condO h
          rcases h with ⟨hb17, h⟩ | ⟨hb17, h⟩
          · refine TS_know 89 (b := true) hb17 (by kernel_rfl) (by kernel_rfl) ?_
            refine TS_know 88 (b := true) hb17 (by kernel_rfl) (by kernel_rfl) ?_
            refine TS_T (by kernel_rfl) rfl ?_
            refine TS_go 1 ?_
            refine TS_draw (by kernel_rfl) ?_
            refine TD_go 12 ?_
            refine TD_end (by kernel_rfl) ?_
            refine TS_go 6 ?_
            replace h := condO h
            rcases h with ⟨hb18, h⟩ | ⟨hb18, h⟩
            · refine TS_know 101 (b := true) hb18 (by kernel_rfl) (by kernel_rfl) ?_
              refine TS_know 102 (b := true) hb18 (by kernel_rfl) (by kernel_rfl) ?_
              refine TS_go 2 ?_
              replace h := bindO h
              obtain ⟨v19, hv19, h⟩ := h
              refine TS_call [] (ok_sources_ValidTo a0.To v19 hv19) (by kernel_rfl) (by kernel_rfl) ?_
              refine TS_go 2 ?_
              replace h := condO h
              rcases h with ⟨hb20, h⟩ | ⟨hb20, h⟩
              · subst hb20
                refine TS_go 5 ?_
                replace h := condO h
                rcases h with ⟨hb21, h⟩ | ⟨hb21, h⟩
                · refine TS_know 110 (b := true) hb21 (by kernel_rfl) (by kernel_rfl) ?_
                  refine TS_know 111 (b := true) hb21 (by kernel_rfl) (by kernel_rfl) ?_
                  refine TS_know 112 (b := true) hb21 (by kernel_rfl) (by kernel_rfl) ?_
                  refine TS_go 9 ?_
                  have ret := Option.some.inj h
                  subst ret
                  exact TS_ret (by kernel_rfl) (by kernel_rfl) (by kernel_rfl)
                · refine TS_know 110 (b := false) hb21 (by kernel_rfl) (by kernel_rfl) ?_
                  refine TS_know 111 (b := false) hb21 (by kernel_rfl) (by kernel_rfl) ?_
                  refine TS_know 112 (b := false) hb21 (by kernel_rfl) (by kernel_rfl) ?_
                  refine TS_go 9 ?_
                  have ret := Option.some.inj h
                  subst ret
                  exact TS_ret (by kernel_rfl) (by kernel_rfl) (by kernel_rfl)
              · subst hb20
                refine TS_go 14 ?_
                have ret := Option.some.inj h
                subst ret
                exact TS_ret (by kernel_rfl) (by kernel_rfl) (by kernel_rfl)
            · refine TS_know 101 (b := false) hb18 (by kernel_rfl) (by kernel_rfl) ?_
              refine TS_know 102 (b := false) hb18 (by kernel_rfl) (by kernel_rfl) ?_
              refine TS_go 19 ?_
              have ret := Option.some.inj h
              subst ret
              exact TS_ret (by kernel_rfl) (by kernel_rfl) (by kernel_rfl)
          · refine TS_know 89 (b := false) hb17 (by kernel_rfl) (by kernel_rfl) ?_
            refine TS_know 88 (b := false) hb17 (by kernel_rfl) (by kernel_rfl) ?_
            refine TS_F (by kernel_rfl) rfl ?_
            refine TS_go 7 ?_
            have ret := Option.some.inj h
            subst ret
            exact TS_ret (by kernel_rfl) (by kernel_rfl) (by kernel_rfl)

/-- multihop/messages.allValid -/
noncomputable def F_messages_allValid_l1 (a0 : List S_Notice) (s1 : Int) : Option ((Int) ⊕ ((Unit) ⊕ (Bool))) :=
  bif (decide (s1 < (List.length a0 : Int))) then
    (idx a0 s1).bind fun e5 =>
    (F_messages_Valid e5).bind fun v6 =>
    bif v6 then
      some (Sum.inl (IntKind.wrap .i64 (s1 + 1)))
    else
      some (Sum.inr (Sum.inr false))
  else
    some (Sum.inr (Sum.inl ()))
noncomputable def F_messages_allValid (a0 : List S_Notice) : Option (Bool) :=
  (loopO (F_messages_allValid_l1 a0) 0).bind (Sum.elim (fun b2 =>
    some (true)
  ) (fun w8 => some w8))
set_option maxRecDepth 100000 in
set_option maxHeartbeats 40000000 in
theorem ok_messages_allValid (a0 : List S_Notice) (r : Bool) (h : F_messages_allValid a0 = some r) : Con Try.prog 44 [.c (eS 40 S_Notice.cs (a0))] [] (.c (.lit (.bool (r)))) [] := by
  unfold F_messages_allValid at h
  refine con_of [] [] 15 Try.func44 rfl rfl (by kernel_rfl) (fun K => ?_)
  refine TS_go 12 ?_
  refine TS_cut ⟨[(5, []), (6, []), (7, [])], []⟩ (.mk [.code (codeAt [1, 0, 1, 0] (bodyOf Try.f44)), .blk 0, .code (codeAt [1, 1] (bodyOf Try.f44))] .normal ⟨[(5, .c (.slc 40 0 (List.length a0) (List.map S_Notice.cs a0))), (6, .c (.lit (.int .i64 ((List.length a0 : Int))))), (7, .c (.lit (.int .i64 (0))))], []⟩) (by kernel_rfl) (by kernel_rfl) ?_
  replace h := bindO h
  obtain ⟨y3, hl1, hK1⟩ := h
  refine TS_loopB (F_messages_allValid_l1 a0) ⟨[(5, []), (6, []), (7, [])], []⟩ (fun (s1 : Int) => [(7, .c (.lit (.int .i64 (s1))))]) (fun (s1 : Int) => []) 0 y3 (.exit 0) (fun (b : Unit) => (Sum.inl b : (Unit) ⊕ (Bool))) ⟨[], []⟩ (fun (b2 : Unit) => []) (fun (b2 : Unit) => []) hl1 (by kernel_rfl) (by kernel_rfl) ?_ ?_
  · intro s1 x h hy1
    unfold F_messages_allValid_l1 at h
    refine TS_go 5 ?_
    replace h := condO h
    rcases h with ⟨hb4, h⟩ | ⟨hb4, h⟩
    · refine TS_know 8 (b := true) hb4 (by kernel_rfl) (by kernel_rfl) ?_
      refine TS_T (by kernel_rfl) rfl ?_
      refine TS_go 5 ?_
      replace h := bindO h
      obtain ⟨e5, he5, h⟩ := h
      refine TS_idx S_Notice.cs he5 (by kernel_rfl) (by kernel_rfl) ?_
      refine TS_go 7 ?_
      replace h := bindO h
      obtain ⟨v6, hv6, h⟩ := h
      refine TS_call [] (ok_messages_Valid e5 v6 hv6) (by kernel_rfl) (by kernel_rfl) ?_
      refine TS_go 2 ?_
      replace h := condO h
      rcases h with ⟨hb7, h⟩ | ⟨hb7, h⟩
      · subst hb7
        refine TS_F (by kernel_rfl) rfl ?_
        refine TS_go 6 ?_
        have ret := Option.some.inj h
        subst ret
        exact TS_againB _ ⟨[(5, []), (6, []), (7, [])], []⟩ rfl (by kernel_rfl) (by kernel_rfl)
      · subst hb7
        refine TS_T (by kernel_rfl) rfl ?_
        refine TS_go 7 ?_
        have ret := Option.some.inj h
        subst ret
        have hy1q := hy1 _ rfl
        subst hy1q
        replace h := (elimR hK1)
        refine TS_retB rfl (by kernel_rfl) ?_
        refine TS_go 2 ?_
        have ret := Option.some.inj h
        subst ret
        exact TS_ret (by kernel_rfl) (by kernel_rfl) (by kernel_rfl)
    · refine TS_know 8 (b := false) hb4 (by kernel_rfl) (by kernel_rfl) ?_
      refine TS_F (by kernel_rfl) rfl ?_
      refine TS_go 2 ?_
      have ret := Option.some.inj h
      subst ret
      exact TS_brkB () ⟨[], []⟩ rfl (by kernel_rfl) (by kernel_rfl) (by kernel_rfl)
  · intro b2 hb
    subst y3
    have h := elimL hK1
    refine TS_go 6 ?_
    have ret := Option.some.inj h
    subst ret
    exact TS_ret (by kernel_rfl) (by kernel_rfl) (by kernel_rfl)

/-- multihop/messages.isCreation -/
noncomputable def F_messages_isCreation (a0 : Int) : Option (Bool) :=
  bif (decide (a0 ≥ 0)) then
    some ((decide (a0 < 1099511627776)))
  else
    some (false)
set_option maxRecDepth 100000 in
set_option maxHeartbeats 40000000 in
theorem ok_messages_isCreation (a0 : Int) (r : Bool) (h : F_messages_isCreation a0 = some r) : Con Try.prog 45 [.c (.lit (.int .i64 (a0)))] [] (.c (.lit (.bool (r)))) [] := by
  unfold F_messages_isCreation at h
  refine con_of [] [] 9 Try.func45 rfl rfl (by kernel_rfl) (fun K => ?_)
  refine TS_go 9 ?_
  replace h := condO h
  rcases h with ⟨hb1, h⟩ | ⟨hb1, h⟩
  · refine TS_know 4 (b := true) hb1 (by kernel_rfl) (by kernel_rfl) ?_
    refine TS_know 5 (b := true) hb1 (by kernel_rfl) (by kernel_rfl) ?_
    refine TS_go 6 ?_
    have ret := Option.some.inj h
    subst ret
    exact TS_ret (by kernel_rfl) (by kernel_rfl) (by kernel_rfl)
  · refine TS_know 4 (b := false) hb1 (by kernel_rfl) (by kernel_rfl) ?_
    refine TS_know 5 (b := false) hb1 (by kernel_rfl) (by kernel_rfl) ?_
    refine TS_go 6 ?_
    have ret := Option.some.inj h
    subst ret
    exact TS_ret (by kernel_rfl) (by kernel_rfl) (by kernel_rfl)

/-- multihop/octets.Append -/
noncomputable def F_octets_Append_l2 (v1 : Int) (a0 : List Int) (a1 : Int) (s3 : Int × (List Int)) : Option ((Int × (List Int)) ⊕ ((List Int))) :=
  bif (decide (s3.1 < v1)) then
    bif decide (0 ≤ (IntKind.wrap .i64 (8 * (IntKind.wrap .i64 ((IntKind.wrap .i64 (v1 - 1)) - s3.1))))) then
      (idx (Cut.app .whole s3.2) (IntKind.wrap .i64 ((List.length a0 : Int) + s3.1))).bind fun _e8 =>
      (s3.2[(0 + Int.toNat (IntKind.wrap .i64 ((List.length a0 : Int) + s3.1)))]?).bind fun _e9 =>
      some (Sum.inl (IntKind.wrap .i64 (s3.1 + 1), (List.set s3.2 (0 + Int.toNat (IntKind.wrap .i64 ((List.length a0 : Int) + s3.1))) (IntKind.wrap .u8 (ishr .u64 a1 (IntKind.wrap .i64 (8 * (IntKind.wrap .i64 ((IntKind.wrap .i64 (v1 - 1)) - s3.1)))))))))
    else none
  else
    some (Sum.inr s3.2)
noncomputable def F_octets_Append_j1 (a0 : List Int) (a1 : Int) (v1 : Int) : Option ((List Int)) :=
  (mkO 1 (IntKind.wrap .i64 ((List.length a0 : Int) + v1)) (IntKind.wrap .i64 ((List.length a0 : Int) + v1))).bind fun n2 =>
  (loopO (F_octets_Append_l2 v1 a0 a1) (0, (cpL (List.replicate n2 (0 : Int)) 0 (List.length (Cut.app .whole (List.replicate n2 (0 : Int)))) (Cut.app .whole a0)))).bind fun b4 =>
  some (b4)
noncomputable def F_octets_Append (a0 : List Int) (a1 : Int) (a2 : Int) : Option ((List Int)) :=
  bif (decide (a2 < 0)) then
    (F_octets_Append_j1 a0 a1) 0
  else
    bif (decide (a2 > 8)) then
      (F_octets_Append_j1 a0 a1) 0
    else
      (F_octets_Append_j1 a0 a1) a2
set_option maxRecDepth 100000 in
set_option maxHeartbeats 40000000 in
theorem okT_octets_Append (a0 : List Int) (a1 : Int) (a2 : Int) (r : (List Int)) (h : F_octets_Append a0 a1 a2 = some r) : Con Try.prog 61 [.c (eS 1 (ecI .u8) (a0)), .c (.lit (.int .u64 (a1))), .c (.lit (.int .i64 (a2)))] [] (.c (.slc 1 900002 (List.length r) (List.map (ecI .u8) r))) [(900000, .spare 5 1 (List.length r))] := by
  unfold F_octets_Append at h
  refine con_of [] [(900000, [])] 43 Try.func61 rfl rfl (by kernel_rfl) (fun K => ?_)
  refine TS_go 4 ?_
  refine TS_cut ⟨[(0, []), (1, []), (2, [])], []⟩ (.mk [.code (codeAt [1] (bodyOf Try.f61))] .normal ⟨[(0, .c (.slc 1 0 (List.length a0) (List.map (ecI .u8) a0))), (1, .c (.lit (.int .u64 (a1)))), (2, .c (.lit (.int .i64 (a2))))], []⟩) (by kernel_rfl) (by kernel_rfl) ?_
  refine TS_joinB ⟨[(0, []), (1, []), (2, [])], []⟩ (fun (v1 : Int) => [(2, .c (.lit (.int .i64 (v1))))]) (fun (v1 : Int) => []) (F_octets_Append_j1 a0 a1) r ?_ ?_
  · clear h
    intro v1 h
    unfold F_octets_Append_j1 at h
    refine TS_go 6 ?_
    replace h := bindO h
    obtain ⟨n2, hn2, h⟩ := h
    refine TS_makeR 19 5 1 (ecI .u8) (0 : Int) [] (cs := [.lit (.int .u8 (0))]) (l := IntKind.wrap .i64 ((List.length a0 : Int) + v1)) (c := IntKind.wrap .i64 ((List.length a0 : Int) + v1)) hn2 (by kernel_rfl) (by kernel_rfl) (by kernel_rfl) ?_
    refine TS_go 6 ?_
    refine TS_cpR 19 5 1 (List.length (List.replicate n2 (0 : Int))) 0 (ecI .u8) (fun _ => by kernel_rfl) (l := (List.replicate n2 (0 : Int))) (l2 := a0) .whole .whole (by kernel_rfl) (by kernel_rfl) ?_
    refine TS_go 8 ?_
    refine TS_cut ⟨[(0, []), (1, []), (2, []), (7, []), (23, []), (24, [])], [(19, (19, []))]⟩ (.mk [.code (codeAt [1, 1, 1, 1, 0, 1, 0] (bodyOf Try.f61)), .blk 0, .code (codeAt [1, 1, 1, 1, 1] (bodyOf Try.f61))] .normal ⟨[(0, .c (.slc 1 0 (List.length a0) (List.map (ecI .u8) a0))), (1, .c (.lit (.int .u64 (a1)))), (2, .c (.lit (.int .i64 (v1)))), (7, .c (.own 19)), (23, .c (.lit (.int .i64 (v1)))), (24, .c (.lit (.int .i64 (0))))], [(19, .row 5 1 (List.length (cpL (List.replicate n2 (0 : Int)) 0 (List.length (Cut.app .whole (List.replicate n2 (0 : Int)))) (Cut.app .whole a0))) (List.map (ecI .u8) (cpL (List.replicate n2 (0 : Int)) 0 (List.length (Cut.app .whole (List.replicate n2 (0 : Int)))) (Cut.app .whole a0))))]⟩) (by kernel_rfl) (by kernel_rfl) ?_
    replace h := bindO h
    obtain ⟨y5, hl2, hK2⟩ := h
    refine TS_loopB (F_octets_Append_l2 v1 a0 a1) ⟨[(0, []), (1, []), (2, []), (7, []), (23, []), (24, [])], [(19, (19, []))]⟩ (fun (s3 : Int × (List Int)) => [(24, .c (.lit (.int .i64 (s3.1))))]) (fun (s3 : Int × (List Int)) => [(19, .row 5 1 (List.length s3.2) (List.map (ecI .u8) s3.2))]) (0, (cpL (List.replicate n2 (0 : Int)) 0 (List.length (Cut.app .whole (List.replicate n2 (0 : Int)))) (Cut.app .whole a0))) y5 (.exit 0) (fun (b : (List Int)) => b) ⟨[(7, [])], [(19, (19, []))]⟩ (fun (b4 : (List Int)) => []) (fun (b4 : (List Int)) => [(19, .row 5 1 (List.length b4) (List.map (ecI .u8) b4))]) hl2 (by kernel_rfl) (by kernel_rfl) ?_ ?_
    · intro s3 x h hy2
      unfold F_octets_Append_l2 at h
      refine TS_go 5 ?_
      replace h := condO h
      rcases h with ⟨hb6, h⟩ | ⟨hb6, h⟩
      · refine TS_know 25 (b := true) hb6 (by kernel_rfl) (by kernel_rfl) ?_
        refine TS_T (by kernel_rfl) rfl ?_
        refine TS_go 20 ?_
        replace h := chkO h
        obtain ⟨hc7, h⟩ := h
        refine TS_num (op := .shr) (k := .u64) (k' := .i64) (m := a1) (i := IntKind.wrap .i64 (8 * (IntKind.wrap .i64 ((IntKind.wrap .i64 (v1 - 1)) - s3.1)))) (of_decide_eq_true hc7) rfl (by simp) (by kernel_rfl) (by kernel_rfl) ?_
        refine TS_go 1 ?_
        replace h := bindO h
        obtain ⟨_e8, he8, h⟩ := h
        refine TS_idxR 19 1 0 (ecI .u8) .whole he8 (by kernel_rfl) (by kernel_rfl) ?_
        replace h := bindO h
        obtain ⟨_e9, he9, h⟩ := h
        refine TS_stE 19 5 1 (List.length s3.2) (0 + Int.toNat (IntKind.wrap .i64 ((List.length a0 : Int) + s3.1))) 0 (ecI .u8) (ds := [.lit (.int .u8 (IntKind.wrap .u8 (ishr .u64 a1 (IntKind.wrap .i64 (8 * (IntKind.wrap .i64 ((IntKind.wrap .i64 (v1 - 1)) - s3.1)))))))]) (IntKind.wrap .u8 (ishr .u64 a1 (IntKind.wrap .i64 (8 * (IntKind.wrap .i64 ((IntKind.wrap .i64 (v1 - 1)) - s3.1)))))) he9 (by kernel_rfl) (by kernel_rfl) (by kernel_rfl) (by kernel_rfl) ?_
        refine TS_go 6 ?_
        have ret := Option.some.inj h
        subst ret
        exact TS_againB _ ⟨[(0, []), (1, []), (2, []), (7, []), (23, []), (24, [])], [(19, (19, []))]⟩ rfl (by kernel_rfl) (by kernel_rfl)
      · refine TS_know 25 (b := false) hb6 (by kernel_rfl) (by kernel_rfl) ?_
        refine TS_F (by kernel_rfl) rfl ?_
        refine TS_go 2 ?_
        have ret := Option.some.inj h
        subst ret
        exact TS_brkB s3.2 ⟨[(7, [])], [(19, (19, []))]⟩ rfl (by kernel_rfl) (by kernel_rfl) (by kernel_rfl)
    · intro b4 hb
      subst y5
      have h := hK2
      refine TS_go 6 ?_
      refine TS_settle 19 (by kernel_rfl) ?_
      refine TS_fitU ⟨[(6, [])], [(19, (900000, []))]⟩ (by kernel_rfl) ?_
      refine TS_go 1 ?_
      have ret := Option.some.inj h
      subst ret
      exact TS_ret (by kernel_rfl) (by kernel_rfl) (by kernel_rfl)
  · refine TS_go 5 ?_
    replace h := condO h
    rcases h with ⟨hb11, h⟩ | ⟨hb11, h⟩
    · refine TS_know 10 (b := true) hb11 (by kernel_rfl) (by kernel_rfl) ?_
      refine TS_know 11 (b := true) hb11 (by kernel_rfl) (by kernel_rfl) ?_
      refine TS_go 4 ?_
      refine TS_T (by kernel_rfl) rfl ?_
      refine TS_go 3 ?_
      exact TS_meet 0 ⟨[(0, []), (1, []), (2, [])], []⟩ h (by kernel_rfl) (by kernel_rfl)
    · refine TS_know 10 (b := false) hb11 (by kernel_rfl) (by kernel_rfl) ?_
      refine TS_know 11 (b := false) hb11 (by kernel_rfl) (by kernel_rfl) ?_
      refine TS_go 4 ?_
      replace h := condO h
      rcases h with ⟨hb12, h⟩ | ⟨hb12, h⟩
      · refine TS_know 13 (b := true) hb12 (by kernel_rfl) (by kernel_rfl) ?_
        refine TS_know 14 (b := true) hb12 (by kernel_rfl) (by kernel_rfl) ?_
        refine TS_T (by kernel_rfl) rfl ?_
        refine TS_go 3 ?_
        exact TS_meet 0 ⟨[(0, []), (1, []), (2, [])], []⟩ h (by kernel_rfl) (by kernel_rfl)
      · refine TS_know 13 (b := false) hb12 (by kernel_rfl) (by kernel_rfl) ?_
        refine TS_know 14 (b := false) hb12 (by kernel_rfl) (by kernel_rfl) ?_
        refine TS_F (by kernel_rfl) rfl ?_
        refine TS_go 1 ?_
        exact TS_meet a2 ⟨[(0, []), (1, []), (2, [])], []⟩ h (by kernel_rfl) (by kernel_rfl)
/-- (multihop/messages.state).element -/
noncomputable def F_messages_state_element_H00 (a0 : S_messages_state) (a1 : Int) (a2 : List Int) : Option (S_messages_state) :=
  (appO 1 a0.elements (Cut.app .whole ([a1, IntKind.wrap .u8 (List.length a2 : Int)] : List Int))).bind fun l1 =>
  (appO 1 l1 (Cut.app .whole a2)).bind fun l2 =>
  some ((S_messages_state.mk l2 a0.router a0.dst))
set_option maxRecDepth 100000 in
set_option maxHeartbeats 40000000 in
theorem ok_messages_state_element_H00 (a0 : S_messages_state) (a1 : Int) (a2 : List Int) (r : S_messages_state) (h : F_messages_state_element_H00 a0 a1 a2 = some r) : ConG Try.prog 60 [.agg [.slc 1 1000003 (List.length a0.elements) (List.map (ecI .u8) a0.elements), .lit (.int .u64 (a0.router)), .lit (.int .u8 ((a0.dst.getD 0 0))), .lit (.int .u8 ((a0.dst.getD 1 0))), .lit (.int .u8 ((a0.dst.getD 2 0))), .lit (.int .u8 ((a0.dst.getD 3 0))), .lit (.int .u8 ((a0.dst.getD 4 0))), .lit (.int .u8 ((a0.dst.getD 5 0))), .lit (.int .u8 ((a0.dst.getD 6 0))), .lit (.int .u8 ((a0.dst.getD 7 0))), .lit (.int .u8 ((a0.dst.getD 8 0))), .lit (.int .u8 ((a0.dst.getD 9 0))), .lit (.int .u8 ((a0.dst.getD 10 0))), .lit (.int .u8 ((a0.dst.getD 11 0))), .lit (.int .u8 ((a0.dst.getD 12 0))), .lit (.int .u8 ((a0.dst.getD 13 0))), .lit (.int .u8 ((a0.dst.getD 14 0))), .lit (.int .u8 ((a0.dst.getD 15 0)))], .c (.lit (.int .u8 (a1))), .c (eS 1 (ecI .u8) (a2))] 5 1 (List.length a0.elements) (.agg [.slc 1 1000003 (List.length r.elements) (List.map (ecI .u8) r.elements), .lit (.int .u64 (r.router)), .lit (.int .u8 ((r.dst.getD 0 0))), .lit (.int .u8 ((r.dst.getD 1 0))), .lit (.int .u8 ((r.dst.getD 2 0))), .lit (.int .u8 ((r.dst.getD 3 0))), .lit (.int .u8 ((r.dst.getD 4 0))), .lit (.int .u8 ((r.dst.getD 5 0))), .lit (.int .u8 ((r.dst.getD 6 0))), .lit (.int .u8 ((r.dst.getD 7 0))), .lit (.int .u8 ((r.dst.getD 8 0))), .lit (.int .u8 ((r.dst.getD 9 0))), .lit (.int .u8 ((r.dst.getD 10 0))), .lit (.int .u8 ((r.dst.getD 11 0))), .lit (.int .u8 ((r.dst.getD 12 0))), .lit (.int .u8 ((r.dst.getD 13 0))), .lit (.int .u8 ((r.dst.getD 14 0))), .lit (.int .u8 ((r.dst.getD 15 0)))]) (List.length r.elements) := by
  unfold F_messages_state_element_H00 at h
  refine con_ofGA [] 22 0 0 _ Try.func60 rfl rfl (by kernel_rfl) rfl rfl (fun K => ?_)
  refine TS_go 13 ?_
  refine TS_litNT 13 5 1 (ecI .u8) [] ([a1, IntKind.wrap .u8 (List.length a2 : Int)] : List Int) (by kernel_rfl) (by kernel_rfl) ?_
  replace h := bindO h
  obtain ⟨l1, hl1, h⟩ := h
  refine TS_appT (d := 1000001) (e := 5) (sz := 1) (N := List.length a0.elements) (ecI .u8) (fun _ => by kernel_rfl) (l1 := a0.elements) (l2 := ([a1, IntKind.wrap .u8 (List.length a2 : Int)] : List Int)) (c := .whole) hl1 (by kernel_rfl) (by kernel_rfl) ?_
  refine TS_go 8 ?_
  replace h := bindO h
  obtain ⟨l2, hl2, h⟩ := h
  refine TS_appT (d := 1000001) (e := 5) (sz := 1) (N := List.length l1) (ecI .u8) (fun _ => by kernel_rfl) (l1 := l1) (l2 := a2) (c := .whole) hl2 (by kernel_rfl) (by kernel_rfl) ?_
  refine TS_go 9 ?_
  have ret := Option.some.inj h
  subst ret
  exact TS_retG (sz1 := 1) (xs1 := List.map (ecI .u8) a0.elements) (by kernel_rfl) (by kernel_rfl) (by kernel_rfl) (by kernel_rfl)

/-- multihop/messages.size -/
noncomputable def F_messages_size (a0 : Int) : Option (Int) :=
  some (iquo .i64 (IntKind.wrap .i64 (a0 + 7)) 8)
set_option maxRecDepth 100000 in
set_option maxHeartbeats 40000000 in
theorem ok_messages_size (a0 : Int) (r : Int) (h : F_messages_size a0 = some r) : Con Try.prog 70 [.c (.lit (.int .i64 (a0)))] [] (.c (.lit (.int .i64 (r)))) [] := by
  unfold F_messages_size at h
  refine con_of [] [] 6 Try.func70 rfl rfl (by kernel_rfl) (fun K => ?_)
  refine TS_go 12 ?_
  have ret := Option.some.inj h
  subst ret
  exact TS_ret (by kernel_rfl) (by kernel_rfl) (by kernel_rfl)

/-- multihop/messages.prefixBytes -/
noncomputable def F_messages_prefixBytes (a0 : S_Prefix) : Option ((List Int)) :=
  (F_messages_size a0.Bits).bind fun v1 =>
  (subO (arrL 16 a0.IP) 0 v1).bind fun l2 =>
  some (l2)
set_option maxRecDepth 100000 in
set_option maxHeartbeats 40000000 in
theorem ok_messages_prefixBytes (a0 : S_Prefix) (r : (List Int)) (h : F_messages_prefixBytes a0 = some r) : Con Try.prog 63 [.agg (S_Prefix.cs a0)] [] (.c (eS 1 (ecI .u8) (r))) [] := by
  unfold F_messages_prefixBytes at h
  refine con_of [[2]] [] 8 Try.func63 rfl rfl (by kernel_rfl) (fun K => ?_)
  refine TS_go 2 ?_
  refine TS_boxF (cs := [.lit (.int .u8 ((a0.IP.getD 0 0))), .lit (.int .u8 ((a0.IP.getD 1 0))), .lit (.int .u8 ((a0.IP.getD 2 0))), .lit (.int .u8 ((a0.IP.getD 3 0))), .lit (.int .u8 ((a0.IP.getD 4 0))), .lit (.int .u8 ((a0.IP.getD 5 0))), .lit (.int .u8 ((a0.IP.getD 6 0))), .lit (.int .u8 ((a0.IP.getD 7 0))), .lit (.int .u8 ((a0.IP.getD 8 0))), .lit (.int .u8 ((a0.IP.getD 9 0))), .lit (.int .u8 ((a0.IP.getD 10 0))), .lit (.int .u8 ((a0.IP.getD 11 0))), .lit (.int .u8 ((a0.IP.getD 12 0))), .lit (.int .u8 ((a0.IP.getD 13 0))), .lit (.int .u8 ((a0.IP.getD 14 0))), .lit (.int .u8 ((a0.IP.getD 15 0))), .lit (.int .i64 (a0.Bits))]) (by kernel_rfl) (by kernel_rfl) ?_
  refine TS_go 7 ?_
  replace h := bindO h
  obtain ⟨v1, hv1, h⟩ := h
  refine TS_call [] (ok_messages_size a0.Bits v1 hv1) (by kernel_rfl) (by kernel_rfl) ?_
  replace h := bindO h
  obtain ⟨_l2, hl2, h⟩ := h
  refine TS_slF (k := .u8) (a := 0) (b := v1) 16 a0.IP (by decide) hl2 (by kernel_rfl) (by kernel_rfl) ?_
  refine TS_go 3 ?_
  have ret := Option.some.inj h
  subst ret
  exact TS_ret (by kernel_rfl) (by kernel_rfl) (by kernel_rfl)

/-- (multihop/messages.state).update -/
noncomputable def F_messages_state_update_H00_l2 (v2 : (List Int)) (v1 : S_messages_state) (s3 : Int) : Option ((Int) ⊕ (Int)) :=
  bif (decide (s3 < (List.length v2 : Int))) then
    (idx v2 s3).bind fun e7 =>
    bif decide ((0 : Int) ≤ s3 ∧ s3 < (16 : Int)) then
      bif (e7 == (List.getD v1.dst (Int.toNat s3) 0)) then
        some (Sum.inl (IntKind.wrap .i64 (s3 + 1)))
      else
        some (Sum.inr s3)
    else none
  else
    some (Sum.inr s3)
noncomputable def F_messages_state_update_H00_j1 (a1 : S_Notice) (v1 : S_messages_state) : Option (S_messages_state) :=
  (F_messages_prefixBytes a1.To.Dst).bind fun v2 =>
  (loopO (F_messages_state_update_H00_l2 v2 v1) 0).bind fun b4 =>
  (F_octets_Append ([IntKind.wrap .u8 b4, IntKind.wrap .u8 a1.To.Dst.Bits, IntKind.wrap .u8 a1.To.Src.Bits] : List Int) (IntKind.wrap .u64 a1.Seq) 2).bind fun v11 =>
  (F_octets_Append v11 (IntKind.wrap .u64 a1.Metric) 2).bind fun v12 =>
  (subO v2 b4 (List.length v2 : Int)).bind fun l13 =>
  (appO 1 v12 (Cut.app .whole l13)).bind fun l14 =>
  (F_messages_prefixBytes a1.To.Src).bind fun v15 =>
  (appO 1 l14 (Cut.app .whole v15)).bind fun l16 =>
  (F_messages_state_element_H00 (S_messages_state.mk v1.elements v1.router a1.To.Dst.IP) 3 l16).bind fun v17 =>
  some (v17)
noncomputable def F_messages_state_update_H00 (a0 : S_messages_state) (a1 : S_Notice) : Option (S_messages_state) :=
  bif (a1.To.Router != a0.router) then
    (F_octets_Append ([] : List Int) a1.To.Router 8).bind fun v19 =>
    (F_messages_state_element_H00 a0 6 v19).bind fun v20 =>
    (F_messages_state_update_H00_j1 a1) (S_messages_state.mk v20.elements a1.To.Router v20.dst)
  else
    (F_messages_state_update_H00_j1 a1) a0
set_option maxRecDepth 100000 in
set_option maxHeartbeats 40000000 in
theorem ok_messages_state_update_H00 (a0 : S_messages_state) (a1 : S_Notice) (r : S_messages_state) (h : F_messages_state_update_H00 a0 a1 = some r) : ConG Try.prog 62 [.agg [.slc 1 1000003 (List.length a0.elements) (List.map (ecI .u8) a0.elements), .lit (.int .u64 (a0.router)), .lit (.int .u8 ((a0.dst.getD 0 0))), .lit (.int .u8 ((a0.dst.getD 1 0))), .lit (.int .u8 ((a0.dst.getD 2 0))), .lit (.int .u8 ((a0.dst.getD 3 0))), .lit (.int .u8 ((a0.dst.getD 4 0))), .lit (.int .u8 ((a0.dst.getD 5 0))), .lit (.int .u8 ((a0.dst.getD 6 0))), .lit (.int .u8 ((a0.dst.getD 7 0))), .lit (.int .u8 ((a0.dst.getD 8 0))), .lit (.int .u8 ((a0.dst.getD 9 0))), .lit (.int .u8 ((a0.dst.getD 10 0))), .lit (.int .u8 ((a0.dst.getD 11 0))), .lit (.int .u8 ((a0.dst.getD 12 0))), .lit (.int .u8 ((a0.dst.getD 13 0))), .lit (.int .u8 ((a0.dst.getD 14 0))), .lit (.int .u8 ((a0.dst.getD 15 0)))], .agg (S_Notice.cs a1)] 5 1 (List.length a0.elements) (.agg [.slc 1 1000003 (List.length r.elements) (List.map (ecI .u8) r.elements), .lit (.int .u64 (r.router)), .lit (.int .u8 ((r.dst.getD 0 0))), .lit (.int .u8 ((r.dst.getD 1 0))), .lit (.int .u8 ((r.dst.getD 2 0))), .lit (.int .u8 ((r.dst.getD 3 0))), .lit (.int .u8 ((r.dst.getD 4 0))), .lit (.int .u8 ((r.dst.getD 5 0))), .lit (.int .u8 ((r.dst.getD 6 0))), .lit (.int .u8 ((r.dst.getD 7 0))), .lit (.int .u8 ((r.dst.getD 8 0))), .lit (.int .u8 ((r.dst.getD 9 0))), .lit (.int .u8 ((r.dst.getD 10 0))), .lit (.int .u8 ((r.dst.getD 11 0))), .lit (.int .u8 ((r.dst.getD 12 0))), .lit (.int .u8 ((r.dst.getD 13 0))), .lit (.int .u8 ((r.dst.getD 14 0))), .lit (.int .u8 ((r.dst.getD 15 0)))]) (List.length r.elements) := by
  unfold F_messages_state_update_H00 at h
  refine con_ofGA [] 87 0 0 _ Try.func62 rfl rfl (by kernel_rfl) rfl rfl (fun K => ?_)
  refine TS_go 6 ?_
  refine TS_cut ⟨[(2000000, []), (2, []), (3, []), (4, [])], [(1000001, (1000001, [])), (2, (2, [])), (3, (3, [])), (4, (4, []))]⟩ (.mk [.code (codeAt [1] (bodyOf Try.f62))] .normal ⟨[(2000000, .c (.slc 1 1000003 (List.length a0.elements) (List.map (ecI .u8) a0.elements))), (2, .c (.box 2 0)), (3, .c (.box 3 0)), (4, .c (.box 4 0))], [(1000001, .spare 5 1 (List.length a0.elements)), (2, .box [.slc 1 1000003 (List.length a0.elements) (List.map (ecI .u8) a0.elements), .lit (.int .u64 (a0.router)), .lit (.int .u8 ((a0.dst.getD 0 0))), .lit (.int .u8 ((a0.dst.getD 1 0))), .lit (.int .u8 ((a0.dst.getD 2 0))), .lit (.int .u8 ((a0.dst.getD 3 0))), .lit (.int .u8 ((a0.dst.getD 4 0))), .lit (.int .u8 ((a0.dst.getD 5 0))), .lit (.int .u8 ((a0.dst.getD 6 0))), .lit (.int .u8 ((a0.dst.getD 7 0))), .lit (.int .u8 ((a0.dst.getD 8 0))), .lit (.int .u8 ((a0.dst.getD 9 0))), .lit (.int .u8 ((a0.dst.getD 10 0))), .lit (.int .u8 ((a0.dst.getD 11 0))), .lit (.int .u8 ((a0.dst.getD 12 0))), .lit (.int .u8 ((a0.dst.getD 13 0))), .lit (.int .u8 ((a0.dst.getD 14 0))), .lit (.int .u8 ((a0.dst.getD 15 0)))]), (3, .box [.lit (.int .i64 (a1.Kind)), .lit (.int .u16 (a1.Seq)), .lit (.int .i64 (a1.Metric)), .lit (.int .u64 (a1.Neighbour)), .lit (.int .u8 ((a1.To.Dst.IP.getD 0 0))), .lit (.int .u8 ((a1.To.Dst.IP.getD 1 0))), .lit (.int .u8 ((a1.To.Dst.IP.getD 2 0))), .lit (.int .u8 ((a1.To.Dst.IP.getD 3 0))), .lit (.int .u8 ((a1.To.Dst.IP.getD 4 0))), .lit (.int .u8 ((a1.To.Dst.IP.getD 5 0))), .lit (.int .u8 ((a1.To.Dst.IP.getD 6 0))), .lit (.int .u8 ((a1.To.Dst.IP.getD 7 0))), .lit (.int .u8 ((a1.To.Dst.IP.getD 8 0))), .lit (.int .u8 ((a1.To.Dst.IP.getD 9 0))), .lit (.int .u8 ((a1.To.Dst.IP.getD 10 0))), .lit (.int .u8 ((a1.To.Dst.IP.getD 11 0))), .lit (.int .u8 ((a1.To.Dst.IP.getD 12 0))), .lit (.int .u8 ((a1.To.Dst.IP.getD 13 0))), .lit (.int .u8 ((a1.To.Dst.IP.getD 14 0))), .lit (.int .u8 ((a1.To.Dst.IP.getD 15 0))), .lit (.int .i64 (a1.To.Dst.Bits)), .lit (.int .u8 ((a1.To.Src.IP.getD 0 0))), .lit (.int .u8 ((a1.To.Src.IP.getD 1 0))), .lit (.int .u8 ((a1.To.Src.IP.getD 2 0))), .lit (.int .u8 ((a1.To.Src.IP.getD 3 0))), .lit (.int .u8 ((a1.To.Src.IP.getD 4 0))), .lit (.int .u8 ((a1.To.Src.IP.getD 5 0))), .lit (.int .u8 ((a1.To.Src.IP.getD 6 0))), .lit (.int .u8 ((a1.To.Src.IP.getD 7 0))), .lit (.int .u8 ((a1.To.Src.IP.getD 8 0))), .lit (.int .u8 ((a1.To.Src.IP.getD 9 0))), .lit (.int .u8 ((a1.To.Src.IP.getD 10 0))), .lit (.int .u8 ((a1.To.Src.IP.getD 11 0))), .lit (.int .u8 ((a1.To.Src.IP.getD 12 0))), .lit (.int .u8 ((a1.To.Src.IP.getD 13 0))), .lit (.int .u8 ((a1.To.Src.IP.getD 14 0))), .lit (.int .u8 ((a1.To.Src.IP.getD 15 0))), .lit (.int .i64 (a1.To.Src.Bits)), .lit (.int .u64 (a1.To.Router)), .lit (.int .i64 (a1.Hops))]), (4, .box [.lit (.slice none 0 0), .lit (.int .u64 (0)), .lit (.int .u8 (0)), .lit (.int .u8 (0)), .lit (.int .u8 (0)), .lit (.int .u8 (0)), .lit (.int .u8 (0)), .lit (.int .u8 (0)), .lit (.int .u8 (0)), .lit (.int .u8 (0)), .lit (.int .u8 (0)), .lit (.int .u8 (0)), .lit (.int .u8 (0)), .lit (.int .u8 (0)), .lit (.int .u8 (0)), .lit (.int .u8 (0)), .lit (.int .u8 (0)), .lit (.int .u8 (0))])]⟩) (by kernel_rfl) (by kernel_rfl) ?_
  refine TS_joinB ⟨[(2, []), (3, []), (4, []), (2000000, [])], [(2, (2, [])), (3, (3, [])), (4, (4, [])), (1000001, (1000001, []))]⟩ (fun (v1 : S_messages_state) => []) (fun (v1 : S_messages_state) => [(2, .box [.slc 1 1000003 (List.length v1.elements) (List.map (ecI .u8) v1.elements), .lit (.int .u64 (v1.router)), .lit (.int .u8 ((v1.dst.getD 0 0))), .lit (.int .u8 ((v1.dst.getD 1 0))), .lit (.int .u8 ((v1.dst.getD 2 0))), .lit (.int .u8 ((v1.dst.getD 3 0))), .lit (.int .u8 ((v1.dst.getD 4 0))), .lit (.int .u8 ((v1.dst.getD 5 0))), .lit (.int .u8 ((v1.dst.getD 6 0))), .lit (.int .u8 ((v1.dst.getD 7 0))), .lit (.int .u8 ((v1.dst.getD 8 0))), .lit (.int .u8 ((v1.dst.getD 9 0))), .lit (.int .u8 ((v1.dst.getD 10 0))), .lit (.int .u8 ((v1.dst.getD 11 0))), .lit (.int .u8 ((v1.dst.getD 12 0))), .lit (.int .u8 ((v1.dst.getD 13 0))), .lit (.int .u8 ((v1.dst.getD 14 0))), .lit (.int .u8 ((v1.dst.getD 15 0)))]), (1000001, .spare 5 1 (List.length v1.elements))]) (F_messages_state_update_H00_j1 a1) r ?_ ?_
  · clear h
    intro v1 h
    unfold F_messages_state_update_H00_j1 at h
    refine TS_go 5 ?_
    replace h := bindO h
    obtain ⟨v2, hv2, h⟩ := h
    refine TS_call [] (ok_messages_prefixBytes a1.To.Dst v2 hv2) (by kernel_rfl) (by kernel_rfl) ?_
    refine TS_go 8 ?_
    refine TS_cut ⟨[(2, []), (3, []), (4, []), (2000000, []), (5, []), (6, [])], [(2, (2, [])), (3, (3, [])), (4, (4, [])), (1000001, (1000001, []))]⟩ (.mk [.code (codeAt [1, 1, 1, 1, 0, 0] (bodyOf Try.f62)), .blk 0, .code (codeAt [1, 1, 1, 1, 1] (bodyOf Try.f62))] .normal ⟨[(2, .c (.box 2 0)), (3, .c (.box 3 0)), (4, .c (.box 4 0)), (2000000, .c (.slc 1 1000003 (List.length a0.elements) (List.map (ecI .u8) a0.elements))), (5, .c (.slc 1 0 (List.length v2) (List.map (ecI .u8) v2))), (6, .c (.lit (.int .i64 (0))))], [(2, .box [.slc 1 1000003 (List.length v1.elements) (List.map (ecI .u8) v1.elements), .lit (.int .u64 (v1.router)), .lit (.int .u8 ((v1.dst.getD 0 0))), .lit (.int .u8 ((v1.dst.getD 1 0))), .lit (.int .u8 ((v1.dst.getD 2 0))), .lit (.int .u8 ((v1.dst.getD 3 0))), .lit (.int .u8 ((v1.dst.getD 4 0))), .lit (.int .u8 ((v1.dst.getD 5 0))), .lit (.int .u8 ((v1.dst.getD 6 0))), .lit (.int .u8 ((v1.dst.getD 7 0))), .lit (.int .u8 ((v1.dst.getD 8 0))), .lit (.int .u8 ((v1.dst.getD 9 0))), .lit (.int .u8 ((v1.dst.getD 10 0))), .lit (.int .u8 ((v1.dst.getD 11 0))), .lit (.int .u8 ((v1.dst.getD 12 0))), .lit (.int .u8 ((v1.dst.getD 13 0))), .lit (.int .u8 ((v1.dst.getD 14 0))), .lit (.int .u8 ((v1.dst.getD 15 0)))]), (3, .box [.lit (.int .i64 (a1.Kind)), .lit (.int .u16 (a1.Seq)), .lit (.int .i64 (a1.Metric)), .lit (.int .u64 (a1.Neighbour)), .lit (.int .u8 ((a1.To.Dst.IP.getD 0 0))), .lit (.int .u8 ((a1.To.Dst.IP.getD 1 0))), .lit (.int .u8 ((a1.To.Dst.IP.getD 2 0))), .lit (.int .u8 ((a1.To.Dst.IP.getD 3 0))), .lit (.int .u8 ((a1.To.Dst.IP.getD 4 0))), .lit (.int .u8 ((a1.To.Dst.IP.getD 5 0))), .lit (.int .u8 ((a1.To.Dst.IP.getD 6 0))), .lit (.int .u8 ((a1.To.Dst.IP.getD 7 0))), .lit (.int .u8 ((a1.To.Dst.IP.getD 8 0))), .lit (.int .u8 ((a1.To.Dst.IP.getD 9 0))), .lit (.int .u8 ((a1.To.Dst.IP.getD 10 0))), .lit (.int .u8 ((a1.To.Dst.IP.getD 11 0))), .lit (.int .u8 ((a1.To.Dst.IP.getD 12 0))), .lit (.int .u8 ((a1.To.Dst.IP.getD 13 0))), .lit (.int .u8 ((a1.To.Dst.IP.getD 14 0))), .lit (.int .u8 ((a1.To.Dst.IP.getD 15 0))), .lit (.int .i64 (a1.To.Dst.Bits)), .lit (.int .u8 ((a1.To.Src.IP.getD 0 0))), .lit (.int .u8 ((a1.To.Src.IP.getD 1 0))), .lit (.int .u8 ((a1.To.Src.IP.getD 2 0))), .lit (.int .u8 ((a1.To.Src.IP.getD 3 0))), .lit (.int .u8 ((a1.To.Src.IP.getD 4 0))), .lit (.int .u8 ((a1.To.Src.IP.getD 5 0))), .lit (.int .u8 ((a1.To.Src.IP.getD 6 0))), .lit (.int .u8 ((a1.To.Src.IP.getD 7 0))), .lit (.int .u8 ((a1.To.Src.IP.getD 8 0))), .lit (.int .u8 ((a1.To.Src.IP.getD 9 0))), .lit (.int .u8 ((a1.To.Src.IP.getD 10 0))), .lit (.int .u8 ((a1.To.Src.IP.getD 11 0))), .lit (.int .u8 ((a1.To.Src.IP.getD 12 0))), .lit (.int .u8 ((a1.To.Src.IP.getD 13 0))), .lit (.int .u8 ((a1.To.Src.IP.getD 14 0))), .lit (.int .u8 ((a1.To.Src.IP.getD 15 0))), .lit (.int .i64 (a1.To.Src.Bits)), .lit (.int .u64 (a1.To.Router)), .lit (.int .i64 (a1.Hops))]), (4, .box [.lit (.slice none 0 0), .lit (.int .u64 (0)), .lit (.int .u8 (0)), .lit (.int .u8 (0)), .lit (.int .u8 (0)), .lit (.int .u8 (0)), .lit (.int .u8 (0)), .lit (.int .u8 (0)), .lit (.int .u8 (0)), .lit (.int .u8 (0)), .lit (.int .u8 (0)), .lit (.int .u8 (0)), .lit (.int .u8 (0)), .lit (.int .u8 (0)), .lit (.int .u8 (0)), .lit (.int .u8 (0)), .lit (.int .u8 (0)), .lit (.int .u8 (0))]), (1000001, .spare 5 1 (List.length v1.elements))]⟩) (by kernel_rfl) (by kernel_rfl) ?_
    replace h := bindO h
    obtain ⟨y5, hl2, hK2⟩ := h
    refine TS_loopB (F_messages_state_update_H00_l2 v2 v1) ⟨[(2, []), (3, []), (4, []), (5, []), (6, []), (2000000, [])], [(2, (2, [])), (3, (3, [])), (4, (4, [])), (1000001, (1000001, []))]⟩ (fun (s3 : Int) => [(6, .c (.lit (.int .i64 (s3))))]) (fun (s3 : Int) => []) 0 y5 (.exit 0) (fun (b : Int) => b) ⟨[(2, []), (3, []), (4, []), (5, []), (6, []), (2000000, [])], [(2, (2, [])), (3, (3, [])), (4, (4, [])), (1000001, (1000001, []))]⟩ (fun (b4 : Int) => [(6, .c (.lit (.int .i64 (b4))))]) (fun (b4 : Int) => []) hl2 (by kernel_rfl) (by kernel_rfl) ?_ ?_
    · intro s3 x h hy2
      unfold F_messages_state_update_H00_l2 at h
      refine TS_go 2 ?_
      refine TS_draw (by kernel_rfl) ?_
      refine TD_go 4 ?_
      replace h := condO h
      rcases h with ⟨hb6, h⟩ | ⟨hb6, h⟩
      · refine TD_know 32 (b := true) hb6 trivial (by kernel_rfl) (by kernel_rfl) ?_
        refine TD_go 2 ?_
        replace h := bindO h
        obtain ⟨_e7, he7, h⟩ := h
        refine TD_idx (ecI .u8) he7 (by kernel_rfl) (by kernel_rfl) ?_
        refine TD_go 3 ?_
        replace h := chkO h
        obtain ⟨hc8, h⟩ := h
        refine TD_idxA 2 2 16 (i := s3) hc8 (by kernel_rfl) (by kernel_rfl) ?_
        refine TD_ldA .u8 2 16 (i := s3) v1.dst hc8 (by kernel_rfl) (by kernel_rfl) ?_
        refine TD_go 2 ?_
        refine TD_end (by kernel_rfl) ?_
        replace h := condO h
        rcases h with ⟨hb9, h⟩ | ⟨hb9, h⟩
        · refine TS_know 31 (b := true) hb6 (by kernel_rfl) (by kernel_rfl) ?_
          refine TS_know 41 (b := true) hb9 (by kernel_rfl) (by kernel_rfl) ?_
          refine TS_know 42 (b := true) hb9 (by kernel_rfl) (by kernel_rfl) ?_
          refine TS_T (by kernel_rfl) rfl ?_
          refine TS_go 8 ?_
          have ret := Option.some.inj h
          subst ret
          exact TS_againB _ ⟨[(2, []), (3, []), (4, []), (5, []), (6, []), (2000000, [])], [(2, (2, [])), (3, (3, [])), (4, (4, [])), (1000001, (1000001, []))]⟩ rfl (by kernel_rfl) (by kernel_rfl)
        · refine TS_know 31 (b := true) hb6 (by kernel_rfl) (by kernel_rfl) ?_
          refine TS_know 41 (b := false) hb9 (by kernel_rfl) (by kernel_rfl) ?_
          refine TS_know 42 (b := false) hb9 (by kernel_rfl) (by kernel_rfl) ?_
          refine TS_F (by kernel_rfl) rfl ?_
          refine TS_go 2 ?_
          have ret := Option.some.inj h
          subst ret
          exact TS_brkB s3 ⟨[(2, []), (3, []), (4, []), (5, []), (6, []), (2000000, [])], [(2, (2, [])), (3, (3, [])), (4, (4, [])), (1000001, (1000001, []))]⟩ rfl (by kernel_rfl) (by kernel_rfl) (by kernel_rfl)
      · refine TD_know 32 (b := false) hb6 trivial (by kernel_rfl) (by kernel_rfl) ?_
        refine TD_go 10 ?_
        refine TD_end (by kernel_rfl) ?_
        refine TS_F (by kernel_rfl) rfl ?_
        refine TS_go 2 ?_
        have ret := Option.some.inj h
        subst ret
        exact TS_brkB s3 ⟨[(2, []), (3, []), (4, []), (5, []), (6, []), (2000000, [])], [(2, (2, [])), (3, (3, [])), (4, (4, [])), (1000001, (1000001, []))]⟩ rfl (by kernel_rfl) (by kernel_rfl) (by kernel_rfl)
    · intro b4 hb
      subst y5
      have h := hK2
      refine TS_go 15 ?_
      refine TS_litNT 57 5 1 (ecI .u8) [] ([IntKind.wrap .u8 b4, IntKind.wrap .u8 a1.To.Dst.Bits, IntKind.wrap .u8 a1.To.Src.Bits] : List Int) (by kernel_rfl) (by kernel_rfl) ?_
      refine TS_go 8 ?_
      replace h := bindO h
      obtain ⟨v11, hv11, h⟩ := h
      refine TS_con [[2]] [(62, 900000)] none (okT_octets_Append ([IntKind.wrap .u8 b4, IntKind.wrap .u8 a1.To.Dst.Bits, IntKind.wrap .u8 a1.To.Src.Bits] : List Int) (IntKind.wrap .u64 a1.Seq) 2 v11 hv11) (by kernel_rfl) (by kernel_rfl) (by kernel_rfl) ?_
      refine TS_go 8 ?_
      replace h := bindO h
      obtain ⟨v12, hv12, h⟩ := h
      refine TS_con [[2]] [(67, 900000)] none (okT_octets_Append v11 (IntKind.wrap .u64 a1.Metric) 2 v12 hv12) (by kernel_rfl) (by kernel_rfl) (by kernel_rfl) ?_
      refine TS_go 7 ?_
      replace h := bindO h
      obtain ⟨l13, hl13, h⟩ := h
      refine TS_sub (ecI .u8) 1 hl13 (by kernel_rfl) (by kernel_rfl) ?_
      replace h := bindO h
      obtain ⟨l14, hl14, h⟩ := h
      refine TS_appT (d := 67) (e := 5) (sz := 1) (N := List.length v12) (ecI .u8) (fun _ => by kernel_rfl) (l1 := v12) (l2 := l13) (c := .whole) hl14 (by kernel_rfl) (by kernel_rfl) ?_
      refine TS_go 8 ?_
      replace h := bindO h
      obtain ⟨v15, hv15, h⟩ := h
      refine TS_call [] (ok_messages_prefixBytes a1.To.Src v15 hv15) (by kernel_rfl) (by kernel_rfl) ?_
      replace h := bindO h
      obtain ⟨l16, hl16, h⟩ := h
      refine TS_appT (d := 67) (e := 5) (sz := 1) (N := List.length l14) (ecI .u8) (fun _ => by kernel_rfl) (l1 := l14) (l2 := v15) (c := .whole) hl16 (by kernel_rfl) (by kernel_rfl) ?_
      refine TS_go 15 ?_
      replace h := bindO h
      obtain ⟨v17, hv17, h⟩ := h
      refine TS_conG 1000001 [[], [], [2]] (ok_messages_state_element_H00 (S_messages_state.mk v1.elements v1.router a1.To.Dst.IP) 3 l16 v17 hv17) (by kernel_rfl) (by kernel_rfl) (by kernel_rfl) ?_
      refine TS_go 3 ?_
      have ret := Option.some.inj h
      subst ret
      exact TS_retG (sz1 := 1) (xs1 := List.map (ecI .u8) a0.elements) (by kernel_rfl) (by kernel_rfl) (by kernel_rfl) (by kernel_rfl)
  · refine TS_go 9 ?_
    replace h := condO h
    rcases h with ⟨hb18, h⟩ | ⟨hb18, h⟩
    · refine TS_know 13 (b := true) hb18 (by kernel_rfl) (by kernel_rfl) ?_
      refine TS_T (by kernel_rfl) rfl ?_
      refine TS_go 1 ?_
      refine TS_draw (by kernel_rfl) ?_
      refine TD_go 4 ?_
      replace h := bindO h
      obtain ⟨v19, hv19, h⟩ := h
      refine TD_conX (d := 18) (e := 900000) [[2]] (okT_octets_Append ([] : List Int) a1.To.Router 8 v19 hv19) (by kernel_rfl) (by kernel_rfl) ?_
      replace h := bindO h
      obtain ⟨v20, hv20, h⟩ := h
      refine TD_conG 1000001 [[], [], [2]] (ok_messages_state_element_H00 a0 6 v19 v20 hv20) (by kernel_rfl) (by kernel_rfl) (by kernel_rfl) ?_
      refine TD_go 1 ?_
      refine TD_end (by kernel_rfl) ?_
      refine TS_go 7 ?_
      exact TS_meet (S_messages_state.mk v20.elements a1.To.Router v20.dst) ⟨[(2, []), (3, []), (4, []), (2000000, [])], [(2, (2, [])), (3, (3, [])), (4, (4, [])), (1000001, (1000001, []))]⟩ h (by kernel_rfl) (by kernel_rfl)
    · refine TS_know 13 (b := false) hb18 (by kernel_rfl) (by kernel_rfl) ?_
      refine TS_F (by kernel_rfl) rfl ?_
      refine TS_go 1 ?_
      exact TS_meet a0 ⟨[(2, []), (3, []), (4, []), (2000000, [])], [(2, (2, [])), (3, (3, [])), (4, (4, [])), (1000001, (1000001, []))]⟩ h (by kernel_rfl) (by kernel_rfl)

/-- (multihop/messages.state).notice -/
noncomputable def F_messages_state_notice_H00_j1 (a1 : S_Notice) (a0 : S_messages_state) (v10 : (List Int) × Int) : Option (S_messages_state) :=
  (F_messages_prefixBytes a1.To.Dst).bind fun v11 =>
  (appO 1 v10.1 (Cut.app .whole v11)).bind fun l12 =>
  (F_messages_prefixBytes a1.To.Src).bind fun v13 =>
  (appO 1 l12 (Cut.app .whole v13)).bind fun l14 =>
  (F_messages_state_element_H00 a0 v10.2 l14).bind fun v15 =>
  some (v15)
noncomputable def F_messages_state_notice_H00 (a0 : S_messages_state) (a1 : S_Notice) : Option (S_messages_state) :=
  bif (a1.Kind == 1) then
    (F_octets_Append ([] : List Int) (IntKind.wrap .u64 a1.Seq) 2).bind fun v2 =>
    (F_messages_state_element_H00 a0 1 v2).bind fun v3 =>
    some (v3)
  else
    bif (a1.Kind == 2) then
      (F_octets_Append ([] : List Int) a1.Neighbour 8).bind fun v5 =>
      (F_octets_Append v5 (IntKind.wrap .u64 a1.Metric) 2).bind fun v6 =>
      (F_messages_state_element_H00 a0 2 v6).bind fun v7 =>
      some (v7)
    else
      bif (a1.Kind == 3) then
        (F_messages_state_update_H00 a0 a1).bind fun v9 =>
        some (v9)
      else
        bif (a1.Kind == 5) then
          (F_octets_Append ([IntKind.wrap .u8 a1.To.Dst.Bits, IntKind.wrap .u8 a1.To.Src.Bits] : List Int) (IntKind.wrap .u64 a1.Seq) 2).bind fun v17 =>
          (appO 1 v17 (Cut.app .whole ([IntKind.wrap .u8 a1.Hops] : List Int))).bind fun l18 =>
          (F_octets_Append l18 a1.To.Router 8).bind fun v19 =>
          (F_messages_state_notice_H00_j1 a1 a0) (v19, 5)
        else
          (F_messages_state_notice_H00_j1 a1 a0) (([IntKind.wrap .u8 a1.To.Dst.Bits, IntKind.wrap .u8 a1.To.Src.Bits] : List Int), 4)
set_option maxRecDepth 100000 in
set_option maxHeartbeats 40000000 in
theorem ok_messages_state_notice_H00 (a0 : S_messages_state) (a1 : S_Notice) (r : S_messages_state) (h : F_messages_state_notice_H00 a0 a1 = some r) : ConG Try.prog 46 [.agg [.slc 1 1000003 (List.length a0.elements) (List.map (ecI .u8) a0.elements), .lit (.int .u64 (a0.router)), .lit (.int .u8 ((a0.dst.getD 0 0))), .lit (.int .u8 ((a0.dst.getD 1 0))), .lit (.int .u8 ((a0.dst.getD 2 0))), .lit (.int .u8 ((a0.dst.getD 3 0))), .lit (.int .u8 ((a0.dst.getD 4 0))), .lit (.int .u8 ((a0.dst.getD 5 0))), .lit (.int .u8 ((a0.dst.getD 6 0))), .lit (.int .u8 ((a0.dst.getD 7 0))), .lit (.int .u8 ((a0.dst.getD 8 0))), .lit (.int .u8 ((a0.dst.getD 9 0))), .lit (.int .u8 ((a0.dst.getD 10 0))), .lit (.int .u8 ((a0.dst.getD 11 0))), .lit (.int .u8 ((a0.dst.getD 12 0))), .lit (.int .u8 ((a0.dst.getD 13 0))), .lit (.int .u8 ((a0.dst.getD 14 0))), .lit (.int .u8 ((a0.dst.getD 15 0)))], .agg (S_Notice.cs a1)] 5 1 (List.length a0.elements) (.agg [.slc 1 1000003 (List.length r.elements) (List.map (ecI .u8) r.elements), .lit (.int .u64 (r.router)), .lit (.int .u8 ((r.dst.getD 0 0))), .lit (.int .u8 ((r.dst.getD 1 0))), .lit (.int .u8 ((r.dst.getD 2 0))), .lit (.int .u8 ((r.dst.getD 3 0))), .lit (.int .u8 ((r.dst.getD 4 0))), .lit (.int .u8 ((r.dst.getD 5 0))), .lit (.int .u8 ((r.dst.getD 6 0))), .lit (.int .u8 ((r.dst.getD 7 0))), .lit (.int .u8 ((r.dst.getD 8 0))), .lit (.int .u8 ((r.dst.getD 9 0))), .lit (.int .u8 ((r.dst.getD 10 0))), .lit (.int .u8 ((r.dst.getD 11 0))), .lit (.int .u8 ((r.dst.getD 12 0))), .lit (.int .u8 ((r.dst.getD 13 0))), .lit (.int .u8 ((r.dst.getD 14 0))), .lit (.int .u8 ((r.dst.getD 15 0)))]) (List.length r.elements) := by
  unfold F_messages_state_notice_H00 at h
  refine con_ofGA [] 80 0 0 _ Try.func46 rfl rfl (by kernel_rfl) rfl rfl (fun K => ?_)
  refine TS_go 22 ?_
  replace h := condO h
  rcases h with ⟨hb1, h⟩ | ⟨hb1, h⟩
  · refine TS_know 10 (b := true) hb1 (by kernel_rfl) (by kernel_rfl) ?_
    refine TS_know 9 (b := true) hb1 (by kernel_rfl) (by kernel_rfl) ?_
    refine TS_T (by kernel_rfl) rfl ?_
    refine TS_go 1 ?_
    refine TS_draw (by kernel_rfl) ?_
    refine TD_go 4 ?_
    replace h := bindO h
    obtain ⟨v2, hv2, h⟩ := h
    refine TD_conX (d := 15) (e := 900000) [[2]] (okT_octets_Append ([] : List Int) (IntKind.wrap .u64 a1.Seq) 2 v2 hv2) (by kernel_rfl) (by kernel_rfl) ?_
    replace h := bindO h
    obtain ⟨v3, hv3, h⟩ := h
    refine TD_conG 1000001 [[], [], [2]] (ok_messages_state_element_H00 a0 1 v2 v3 hv3) (by kernel_rfl) (by kernel_rfl) (by kernel_rfl) ?_
    refine TD_go 1 ?_
    refine TD_end (by kernel_rfl) ?_
    refine TS_go 3 ?_
    have ret := Option.some.inj h
    subst ret
    exact TS_retG (sz1 := 1) (xs1 := List.map (ecI .u8) a0.elements) (by kernel_rfl) (by kernel_rfl) (by kernel_rfl) (by kernel_rfl)
  · refine TS_know 10 (b := false) hb1 (by kernel_rfl) (by kernel_rfl) ?_
    refine TS_know 9 (b := false) hb1 (by kernel_rfl) (by kernel_rfl) ?_
    refine TS_F (by kernel_rfl) rfl ?_
    refine TS_go 5 ?_
    replace h := condO h
    rcases h with ⟨hb4, h⟩ | ⟨hb4, h⟩
    · refine TS_know 18 (b := true) hb4 (by kernel_rfl) (by kernel_rfl) ?_
      refine TS_know 17 (b := true) hb4 (by kernel_rfl) (by kernel_rfl) ?_
      refine TS_T (by kernel_rfl) rfl ?_
      refine TS_go 5 ?_
      replace h := bindO h
      obtain ⟨v5, hv5, h⟩ := h
      refine TS_con [[2]] [(22, 900000)] none (okT_octets_Append ([] : List Int) a1.Neighbour 8 v5 hv5) (by kernel_rfl) (by kernel_rfl) (by kernel_rfl) ?_
      refine TS_go 3 ?_
      refine TS_draw (by kernel_rfl) ?_
      refine TD_go 5 ?_
      replace h := bindO h
      obtain ⟨v6, hv6, h⟩ := h
      refine TD_conX (d := 28) (e := 900000) [[2]] (okT_octets_Append v5 (IntKind.wrap .u64 a1.Metric) 2 v6 hv6) (by kernel_rfl) (by kernel_rfl) ?_
      replace h := bindO h
      obtain ⟨v7, hv7, h⟩ := h
      refine TD_conG 1000001 [[], [], [2]] (ok_messages_state_element_H00 a0 2 v6 v7 hv7) (by kernel_rfl) (by kernel_rfl) (by kernel_rfl) ?_
      refine TD_go 1 ?_
      refine TD_end (by kernel_rfl) ?_
      refine TS_go 3 ?_
      have ret := Option.some.inj h
      subst ret
      exact TS_retG (sz1 := 1) (xs1 := List.map (ecI .u8) a0.elements) (by kernel_rfl) (by kernel_rfl) (by kernel_rfl) (by kernel_rfl)
    · refine TS_know 18 (b := false) hb4 (by kernel_rfl) (by kernel_rfl) ?_
      refine TS_know 17 (b := false) hb4 (by kernel_rfl) (by kernel_rfl) ?_
      refine TS_F (by kernel_rfl) rfl ?_
      refine TS_go 5 ?_
      replace h := condO h
      rcases h with ⟨hb8, h⟩ | ⟨hb8, h⟩
      · refine TS_know 31 (b := true) hb8 (by kernel_rfl) (by kernel_rfl) ?_
        refine TS_know 30 (b := true) hb8 (by kernel_rfl) (by kernel_rfl) ?_
        refine TS_T (by kernel_rfl) rfl ?_
        refine TS_go 4 ?_
        replace h := bindO h
        obtain ⟨v9, hv9, h⟩ := h
        refine TS_conG 1000001 [] (ok_messages_state_update_H00 a0 a1 v9 hv9) (by kernel_rfl) (by kernel_rfl) (by kernel_rfl) ?_
        refine TS_go 5 ?_
        have ret := Option.some.inj h
        subst ret
        exact TS_retG (sz1 := 1) (xs1 := List.map (ecI .u8) a0.elements) (by kernel_rfl) (by kernel_rfl) (by kernel_rfl) (by kernel_rfl)
      · refine TS_know 31 (b := false) hb8 (by kernel_rfl) (by kernel_rfl) ?_
        refine TS_know 30 (b := false) hb8 (by kernel_rfl) (by kernel_rfl) ?_
        refine TS_F (by kernel_rfl) rfl ?_
        refine TS_go 18 ?_
        refine TS_litNT 45 5 1 (ecI .u8) [] ([IntKind.wrap .u8 a1.To.Dst.Bits, IntKind.wrap .u8 a1.To.Src.Bits] : List Int) (by kernel_rfl) (by kernel_rfl) ?_
        refine TS_go 2 ?_
        refine TS_cut ⟨[(2000000, []), (2, []), (3, []), (4, []), (5, []), (6, [])], [(1000001, (1000001, [])), (2, (2, [])), (3, (3, [])), (4, (4, [])), (45, (45, []))]⟩ (.mk [.code (codeAt [1, 1, 1, 1, 1] (bodyOf Try.f46))] .normal ⟨[(2000000, .c (.slc 1 1000003 (List.length a0.elements) (List.map (ecI .u8) a0.elements))), (2, .c (.box 2 0)), (3, .c (.box 3 0)), (4, .c (.box 4 0)), (5, .c (.slc 1 47 (List.length ([IntKind.wrap .u8 a1.To.Dst.Bits, IntKind.wrap .u8 a1.To.Src.Bits] : List Int)) (List.map (ecI .u8) ([IntKind.wrap .u8 a1.To.Dst.Bits, IntKind.wrap .u8 a1.To.Src.Bits] : List Int)))), (6, .c (.lit (.int .u8 (4))))], [(1000001, .spare 5 1 (List.length a0.elements)), (2, .box [.slc 1 1000003 (List.length a0.elements) (List.map (ecI .u8) a0.elements), .lit (.int .u64 (a0.router)), .lit (.int .u8 ((a0.dst.getD 0 0))), .lit (.int .u8 ((a0.dst.getD 1 0))), .lit (.int .u8 ((a0.dst.getD 2 0))), .lit (.int .u8 ((a0.dst.getD 3 0))), .lit (.int .u8 ((a0.dst.getD 4 0))), .lit (.int .u8 ((a0.dst.getD 5 0))), .lit (.int .u8 ((a0.dst.getD 6 0))), .lit (.int .u8 ((a0.dst.getD 7 0))), .lit (.int .u8 ((a0.dst.getD 8 0))), .lit (.int .u8 ((a0.dst.getD 9 0))), .lit (.int .u8 ((a0.dst.getD 10 0))), .lit (.int .u8 ((a0.dst.getD 11 0))), .lit (.int .u8 ((a0.dst.getD 12 0))), .lit (.int .u8 ((a0.dst.getD 13 0))), .lit (.int .u8 ((a0.dst.getD 14 0))), .lit (.int .u8 ((a0.dst.getD 15 0)))]), (3, .box [.lit (.int .i64 (a1.Kind)), .lit (.int .u16 (a1.Seq)), .lit (.int .i64 (a1.Metric)), .lit (.int .u64 (a1.Neighbour)), .lit (.int .u8 ((a1.To.Dst.IP.getD 0 0))), .lit (.int .u8 ((a1.To.Dst.IP.getD 1 0))), .lit (.int .u8 ((a1.To.Dst.IP.getD 2 0))), .lit (.int .u8 ((a1.To.Dst.IP.getD 3 0))), .lit (.int .u8 ((a1.To.Dst.IP.getD 4 0))), .lit (.int .u8 ((a1.To.Dst.IP.getD 5 0))), .lit (.int .u8 ((a1.To.Dst.IP.getD 6 0))), .lit (.int .u8 ((a1.To.Dst.IP.getD 7 0))), .lit (.int .u8 ((a1.To.Dst.IP.getD 8 0))), .lit (.int .u8 ((a1.To.Dst.IP.getD 9 0))), .lit (.int .u8 ((a1.To.Dst.IP.getD 10 0))), .lit (.int .u8 ((a1.To.Dst.IP.getD 11 0))), .lit (.int .u8 ((a1.To.Dst.IP.getD 12 0))), .lit (.int .u8 ((a1.To.Dst.IP.getD 13 0))), .lit (.int .u8 ((a1.To.Dst.IP.getD 14 0))), .lit (.int .u8 ((a1.To.Dst.IP.getD 15 0))), .lit (.int .i64 (a1.To.Dst.Bits)), .lit (.int .u8 ((a1.To.Src.IP.getD 0 0))), .lit (.int .u8 ((a1.To.Src.IP.getD 1 0))), .lit (.int .u8 ((a1.To.Src.IP.getD 2 0))), .lit (.int .u8 ((a1.To.Src.IP.getD 3 0))), .lit (.int .u8 ((a1.To.Src.IP.getD 4 0))), .lit (.int .u8 ((a1.To.Src.IP.getD 5 0))), .lit (.int .u8 ((a1.To.Src.IP.getD 6 0))), .lit (.int .u8 ((a1.To.Src.IP.getD 7 0))), .lit (.int .u8 ((a1.To.Src.IP.getD 8 0))), .lit (.int .u8 ((a1.To.Src.IP.getD 9 0))), .lit (.int .u8 ((a1.To.Src.IP.getD 10 0))), .lit (.int .u8 ((a1.To.Src.IP.getD 11 0))), .lit (.int .u8 ((a1.To.Src.IP.getD 12 0))), .lit (.int .u8 ((a1.To.Src.IP.getD 13 0))), .lit (.int .u8 ((a1.To.Src.IP.getD 14 0))), .lit (.int .u8 ((a1.To.Src.IP.getD 15 0))), .lit (.int .i64 (a1.To.Src.Bits)), .lit (.int .u64 (a1.To.Router)), .lit (.int .i64 (a1.Hops))]), (4, .box [.lit (.slice none 0 0), .lit (.int .u64 (0)), .lit (.int .u8 (0)), .lit (.int .u8 (0)), .lit (.int .u8 (0)), .lit (.int .u8 (0)), .lit (.int .u8 (0)), .lit (.int .u8 (0)), .lit (.int .u8 (0)), .lit (.int .u8 (0)), .lit (.int .u8 (0)), .lit (.int .u8 (0)), .lit (.int .u8 (0)), .lit (.int .u8 (0)), .lit (.int .u8 (0)), .lit (.int .u8 (0)), .lit (.int .u8 (0)), .lit (.int .u8 (0))]), (45, .spare 5 1 (List.length ([IntKind.wrap .u8 a1.To.Dst.Bits, IntKind.wrap .u8 a1.To.Src.Bits] : List Int)))]⟩) (by kernel_rfl) (by kernel_rfl) ?_
        refine TS_joinB ⟨[(2, []), (3, []), (4, []), (5, []), (6, []), (2000000, [])], [(2, (2, [])), (3, (3, [])), (4, (4, [])), (45, (45, [])), (1000001, (1000001, []))]⟩ (fun (v10 : (List Int) × Int) => [(5, .c (.slc 1 47 (List.length v10.1) (List.map (ecI .u8) v10.1))), (6, .c (.lit (.int .u8 (v10.2))))]) (fun (v10 : (List Int) × Int) => [(45, .spare 5 1 (List.length v10.1))]) (F_messages_state_notice_H00_j1 a1 a0) r ?_ ?_
        · clear h
          intro v10 h
          unfold F_messages_state_notice_H00_j1 at h
          refine TS_go 6 ?_
          replace h := bindO h
          obtain ⟨v11, hv11, h⟩ := h
          refine TS_call [] (ok_messages_prefixBytes a1.To.Dst v11 hv11) (by kernel_rfl) (by kernel_rfl) ?_
          replace h := bindO h
          obtain ⟨l12, hl12, h⟩ := h
          refine TS_appT (d := 45) (e := 5) (sz := 1) (N := List.length v10.1) (ecI .u8) (fun _ => by kernel_rfl) (l1 := v10.1) (l2 := v11) (c := .whole) hl12 (by kernel_rfl) (by kernel_rfl) ?_
          refine TS_go 3 ?_
          refine TS_draw (by kernel_rfl) ?_
          refine TD_go 6 ?_
          replace h := bindO h
          obtain ⟨v13, hv13, h⟩ := h
          refine TD_call [] (ok_messages_prefixBytes a1.To.Src v13 hv13) (by kernel_rfl) (by kernel_rfl) ?_
          replace h := bindO h
          obtain ⟨l14, hl14, h⟩ := h
          refine TD_appT (d := 45) (e := 5) (sz := 1) (N := List.length l12) (ecI .u8) (fun _ => by kernel_rfl) (l1 := l12) (l2 := v13) (c := .whole) hl14 (by kernel_rfl) (by kernel_rfl) ?_
          replace h := bindO h
          obtain ⟨v15, hv15, h⟩ := h
          refine TD_conG 1000001 [[], [], [2]] (ok_messages_state_element_H00 a0 v10.2 l14 v15 hv15) (by kernel_rfl) (by kernel_rfl) (by kernel_rfl) ?_
          refine TD_go 1 ?_
          refine TD_end (by kernel_rfl) ?_
          refine TS_go 1 ?_
          have ret := Option.some.inj h
          subst ret
          exact TS_retG (sz1 := 1) (xs1 := List.map (ecI .u8) a0.elements) (by kernel_rfl) (by kernel_rfl) (by kernel_rfl) (by kernel_rfl)
        · refine TS_go 6 ?_
          replace h := condO h
          rcases h with ⟨hb16, h⟩ | ⟨hb16, h⟩
          · refine TS_know 48 (b := true) hb16 (by kernel_rfl) (by kernel_rfl) ?_
            refine TS_T (by kernel_rfl) rfl ?_
            refine TS_go 10 ?_
            replace h := bindO h
            obtain ⟨v17, hv17, h⟩ := h
            refine TS_con [[2]] [(53, 900000)] none (okT_octets_Append ([IntKind.wrap .u8 a1.To.Dst.Bits, IntKind.wrap .u8 a1.To.Src.Bits] : List Int) (IntKind.wrap .u64 a1.Seq) 2 v17 hv17) (by kernel_rfl) (by kernel_rfl) (by kernel_rfl) ?_
            refine TS_go 8 ?_
            refine TS_litNT 58 5 1 (ecI .u8) [] ([IntKind.wrap .u8 a1.Hops] : List Int) (by kernel_rfl) (by kernel_rfl) ?_
            replace h := bindO h
            obtain ⟨l18, hl18, h⟩ := h
            refine TS_appT (d := 53) (e := 5) (sz := 1) (N := List.length v17) (ecI .u8) (fun _ => by kernel_rfl) (l1 := v17) (l2 := ([IntKind.wrap .u8 a1.Hops] : List Int)) (c := .whole) hl18 (by kernel_rfl) (by kernel_rfl) ?_
            refine TS_go 7 ?_
            replace h := bindO h
            obtain ⟨v19, hv19, h⟩ := h
            refine TS_con [[2]] [(64, 900000)] none (okT_octets_Append l18 a1.To.Router 8 v19 hv19) (by kernel_rfl) (by kernel_rfl) (by kernel_rfl) ?_
            refine TS_go 2 ?_
            exact TS_meet (v19, 5) ⟨[(2, []), (3, []), (4, []), (5, []), (6, []), (2000000, [])], [(2, (2, [])), (3, (3, [])), (4, (4, [])), (64, (45, [])), (1000001, (1000001, []))]⟩ h (by kernel_rfl) (by kernel_rfl)
          · refine TS_know 48 (b := false) hb16 (by kernel_rfl) (by kernel_rfl) ?_
            refine TS_F (by kernel_rfl) rfl ?_
            refine TS_go 1 ?_
            exact TS_meet (([IntKind.wrap .u8 a1.To.Dst.Bits, IntKind.wrap .u8 a1.To.Src.Bits] : List Int), 4) ⟨[(2, []), (3, []), (4, []), (5, []), (6, []), (2000000, [])], [(2, (2, [])), (3, (3, [])), (4, (4, [])), (45, (45, [])), (1000001, (1000001, []))]⟩ h (by kernel_rfl) (by kernel_rfl)

/-- (multihop/messages.state).packet -/
noncomputable def F_messages_state_packet (a0 : S_messages_state) (a1 : Int) : Option ((List Int)) :=
  (F_octets_Append ([42, 1] : List Int) (IntKind.wrap .u64 a1) 5).bind fun v1 =>
  (F_octets_Append v1 (IntKind.wrap .u64 (List.length a0.elements : Int)) 2).bind fun v2 =>
  (appO 1 v2 (Cut.app .whole a0.elements)).bind fun l3 =>
  some (l3)
set_option maxRecDepth 100000 in
set_option maxHeartbeats 40000000 in
theorem okT_messages_state_packet (a0 : S_messages_state) (a1 : Int) (r : (List Int)) (h : F_messages_state_packet a0 a1 = some r) : Con Try.prog 47 [.agg (S_messages_state.cs a0), .c (.lit (.int .i64 (a1)))] [] (.c (.slc 1 900002 (List.length r) (List.map (ecI .u8) r))) [(900000, .spare 5 1 (List.length r))] := by
  unfold F_messages_state_packet at h
  refine con_of [] [(900000, [])] 20 Try.func47 rfl rfl (by kernel_rfl) (fun K => ?_)
  refine TS_go 7 ?_
  refine TS_litNT 6 5 1 (ecI .u8) [] ([42, 1] : List Int) (by kernel_rfl) (by kernel_rfl) ?_
  refine TS_go 2 ?_
  replace h := bindO h
  obtain ⟨v1, hv1, h⟩ := h
  refine TS_con [[2]] [(9, 900000)] none (okT_octets_Append ([42, 1] : List Int) (IntKind.wrap .u64 a1) 5 v1 hv1) (by kernel_rfl) (by kernel_rfl) (by kernel_rfl) ?_
  refine TS_go 9 ?_
  replace h := bindO h
  obtain ⟨v2, hv2, h⟩ := h
  refine TS_con [[2]] [(15, 900000)] none (okT_octets_Append v1 (IntKind.wrap .u64 (List.length a0.elements : Int)) 2 v2 hv2) (by kernel_rfl) (by kernel_rfl) (by kernel_rfl) ?_
  refine TS_go 7 ?_
  replace h := bindO h
  obtain ⟨_l3, hl3, h⟩ := h
  refine TS_appT (d := 15) (e := 5) (sz := 1) (N := List.length v2) (ecI .u8) (fun _ => by kernel_rfl) (l1 := v2) (l2 := a0.elements) (c := .whole) hl3 (by kernel_rfl) (by kernel_rfl) ?_
  refine TS_go 2 ?_
  refine TS_fitU ⟨[(4, [])], [(15, (900000, []))]⟩ (by kernel_rfl) ?_
  refine TS_go 1 ?_
  have ret := Option.some.inj h
  subst ret
  exact TS_ret (by kernel_rfl) (by kernel_rfl) (by kernel_rfl)
/-- multihop/messages.Encode -/
noncomputable def F_messages_Encode_l1 (a1 : List S_Notice) (s6 : Int × S_messages_state) : Option ((Int × S_messages_state) ⊕ (S_messages_state)) :=
  bif (decide (s6.1 < (List.length a1 : Int))) then
    (idx a1 s6.1).bind fun e10 =>
    (F_messages_state_notice_H00 s6.2 e10).bind fun v11 =>
    some (Sum.inl (IntKind.wrap .i64 (s6.1 + 1), v11))
  else
    some (Sum.inr s6.2)
noncomputable def F_messages_Encode (a0 : Int) (a1 : List S_Notice) : Option ((List Int) × Int) :=
  bif (decide ((List.length a1 : Int) > 64)) then
    some ((([] : List Int), 3))
  else
    (F_messages_allValid a1).bind fun v2 =>
    bif v2 then
      (F_messages_isCreation a0).bind fun v4 =>
      bif v4 then
        (loopO (F_messages_Encode_l1 a1) (0, (S_messages_state.mk ([] : List Int) 0 [0, 0, 0, 0, 0, 0, 0, 0, 0, 0, 0, 0, 0, 0, 0, 0]))).bind fun b7 =>
        (F_messages_state_packet b7 a0).bind fun v13 =>
        some ((v13, 0))
      else
        some ((([] : List Int), 2))
    else
      some ((([] : List Int), 1))
set_option maxRecDepth 100000 in
set_option maxHeartbeats 40000000 in
theorem okT_messages_Encode (a0 : Int) (a1 : List S_Notice) (r : (List Int) × Int) (h : F_messages_Encode a0 a1 = some r) : Con Try.prog 21 [.c (.lit (.int .i64 (a0))), .c (eS 40 S_Notice.cs (a1))] [] (.tup [(false, [.slc 1 900002 (List.length r.1) (List.map (ecI .u8) r.1)]), (false, [.lit (.int .i64 (r.2))])]) [(900000, .spare 5 1 (List.length r.1))] := by
  unfold F_messages_Encode at h
  refine con_of [] [(900000, [])] 31 Try.func21 rfl rfl (by kernel_rfl) (fun K => ?_)
  refine TS_go 12 ?_
  replace h := condO h
  rcases h with ⟨hb1, h⟩ | ⟨hb1, h⟩
  · refine TS_know 11 (b := true) hb1 (by kernel_rfl) (by kernel_rfl) ?_
    refine TS_T (by kernel_rfl) rfl ?_
    refine TS_go 5 ?_
    refine TS_nilT 4 600000 5 1 (by kernel_rfl) ?_
    refine TS_fitU ⟨[(4, []), (5, [])], [(600000, (900000, []))]⟩ (by kernel_rfl) ?_
    refine TS_go 2 ?_
    have ret := Option.some.inj h
    subst ret
    exact TS_ret (by kernel_rfl) (by kernel_rfl) (by kernel_rfl)
  · refine TS_know 11 (b := false) hb1 (by kernel_rfl) (by kernel_rfl) ?_
    refine TS_F (by kernel_rfl) rfl ?_
    refine TS_go 5 ?_
    replace h := bindO h
    obtain ⟨v2, hv2, h⟩ := h
    refine TS_call [] (ok_messages_allValid a1 v2 hv2) (by kernel_rfl) (by kernel_rfl) ?_
    refine TS_go 2 ?_
    replace h := condO h
    rcases h with ⟨hb3, h⟩ | ⟨hb3, h⟩
    · subst hb3
      refine TS_F (by kernel_rfl) rfl ?_
      refine TS_go 5 ?_
      replace h := bindO h
      obtain ⟨v4, hv4, h⟩ := h
      refine TS_call [] (ok_messages_isCreation a0 v4 hv4) (by kernel_rfl) (by kernel_rfl) ?_
      refine TS_go 2 ?_
      replace h := condO h
      rcases h with ⟨hb5, h⟩ | ⟨hb5, h⟩
      · subst hb5
        refine TS_F (by kernel_rfl) rfl ?_
        refine TS_go 13 ?_
        refine TS_nilB 6 0 600000 5 1 (by kernel_rfl) ?_
        refine TS_cut ⟨[(0, []), (6, []), (18, []), (19, []), (20, [])], [(6, (6, [])), (600000, (600000, []))]⟩ (.mk [.code (codeAt [1, 1, 1, 1, 1, 0, 1, 0] (bodyOf Try.f21)), .blk 0, .code (codeAt [1, 1, 1, 1, 1, 1] (bodyOf Try.f21))] .normal ⟨[(0, .c (.lit (.int .i64 (a0)))), (6, .c (.box 6 0)), (18, .c (.slc 40 0 (List.length a1) (List.map S_Notice.cs a1))), (19, .c (.lit (.int .i64 ((List.length a1 : Int))))), (20, .c (.lit (.int .i64 (0))))], [(6, .box [.slc 1 600002 (List.length ([] : List Int)) (List.map (ecI .u8) ([] : List Int)), .lit (.int .u64 (0)), .lit (.int .u8 (0)), .lit (.int .u8 (0)), .lit (.int .u8 (0)), .lit (.int .u8 (0)), .lit (.int .u8 (0)), .lit (.int .u8 (0)), .lit (.int .u8 (0)), .lit (.int .u8 (0)), .lit (.int .u8 (0)), .lit (.int .u8 (0)), .lit (.int .u8 (0)), .lit (.int .u8 (0)), .lit (.int .u8 (0)), .lit (.int .u8 (0)), .lit (.int .u8 (0)), .lit (.int .u8 (0))]), (600000, .spare 5 1 (List.length ([] : List Int)))]⟩) (by kernel_rfl) (by kernel_rfl) ?_
        replace h := bindO h
        obtain ⟨y8, hl1, hK1⟩ := h
        refine TS_loopB (F_messages_Encode_l1 a1) ⟨[(0, []), (6, []), (18, []), (19, []), (20, [])], [(6, (6, [])), (600000, (600000, []))]⟩ (fun (s6 : Int × S_messages_state) => [(20, .c (.lit (.int .i64 (s6.1))))]) (fun (s6 : Int × S_messages_state) => [(6, .box [.slc 1 600002 (List.length s6.2.elements) (List.map (ecI .u8) s6.2.elements), .lit (.int .u64 (s6.2.router)), .lit (.int .u8 ((s6.2.dst.getD 0 0))), .lit (.int .u8 ((s6.2.dst.getD 1 0))), .lit (.int .u8 ((s6.2.dst.getD 2 0))), .lit (.int .u8 ((s6.2.dst.getD 3 0))), .lit (.int .u8 ((s6.2.dst.getD 4 0))), .lit (.int .u8 ((s6.2.dst.getD 5 0))), .lit (.int .u8 ((s6.2.dst.getD 6 0))), .lit (.int .u8 ((s6.2.dst.getD 7 0))), .lit (.int .u8 ((s6.2.dst.getD 8 0))), .lit (.int .u8 ((s6.2.dst.getD 9 0))), .lit (.int .u8 ((s6.2.dst.getD 10 0))), .lit (.int .u8 ((s6.2.dst.getD 11 0))), .lit (.int .u8 ((s6.2.dst.getD 12 0))), .lit (.int .u8 ((s6.2.dst.getD 13 0))), .lit (.int .u8 ((s6.2.dst.getD 14 0))), .lit (.int .u8 ((s6.2.dst.getD 15 0)))]), (600000, .spare 5 1 (List.length s6.2.elements))]) (0, (S_messages_state.mk ([] : List Int) 0 [0, 0, 0, 0, 0, 0, 0, 0, 0, 0, 0, 0, 0, 0, 0, 0])) y8 (.exit 0) (fun (b : S_messages_state) => b) ⟨[(0, []), (6, [])], [(6, (6, [])), (600000, (600000, []))]⟩ (fun (b7 : S_messages_state) => []) (fun (b7 : S_messages_state) => [(6, .box [.slc 1 600002 (List.length b7.elements) (List.map (ecI .u8) b7.elements), .lit (.int .u64 (b7.router)), .lit (.int .u8 ((b7.dst.getD 0 0))), .lit (.int .u8 ((b7.dst.getD 1 0))), .lit (.int .u8 ((b7.dst.getD 2 0))), .lit (.int .u8 ((b7.dst.getD 3 0))), .lit (.int .u8 ((b7.dst.getD 4 0))), .lit (.int .u8 ((b7.dst.getD 5 0))), .lit (.int .u8 ((b7.dst.getD 6 0))), .lit (.int .u8 ((b7.dst.getD 7 0))), .lit (.int .u8 ((b7.dst.getD 8 0))), .lit (.int .u8 ((b7.dst.getD 9 0))), .lit (.int .u8 ((b7.dst.getD 10 0))), .lit (.int .u8 ((b7.dst.getD 11 0))), .lit (.int .u8 ((b7.dst.getD 12 0))), .lit (.int .u8 ((b7.dst.getD 13 0))), .lit (.int .u8 ((b7.dst.getD 14 0))), .lit (.int .u8 ((b7.dst.getD 15 0)))]), (600000, .spare 5 1 (List.length b7.elements))]) hl1 (by kernel_rfl) (by kernel_rfl) ?_ ?_
        · intro s6 x h hy1
          unfold F_messages_Encode_l1 at h
          refine TS_go 5 ?_
          replace h := condO h
          rcases h with ⟨hb9, h⟩ | ⟨hb9, h⟩
          · refine TS_know 21 (b := true) hb9 (by kernel_rfl) (by kernel_rfl) ?_
            refine TS_T (by kernel_rfl) rfl ?_
            refine TS_go 5 ?_
            replace h := bindO h
            obtain ⟨e10, he10, h⟩ := h
            refine TS_idx S_Notice.cs he10 (by kernel_rfl) (by kernel_rfl) ?_
            refine TS_go 7 ?_
            replace h := bindO h
            obtain ⟨v11, hv11, h⟩ := h
            refine TS_conG 600000 [] (ok_messages_state_notice_H00 s6.2 e10 v11 hv11) (by kernel_rfl) (by kernel_rfl) (by kernel_rfl) ?_
            refine TS_go 7 ?_
            have ret := Option.some.inj h
            subst ret
            exact TS_againB _ ⟨[(0, []), (6, []), (18, []), (19, []), (20, [])], [(6, (6, [])), (600000, (600000, []))]⟩ rfl (by kernel_rfl) (by kernel_rfl)
          · refine TS_know 21 (b := false) hb9 (by kernel_rfl) (by kernel_rfl) ?_
            refine TS_F (by kernel_rfl) rfl ?_
            refine TS_go 2 ?_
            have ret := Option.some.inj h
            subst ret
            exact TS_brkB s6.2 ⟨[(0, []), (6, [])], [(6, (6, [])), (600000, (600000, []))]⟩ rfl (by kernel_rfl) (by kernel_rfl) (by kernel_rfl)
        · intro b7 hb
          subst y8
          have h := hK1
          refine TS_go 5 ?_
          replace h := bindO h
          obtain ⟨v13, hv13, h⟩ := h
          refine TS_con [[2]] [(30, 900000)] none (okT_messages_state_packet b7 a0 v13 hv13) (by kernel_rfl) (by kernel_rfl) (by kernel_rfl) ?_
          refine TS_go 3 ?_
          refine TS_fitU ⟨[(4, []), (5, [])], [(30, (900000, []))]⟩ (by kernel_rfl) ?_
          refine TS_go 1 ?_
          have ret := Option.some.inj h
          subst ret
          exact TS_ret (by kernel_rfl) (by kernel_rfl) (by kernel_rfl)
      · subst hb5
        refine TS_T (by kernel_rfl) rfl ?_
        refine TS_go 5 ?_
        refine TS_nilT 4 600000 5 1 (by kernel_rfl) ?_
        refine TS_fitU ⟨[(4, []), (5, [])], [(600000, (900000, []))]⟩ (by kernel_rfl) ?_
        refine TS_go 2 ?_
        have ret := Option.some.inj h
        subst ret
        exact TS_ret (by kernel_rfl) (by kernel_rfl) (by kernel_rfl)
    · subst hb3
      refine TS_T (by kernel_rfl) rfl ?_
      refine TS_go 5 ?_
      refine TS_nilT 4 600000 5 1 (by kernel_rfl) ?_
      refine TS_fitU ⟨[(4, []), (5, [])], [(600000, (900000, []))]⟩ (by kernel_rfl) ?_
      refine TS_go 2 ?_
      have ret := Option.some.inj h
      subst ret
      exact TS_ret (by kernel_rfl) (by kernel_rfl) (by kernel_rfl)
/-- multihop/octets.Uint -/
noncomputable def F_octets_Uint_l1 (l5 : List Int) (s6 : Int × Int) : Option ((Int × Int) ⊕ (Int)) :=
  bif (decide (s6.2 < (List.length l5 : Int))) then
    (idx l5 s6.2).bind fun e10 =>
    some (Sum.inl (ior .u64 (ishl .u64 s6.1 8) (IntKind.wrap .u64 e10), IntKind.wrap .i64 (s6.2 + 1)))
  else
    some (Sum.inr s6.1)
noncomputable def F_octets_Uint (a0 : List Int) (a1 : Int) (a2 : Int) : Option (Int × Bool) :=
  bif (decide (a2 < 1)) then
    some ((0, false))
  else
    bif (decide (a2 > 8)) then
      some ((0, false))
    else
      bif (decide (a1 < 0)) then
        some ((0, false))
      else
        bif (decide (a1 > (IntKind.wrap .i64 ((List.length a0 : Int) - a2)))) then
          some ((0, false))
        else
          (subO a0 a1 (IntKind.wrap .i64 (a1 + a2))).bind fun l5 =>
          (loopO (F_octets_Uint_l1 l5) (0, 0)).bind fun b7 =>
          some ((b7, true))
set_option maxRecDepth 100000 in
set_option maxHeartbeats 40000000 in
theorem ok_octets_Uint (a0 : List Int) (a1 : Int) (a2 : Int) (r : Int × Bool) (h : F_octets_Uint a0 a1 a2 = some r) : Con Try.prog 48 [.c (eS 1 (ecI .u8) (a0)), .c (.lit (.int .i64 (a1))), .c (.lit (.int .i64 (a2)))] [] (.tup [(false, [.lit (.int .u64 (r.1))]), (false, [.lit (.bool (r.2))])]) [] := by
  unfold F_octets_Uint at h
  refine con_of [] [] 47 Try.func48 rfl rfl (by kernel_rfl) (fun K => ?_)
  refine TS_go 11 ?_
  replace h := condO h
  rcases h with ⟨hb1, h⟩ | ⟨hb1, h⟩
  · refine TS_know 12 (b := true) hb1 (by kernel_rfl) (by kernel_rfl) ?_
    refine TS_know 13 (b := true) hb1 (by kernel_rfl) (by kernel_rfl) ?_
    refine TS_go 16 ?_
    refine TS_T (by kernel_rfl) rfl ?_
    refine TS_go 7 ?_
    have ret := Option.some.inj h
    subst ret
    exact TS_ret (by kernel_rfl) (by kernel_rfl) (by kernel_rfl)
  · refine TS_know 12 (b := false) hb1 (by kernel_rfl) (by kernel_rfl) ?_
    refine TS_know 13 (b := false) hb1 (by kernel_rfl) (by kernel_rfl) ?_
    refine TS_go 4 ?_
    replace h := condO h
    rcases h with ⟨hb2, h⟩ | ⟨hb2, h⟩
    · refine TS_know 15 (b := true) hb2 (by kernel_rfl) (by kernel_rfl) ?_
      refine TS_know 16 (b := true) hb2 (by kernel_rfl) (by kernel_rfl) ?_
      refine TS_know 17 (b := true) hb2 (by kernel_rfl) (by kernel_rfl) ?_
      refine TS_go 12 ?_
      refine TS_T (by kernel_rfl) rfl ?_
      refine TS_go 7 ?_
      have ret := Option.some.inj h
      subst ret
      exact TS_ret (by kernel_rfl) (by kernel_rfl) (by kernel_rfl)
    · refine TS_know 15 (b := false) hb2 (by kernel_rfl) (by kernel_rfl) ?_
      refine TS_know 16 (b := false) hb2 (by kernel_rfl) (by kernel_rfl) ?_
      refine TS_know 17 (b := false) hb2 (by kernel_rfl) (by kernel_rfl) ?_
      refine TS_go 4 ?_
      replace h := condO h
      rcases h with ⟨hb3, h⟩ | ⟨hb3, h⟩
      · refine TS_know 19 (b := true) hb3 (by kernel_rfl) (by kernel_rfl) ?_
        refine TS_know 20 (b := true) hb3 (by kernel_rfl) (by kernel_rfl) ?_
        refine TS_know 21 (b := true) hb3 (by kernel_rfl) (by kernel_rfl) ?_
        refine TS_go 8 ?_
        refine TS_T (by kernel_rfl) rfl ?_
        refine TS_go 7 ?_
        have ret := Option.some.inj h
        subst ret
        exact TS_ret (by kernel_rfl) (by kernel_rfl) (by kernel_rfl)
      · refine TS_know 19 (b := false) hb3 (by kernel_rfl) (by kernel_rfl) ?_
        refine TS_know 20 (b := false) hb3 (by kernel_rfl) (by kernel_rfl) ?_
        refine TS_know 21 (b := false) hb3 (by kernel_rfl) (by kernel_rfl) ?_
        refine TS_go 8 ?_
        replace h := condO h
        rcases h with ⟨hb4, h⟩ | ⟨hb4, h⟩
        · refine TS_know 27 (b := true) hb4 (by kernel_rfl) (by kernel_rfl) ?_
          refine TS_know 28 (b := true) hb4 (by kernel_rfl) (by kernel_rfl) ?_
          refine TS_T (by kernel_rfl) rfl ?_
          refine TS_go 7 ?_
          have ret := Option.some.inj h
          subst ret
          exact TS_ret (by kernel_rfl) (by kernel_rfl) (by kernel_rfl)
        · refine TS_know 27 (b := false) hb4 (by kernel_rfl) (by kernel_rfl) ?_
          refine TS_know 28 (b := false) hb4 (by kernel_rfl) (by kernel_rfl) ?_
          refine TS_F (by kernel_rfl) rfl ?_
          refine TS_go 13 ?_
          replace h := bindO h
          obtain ⟨l5, hl5, h⟩ := h
          refine TS_sub (ecI .u8) 1 hl5 (by kernel_rfl) (by kernel_rfl) ?_
          refine TS_go 4 ?_
          refine TS_cut ⟨[(8, []), (34, []), (35, []), (36, [])], []⟩ (.mk [.code (codeAt [1, 1, 1, 0, 1, 0] (bodyOf Try.f48)), .blk 0, .code (codeAt [1, 1, 1, 1] (bodyOf Try.f48))] .normal ⟨[(8, .c (.lit (.int .u64 (0)))), (34, .c (.slc 1 0 (List.length l5) (List.map (ecI .u8) l5))), (35, .c (.lit (.int .i64 ((List.length l5 : Int))))), (36, .c (.lit (.int .i64 (0))))], []⟩) (by kernel_rfl) (by kernel_rfl) ?_
          replace h := bindO h
          obtain ⟨y8, hl1, hK1⟩ := h
          refine TS_loopB (F_octets_Uint_l1 l5) ⟨[(8, []), (34, []), (35, []), (36, [])], []⟩ (fun (s6 : Int × Int) => [(8, .c (.lit (.int .u64 (s6.1)))), (36, .c (.lit (.int .i64 (s6.2))))]) (fun (s6 : Int × Int) => []) (0, 0) y8 (.exit 0) (fun (b : Int) => b) ⟨[(8, [])], []⟩ (fun (b7 : Int) => [(8, .c (.lit (.int .u64 (b7))))]) (fun (b7 : Int) => []) hl1 (by kernel_rfl) (by kernel_rfl) ?_ ?_
          · intro s6 x h hy1
            unfold F_octets_Uint_l1 at h
            refine TS_go 5 ?_
            replace h := condO h
            rcases h with ⟨hb9, h⟩ | ⟨hb9, h⟩
            · refine TS_know 37 (b := true) hb9 (by kernel_rfl) (by kernel_rfl) ?_
              refine TS_T (by kernel_rfl) rfl ?_
              refine TS_go 5 ?_
              replace h := bindO h
              obtain ⟨_e10, he10, h⟩ := h
              refine TS_idx (ecI .u8) he10 (by kernel_rfl) (by kernel_rfl) ?_
              refine TS_go 16 ?_
              have ret := Option.some.inj h
              subst ret
              exact TS_againB _ ⟨[(8, []), (34, []), (35, []), (36, [])], []⟩ rfl (by kernel_rfl) (by kernel_rfl)
            · refine TS_know 37 (b := false) hb9 (by kernel_rfl) (by kernel_rfl) ?_
              refine TS_F (by kernel_rfl) rfl ?_
              refine TS_go 2 ?_
              have ret := Option.some.inj h
              subst ret
              exact TS_brkB s6.1 ⟨[(8, [])], []⟩ rfl (by kernel_rfl) (by kernel_rfl) (by kernel_rfl)
          · intro b7 hb
            subst y8
            have h := hK1
            refine TS_go 8 ?_
            have ret := Option.some.inj h
            subst ret
            exact TS_ret (by kernel_rfl) (by kernel_rfl) (by kernel_rfl)

/-- multihop/messages.read1 -/
noncomputable def F_messages_read_1_R472 (a0 : Int) (a1 : Int) (a2 : List Int) : Option (Int) :=
  (F_octets_Uint a2 a0 a1).bind fun v1 =>
  some (v1.1)
set_option maxRecDepth 100000 in
set_option maxHeartbeats 40000000 in
theorem ok_messages_read_1_R472 (a0 : Int) (a1 : Int) (a2 : List Int) (r : Int) (h : F_messages_read_1_R472 a0 a1 a2 = some r) : Con Try.prog 71 [.c (.lit (.int .i64 (a0))), .c (.lit (.int .i64 (a1))), .c (.ref ([eS 1 (ecI .u8) (a2)]))] [] (.c (.lit (.int .u64 (r)))) [] := by
  unfold F_messages_read_1_R472 at h
  refine con_of [] [] 16 Try.func71 rfl rfl (by kernel_rfl) (fun K => ?_)
  refine TS_go 9 ?_
  replace h := bindO h
  obtain ⟨v1, hv1, h⟩ := h
  refine TS_call [] (ok_octets_Uint a2 a0 a1 v1 hv1) (by kernel_rfl) (by kernel_rfl) ?_
  refine TS_go 12 ?_
  have ret := Option.some.inj h
  subst ret
  exact TS_ret (by kernel_rfl) (by kernel_rfl) (by kernel_rfl)

/-- multihop/messages.prefixes -/
noncomputable def F_messages_prefixes (a0 : S_Notice) (a1 : Int) (a2 : Int) (a3 : Int) (a4 : List Int) (a5 : List Int) (a6 : Int) : Option (S_Notice × Bool) :=
  bif (decide (a1 > 128)) then
    some (((S_Notice.mk 0 0 0 0 (S_Destination.mk (S_Prefix.mk [0, 0, 0, 0, 0, 0, 0, 0, 0, 0, 0, 0, 0, 0, 0, 0] 0) (S_Prefix.mk [0, 0, 0, 0, 0, 0, 0, 0, 0, 0, 0, 0, 0, 0, 0, 0] 0) 0) 0), false))
  else
    bif (decide (a2 > 128)) then
      some (((S_Notice.mk 0 0 0 0 (S_Destination.mk (S_Prefix.mk [0, 0, 0, 0, 0, 0, 0, 0, 0, 0, 0, 0, 0, 0, 0, 0] 0) (S_Prefix.mk [0, 0, 0, 0, 0, 0, 0, 0, 0, 0, 0, 0, 0, 0, 0, 0] 0) 0) 0), false))
    else
      (F_messages_size (IntKind.wrap .i64 a1)).bind fun v3 =>
      bif (decide (a3 > (IntKind.wrap .u64 v3))) then
        some (((S_Notice.mk 0 0 0 0 (S_Destination.mk (S_Prefix.mk [0, 0, 0, 0, 0, 0, 0, 0, 0, 0, 0, 0, 0, 0, 0, 0] 0) (S_Prefix.mk [0, 0, 0, 0, 0, 0, 0, 0, 0, 0, 0, 0, 0, 0, 0, 0] 0) 0) 0), false))
      else
        bif (decide ((List.length a5 : Int) < a6)) then
          some (((S_Notice.mk 0 0 0 0 (S_Destination.mk (S_Prefix.mk [0, 0, 0, 0, 0, 0, 0, 0, 0, 0, 0, 0, 0, 0, 0, 0] 0) (S_Prefix.mk [0, 0, 0, 0, 0, 0, 0, 0, 0, 0, 0, 0, 0, 0, 0, 0] 0) 0) 0), false))
        else
          (F_messages_size (IntKind.wrap .i64 a1)).bind fun v6 =>
          (F_messages_size (IntKind.wrap .i64 a2)).bind fun v7 =>
          bif ((List.length a5 : Int) != (IntKind.wrap .i64 ((IntKind.wrap .i64 (a6 + (IntKind.wrap .i64 (v6 - (IntKind.wrap .i64 a3))))) + v7))) then
            some (((S_Notice.mk 0 0 0 0 (S_Destination.mk (S_Prefix.mk [0, 0, 0, 0, 0, 0, 0, 0, 0, 0, 0, 0, 0, 0, 0, 0] 0) (S_Prefix.mk [0, 0, 0, 0, 0, 0, 0, 0, 0, 0, 0, 0, 0, 0, 0, 0] 0) 0) 0), false))
          else
            (subO (arrL 16 a4) 0 (IntKind.wrap .i64 a3)).bind fun l9 =>
            bif decide ((0 : Int) ≤ (IntKind.wrap .i64 a3) ∧ (IntKind.wrap .i64 a3) ≤ (16 : Int) ∧ (16 : Int) ≤ (16 : Int)) then
              (subO a5 a6 (IntKind.wrap .i64 (a6 + (IntKind.wrap .i64 (v6 - (IntKind.wrap .i64 a3)))))).bind fun l11 =>
              bif decide ((Int.toNat (IntKind.wrap .i64 a3)) + (Int.toNat (16 : Int) - Int.toNat (IntKind.wrap .i64 a3)) ≤ 16) then
                (subO a5 (IntKind.wrap .i64 (a6 + (IntKind.wrap .i64 (v6 - (IntKind.wrap .i64 a3))))) (List.length a5 : Int)).bind fun l13 =>
                some (((S_Notice.mk a0.Kind a0.Seq a0.Metric a0.Neighbour (S_Destination.mk (S_Prefix.mk (cpAt 16 (cpA 16 a0.To.Dst.IP (Cut.app .whole l9)) (Int.toNat (IntKind.wrap .i64 a3)) (Int.toNat (16 : Int) - Int.toNat (IntKind.wrap .i64 a3)) (Cut.app .whole l11)) (IntKind.wrap .i64 a1)) (S_Prefix.mk (cpA 16 a0.To.Src.IP (Cut.app .whole l13)) (IntKind.wrap .i64 a2)) a0.To.Router) a0.Hops), true))
              else none
            else none
set_option maxRecDepth 100000 in
set_option maxHeartbeats 40000000 in
theorem ok_messages_prefixes (a0 : S_Notice) (a1 : Int) (a2 : Int) (a3 : Int) (a4 : List Int) (a5 : List Int) (a6 : Int) (r : S_Notice × Bool) (h : F_messages_prefixes a0 a1 a2 a3 a4 a5 a6 = some r) : Con Try.prog 72 [.agg (S_Notice.cs a0), .c (.lit (.int .u64 (a1))), .c (.lit (.int .u64 (a2))), .c (.lit (.int .u64 (a3))), .agg (arrS .u8 16 a4), .c (eS 1 (ecI .u8) (a5)), .c (.lit (.int .i64 (a6)))] [] (.tup [(true, S_Notice.cs r.1), (false, [.lit (.bool (r.2))])]) [] := by
  unfold F_messages_prefixes at h
  refine con_of [] [] 98 Try.func72 rfl rfl (by kernel_rfl) (fun K => ?_)
  refine TS_go 3 ?_
  refine TS_boxF (cs := [.lit (.int .u8 ((a4.getD 0 0))), .lit (.int .u8 ((a4.getD 1 0))), .lit (.int .u8 ((a4.getD 2 0))), .lit (.int .u8 ((a4.getD 3 0))), .lit (.int .u8 ((a4.getD 4 0))), .lit (.int .u8 ((a4.getD 5 0))), .lit (.int .u8 ((a4.getD 6 0))), .lit (.int .u8 ((a4.getD 7 0))), .lit (.int .u8 ((a4.getD 8 0))), .lit (.int .u8 ((a4.getD 9 0))), .lit (.int .u8 ((a4.getD 10 0))), .lit (.int .u8 ((a4.getD 11 0))), .lit (.int .u8 ((a4.getD 12 0))), .lit (.int .u8 ((a4.getD 13 0))), .lit (.int .u8 ((a4.getD 14 0))), .lit (.int .u8 ((a4.getD 15 0)))]) (by kernel_rfl) (by kernel_rfl) ?_
  refine TS_go 9 ?_
  replace h := condO h
  rcases h with ⟨hb1, h⟩ | ⟨hb1, h⟩
  · refine TS_know 19 (b := true) hb1 (by kernel_rfl) (by kernel_rfl) ?_
    refine TS_know 20 (b := true) hb1 (by kernel_rfl) (by kernel_rfl) ?_
    refine TS_go 18 ?_
    refine TS_T (by kernel_rfl) rfl ?_
    refine TS_go 8 ?_
    have ret := Option.some.inj h
    subst ret
    exact TS_ret (by kernel_rfl) (by kernel_rfl) (by kernel_rfl)
  · refine TS_know 19 (b := false) hb1 (by kernel_rfl) (by kernel_rfl) ?_
    refine TS_know 20 (b := false) hb1 (by kernel_rfl) (by kernel_rfl) ?_
    refine TS_go 4 ?_
    replace h := condO h
    rcases h with ⟨hb2, h⟩ | ⟨hb2, h⟩
    · refine TS_know 22 (b := true) hb2 (by kernel_rfl) (by kernel_rfl) ?_
      refine TS_know 23 (b := true) hb2 (by kernel_rfl) (by kernel_rfl) ?_
      refine TS_know 24 (b := true) hb2 (by kernel_rfl) (by kernel_rfl) ?_
      refine TS_go 14 ?_
      refine TS_T (by kernel_rfl) rfl ?_
      refine TS_go 8 ?_
      have ret := Option.some.inj h
      subst ret
      exact TS_ret (by kernel_rfl) (by kernel_rfl) (by kernel_rfl)
    · refine TS_know 22 (b := false) hb2 (by kernel_rfl) (by kernel_rfl) ?_
      refine TS_know 23 (b := false) hb2 (by kernel_rfl) (by kernel_rfl) ?_
      refine TS_know 24 (b := false) hb2 (by kernel_rfl) (by kernel_rfl) ?_
      refine TS_go 3 ?_
      replace h := bindO h
      obtain ⟨v3, hv3, h⟩ := h
      refine TS_call [] (ok_messages_size (IntKind.wrap .i64 a1) v3 hv3) (by kernel_rfl) (by kernel_rfl) ?_
      refine TS_go 4 ?_
      replace h := condO h
      rcases h with ⟨hb4, h⟩ | ⟨hb4, h⟩
      · refine TS_know 30 (b := true) hb4 (by kernel_rfl) (by kernel_rfl) ?_
        refine TS_know 31 (b := true) hb4 (by kernel_rfl) (by kernel_rfl) ?_
        refine TS_know 32 (b := true) hb4 (by kernel_rfl) (by kernel_rfl) ?_
        refine TS_go 6 ?_
        refine TS_T (by kernel_rfl) rfl ?_
        refine TS_go 8 ?_
        have ret := Option.some.inj h
        subst ret
        exact TS_ret (by kernel_rfl) (by kernel_rfl) (by kernel_rfl)
      · refine TS_know 30 (b := false) hb4 (by kernel_rfl) (by kernel_rfl) ?_
        refine TS_know 31 (b := false) hb4 (by kernel_rfl) (by kernel_rfl) ?_
        refine TS_know 32 (b := false) hb4 (by kernel_rfl) (by kernel_rfl) ?_
        refine TS_go 6 ?_
        replace h := condO h
        rcases h with ⟨hb5, h⟩ | ⟨hb5, h⟩
        · refine TS_know 36 (b := true) hb5 (by kernel_rfl) (by kernel_rfl) ?_
          refine TS_know 37 (b := true) hb5 (by kernel_rfl) (by kernel_rfl) ?_
          refine TS_T (by kernel_rfl) rfl ?_
          refine TS_go 8 ?_
          have ret := Option.some.inj h
          subst ret
          exact TS_ret (by kernel_rfl) (by kernel_rfl) (by kernel_rfl)
        · refine TS_know 36 (b := false) hb5 (by kernel_rfl) (by kernel_rfl) ?_
          refine TS_know 37 (b := false) hb5 (by kernel_rfl) (by kernel_rfl) ?_
          refine TS_F (by kernel_rfl) rfl ?_
          refine TS_go 7 ?_
          replace h := bindO h
          obtain ⟨v6, hv6, h⟩ := h
          refine TS_call [] (ok_messages_size (IntKind.wrap .i64 a1) v6 hv6) (by kernel_rfl) (by kernel_rfl) ?_
          refine TS_go 16 ?_
          replace h := bindO h
          obtain ⟨v7, hv7, h⟩ := h
          refine TS_call [] (ok_messages_size (IntKind.wrap .i64 a2) v7 hv7) (by kernel_rfl) (by kernel_rfl) ?_
          refine TS_go 3 ?_
          replace h := condO h
          rcases h with ⟨hb8, h⟩ | ⟨hb8, h⟩
          · refine TS_know 56 (b := true) hb8 (by kernel_rfl) (by kernel_rfl) ?_
            refine TS_T (by kernel_rfl) rfl ?_
            refine TS_go 8 ?_
            have ret := Option.some.inj h
            subst ret
            exact TS_ret (by kernel_rfl) (by kernel_rfl) (by kernel_rfl)
          · refine TS_know 56 (b := false) hb8 (by kernel_rfl) (by kernel_rfl) ?_
            refine TS_F (by kernel_rfl) rfl ?_
            refine TS_go 17 ?_
            refine TS_draw (by kernel_rfl) ?_
            refine TD_go 3 ?_
            refine TD_win 7 4 16 (a := 0) (b := 16) (by decide) (by decide) (by kernel_rfl) (by kernel_rfl) ?_
            refine TD_go 1 ?_
            replace h := bindO h
            obtain ⟨l9, hl9, h⟩ := h
            refine TD_slF (k := .u8) (a := 0) (b := IntKind.wrap .i64 a3) 16 a4 (by decide) hl9 (by kernel_rfl) (by kernel_rfl) ?_
            refine TD_cpW (k := .u8) 7 4 16 a0.To.Dst.IP l9 .whole (pre := [.lit (.int .i64 (a0.Kind)), .lit (.int .u16 (a0.Seq)), .lit (.int .i64 (a0.Metric)), .lit (.int .u64 (a0.Neighbour))]) (post := [.lit (.int .i64 (IntKind.wrap .i64 a1)), .lit (.int .u8 ((a0.To.Src.IP.getD 0 0))), .lit (.int .u8 ((a0.To.Src.IP.getD 1 0))), .lit (.int .u8 ((a0.To.Src.IP.getD 2 0))), .lit (.int .u8 ((a0.To.Src.IP.getD 3 0))), .lit (.int .u8 ((a0.To.Src.IP.getD 4 0))), .lit (.int .u8 ((a0.To.Src.IP.getD 5 0))), .lit (.int .u8 ((a0.To.Src.IP.getD 6 0))), .lit (.int .u8 ((a0.To.Src.IP.getD 7 0))), .lit (.int .u8 ((a0.To.Src.IP.getD 8 0))), .lit (.int .u8 ((a0.To.Src.IP.getD 9 0))), .lit (.int .u8 ((a0.To.Src.IP.getD 10 0))), .lit (.int .u8 ((a0.To.Src.IP.getD 11 0))), .lit (.int .u8 ((a0.To.Src.IP.getD 12 0))), .lit (.int .u8 ((a0.To.Src.IP.getD 13 0))), .lit (.int .u8 ((a0.To.Src.IP.getD 14 0))), .lit (.int .u8 ((a0.To.Src.IP.getD 15 0))), .lit (.int .i64 (IntKind.wrap .i64 a2)), .lit (.int .u64 (a0.To.Router)), .lit (.int .i64 (a0.Hops))]) (by kernel_rfl) (by kernel_rfl) (by kernel_rfl) ?_
            refine TD_end (by kernel_rfl) ?_
            refine TS_go 1 ?_
            refine TS_draw (by kernel_rfl) ?_
            refine TD_go 4 ?_
            replace h := chkO h
            obtain ⟨hc10, h⟩ := h
            refine TD_win 7 4 16 (a := IntKind.wrap .i64 a3) (b := (16 : Int)) hc10 (by decide) (by kernel_rfl) (by kernel_rfl) ?_
            refine TD_go 5 ?_
            replace h := bindO h
            obtain ⟨l11, hl11, h⟩ := h
            refine TD_sub (ecI .u8) 1 hl11 (by kernel_rfl) (by kernel_rfl) ?_
            replace h := chkO h
            obtain ⟨hc12, h⟩ := h
            refine TD_cpV (k := .u8) 7 4 16 (Int.toNat (IntKind.wrap .i64 a3)) (Int.toNat (16 : Int) - Int.toNat (IntKind.wrap .i64 a3)) (cpA 16 a0.To.Dst.IP (Cut.app .whole l9)) l11 .whole (pre := [.lit (.int .i64 (a0.Kind)), .lit (.int .u16 (a0.Seq)), .lit (.int .i64 (a0.Metric)), .lit (.int .u64 (a0.Neighbour))]) (post := [.lit (.int .i64 (IntKind.wrap .i64 a1)), .lit (.int .u8 ((a0.To.Src.IP.getD 0 0))), .lit (.int .u8 ((a0.To.Src.IP.getD 1 0))), .lit (.int .u8 ((a0.To.Src.IP.getD 2 0))), .lit (.int .u8 ((a0.To.Src.IP.getD 3 0))), .lit (.int .u8 ((a0.To.Src.IP.getD 4 0))), .lit (.int .u8 ((a0.To.Src.IP.getD 5 0))), .lit (.int .u8 ((a0.To.Src.IP.getD 6 0))), .lit (.int .u8 ((a0.To.Src.IP.getD 7 0))), .lit (.int .u8 ((a0.To.Src.IP.getD 8 0))), .lit (.int .u8 ((a0.To.Src.IP.getD 9 0))), .lit (.int .u8 ((a0.To.Src.IP.getD 10 0))), .lit (.int .u8 ((a0.To.Src.IP.getD 11 0))), .lit (.int .u8 ((a0.To.Src.IP.getD 12 0))), .lit (.int .u8 ((a0.To.Src.IP.getD 13 0))), .lit (.int .u8 ((a0.To.Src.IP.getD 14 0))), .lit (.int .u8 ((a0.To.Src.IP.getD 15 0))), .lit (.int .i64 (IntKind.wrap .i64 a2)), .lit (.int .u64 (a0.To.Router)), .lit (.int .i64 (a0.Hops))]) (by kernel_rfl) hc12 (by kernel_rfl) (by kernel_rfl) ?_
            refine TD_end (by kernel_rfl) ?_
            refine TS_go 1 ?_
            refine TS_draw (by kernel_rfl) ?_
            refine TD_go 3 ?_
            refine TD_win 7 21 16 (a := 0) (b := 16) (by decide) (by decide) (by kernel_rfl) (by kernel_rfl) ?_
            refine TD_go 4 ?_
            replace h := bindO h
            obtain ⟨l13, hl13, h⟩ := h
            refine TD_sub (ecI .u8) 1 hl13 (by kernel_rfl) (by kernel_rfl) ?_
            refine TD_cpW (k := .u8) 7 21 16 a0.To.Src.IP l13 .whole (pre := [.lit (.int .i64 (a0.Kind)), .lit (.int .u16 (a0.Seq)), .lit (.int .i64 (a0.Metric)), .lit (.int .u64 (a0.Neighbour)), .lit (.int .u8 (((cpAt 16 (cpA 16 a0.To.Dst.IP (Cut.app .whole l9)) (Int.toNat (IntKind.wrap .i64 a3)) (Int.toNat (16 : Int) - Int.toNat (IntKind.wrap .i64 a3)) (Cut.app .whole l11)).getD 0 0))), .lit (.int .u8 (((cpAt 16 (cpA 16 a0.To.Dst.IP (Cut.app .whole l9)) (Int.toNat (IntKind.wrap .i64 a3)) (Int.toNat (16 : Int) - Int.toNat (IntKind.wrap .i64 a3)) (Cut.app .whole l11)).getD 1 0))), .lit (.int .u8 (((cpAt 16 (cpA 16 a0.To.Dst.IP (Cut.app .whole l9)) (Int.toNat (IntKind.wrap .i64 a3)) (Int.toNat (16 : Int) - Int.toNat (IntKind.wrap .i64 a3)) (Cut.app .whole l11)).getD 2 0))), .lit (.int .u8 (((cpAt 16 (cpA 16 a0.To.Dst.IP (Cut.app .whole l9)) (Int.toNat (IntKind.wrap .i64 a3)) (Int.toNat (16 : Int) - Int.toNat (IntKind.wrap .i64 a3)) (Cut.app .whole l11)).getD 3 0))), .lit (.int .u8 (((cpAt 16 (cpA 16 a0.To.Dst.IP (Cut.app .whole l9)) (Int.toNat (IntKind.wrap .i64 a3)) (Int.toNat (16 : Int) - Int.toNat (IntKind.wrap .i64 a3)) (Cut.app .whole l11)).getD 4 0))), .lit (.int .u8 (((cpAt 16 (cpA 16 a0.To.Dst.IP (Cut.app .whole l9)) (Int.toNat (IntKind.wrap .i64 a3)) (Int.toNat (16 : Int) - Int.toNat (IntKind.wrap .i64 a3)) (Cut.app .whole l11)).getD 5 0))), .lit (.int .u8 (((cpAt 16 (cpA 16 a0.To.Dst.IP (Cut.app .whole l9)) (Int.toNat (IntKind.wrap .i64 a3)) (Int.toNat (16 : Int) - Int.toNat (IntKind.wrap .i64 a3)) (Cut.app .whole l11)).getD 6 0))), .lit (.int .u8 (((cpAt 16 (cpA 16 a0.To.Dst.IP (Cut.app .whole l9)) (Int.toNat (IntKind.wrap .i64 a3)) (Int.toNat (16 : Int) - Int.toNat (IntKind.wrap .i64 a3)) (Cut.app .whole l11)).getD 7 0))), .lit (.int .u8 (((cpAt 16 (cpA 16 a0.To.Dst.IP (Cut.app .whole l9)) (Int.toNat (IntKind.wrap .i64 a3)) (Int.toNat (16 : Int) - Int.toNat (IntKind.wrap .i64 a3)) (Cut.app .whole l11)).getD 8 0))), .lit (.int .u8 (((cpAt 16 (cpA 16 a0.To.Dst.IP (Cut.app .whole l9)) (Int.toNat (IntKind.wrap .i64 a3)) (Int.toNat (16 : Int) - Int.toNat (IntKind.wrap .i64 a3)) (Cut.app .whole l11)).getD 9 0))), .lit (.int .u8 (((cpAt 16 (cpA 16 a0.To.Dst.IP (Cut.app .whole l9)) (Int.toNat (IntKind.wrap .i64 a3)) (Int.toNat (16 : Int) - Int.toNat (IntKind.wrap .i64 a3)) (Cut.app .whole l11)).getD 10 0))), .lit (.int .u8 (((cpAt 16 (cpA 16 a0.To.Dst.IP (Cut.app .whole l9)) (Int.toNat (IntKind.wrap .i64 a3)) (Int.toNat (16 : Int) - Int.toNat (IntKind.wrap .i64 a3)) (Cut.app .whole l11)).getD 11 0))), .lit (.int .u8 (((cpAt 16 (cpA 16 a0.To.Dst.IP (Cut.app .whole l9)) (Int.toNat (IntKind.wrap .i64 a3)) (Int.toNat (16 : Int) - Int.toNat (IntKind.wrap .i64 a3)) (Cut.app .whole l11)).getD 12 0))), .lit (.int .u8 (((cpAt 16 (cpA 16 a0.To.Dst.IP (Cut.app .whole l9)) (Int.toNat (IntKind.wrap .i64 a3)) (Int.toNat (16 : Int) - Int.toNat (IntKind.wrap .i64 a3)) (Cut.app .whole l11)).getD 13 0))), .lit (.int .u8 (((cpAt 16 (cpA 16 a0.To.Dst.IP (Cut.app .whole l9)) (Int.toNat (IntKind.wrap .i64 a3)) (Int.toNat (16 : Int) - Int.toNat (IntKind.wrap .i64 a3)) (Cut.app .whole l11)).getD 14 0))), .lit (.int .u8 (((cpAt 16 (cpA 16 a0.To.Dst.IP (Cut.app .whole l9)) (Int.toNat (IntKind.wrap .i64 a3)) (Int.toNat (16 : Int) - Int.toNat (IntKind.wrap .i64 a3)) (Cut.app .whole l11)).getD 15 0))), .lit (.int .i64 (IntKind.wrap .i64 a1))]) (post := [.lit (.int .i64 (IntKind.wrap .i64 a2)), .lit (.int .u64 (a0.To.Router)), .lit (.int .i64 (a0.Hops))]) (by kernel_rfl) (by kernel_rfl) (by kernel_rfl) ?_
            refine TD_end (by kernel_rfl) ?_
            refine TS_go 7 ?_
            have ret := Option.some.inj h
            subst ret
            exact TS_ret (by kernel_rfl) (by kernel_rfl) (by kernel_rfl)

/-- multihop/messages.read -/
noncomputable def F_messages_read (a0 : Int) (a1 : List Int) (a2 : S_messages_state) : Option (S_Notice × Bool) :=
  bif (a0 == 1) then
    (F_messages_read_1_R472 0 2 a1).bind fun v2 =>
    some (((S_Notice.mk 1 (IntKind.wrap .u16 v2) 0 0 (S_Destination.mk (S_Prefix.mk [0, 0, 0, 0, 0, 0, 0, 0, 0, 0, 0, 0, 0, 0, 0, 0] 0) (S_Prefix.mk [0, 0, 0, 0, 0, 0, 0, 0, 0, 0, 0, 0, 0, 0, 0, 0] 0) 0) 0), true))
  else
    bif (a0 == 2) then
      (F_messages_read_1_R472 0 8 a1).bind fun v4 =>
      (F_messages_read_1_R472 8 2 a1).bind fun v5 =>
      some (((S_Notice.mk 2 0 (IntKind.wrap .i64 v5) v4 (S_Destination.mk (S_Prefix.mk [0, 0, 0, 0, 0, 0, 0, 0, 0, 0, 0, 0, 0, 0, 0, 0] 0) (S_Prefix.mk [0, 0, 0, 0, 0, 0, 0, 0, 0, 0, 0, 0, 0, 0, 0, 0] 0) 0) 0), true))
    else
      bif (a0 == 3) then
        (F_messages_read_1_R472 3 2 a1).bind fun v7 =>
        (F_messages_read_1_R472 5 2 a1).bind fun v8 =>
        (F_messages_read_1_R472 1 1 a1).bind fun v9 =>
        (F_messages_read_1_R472 2 1 a1).bind fun v10 =>
        (F_messages_read_1_R472 0 1 a1).bind fun v11 =>
        (F_messages_prefixes (S_Notice.mk 3 (IntKind.wrap .u16 v7) (IntKind.wrap .i64 v8) 0 (S_Destination.mk (S_Prefix.mk [0, 0, 0, 0, 0, 0, 0, 0, 0, 0, 0, 0, 0, 0, 0, 0] 0) (S_Prefix.mk [0, 0, 0, 0, 0, 0, 0, 0, 0, 0, 0, 0, 0, 0, 0, 0] 0) a2.router) 0) v9 v10 v11 a2.dst a1 7).bind fun v12 =>
        some ((v12.1, v12.2))
      else
        bif (a0 == 4) then
          (F_messages_read_1_R472 0 1 a1).bind fun v14 =>
          (F_messages_read_1_R472 1 1 a1).bind fun v15 =>
          (F_messages_prefixes (S_Notice.mk 4 0 0 0 (S_Destination.mk (S_Prefix.mk [0, 0, 0, 0, 0, 0, 0, 0, 0, 0, 0, 0, 0, 0, 0, 0] 0) (S_Prefix.mk [0, 0, 0, 0, 0, 0, 0, 0, 0, 0, 0, 0, 0, 0, 0, 0] 0) 0) 0) v14 v15 0 a2.dst a1 2).bind fun v16 =>
          some ((v16.1, v16.2))
        else
          bif (a0 == 5) then
            (F_messages_read_1_R472 2 2 a1).bind fun v18 =>
            (F_messages_read_1_R472 4 1 a1).bind fun v19 =>
            (F_messages_read_1_R472 5 8 a1).bind fun v20 =>
            (F_messages_read_1_R472 0 1 a1).bind fun v21 =>
            (F_messages_read_1_R472 1 1 a1).bind fun v22 =>
            (F_messages_prefixes (S_Notice.mk 5 (IntKind.wrap .u16 v18) 0 0 (S_Destination.mk (S_Prefix.mk [0, 0, 0, 0, 0, 0, 0, 0, 0, 0, 0, 0, 0, 0, 0, 0] 0) (S_Prefix.mk [0, 0, 0, 0, 0, 0, 0, 0, 0, 0, 0, 0, 0, 0, 0, 0] 0) v20) (IntKind.wrap .i64 v19)) v21 v22 0 a2.dst a1 13).bind fun v23 =>
            some ((v23.1, v23.2))
          else
            some (((S_Notice.mk 0 0 0 0 (S_Destination.mk (S_Prefix.mk [0, 0, 0, 0, 0, 0, 0, 0, 0, 0, 0, 0, 0, 0, 0, 0] 0) (S_Prefix.mk [0, 0, 0, 0, 0, 0, 0, 0, 0, 0, 0, 0, 0, 0, 0, 0] 0) 0) 0), false))
set_option maxRecDepth 100000 in
set_option maxHeartbeats 40000000 in
theorem ok_messages_read (a0 : Int) (a1 : List Int) (a2 : S_messages_state) (r : S_Notice × Bool) (h : F_messages_read a0 a1 a2 = some r) : Con Try.prog 64 [.c (.lit (.int .u8 (a0))), .c (eS 1 (ecI .u8) (a1)), .agg (S_messages_state.cs a2)] [] (.tup [(true, S_Notice.cs r.1), (false, [.lit (.bool (r.2))])]) [] := by
  unfold F_messages_read at h
  refine con_of [] [] 93 Try.func64 rfl rfl (by kernel_rfl) (fun K => ?_)
  refine TS_go 2 ?_
  refine TS_boxF (cs := [.slc 1 0 (List.length a1) (List.map (ecI .u8) a1)]) (by kernel_rfl) (by kernel_rfl) ?_
  refine TS_go 6 ?_
  refine TS_mkf (f := 71) (cs := [.ref [.slc 1 0 (List.length a1) (List.map (ecI .u8) a1)]]) (by kernel_rfl) (by kernel_rfl) ?_
  refine TS_go 13 ?_
  replace h := condO h
  rcases h with ⟨hb1, h⟩ | ⟨hb1, h⟩
  · refine TS_know 15 (b := true) hb1 (by kernel_rfl) (by kernel_rfl) ?_
    refine TS_know 14 (b := true) hb1 (by kernel_rfl) (by kernel_rfl) ?_
    refine TS_T (by kernel_rfl) rfl ?_
    refine TS_go 3 ?_
    replace h := bindO h
    obtain ⟨v2, hv2, h⟩ := h
    refine TS_call [] (ok_messages_read_1_R472 0 2 a1 v2 hv2) (by kernel_rfl) (by kernel_rfl) ?_
    refine TS_go 8 ?_
    have ret := Option.some.inj h
    subst ret
    exact TS_ret (by kernel_rfl) (by kernel_rfl) (by kernel_rfl)
  · refine TS_know 15 (b := false) hb1 (by kernel_rfl) (by kernel_rfl) ?_
    refine TS_know 14 (b := false) hb1 (by kernel_rfl) (by kernel_rfl) ?_
    refine TS_F (by kernel_rfl) rfl ?_
    refine TS_go 5 ?_
    replace h := condO h
    rcases h with ⟨hb3, h⟩ | ⟨hb3, h⟩
    · refine TS_know 21 (b := true) hb3 (by kernel_rfl) (by kernel_rfl) ?_
      refine TS_know 20 (b := true) hb3 (by kernel_rfl) (by kernel_rfl) ?_
      refine TS_T (by kernel_rfl) rfl ?_
      refine TS_go 3 ?_
      replace h := bindO h
      obtain ⟨v4, hv4, h⟩ := h
      refine TS_call [] (ok_messages_read_1_R472 0 8 a1 v4 hv4) (by kernel_rfl) (by kernel_rfl) ?_
      refine TS_go 1 ?_
      replace h := bindO h
      obtain ⟨v5, hv5, h⟩ := h
      refine TS_call [] (ok_messages_read_1_R472 8 2 a1 v5 hv5) (by kernel_rfl) (by kernel_rfl) ?_
      refine TS_go 8 ?_
      have ret := Option.some.inj h
      subst ret
      exact TS_ret (by kernel_rfl) (by kernel_rfl) (by kernel_rfl)
    · refine TS_know 21 (b := false) hb3 (by kernel_rfl) (by kernel_rfl) ?_
      refine TS_know 20 (b := false) hb3 (by kernel_rfl) (by kernel_rfl) ?_
      refine TS_F (by kernel_rfl) rfl ?_
      refine TS_go 5 ?_
      replace h := condO h
      rcases h with ⟨hb6, h⟩ | ⟨hb6, h⟩
      · refine TS_know 29 (b := true) hb6 (by kernel_rfl) (by kernel_rfl) ?_
        refine TS_know 28 (b := true) hb6 (by kernel_rfl) (by kernel_rfl) ?_
        refine TS_T (by kernel_rfl) rfl ?_
        refine TS_go 3 ?_
        replace h := bindO h
        obtain ⟨v7, hv7, h⟩ := h
        refine TS_call [] (ok_messages_read_1_R472 3 2 a1 v7 hv7) (by kernel_rfl) (by kernel_rfl) ?_
        refine TS_go 2 ?_
        replace h := bindO h
        obtain ⟨v8, hv8, h⟩ := h
        refine TS_call [] (ok_messages_read_1_R472 5 2 a1 v8 hv8) (by kernel_rfl) (by kernel_rfl) ?_
        refine TS_go 14 ?_
        refine TS_draw (by kernel_rfl) ?_
        refine TD_go 2 ?_
        replace h := bindO h
        obtain ⟨v9, hv9, h⟩ := h
        refine TD_call [] (ok_messages_read_1_R472 1 1 a1 v9 hv9) (by kernel_rfl) (by kernel_rfl) ?_
        refine TD_go 1 ?_
        replace h := bindO h
        obtain ⟨v10, hv10, h⟩ := h
        refine TD_call [] (ok_messages_read_1_R472 2 1 a1 v10 hv10) (by kernel_rfl) (by kernel_rfl) ?_
        refine TD_go 1 ?_
        replace h := bindO h
        obtain ⟨v11, hv11, h⟩ := h
        refine TD_call [] (ok_messages_read_1_R472 0 1 a1 v11 hv11) (by kernel_rfl) (by kernel_rfl) ?_
        refine TD_go 3 ?_
        replace h := bindO h
        obtain ⟨v12, hv12, h⟩ := h
        refine TD_call [] (ok_messages_prefixes (S_Notice.mk 3 (IntKind.wrap .u16 v7) (IntKind.wrap .i64 v8) 0 (S_Destination.mk (S_Prefix.mk [0, 0, 0, 0, 0, 0, 0, 0, 0, 0, 0, 0, 0, 0, 0, 0] 0) (S_Prefix.mk [0, 0, 0, 0, 0, 0, 0, 0, 0, 0, 0, 0, 0, 0, 0, 0] 0) a2.router) 0) v9 v10 v11 a2.dst a1 7 v12 hv12) (by kernel_rfl) (by kernel_rfl) ?_
        refine TD_go 4 ?_
        refine TD_end (by kernel_rfl) ?_
        refine TS_go 3 ?_
        have ret := Option.some.inj h
        subst ret
        exact TS_ret (by kernel_rfl) (by kernel_rfl) (by kernel_rfl)
      · refine TS_know 29 (b := false) hb6 (by kernel_rfl) (by kernel_rfl) ?_
        refine TS_know 28 (b := false) hb6 (by kernel_rfl) (by kernel_rfl) ?_
        refine TS_F (by kernel_rfl) rfl ?_
        refine TS_go 5 ?_
        replace h := condO h
        rcases h with ⟨hb13, h⟩ | ⟨hb13, h⟩
        · refine TS_know 55 (b := true) hb13 (by kernel_rfl) (by kernel_rfl) ?_
          refine TS_know 54 (b := true) hb13 (by kernel_rfl) (by kernel_rfl) ?_
          refine TS_T (by kernel_rfl) rfl ?_
          refine TS_go 7 ?_
          refine TS_draw (by kernel_rfl) ?_
          refine TD_go 2 ?_
          replace h := bindO h
          obtain ⟨v14, hv14, h⟩ := h
          refine TD_call [] (ok_messages_read_1_R472 0 1 a1 v14 hv14) (by kernel_rfl) (by kernel_rfl) ?_
          refine TD_go 1 ?_
          replace h := bindO h
          obtain ⟨v15, hv15, h⟩ := h
          refine TD_call [] (ok_messages_read_1_R472 1 1 a1 v15 hv15) (by kernel_rfl) (by kernel_rfl) ?_
          refine TD_go 3 ?_
          replace h := bindO h
          obtain ⟨v16, hv16, h⟩ := h
          refine TD_call [] (ok_messages_prefixes (S_Notice.mk 4 0 0 0 (S_Destination.mk (S_Prefix.mk [0, 0, 0, 0, 0, 0, 0, 0, 0, 0, 0, 0, 0, 0, 0, 0] 0) (S_Prefix.mk [0, 0, 0, 0, 0, 0, 0, 0, 0, 0, 0, 0, 0, 0, 0, 0] 0) 0) 0) v14 v15 0 a2.dst a1 2 v16 hv16) (by kernel_rfl) (by kernel_rfl) ?_
          refine TD_go 4 ?_
          refine TD_end (by kernel_rfl) ?_
          refine TS_go 3 ?_
          have ret := Option.some.inj h
          subst ret
          exact TS_ret (by kernel_rfl) (by kernel_rfl) (by kernel_rfl)
        · refine TS_know 55 (b := false) hb13 (by kernel_rfl) (by kernel_rfl) ?_
          refine TS_know 54 (b := false) hb13 (by kernel_rfl) (by kernel_rfl) ?_
          refine TS_F (by kernel_rfl) rfl ?_
          refine TS_go 5 ?_
          replace h := condO h
          rcases h with ⟨hb17, h⟩ | ⟨hb17, h⟩
          · refine TS_know 69 (b := true) hb17 (by kernel_rfl) (by kernel_rfl) ?_
            refine TS_know 68 (b := true) hb17 (by kernel_rfl) (by kernel_rfl) ?_
            refine TS_T (by kernel_rfl) rfl ?_
            refine TS_go 3 ?_
            replace h := bindO h
            obtain ⟨v18, hv18, h⟩ := h
            refine TS_call [] (ok_messages_read_1_R472 2 2 a1 v18 hv18) (by kernel_rfl) (by kernel_rfl) ?_
            refine TS_go 2 ?_
            replace h := bindO h
            obtain ⟨v19, hv19, h⟩ := h
            refine TS_call [] (ok_messages_read_1_R472 4 1 a1 v19 hv19) (by kernel_rfl) (by kernel_rfl) ?_
            refine TS_go 8 ?_
            replace h := bindO h
            obtain ⟨v20, hv20, h⟩ := h
            refine TS_call [] (ok_messages_read_1_R472 5 8 a1 v20 hv20) (by kernel_rfl) (by kernel_rfl) ?_
            refine TS_go 5 ?_
            refine TS_draw (by kernel_rfl) ?_
            refine TD_go 2 ?_
            replace h := bindO h
            obtain ⟨v21, hv21, h⟩ := h
            refine TD_call [] (ok_messages_read_1_R472 0 1 a1 v21 hv21) (by kernel_rfl) (by kernel_rfl) ?_
            refine TD_go 1 ?_
            replace h := bindO h
            obtain ⟨v22, hv22, h⟩ := h
            refine TD_call [] (ok_messages_read_1_R472 1 1 a1 v22 hv22) (by kernel_rfl) (by kernel_rfl) ?_
            refine TD_go 3 ?_
            replace h := bindO h
            obtain ⟨v23, hv23, h⟩ := h
            refine TD_call [] (ok_messages_prefixes (S_Notice.mk 5 (IntKind.wrap .u16 v18) 0 0 (S_Destination.mk (S_Prefix.mk [0, 0, 0, 0, 0, 0, 0, 0, 0, 0, 0, 0, 0, 0, 0, 0] 0) (S_Prefix.mk [0, 0, 0, 0, 0, 0, 0, 0, 0, 0, 0, 0, 0, 0, 0, 0] 0) v20) (IntKind.wrap .i64 v19)) v21 v22 0 a2.dst a1 13 v23 hv23) (by kernel_rfl) (by kernel_rfl) ?_
            refine TD_go 4 ?_
            refine TD_end (by kernel_rfl) ?_
            refine TS_go 3 ?_
            have ret := Option.some.inj h
            subst ret
            exact TS_ret (by kernel_rfl) (by kernel_rfl) (by kernel_rfl)
          · refine TS_know 69 (b := false) hb17 (by kernel_rfl) (by kernel_rfl) ?_
            refine TS_know 68 (b := false) hb17 (by kernel_rfl) (by kernel_rfl) ?_
            refine TS_F (by kernel_rfl) rfl ?_
            refine TS_go 9 ?_
            have ret := Option.some.inj h
            subst ret
            exact TS_ret (by kernel_rfl) (by kernel_rfl) (by kernel_rfl)

/-- multihop/messages.parse -/
noncomputable def F_messages_parse_j2 (s1 : (List Int) × (List S_Notice) × S_messages_state) (v16 : S_Notice × Bool) (l12 : List Int) (v18 : S_messages_state) : Option (((List Int) × (List S_Notice) × S_messages_state) ⊕ (((List S_Notice)) ⊕ ((List S_Notice) × Bool))) :=
  (appO 96 s1.2.1 (Cut.app .whole ([v16.1] : List S_Notice))).bind fun l19 =>
  some (Sum.inl (l12, l19, v18))
noncomputable def F_messages_parse_l1  (s1 : (List Int) × (List S_Notice) × S_messages_state) : Option (((List Int) × (List S_Notice) × S_messages_state) ⊕ (((List S_Notice)) ⊕ ((List S_Notice) × Bool))) :=
  bif (decide ((List.length s1.1 : Int) > 0)) then
    bif (decide ((List.length s1.1 : Int) < 2)) then
      some (Sum.inr (Sum.inr (([] : List S_Notice), false)))
    else
      (idx s1.1 1).bind fun e6 =>
      bif (decide ((IntKind.wrap .i64 ((List.length s1.1 : Int) - 2)) < (IntKind.wrap .i64 e6))) then
        some (Sum.inr (Sum.inr (([] : List S_Notice), false)))
      else
        bif (decide ((List.length s1.2.1 : Int) > 64)) then
          some (Sum.inr (Sum.inr (([] : List S_Notice), false)))
        else
          (idx s1.1 0).bind fun e9 =>
          (idx s1.1 1).bind fun e10 =>
          (subO s1.1 2 (IntKind.wrap .i64 (2 + (IntKind.wrap .i64 e10)))).bind fun l11 =>
          (subO s1.1 (IntKind.wrap .i64 (2 + (List.length l11 : Int))) (List.length s1.1 : Int)).bind fun l12 =>
          bif (e9 == 6) then
            (F_octets_Uint l11 0 8).bind fun v14 =>
            bif v14.2 then
              some (Sum.inl (l12, s1.2.1, (S_messages_state.mk s1.2.2.elements v14.1 s1.2.2.dst)))
            else
              some (Sum.inr (Sum.inr (([] : List S_Notice), false)))
          else
            (F_messages_read e9 l11 s1.2.2).bind fun v16 =>
            bif v16.2 then
              bif (v16.1.Kind == 3) then
                (F_messages_parse_j2 s1 v16 l12) (S_messages_state.mk s1.2.2.elements s1.2.2.router v16.1.To.Dst.IP)
              else
                (F_messages_parse_j2 s1 v16 l12) s1.2.2
            else
              some (Sum.inr (Sum.inr (([] : List S_Notice), false)))
  else
    some (Sum.inr (Sum.inl s1.2.1))
noncomputable def F_messages_parse (a0 : List Int) : Option ((List S_Notice) × Bool) :=
  (loopO (F_messages_parse_l1) (a0, ([] : List S_Notice), (S_messages_state.mk ([] : List Int) 0 [0, 0, 0, 0, 0, 0, 0, 0, 0, 0, 0, 0, 0, 0, 0, 0]))).bind (Sum.elim (fun b2 =>
    some ((b2, true))
  ) (fun w21 => some w21))
set_option maxRecDepth 100000 in
set_option maxHeartbeats 40000000 in
theorem okT_messages_parse (a0 : List Int) (r : (List S_Notice) × Bool) (h : F_messages_parse a0 = some r) : Con Try.prog 49 [.c (eS 1 (ecI .u8) (a0))] [] (.tup [(false, [.slc 40 900002 (List.length r.1) (List.map S_Notice.cs r.1)]), (false, [.lit (.bool (r.2))])]) [(900000, .spare 39 40 (List.length r.1))] := by
  unfold F_messages_parse at h
  refine con_of [] [(900000, [])] 81 Try.func49 rfl rfl (by kernel_rfl) (fun K => ?_)
  refine TS_go 15 ?_
  refine TS_nilT 4 600000 39 40 (by kernel_rfl) ?_
  refine TS_cut ⟨[(0, []), (4, []), (5, [])], [(5, (5, [])), (600000, (600000, []))]⟩ (.mk [.code (codeAt [1, 1, 1, 0, 0] (bodyOf Try.f49)), .blk 0, .code (codeAt [1, 1, 1, 1] (bodyOf Try.f49))] .normal ⟨[(0, .c (.slc 1 0 (List.length a0) (List.map (ecI .u8) a0))), (4, .c (.slc 40 600002 (List.length ([] : List S_Notice)) (List.map S_Notice.cs ([] : List S_Notice)))), (5, .c (.box 5 0))], [(5, .box [.lit (.slice none 0 0), .lit (.int .u64 (0)), .lit (.int .u8 (0)), .lit (.int .u8 (0)), .lit (.int .u8 (0)), .lit (.int .u8 (0)), .lit (.int .u8 (0)), .lit (.int .u8 (0)), .lit (.int .u8 (0)), .lit (.int .u8 (0)), .lit (.int .u8 (0)), .lit (.int .u8 (0)), .lit (.int .u8 (0)), .lit (.int .u8 (0)), .lit (.int .u8 (0)), .lit (.int .u8 (0)), .lit (.int .u8 (0)), .lit (.int .u8 (0))]), (600000, .spare 39 40 (List.length ([] : List S_Notice)))]⟩) (by kernel_rfl) (by kernel_rfl) ?_
  replace h := bindO h
  obtain ⟨y3, hl1, hK1⟩ := h
  refine TS_loopB (F_messages_parse_l1) ⟨[(0, []), (4, []), (5, [])], [(600000, (600000, [])), (5, (5, [2]))]⟩ (fun (s1 : (List Int) × (List S_Notice) × S_messages_state) => [(0, .c (eS 1 (ecI .u8) (s1.1))), (4, .c (.slc 40 600002 (List.length s1.2.1) (List.map S_Notice.cs s1.2.1)))]) (fun (s1 : (List Int) × (List S_Notice) × S_messages_state) => [(5, .box (S_messages_state.cs s1.2.2)), (600000, .spare 39 40 (List.length s1.2.1))]) (a0, ([] : List S_Notice), (S_messages_state.mk ([] : List Int) 0 [0, 0, 0, 0, 0, 0, 0, 0, 0, 0, 0, 0, 0, 0, 0, 0])) y3 (.exit 0) (fun (b : (List S_Notice)) => (Sum.inl b : ((List S_Notice)) ⊕ ((List S_Notice) × Bool))) ⟨[(4, [])], [(600000, (600000, []))]⟩ (fun (b2 : (List S_Notice)) => [(4, .c (.slc 40 600002 (List.length b2) (List.map S_Notice.cs b2)))]) (fun (b2 : (List S_Notice)) => [(600000, .spare 39 40 (List.length b2))]) hl1 (by kernel_rfl) (by kernel_rfl) ?_ ?_
  · intro s1 x h hy1
    unfold F_messages_parse_l1 at h
    refine TS_go 7 ?_
    replace h := condO h
    rcases h with ⟨hb4, h⟩ | ⟨hb4, h⟩
    · refine TS_know 14 (b := true) hb4 (by kernel_rfl) (by kernel_rfl) ?_
      refine TS_T (by kernel_rfl) rfl ?_
      refine TS_go 9 ?_
      replace h := condO h
      rcases h with ⟨hb5, h⟩ | ⟨hb5, h⟩
      · refine TS_know 17 (b := true) hb5 (by kernel_rfl) (by kernel_rfl) ?_
        refine TS_know 18 (b := true) hb5 (by kernel_rfl) (by kernel_rfl) ?_
        refine TS_go 15 ?_
        refine TS_T (by kernel_rfl) rfl ?_
        refine TS_go 5 ?_
        refine TS_nilT 2 600001 39 40 (by kernel_rfl) ?_
        refine TS_fitU ⟨[(2, []), (3, [])], [(600001, (900000, []))]⟩ (by kernel_rfl) ?_
        refine TS_go 3 ?_
        have ret := Option.some.inj h
        subst ret
        have hy1q := hy1 _ rfl
        subst hy1q
        replace h := (elimR hK1)
        refine TS_retB rfl (by kernel_rfl) ?_
        refine TS_go 2 ?_
        have ret := Option.some.inj h
        subst ret
        exact TS_ret (by kernel_rfl) (by kernel_rfl) (by kernel_rfl)
      · refine TS_know 17 (b := false) hb5 (by kernel_rfl) (by kernel_rfl) ?_
        refine TS_know 18 (b := false) hb5 (by kernel_rfl) (by kernel_rfl) ?_
        refine TS_go 4 ?_
        replace h := bindO h
        obtain ⟨_e6, he6, h⟩ := h
        refine TS_idx (ecI .u8) he6 (by kernel_rfl) (by kernel_rfl) ?_
        refine TS_go 5 ?_
        replace h := condO h
        rcases h with ⟨hb7, h⟩ | ⟨hb7, h⟩
        · refine TS_know 26 (b := true) hb7 (by kernel_rfl) (by kernel_rfl) ?_
          refine TS_know 27 (b := true) hb7 (by kernel_rfl) (by kernel_rfl) ?_
          refine TS_know 28 (b := true) hb7 (by kernel_rfl) (by kernel_rfl) ?_
          refine TS_go 5 ?_
          refine TS_T (by kernel_rfl) rfl ?_
          refine TS_go 5 ?_
          refine TS_nilT 2 600001 39 40 (by kernel_rfl) ?_
          refine TS_fitU ⟨[(2, []), (3, [])], [(600001, (900000, []))]⟩ (by kernel_rfl) ?_
          refine TS_go 3 ?_
          have ret := Option.some.inj h
          subst ret
          have hy1q := hy1 _ rfl
          subst hy1q
          replace h := (elimR hK1)
          refine TS_retB rfl (by kernel_rfl) ?_
          refine TS_go 2 ?_
          have ret := Option.some.inj h
          subst ret
          exact TS_ret (by kernel_rfl) (by kernel_rfl) (by kernel_rfl)
        · refine TS_know 26 (b := false) hb7 (by kernel_rfl) (by kernel_rfl) ?_
          refine TS_know 27 (b := false) hb7 (by kernel_rfl) (by kernel_rfl) ?_
          refine TS_know 28 (b := false) hb7 (by kernel_rfl) (by kernel_rfl) ?_
          refine TS_go 5 ?_
          replace h := condO h
          rcases h with ⟨hb8, h⟩ | ⟨hb8, h⟩
          · refine TS_know 31 (b := true) hb8 (by kernel_rfl) (by kernel_rfl) ?_
            refine TS_know 32 (b := true) hb8 (by kernel_rfl) (by kernel_rfl) ?_
            refine TS_T (by kernel_rfl) rfl ?_
            refine TS_go 5 ?_
            refine TS_nilT 2 600001 39 40 (by kernel_rfl) ?_
            refine TS_fitU ⟨[(2, []), (3, [])], [(600001, (900000, []))]⟩ (by kernel_rfl) ?_
            refine TS_go 3 ?_
            have ret := Option.some.inj h
            subst ret
            have hy1q := hy1 _ rfl
            subst hy1q
            replace h := (elimR hK1)
            refine TS_retB rfl (by kernel_rfl) ?_
            refine TS_go 2 ?_
            have ret := Option.some.inj h
            subst ret
            exact TS_ret (by kernel_rfl) (by kernel_rfl) (by kernel_rfl)
          · refine TS_know 31 (b := false) hb8 (by kernel_rfl) (by kernel_rfl) ?_
            refine TS_know 32 (b := false) hb8 (by kernel_rfl) (by kernel_rfl) ?_
            refine TS_F (by kernel_rfl) rfl ?_
            refine TS_go 2 ?_
            refine TS_draw (by kernel_rfl) ?_
            refine TD_go 1 ?_
            replace h := bindO h
            obtain ⟨e9, he9, h⟩ := h
            refine TD_idx (ecI .u8) he9 (by kernel_rfl) (by kernel_rfl) ?_
            refine TD_go 3 ?_
            replace h := bindO h
            obtain ⟨_e10, he10, h⟩ := h
            refine TD_idx (ecI .u8) he10 (by kernel_rfl) (by kernel_rfl) ?_
            refine TD_go 3 ?_
            replace h := bindO h
            obtain ⟨l11, hl11, h⟩ := h
            refine TD_sub (ecI .u8) 1 hl11 (by kernel_rfl) (by kernel_rfl) ?_
            refine TD_go 2 ?_
            refine TD_end (by kernel_rfl) ?_
            refine TS_go 6 ?_
            replace h := bindO h
            obtain ⟨l12, hl12, h⟩ := h
            refine TS_sub (ecI .u8) 1 hl12 (by kernel_rfl) (by kernel_rfl) ?_
            refine TS_go 8 ?_
            replace h := condO h
            rcases h with ⟨hb13, h⟩ | ⟨hb13, h⟩
            · refine TS_know 49 (b := true) hb13 (by kernel_rfl) (by kernel_rfl) ?_
              refine TS_T (by kernel_rfl) rfl ?_
              refine TS_go 3 ?_
              replace h := bindO h
              obtain ⟨v14, hv14, h⟩ := h
              refine TS_call [] (ok_octets_Uint l11 0 8 v14 hv14) (by kernel_rfl) (by kernel_rfl) ?_
              refine TS_go 12 ?_
              replace h := condO h
              rcases h with ⟨hb15, h⟩ | ⟨hb15, h⟩
              · refine TS_know 54 (b := true) hb15 (by kernel_rfl) (by kernel_rfl) ?_
                refine TS_know 9 (b := true) hb15 (by kernel_rfl) (by kernel_rfl) ?_
                refine TS_know 55 (b := true) hb15 (by kernel_rfl) (by kernel_rfl) ?_
                refine TS_know 56 (b := false) (notF hb15) (by kernel_rfl) (by kernel_rfl) ?_
                refine TS_F (by kernel_rfl) rfl ?_
                refine TS_go 10 ?_
                have ret := Option.some.inj h
                subst ret
                exact TS_againB _ ⟨[(0, []), (4, []), (5, [])], [(600000, (600000, [])), (5, (5, []))]⟩ rfl (by kernel_rfl) (by kernel_rfl)
              · refine TS_know 54 (b := false) hb15 (by kernel_rfl) (by kernel_rfl) ?_
                refine TS_know 9 (b := false) hb15 (by kernel_rfl) (by kernel_rfl) ?_
                refine TS_know 55 (b := false) hb15 (by kernel_rfl) (by kernel_rfl) ?_
                refine TS_know 56 (b := true) (notT hb15) (by kernel_rfl) (by kernel_rfl) ?_
                refine TS_T (by kernel_rfl) rfl ?_
                refine TS_go 5 ?_
                refine TS_nilT 2 600001 39 40 (by kernel_rfl) ?_
                refine TS_fitU ⟨[(2, []), (3, [])], [(600001, (900000, []))]⟩ (by kernel_rfl) ?_
                refine TS_go 4 ?_
                have ret := Option.some.inj h
                subst ret
                have hy1q := hy1 _ rfl
                subst hy1q
                replace h := (elimR hK1)
                refine TS_retB rfl (by kernel_rfl) ?_
                refine TS_go 2 ?_
                have ret := Option.some.inj h
                subst ret
                exact TS_ret (by kernel_rfl) (by kernel_rfl) (by kernel_rfl)
            · refine TS_know 49 (b := false) hb13 (by kernel_rfl) (by kernel_rfl) ?_
              refine TS_F (by kernel_rfl) rfl ?_
              refine TS_go 6 ?_
              replace h := bindO h
              obtain ⟨v16, hv16, h⟩ := h
              refine TS_call [] (ok_messages_read e9 l11 s1.2.2 v16 hv16) (by kernel_rfl) (by kernel_rfl) ?_
              refine TS_go 13 ?_
              replace h := condO h
              rcases h with ⟨hb17, h⟩ | ⟨hb17, h⟩
              · refine TS_know 65 (b := true) hb17 (by kernel_rfl) (by kernel_rfl) ?_
                refine TS_know 11 (b := true) hb17 (by kernel_rfl) (by kernel_rfl) ?_
                refine TS_know 66 (b := true) hb17 (by kernel_rfl) (by kernel_rfl) ?_
                refine TS_know 67 (b := false) (notF hb17) (by kernel_rfl) (by kernel_rfl) ?_
                refine TS_F (by kernel_rfl) rfl ?_
                refine TS_go 1 ?_
                refine TS_cut ⟨[(0, []), (4, []), (5, []), (10, [])], [(600000, (600000, [])), (5, (5, [])), (10, (10, []))]⟩ (.mk [.code (codeAt [1, 1, 1, 0, 0, 0, 1, 0, 1, 1, 1, 1, 1, 1] (bodyOf Try.f49)), .blk 1] .normal ⟨[(0, .c (.slc 1 0 (List.length l12) (List.map (ecI .u8) l12))), (4, .c (.slc 40 600002 (List.length s1.2.1) (List.map S_Notice.cs s1.2.1))), (5, .c (.box 5 0)), (10, .c (.box 10 0))], [(600000, .spare 39 40 (List.length s1.2.1)), (5, .box [.slc 1 0 (List.length s1.2.2.elements) (List.map (ecI .u8) s1.2.2.elements), .lit (.int .u64 (s1.2.2.router)), .lit (.int .u8 ((s1.2.2.dst.getD 0 0))), .lit (.int .u8 ((s1.2.2.dst.getD 1 0))), .lit (.int .u8 ((s1.2.2.dst.getD 2 0))), .lit (.int .u8 ((s1.2.2.dst.getD 3 0))), .lit (.int .u8 ((s1.2.2.dst.getD 4 0))), .lit (.int .u8 ((s1.2.2.dst.getD 5 0))), .lit (.int .u8 ((s1.2.2.dst.getD 6 0))), .lit (.int .u8 ((s1.2.2.dst.getD 7 0))), .lit (.int .u8 ((s1.2.2.dst.getD 8 0))), .lit (.int .u8 ((s1.2.2.dst.getD 9 0))), .lit (.int .u8 ((s1.2.2.dst.getD 10 0))), .lit (.int .u8 ((s1.2.2.dst.getD 11 0))), .lit (.int .u8 ((s1.2.2.dst.getD 12 0))), .lit (.int .u8 ((s1.2.2.dst.getD 13 0))), .lit (.int .u8 ((s1.2.2.dst.getD 14 0))), .lit (.int .u8 ((s1.2.2.dst.getD 15 0)))]), (10, .box [.lit (.int .i64 (v16.1.Kind)), .lit (.int .u16 (v16.1.Seq)), .lit (.int .i64 (v16.1.Metric)), .lit (.int .u64 (v16.1.Neighbour)), .lit (.int .u8 ((v16.1.To.Dst.IP.getD 0 0))), .lit (.int .u8 ((v16.1.To.Dst.IP.getD 1 0))), .lit (.int .u8 ((v16.1.To.Dst.IP.getD 2 0))), .lit (.int .u8 ((v16.1.To.Dst.IP.getD 3 0))), .lit (.int .u8 ((v16.1.To.Dst.IP.getD 4 0))), .lit (.int .u8 ((v16.1.To.Dst.IP.getD 5 0))), .lit (.int .u8 ((v16.1.To.Dst.IP.getD 6 0))), .lit (.int .u8 ((v16.1.To.Dst.IP.getD 7 0))), .lit (.int .u8 ((v16.1.To.Dst.IP.getD 8 0))), .lit (.int .u8 ((v16.1.To.Dst.IP.getD 9 0))), .lit (.int .u8 ((v16.1.To.Dst.IP.getD 10 0))), .lit (.int .u8 ((v16.1.To.Dst.IP.getD 11 0))), .lit (.int .u8 ((v16.1.To.Dst.IP.getD 12 0))), .lit (.int .u8 ((v16.1.To.Dst.IP.getD 13 0))), .lit (.int .u8 ((v16.1.To.Dst.IP.getD 14 0))), .lit (.int .u8 ((v16.1.To.Dst.IP.getD 15 0))), .lit (.int .i64 (v16.1.To.Dst.Bits)), .lit (.int .u8 ((v16.1.To.Src.IP.getD 0 0))), .lit (.int .u8 ((v16.1.To.Src.IP.getD 1 0))), .lit (.int .u8 ((v16.1.To.Src.IP.getD 2 0))), .lit (.int .u8 ((v16.1.To.Src.IP.getD 3 0))), .lit (.int .u8 ((v16.1.To.Src.IP.getD 4 0))), .lit (.int .u8 ((v16.1.To.Src.IP.getD 5 0))), .lit (.int .u8 ((v16.1.To.Src.IP.getD 6 0))), .lit (.int .u8 ((v16.1.To.Src.IP.getD 7 0))), .lit (.int .u8 ((v16.1.To.Src.IP.getD 8 0))), .lit (.int .u8 ((v16.1.To.Src.IP.getD 9 0))), .lit (.int .u8 ((v16.1.To.Src.IP.getD 10 0))), .lit (.int .u8 ((v16.1.To.Src.IP.getD 11 0))), .lit (.int .u8 ((v16.1.To.Src.IP.getD 12 0))), .lit (.int .u8 ((v16.1.To.Src.IP.getD 13 0))), .lit (.int .u8 ((v16.1.To.Src.IP.getD 14 0))), .lit (.int .u8 ((v16.1.To.Src.IP.getD 15 0))), .lit (.int .i64 (v16.1.To.Src.Bits)), .lit (.int .u64 (v16.1.To.Router)), .lit (.int .i64 (v16.1.Hops))])]⟩) (by kernel_rfl) (by kernel_rfl) ?_
                refine TS_joinB ⟨[(0, []), (4, []), (5, []), (10, [])], [(600000, (600000, [])), (5, (5, [])), (10, (10, []))]⟩ (fun (v18 : S_messages_state) => []) (fun (v18 : S_messages_state) => [(5, .box (S_messages_state.cs v18))]) (F_messages_parse_j2 s1 v16 l12) x ?_ ?_
                · clear h
                  intro v18 h
                  unfold F_messages_parse_j2 at h
                  refine TS_go 3 ?_
                  refine TS_litNT 78 39 40 S_Notice.cs [] ([v16.1] : List S_Notice) (by kernel_rfl) (by kernel_rfl) ?_
                  replace h := bindO h
                  obtain ⟨_l19, hl19, h⟩ := h
                  refine TS_appT (d := 600000) (e := 39) (sz := 40) (N := List.length s1.2.1) S_Notice.cs (fun _ => by kernel_rfl) (l1 := s1.2.1) (l2 := ([v16.1] : List S_Notice)) (c := .whole) hl19 (by kernel_rfl) (by kernel_rfl) ?_
                  refine TS_go 3 ?_
                  have ret := Option.some.inj h
                  subst ret
                  exact TS_againB _ ⟨[(0, []), (4, []), (5, [])], [(600000, (600000, [])), (5, (5, []))]⟩ rfl (by kernel_rfl) (by kernel_rfl)
                · refine TS_go 6 ?_
                  replace h := condO h
                  rcases h with ⟨hb20, h⟩ | ⟨hb20, h⟩
                  · refine TS_know 70 (b := true) hb20 (by kernel_rfl) (by kernel_rfl) ?_
                    refine TS_T (by kernel_rfl) rfl ?_
                    refine TS_go 8 ?_
                    exact TS_meet (S_messages_state.mk s1.2.2.elements s1.2.2.router v16.1.To.Dst.IP) ⟨[(0, []), (4, []), (5, []), (10, [])], [(600000, (600000, [])), (5, (5, [])), (10, (10, []))]⟩ h (by kernel_rfl) (by kernel_rfl)
                  · refine TS_know 70 (b := false) hb20 (by kernel_rfl) (by kernel_rfl) ?_
                    refine TS_F (by kernel_rfl) rfl ?_
                    refine TS_go 1 ?_
                    exact TS_meet s1.2.2 ⟨[(0, []), (4, []), (5, []), (10, [])], [(600000, (600000, [])), (5, (5, [])), (10, (10, []))]⟩ h (by kernel_rfl) (by kernel_rfl)
              · refine TS_know 65 (b := false) hb17 (by kernel_rfl) (by kernel_rfl) ?_
                refine TS_know 11 (b := false) hb17 (by kernel_rfl) (by kernel_rfl) ?_
                refine TS_know 66 (b := false) hb17 (by kernel_rfl) (by kernel_rfl) ?_
                refine TS_know 67 (b := true) (notT hb17) (by kernel_rfl) (by kernel_rfl) ?_
                refine TS_T (by kernel_rfl) rfl ?_
                refine TS_go 5 ?_
                refine TS_nilT 2 600001 39 40 (by kernel_rfl) ?_
                refine TS_fitU ⟨[(2, []), (3, [])], [(600001, (900000, []))]⟩ (by kernel_rfl) ?_
                refine TS_go 3 ?_
                have ret := Option.some.inj h
                subst ret
                have hy1q := hy1 _ rfl
                subst hy1q
                replace h := (elimR hK1)
                refine TS_retB rfl (by kernel_rfl) ?_
                refine TS_go 2 ?_
                have ret := Option.some.inj h
                subst ret
                exact TS_ret (by kernel_rfl) (by kernel_rfl) (by kernel_rfl)
    · refine TS_know 14 (b := false) hb4 (by kernel_rfl) (by kernel_rfl) ?_
      refine TS_F (by kernel_rfl) rfl ?_
      refine TS_go 2 ?_
      have ret := Option.some.inj h
      subst ret
      exact TS_brkB s1.2.1 ⟨[(4, [])], [(600000, (600000, []))]⟩ rfl (by kernel_rfl) (by kernel_rfl) (by kernel_rfl)
  · intro b2 hb
    subst y3
    have h := elimL hK1
    refine TS_go 7 ?_
    refine TS_fitU ⟨[(2, []), (3, [])], [(600000, (900000, []))]⟩ (by kernel_rfl) ?_
    refine TS_go 1 ?_
    have ret := Option.some.inj h
    subst ret
    exact TS_ret (by kernel_rfl) (by kernel_rfl) (by kernel_rfl)
/-- bytes.Equal -/
noncomputable def F_bytes_Equal (a0 : List Int) (a1 : List Int) : Option (Bool) :=
  some (((u8L (Cut.app .whole a0)) == (u8L (Cut.app .whole a1))))
set_option maxRecDepth 100000 in
set_option maxHeartbeats 40000000 in
theorem ok_bytes_Equal (a0 : List Int) (a1 : List Int) (r : Bool) (h : F_bytes_Equal a0 a1 = some r) : Con Try.prog 28 [.c (eS 1 (ecI .u8) (a0)), .c (eS 1 (ecI .u8) (a1))] [] (.c (.lit (.bool (r)))) [] := by
  unfold F_bytes_Equal at h
  refine con_of [] [] 10 Try.func28 rfl rfl (by kernel_rfl) (fun K => ?_)
  refine TS_go 7 ?_
  refine TS_b2s a0 .whole (by kernel_rfl) (by kernel_rfl) ?_
  refine TS_go 1 ?_
  refine TS_b2s a1 .whole (by kernel_rfl) (by kernel_rfl) ?_
  refine TS_str .eql (u8L (Cut.app .whole a0)) (u8L (Cut.app .whole a1)) rfl (by kernel_rfl) (by kernel_rfl) ?_
  refine TS_go 3 ?_
  have ret := Option.some.inj h
  subst ret
  exact TS_ret (by kernel_rfl) (by kernel_rfl) (by kernel_rfl)
end
section
open Go.RowKit
attribute [local irreducible] TS go TD goD

/-- multihop/messages.Decode -/
noncomputable def F_messages_Decode (a0 : List Int) : Option (Int × (List S_Notice) × Int) :=
  bif (decide ((List.length a0 : Int) < 9)) then
    some ((0, ([] : List S_Notice), 4))
  else
    (F_octets_Uint a0 2 5).bind fun v2 =>
    (F_octets_Uint a0 7 2).bind fun v3 =>
    bif (decide ((IntKind.wrap .i64 ((List.length a0 : Int) - 9)) < (IntKind.wrap .i64 v3.1))) then
      some ((0, ([] : List S_Notice), 4))
    else
      (subO a0 9 (List.length a0 : Int)).bind fun l5 =>
      (F_messages_parse l5).bind fun v6 =>
      bif v6.2 then
        (F_messages_Encode (IntKind.wrap .i64 v2.1) v6.1).bind fun v8 =>
        bif (v8.2 != 0) then
          some ((0, ([] : List S_Notice), 5))
        else
          (F_bytes_Equal v8.1 a0).bind fun v10 =>
          bif v10 then
            some ((IntKind.wrap .i64 v2.1, v6.1, 0))
          else
            some ((0, ([] : List S_Notice), 5))
      else
        some ((0, ([] : List S_Notice), 5))
set_option maxRecDepth 100000 in
set_option maxHeartbeats 40000000 in
theorem okT_messages_Decode (a0 : List Int) (r : Int × (List S_Notice) × Int) (h : F_messages_Decode a0 = some r) : Con Try.prog 22 [.c (eS 1 (ecI .u8) (a0))] [] (.tup [(false, [.lit (.int .i64 (r.1))]), (false, [.slc 40 900066 (List.length r.2.1) (List.map S_Notice.cs r.2.1)]), (false, [.lit (.int .i64 (r.2.2))])]) [(900064, .spare 39 40 (List.length r.2.1))] := by
  unfold F_messages_Decode at h
  refine con_of [] [(900064, [])] 58 Try.func22 rfl rfl (by kernel_rfl) (fun K => ?_)
  refine TS_go 13 ?_
  replace h := condO h
  rcases h with ⟨hb1, h⟩ | ⟨hb1, h⟩
  · refine TS_know 15 (b := true) hb1 (by kernel_rfl) (by kernel_rfl) ?_
    refine TS_T (by kernel_rfl) rfl ?_
    refine TS_go 6 ?_
    refine TS_nilT 3 600000 39 40 (by kernel_rfl) ?_
    refine TS_fitU ⟨[(2, []), (3, []), (4, [])], [(600000, (900064, []))]⟩ (by kernel_rfl) ?_
    refine TS_go 2 ?_
    have ret := Option.some.inj h
    subst ret
    exact TS_ret (by kernel_rfl) (by kernel_rfl) (by kernel_rfl)
  · refine TS_know 15 (b := false) hb1 (by kernel_rfl) (by kernel_rfl) ?_
    refine TS_F (by kernel_rfl) rfl ?_
    refine TS_go 4 ?_
    replace h := bindO h
    obtain ⟨v2, hv2, h⟩ := h
    refine TS_call [] (ok_octets_Uint a0 2 5 v2 hv2) (by kernel_rfl) (by kernel_rfl) ?_
    refine TS_go 9 ?_
    replace h := bindO h
    obtain ⟨v3, hv3, h⟩ := h
    refine TS_call [] (ok_octets_Uint a0 7 2 v3 hv3) (by kernel_rfl) (by kernel_rfl) ?_
    refine TS_go 16 ?_
    replace h := condO h
    rcases h with ⟨hb4, h⟩ | ⟨hb4, h⟩
    · refine TS_know 31 (b := true) hb4 (by kernel_rfl) (by kernel_rfl) ?_
      refine TS_T (by kernel_rfl) rfl ?_
      refine TS_go 6 ?_
      refine TS_nilT 3 600000 39 40 (by kernel_rfl) ?_
      refine TS_fitU ⟨[(2, []), (3, []), (4, [])], [(600000, (900064, []))]⟩ (by kernel_rfl) ?_
      refine TS_go 2 ?_
      have ret := Option.some.inj h
      subst ret
      exact TS_ret (by kernel_rfl) (by kernel_rfl) (by kernel_rfl)
    · refine TS_know 31 (b := false) hb4 (by kernel_rfl) (by kernel_rfl) ?_
      refine TS_F (by kernel_rfl) rfl ?_
      refine TS_go 4 ?_
      replace h := bindO h
      obtain ⟨l5, hl5, h⟩ := h
      refine TS_sub (ecI .u8) 1 hl5 (by kernel_rfl) (by kernel_rfl) ?_
      replace h := bindO h
      obtain ⟨v6, hv6, h⟩ := h
      refine TS_con [] [(35, 900000)] none (okT_messages_parse l5 v6 hv6) (by kernel_rfl) (by kernel_rfl) (by kernel_rfl) ?_
      refine TS_go 12 ?_
      replace h := condO h
      rcases h with ⟨hb7, h⟩ | ⟨hb7, h⟩
      · refine TS_know 37 (b := true) hb7 (by kernel_rfl) (by kernel_rfl) ?_
        refine TS_know 10 (b := true) hb7 (by kernel_rfl) (by kernel_rfl) ?_
        refine TS_know 38 (b := true) hb7 (by kernel_rfl) (by kernel_rfl) ?_
        refine TS_know 39 (b := false) (notF hb7) (by kernel_rfl) (by kernel_rfl) ?_
        refine TS_F (by kernel_rfl) rfl ?_
        refine TS_go 6 ?_
        replace h := bindO h
        obtain ⟨v8, hv8, h⟩ := h
        refine TS_con [[], [41]] [(44, 900000)] none (okT_messages_Encode (IntKind.wrap .i64 v2.1) v6.1 v8 hv8) (by kernel_rfl) (by kernel_rfl) (by kernel_rfl) ?_
        refine TS_go 12 ?_
        replace h := condO h
        rcases h with ⟨hb9, h⟩ | ⟨hb9, h⟩
        · refine TS_know 48 (b := true) hb9 (by kernel_rfl) (by kernel_rfl) ?_
          refine TS_know 49 (b := true) hb9 (by kernel_rfl) (by kernel_rfl) ?_
          refine TS_go 6 ?_
          refine TS_T (by kernel_rfl) rfl ?_
          refine TS_go 6 ?_
          refine TS_nilT 3 600000 39 40 (by kernel_rfl) ?_
          refine TS_fitU ⟨[(2, []), (3, []), (4, [])], [(600000, (900064, []))]⟩ (by kernel_rfl) ?_
          refine TS_go 2 ?_
          have ret := Option.some.inj h
          subst ret
          exact TS_ret (by kernel_rfl) (by kernel_rfl) (by kernel_rfl)
        · refine TS_know 48 (b := false) hb9 (by kernel_rfl) (by kernel_rfl) ?_
          refine TS_know 49 (b := false) hb9 (by kernel_rfl) (by kernel_rfl) ?_
          refine TS_go 2 ?_
          replace h := bindO h
          obtain ⟨v10, hv10, h⟩ := h
          refine TS_call [[2]] (ok_bytes_Equal v8.1 a0 v10 hv10) (by kernel_rfl) (by kernel_rfl) ?_
          refine TS_go 3 ?_
          replace h := condO h
          rcases h with ⟨hb11, h⟩ | ⟨hb11, h⟩
          · subst hb11
            refine TS_F (by kernel_rfl) rfl ?_
            refine TS_go 10 ?_
            refine TS_fitU ⟨[(2, []), (3, []), (4, [])], [(35, (900064, []))]⟩ (by kernel_rfl) ?_
            refine TS_go 1 ?_
            have ret := Option.some.inj h
            subst ret
            exact TS_ret (by kernel_rfl) (by kernel_rfl) (by kernel_rfl)
          · subst hb11
            refine TS_T (by kernel_rfl) rfl ?_
            refine TS_go 6 ?_
            refine TS_nilT 3 600000 39 40 (by kernel_rfl) ?_
            refine TS_fitU ⟨[(2, []), (3, []), (4, [])], [(600000, (900064, []))]⟩ (by kernel_rfl) ?_
            refine TS_go 2 ?_
            have ret := Option.some.inj h
            subst ret
            exact TS_ret (by kernel_rfl) (by kernel_rfl) (by kernel_rfl)
      · refine TS_know 37 (b := false) hb7 (by kernel_rfl) (by kernel_rfl) ?_
        refine TS_know 10 (b := false) hb7 (by kernel_rfl) (by kernel_rfl) ?_
        refine TS_know 38 (b := false) hb7 (by kernel_rfl) (by kernel_rfl) ?_
        refine TS_know 39 (b := true) (notT hb7) (by kernel_rfl) (by kernel_rfl) ?_
        refine TS_T (by kernel_rfl) rfl ?_
        refine TS_go 6 ?_
        refine TS_nilT 3 600000 39 40 (by kernel_rfl) ?_
        refine TS_fitU ⟨[(2, []), (3, []), (4, [])], [(600000, (900064, []))]⟩ (by kernel_rfl) ?_
        refine TS_go 2 ?_
        have ret := Option.some.inj h
        subst ret
        exact TS_ret (by kernel_rfl) (by kernel_rfl) (by kernel_rfl)
/-- multihop/multihoplaw29.known -/
noncomputable def F_law29_known  : Option (Bool) :=
  (F_messages_Encode 7 ([(S_Notice.mk 1 258 0 0 (S_Destination.mk (S_Prefix.mk [0, 0, 0, 0, 0, 0, 0, 0, 0, 0, 0, 0, 0, 0, 0, 0] 0) (S_Prefix.mk [0, 0, 0, 0, 0, 0, 0, 0, 0, 0, 0, 0, 0, 0, 0, 0] 0) 0) 0)] : List S_Notice)).bind fun v1 =>
  (F_messages_Decode v1.1).bind fun v2 =>
  bif (v1.2 == 0) then
    bif (v2.2.2 == 0) then
      (F_bytes_Equal v1.1 ([42, 1, 0, 0, 0, 0, 7, 0, 4, 1, 2, 1, 2] : List Int)).bind fun v5 =>
      bif v5 then
        bif (v2.1 == 7) then
          bif ((List.length v2.2.1 : Int) == 1) then
            (idx v2.2.1 0).bind fun e9 =>
            some ((e9.Seq == 258))
          else
            some (false)
        else
          some (false)
      else
        some (false)
    else
      some (false)
  else
    some (false)
set_option maxRecDepth 100000 in
set_option maxHeartbeats 40000000 in
theorem ok_law29_known  (r : Bool) (h : F_law29_known  = some r) : Con Try.prog 10 [] [] (.c (.lit (.bool (r)))) [] := by
  unfold F_law29_known at h
  refine con_of [] [] 45 Try.func10 rfl rfl (by kernel_rfl) (fun K => ?_)
  refine TS_go 7 ?_
  refine TS_litNT 8 39 40 S_Notice.cs [] ([(S_Notice.mk 1 258 0 0 (S_Destination.mk (S_Prefix.mk [0, 0, 0, 0, 0, 0, 0, 0, 0, 0, 0, 0, 0, 0, 0, 0] 0) (S_Prefix.mk [0, 0, 0, 0, 0, 0, 0, 0, 0, 0, 0, 0, 0, 0, 0, 0] 0) 0) 0)] : List S_Notice) (by kernel_rfl) (by kernel_rfl) ?_
  replace h := bindO h
  obtain ⟨v1, hv1, h⟩ := h
  refine TS_con [[], [41]] [(9, 900000)] none (okT_messages_Encode 7 ([(S_Notice.mk 1 258 0 0 (S_Destination.mk (S_Prefix.mk [0, 0, 0, 0, 0, 0, 0, 0, 0, 0, 0, 0, 0, 0, 0, 0] 0) (S_Prefix.mk [0, 0, 0, 0, 0, 0, 0, 0, 0, 0, 0, 0, 0, 0, 0, 0] 0) 0) 0)] : List S_Notice) v1 hv1) (by kernel_rfl) (by kernel_rfl) (by kernel_rfl) ?_
  refine TS_go 9 ?_
  replace h := bindO h
  obtain ⟨v2, hv2, h⟩ := h
  refine TS_con [[2]] [(14, 900064)] none (okT_messages_Decode v1.1 v2 hv2) (by kernel_rfl) (by kernel_rfl) (by kernel_rfl) ?_
  refine TS_go 13 ?_
  replace h := condO h
  rcases h with ⟨hb3, h⟩ | ⟨hb3, h⟩
  · refine TS_know 19 (b := true) hb3 (by kernel_rfl) (by kernel_rfl) ?_
    refine TS_know 20 (b := true) hb3 (by kernel_rfl) (by kernel_rfl) ?_
    refine TS_go 4 ?_
    replace h := condO h
    rcases h with ⟨hb4, h⟩ | ⟨hb4, h⟩
    · refine TS_know 22 (b := true) hb4 (by kernel_rfl) (by kernel_rfl) ?_
      refine TS_know 23 (b := true) hb4 (by kernel_rfl) (by kernel_rfl) ?_
      refine TS_know 24 (b := true) hb4 (by kernel_rfl) (by kernel_rfl) ?_
      refine TS_go 1 ?_
      refine TS_litNT 26 5 1 (ecI .u8) [] ([42, 1, 0, 0, 0, 0, 7, 0, 4, 1, 2, 1, 2] : List Int) (by kernel_rfl) (by kernel_rfl) ?_
      replace h := bindO h
      obtain ⟨v5, hv5, h⟩ := h
      refine TS_call [[2], [2]] (ok_bytes_Equal v1.1 ([42, 1, 0, 0, 0, 0, 7, 0, 4, 1, 2, 1, 2] : List Int) v5 hv5) (by kernel_rfl) (by kernel_rfl) ?_
      refine TS_go 2 ?_
      replace h := condO h
      rcases h with ⟨hb6, h⟩ | ⟨hb6, h⟩
      · subst hb6
        refine TS_go 4 ?_
        replace h := condO h
        rcases h with ⟨hb7, h⟩ | ⟨hb7, h⟩
        · refine TS_know 31 (b := true) hb7 (by kernel_rfl) (by kernel_rfl) ?_
          refine TS_know 32 (b := true) hb7 (by kernel_rfl) (by kernel_rfl) ?_
          refine TS_know 33 (b := true) hb7 (by kernel_rfl) (by kernel_rfl) ?_
          refine TS_go 5 ?_
          replace h := condO h
          rcases h with ⟨hb8, h⟩ | ⟨hb8, h⟩
          · refine TS_know 36 (b := true) hb8 (by kernel_rfl) (by kernel_rfl) ?_
            refine TS_know 37 (b := true) hb8 (by kernel_rfl) (by kernel_rfl) ?_
            refine TS_know 38 (b := true) hb8 (by kernel_rfl) (by kernel_rfl) ?_
            refine TS_go 1 ?_
            replace h := bindO h
            obtain ⟨_e9, he9, h⟩ := h
            refine TS_idx S_Notice.cs he9 (by kernel_rfl) (by kernel_rfl) ?_
            refine TS_go 7 ?_
            have ret := Option.some.inj h
            subst ret
            exact TS_ret (by kernel_rfl) (by kernel_rfl) (by kernel_rfl)
          · refine TS_know 36 (b := false) hb8 (by kernel_rfl) (by kernel_rfl) ?_
            refine TS_know 37 (b := false) hb8 (by kernel_rfl) (by kernel_rfl) ?_
            refine TS_know 38 (b := false) hb8 (by kernel_rfl) (by kernel_rfl) ?_
            refine TS_go 9 ?_
            have ret := Option.some.inj h
            subst ret
            exact TS_ret (by kernel_rfl) (by kernel_rfl) (by kernel_rfl)
        · refine TS_know 31 (b := false) hb7 (by kernel_rfl) (by kernel_rfl) ?_
          refine TS_know 32 (b := false) hb7 (by kernel_rfl) (by kernel_rfl) ?_
          refine TS_know 33 (b := false) hb7 (by kernel_rfl) (by kernel_rfl) ?_
          refine TS_go 14 ?_
          have ret := Option.some.inj h
          subst ret
          exact TS_ret (by kernel_rfl) (by kernel_rfl) (by kernel_rfl)
      · subst hb6
        refine TS_go 18 ?_
        have ret := Option.some.inj h
        subst ret
        exact TS_ret (by kernel_rfl) (by kernel_rfl) (by kernel_rfl)
    · refine TS_know 22 (b := false) hb4 (by kernel_rfl) (by kernel_rfl) ?_
      refine TS_know 23 (b := false) hb4 (by kernel_rfl) (by kernel_rfl) ?_
      refine TS_know 24 (b := false) hb4 (by kernel_rfl) (by kernel_rfl) ?_
      refine TS_go 23 ?_
      have ret := Option.some.inj h
      subst ret
      exact TS_ret (by kernel_rfl) (by kernel_rfl) (by kernel_rfl)
  · refine TS_know 19 (b := false) hb3 (by kernel_rfl) (by kernel_rfl) ?_
    refine TS_know 20 (b := false) hb3 (by kernel_rfl) (by kernel_rfl) ?_
    refine TS_go 27 ?_
    have ret := Option.some.inj h
    subst ret
    exact TS_ret (by kernel_rfl) (by kernel_rfl) (by kernel_rfl)
end
section
open Go.RowKit
attribute [local irreducible] TS go TD goD

/-- multihop/multihopmade.Mod -/
noncomputable def F_made_Mod_j1  (v2 : Int) : Option (Int) :=
  some (v2)
noncomputable def F_made_Mod (a0 : Int) (a1 : Int) : Option (Int) :=
  bif decide (a1 ≠ 0) then
    bif (decide ((Int.tmod a0 a1) < 0)) then
      (F_made_Mod_j1) (IntKind.wrap .i64 ((Int.tmod a0 a1) + a1))
    else
      (F_made_Mod_j1) (Int.tmod a0 a1)
  else none
set_option maxRecDepth 100000 in
set_option maxHeartbeats 40000000 in
theorem ok_made_Mod (a0 : Int) (a1 : Int) (r : Int) (h : F_made_Mod a0 a1 = some r) : Con Try.prog 19 [.c (.lit (.int .i64 (a0))), .c (.lit (.int .i64 (a1)))] [] (.c (.lit (.int .i64 (r)))) [] := by
  unfold F_made_Mod at h
  refine con_of [] [] 14 Try.func19 rfl rfl (by kernel_rfl) (fun K => ?_)
  refine TS_go 8 ?_
  replace h := chkO h
  obtain ⟨hc1, h⟩ := h
  refine TS_num (op := .rem) (k := .i64) (k' := .i64) (m := a0) (i := a1) (of_decide_eq_true hc1) rfl (by simp) (by kernel_rfl) (by kernel_rfl) ?_
  refine TS_go 2 ?_
  refine TS_cut ⟨[(0, []), (1, [])], []⟩ (.mk [.code (codeAt [1, 1] (bodyOf Try.f19))] .normal ⟨[(0, .c (.lit (.int .i64 (Int.tmod a0 a1)))), (1, .c (.lit (.int .i64 (a1))))], []⟩) (by kernel_rfl) (by kernel_rfl) ?_
  refine TS_joinB ⟨[(0, [])], []⟩ (fun (v2 : Int) => [(0, .c (.lit (.int .i64 (v2))))]) (fun (v2 : Int) => []) (F_made_Mod_j1) r ?_ ?_
  · clear h
    intro v2 h
    unfold F_made_Mod_j1 at h
    refine TS_go 6 ?_
    have ret := Option.some.inj h
    subst ret
    exact TS_ret (by kernel_rfl) (by kernel_rfl) (by kernel_rfl)
  · refine TS_go 5 ?_
    replace h := condO h
    rcases h with ⟨hb3, h⟩ | ⟨hb3, h⟩
    · refine TS_know 9 (b := true) hb3 (by kernel_rfl) (by kernel_rfl) ?_
      refine TS_T (by kernel_rfl) rfl ?_
      refine TS_go 6 ?_
      exact TS_meet (IntKind.wrap .i64 ((Int.tmod a0 a1) + a1)) ⟨[(0, [])], []⟩ h (by kernel_rfl) (by kernel_rfl)
    · refine TS_know 9 (b := false) hb3 (by kernel_rfl) (by kernel_rfl) ?_
      refine TS_F (by kernel_rfl) rfl ?_
      refine TS_go 1 ?_
      exact TS_meet (Int.tmod a0 a1) ⟨[(0, [])], []⟩ h (by kernel_rfl) (by kernel_rfl)

/-- multihop/messages.Pack -/
noncomputable def F_messages_Pack_l2 (s7 : (List S_Notice) × (List (List Int))) (a2 : Int) (s11 : Int × S_messages_state) : Option ((Int × S_messages_state) ⊕ (Int × S_messages_state)) :=
  bif (decide (s11.1 < (if 64 < (List.length s7.1 : Int) then 64 else (List.length s7.1 : Int)))) then
    (idx s7.1 s11.1).bind fun e15 =>
    (F_messages_state_notice_H00 s11.2 e15).bind fun v16 =>
    bif (decide ((IntKind.wrap .i64 (9 + (List.length v16.elements : Int))) > a2)) then
      some (Sum.inr (s11.1, s11.2))
    else
      some (Sum.inl (IntKind.wrap .i64 (s11.1 + 1), v16))
  else
    some (Sum.inr (s11.1, s11.2))
noncomputable def F_messages_Pack_l1 (a2 : Int) (a0 : Int) (s7 : (List S_Notice) × (List (List Int))) : Option (((List S_Notice) × (List (List Int))) ⊕ ((List (List Int)))) :=
  bif (decide ((List.length s7.1 : Int) > 0)) then
    (loopO (F_messages_Pack_l2 s7 a2) (0, (S_messages_state.mk ([] : List Int) 0 [0, 0, 0, 0, 0, 0, 0, 0, 0, 0, 0, 0, 0, 0, 0, 0]))).bind fun b12 =>
    (F_messages_state_packet b12.2 a0).bind fun v19 =>
    (appO 24 s7.2 (Cut.app .whole ([v19] : List (List Int)))).bind fun l20 =>
    (subO s7.1 b12.1 (List.length s7.1 : Int)).bind fun l21 =>
    some (Sum.inl (l21, l20))
  else
    some (Sum.inr s7.2)
noncomputable def F_messages_Pack (a0 : Int) (a1 : List S_Notice) (a2 : Int) : Option ((List (List Int)) × Int) :=
  (F_messages_allValid a1).bind fun v1 =>
  bif v1 then
    (F_messages_isCreation a0).bind fun v3 =>
    bif v3 then
      bif (decide (a2 < 72)) then
        some ((([] : List (List Int)), 2))
      else
        bif (decide (a2 > 1280)) then
          some ((([] : List (List Int)), 2))
        else
          (loopO (F_messages_Pack_l1 a2 a0) (a1, ([] : List (List Int)))).bind fun b8 =>
          some ((b8, 0))
    else
      some ((([] : List (List Int)), 2))
  else
    some ((([] : List (List Int)), 1))
set_option maxRecDepth 100000 in
set_option maxHeartbeats 40000000 in
theorem okT_messages_Pack (a0 : Int) (a1 : List S_Notice) (a2 : Int) (r : (List (List Int)) × Int) (h : F_messages_Pack a0 a1 a2 = some r) : Con Try.prog 25 [.c (.lit (.int .i64 (a0))), .c (eS 40 S_Notice.cs (a1)), .c (.lit (.int .i64 (a2)))] [] (.tup [(false, [.slc 1 900002 (List.length r.1) (List.map (ecS 1 (ecI .u8)) r.1)]), (false, [.lit (.int .i64 (r.2))])]) [(900000, .spare 47 1 (List.length r.1))] := by
  unfold F_messages_Pack at h
  refine con_of [] [(900000, [])] 59 Try.func25 rfl rfl (by kernel_rfl) (fun K => ?_)
  refine TS_go 9 ?_
  replace h := bindO h
  obtain ⟨v1, hv1, h⟩ := h
  refine TS_call [] (ok_messages_allValid a1 v1 hv1) (by kernel_rfl) (by kernel_rfl) ?_
  refine TS_go 2 ?_
  replace h := condO h
  rcases h with ⟨hb2, h⟩ | ⟨hb2, h⟩
  · subst hb2
    refine TS_F (by kernel_rfl) rfl ?_
    refine TS_go 5 ?_
    replace h := bindO h
    obtain ⟨v3, hv3, h⟩ := h
    refine TS_call [] (ok_messages_isCreation a0 v3 hv3) (by kernel_rfl) (by kernel_rfl) ?_
    refine TS_go 2 ?_
    replace h := condO h
    rcases h with ⟨hb4, h⟩ | ⟨hb4, h⟩
    · subst hb4
      refine TS_go 4 ?_
      replace h := condO h
      rcases h with ⟨hb5, h⟩ | ⟨hb5, h⟩
      · refine TS_know 20 (b := true) hb5 (by kernel_rfl) (by kernel_rfl) ?_
        refine TS_know 21 (b := true) hb5 (by kernel_rfl) (by kernel_rfl) ?_
        refine TS_know 22 (b := true) hb5 (by kernel_rfl) (by kernel_rfl) ?_
        refine TS_go 4 ?_
        refine TS_T (by kernel_rfl) rfl ?_
        refine TS_go 5 ?_
        refine TS_nilT 6 600000 47 1 (by kernel_rfl) ?_
        refine TS_fitU ⟨[(6, []), (7, [])], [(600000, (900000, []))]⟩ (by kernel_rfl) ?_
        refine TS_go 2 ?_
        have ret := Option.some.inj h
        subst ret
        exact TS_ret (by kernel_rfl) (by kernel_rfl) (by kernel_rfl)
      · refine TS_know 20 (b := false) hb5 (by kernel_rfl) (by kernel_rfl) ?_
        refine TS_know 21 (b := false) hb5 (by kernel_rfl) (by kernel_rfl) ?_
        refine TS_know 22 (b := false) hb5 (by kernel_rfl) (by kernel_rfl) ?_
        refine TS_go 4 ?_
        replace h := condO h
        rcases h with ⟨hb6, h⟩ | ⟨hb6, h⟩
        · refine TS_know 24 (b := true) hb6 (by kernel_rfl) (by kernel_rfl) ?_
          refine TS_know 25 (b := true) hb6 (by kernel_rfl) (by kernel_rfl) ?_
          refine TS_T (by kernel_rfl) rfl ?_
          refine TS_go 5 ?_
          refine TS_nilT 6 600000 47 1 (by kernel_rfl) ?_
          refine TS_fitU ⟨[(6, []), (7, [])], [(600000, (900000, []))]⟩ (by kernel_rfl) ?_
          refine TS_go 2 ?_
          have ret := Option.some.inj h
          subst ret
          exact TS_ret (by kernel_rfl) (by kernel_rfl) (by kernel_rfl)
        · refine TS_know 24 (b := false) hb6 (by kernel_rfl) (by kernel_rfl) ?_
          refine TS_know 25 (b := false) hb6 (by kernel_rfl) (by kernel_rfl) ?_
          refine TS_F (by kernel_rfl) rfl ?_
          refine TS_go 7 ?_
          refine TS_nilT 8 600000 47 1 (by kernel_rfl) ?_
          refine TS_cut ⟨[(0, []), (1, []), (2, []), (8, [])], [(600000, (600000, []))]⟩ (.mk [.code (codeAt [1, 1, 1, 1, 0, 0] (bodyOf Try.f25)), .blk 0, .code (codeAt [1, 1, 1, 1, 1] (bodyOf Try.f25))] .normal ⟨[(0, .c (.lit (.int .i64 (a0)))), (1, .c (.slc 40 0 (List.length a1) (List.map S_Notice.cs a1))), (2, .c (.lit (.int .i64 (a2)))), (8, .c (.slc 1 600002 (List.length ([] : List (List Int))) (List.map (ecS 1 (ecI .u8)) ([] : List (List Int)))))], [(600000, .spare 47 1 (List.length ([] : List (List Int))))]⟩) (by kernel_rfl) (by kernel_rfl) ?_
          replace h := bindO h
          obtain ⟨y9, hl1, hK1⟩ := h
          refine TS_loopB (F_messages_Pack_l1 a2 a0) ⟨[(0, []), (1, []), (2, []), (8, [])], [(600000, (600000, []))]⟩ (fun (s7 : (List S_Notice) × (List (List Int))) => [(1, .c (eS 40 S_Notice.cs (s7.1))), (8, .c (.slc 1 600002 (List.length s7.2) (List.map (ecS 1 (ecI .u8)) s7.2)))]) (fun (s7 : (List S_Notice) × (List (List Int))) => [(600000, .spare 47 1 (List.length s7.2))]) (a1, ([] : List (List Int))) y9 (.exit 0) (fun (b : (List (List Int))) => b) ⟨[(8, [])], [(600000, (600000, []))]⟩ (fun (b8 : (List (List Int))) => [(8, .c (.slc 1 600002 (List.length b8) (List.map (ecS 1 (ecI .u8)) b8)))]) (fun (b8 : (List (List Int))) => [(600000, .spare 47 1 (List.length b8))]) hl1 (by kernel_rfl) (by kernel_rfl) ?_ ?_
          · intro s7 x h hy1
            unfold F_messages_Pack_l1 at h
            refine TS_go 7 ?_
            replace h := condO h
            rcases h with ⟨hb10, h⟩ | ⟨hb10, h⟩
            · refine TS_know 28 (b := true) hb10 (by kernel_rfl) (by kernel_rfl) ?_
              refine TS_T (by kernel_rfl) rfl ?_
              refine TS_go 12 ?_
              refine TS_nilB 9 0 600001 5 1 (by kernel_rfl) ?_
              refine TS_cut ⟨[(0, []), (1, []), (2, []), (8, []), (9, []), (10, [])], [(600000, (600000, [])), (9, (9, [])), (600001, (600001, []))]⟩ (.mk [.code (codeAt [1, 1, 1, 1, 0, 0, 0, 1, 0, 1, 1, 0, 0] (bodyOf Try.f25)), .blk 2, .code (codeAt [1, 1, 1, 1, 0, 0, 0, 1, 0, 1, 1, 1] (bodyOf Try.f25)), .blk 1] .normal ⟨[(0, .c (.lit (.int .i64 (a0)))), (1, .c (.slc 40 0 (List.length s7.1) (List.map S_Notice.cs s7.1))), (2, .c (.lit (.int .i64 (a2)))), (8, .c (.slc 1 600002 (List.length s7.2) (List.map (ecS 1 (ecI .u8)) s7.2))), (9, .c (.box 9 0)), (10, .c (.lit (.int .i64 (0))))], [(600000, .spare 47 1 (List.length s7.2)), (9, .box [.slc 1 600003 (List.length ([] : List Int)) (List.map (ecI .u8) ([] : List Int)), .lit (.int .u64 (0)), .lit (.int .u8 (0)), .lit (.int .u8 (0)), .lit (.int .u8 (0)), .lit (.int .u8 (0)), .lit (.int .u8 (0)), .lit (.int .u8 (0)), .lit (.int .u8 (0)), .lit (.int .u8 (0)), .lit (.int .u8 (0)), .lit (.int .u8 (0)), .lit (.int .u8 (0)), .lit (.int .u8 (0)), .lit (.int .u8 (0)), .lit (.int .u8 (0)), .lit (.int .u8 (0)), .lit (.int .u8 (0))]), (600001, .spare 5 1 (List.length ([] : List Int)))]⟩) (by kernel_rfl) (by kernel_rfl) ?_
              replace h := bindO h
              obtain ⟨y13, hl2, hK2⟩ := h
              refine TS_loopB (F_messages_Pack_l2 s7 a2) ⟨[(0, []), (1, []), (2, []), (8, []), (9, []), (10, [])], [(600000, (600000, [])), (9, (9, [])), (600001, (600001, []))]⟩ (fun (s11 : Int × S_messages_state) => [(10, .c (.lit (.int .i64 (s11.1))))]) (fun (s11 : Int × S_messages_state) => [(9, .box [.slc 1 600003 (List.length s11.2.elements) (List.map (ecI .u8) s11.2.elements), .lit (.int .u64 (s11.2.router)), .lit (.int .u8 ((s11.2.dst.getD 0 0))), .lit (.int .u8 ((s11.2.dst.getD 1 0))), .lit (.int .u8 ((s11.2.dst.getD 2 0))), .lit (.int .u8 ((s11.2.dst.getD 3 0))), .lit (.int .u8 ((s11.2.dst.getD 4 0))), .lit (.int .u8 ((s11.2.dst.getD 5 0))), .lit (.int .u8 ((s11.2.dst.getD 6 0))), .lit (.int .u8 ((s11.2.dst.getD 7 0))), .lit (.int .u8 ((s11.2.dst.getD 8 0))), .lit (.int .u8 ((s11.2.dst.getD 9 0))), .lit (.int .u8 ((s11.2.dst.getD 10 0))), .lit (.int .u8 ((s11.2.dst.getD 11 0))), .lit (.int .u8 ((s11.2.dst.getD 12 0))), .lit (.int .u8 ((s11.2.dst.getD 13 0))), .lit (.int .u8 ((s11.2.dst.getD 14 0))), .lit (.int .u8 ((s11.2.dst.getD 15 0)))]), (600001, .spare 5 1 (List.length s11.2.elements))]) (0, (S_messages_state.mk ([] : List Int) 0 [0, 0, 0, 0, 0, 0, 0, 0, 0, 0, 0, 0, 0, 0, 0, 0])) y13 (.exit 2) (fun (b : Int × S_messages_state) => b) ⟨[(0, []), (1, []), (2, []), (8, []), (9, []), (10, [])], [(600000, (600000, [])), (9, (9, [2]))]⟩ (fun (b12 : Int × S_messages_state) => [(10, .c (.lit (.int .i64 (b12.1))))]) (fun (b12 : Int × S_messages_state) => [(9, .box (S_messages_state.cs b12.2))]) hl2 (by kernel_rfl) (by kernel_rfl) ?_ ?_
              · intro s11 x h hy2
                unfold F_messages_Pack_l2 at h
                refine TS_go 9 ?_
                replace h := condO h
                rcases h with ⟨hb14, h⟩ | ⟨hb14, h⟩
                · refine TS_know 33 (b := true) hb14 (by kernel_rfl) (by kernel_rfl) ?_
                  refine TS_T (by kernel_rfl) rfl ?_
                  refine TS_go 3 ?_
                  refine TS_draw (by kernel_rfl) ?_
                  refine TD_go 3 ?_
                  replace h := bindO h
                  obtain ⟨e15, he15, h⟩ := h
                  refine TD_idx S_Notice.cs he15 (by kernel_rfl) (by kernel_rfl) ?_
                  refine TD_go 1 ?_
                  replace h := bindO h
                  obtain ⟨v16, hv16, h⟩ := h
                  refine TD_conG 600001 [] (ok_messages_state_notice_H00 s11.2 e15 v16 hv16) (by kernel_rfl) (by kernel_rfl) (by kernel_rfl) ?_
                  refine TD_go 2 ?_
                  refine TD_end (by kernel_rfl) ?_
                  refine TS_go 10 ?_
                  replace h := condO h
                  rcases h with ⟨hb17, h⟩ | ⟨hb17, h⟩
                  · refine TS_know 45 (b := true) hb17 (by kernel_rfl) (by kernel_rfl) ?_
                    refine TS_T (by kernel_rfl) rfl ?_
                    refine TS_go 3 ?_
                    have ret := Option.some.inj h
                    subst ret
                    exact TS_brkB (s11.1, s11.2) ⟨[(0, []), (1, []), (2, []), (8, []), (9, []), (10, [])], [(600000, (600000, [])), (9, (9, [2]))]⟩ rfl (by kernel_rfl) (by kernel_rfl) (by kernel_rfl)
                  · refine TS_know 45 (b := false) hb17 (by kernel_rfl) (by kernel_rfl) ?_
                    refine TS_F (by kernel_rfl) rfl ?_
                    refine TS_go 12 ?_
                    have ret := Option.some.inj h
                    subst ret
                    exact TS_againB _ ⟨[(0, []), (1, []), (2, []), (8, []), (9, []), (10, [])], [(600000, (600000, [])), (9, (9, [])), (600001, (600001, []))]⟩ rfl (by kernel_rfl) (by kernel_rfl)
                · refine TS_know 33 (b := false) hb14 (by kernel_rfl) (by kernel_rfl) ?_
                  refine TS_F (by kernel_rfl) rfl ?_
                  refine TS_go 2 ?_
                  have ret := Option.some.inj h
                  subst ret
                  exact TS_brkB (s11.1, s11.2) ⟨[(0, []), (1, []), (2, []), (8, []), (9, []), (10, [])], [(600000, (600000, [])), (9, (9, [2]))]⟩ rfl (by kernel_rfl) (by kernel_rfl) (by kernel_rfl)
              · intro b12 hb
                subst y13
                have h := hK2
                refine TS_go 6 ?_
                replace h := bindO h
                obtain ⟨v19, hv19, h⟩ := h
                refine TS_con [] [(52, 900000)] none (okT_messages_state_packet b12.2 a0 v19 hv19) (by kernel_rfl) (by kernel_rfl) (by kernel_rfl) ?_
                refine TS_litNT 53 47 1 (ecS 1 (ecI .u8)) [2] ([v19] : List (List Int)) (by kernel_rfl) (by kernel_rfl) ?_
                replace h := bindO h
                obtain ⟨_l20, hl20, h⟩ := h
                refine TS_appT (d := 600000) (e := 47) (sz := 1) (N := List.length s7.2) (ecS 1 (ecI .u8)) (fun _ => by kernel_rfl) (l1 := s7.2) (l2 := ([v19] : List (List Int))) (c := .whole) hl20 (by kernel_rfl) (by kernel_rfl) ?_
                refine TS_go 5 ?_
                replace h := bindO h
                obtain ⟨_l21, hl21, h⟩ := h
                refine TS_sub S_Notice.cs 40 hl21 (by kernel_rfl) (by kernel_rfl) ?_
                refine TS_go 3 ?_
                have ret := Option.some.inj h
                subst ret
                exact TS_againB _ ⟨[(0, []), (1, []), (2, []), (8, [])], [(600000, (600000, []))]⟩ rfl (by kernel_rfl) (by kernel_rfl)
            · refine TS_know 28 (b := false) hb10 (by kernel_rfl) (by kernel_rfl) ?_
              refine TS_F (by kernel_rfl) rfl ?_
              refine TS_go 2 ?_
              have ret := Option.some.inj h
              subst ret
              exact TS_brkB s7.2 ⟨[(8, [])], [(600000, (600000, []))]⟩ rfl (by kernel_rfl) (by kernel_rfl) (by kernel_rfl)
          · intro b8 hb
            subst y9
            have h := hK1
            refine TS_go 7 ?_
            refine TS_fitU ⟨[(6, []), (7, [])], [(600000, (900000, []))]⟩ (by kernel_rfl) ?_
            refine TS_go 1 ?_
            have ret := Option.some.inj h
            subst ret
            exact TS_ret (by kernel_rfl) (by kernel_rfl) (by kernel_rfl)
    · subst hb4
      refine TS_go 8 ?_
      refine TS_T (by kernel_rfl) rfl ?_
      refine TS_go 5 ?_
      refine TS_nilT 6 600000 47 1 (by kernel_rfl) ?_
      refine TS_fitU ⟨[(6, []), (7, [])], [(600000, (900000, []))]⟩ (by kernel_rfl) ?_
      refine TS_go 2 ?_
      have ret := Option.some.inj h
      subst ret
      exact TS_ret (by kernel_rfl) (by kernel_rfl) (by kernel_rfl)
  · subst hb2
    refine TS_T (by kernel_rfl) rfl ?_
    refine TS_go 5 ?_
    refine TS_nilT 6 600000 47 1 (by kernel_rfl) ?_
    refine TS_fitU ⟨[(6, []), (7, [])], [(600000, (900000, []))]⟩ (by kernel_rfl) ?_
    refine TS_go 2 ?_
    have ret := Option.some.inj h
    subst ret
    exact TS_ret (by kernel_rfl) (by kernel_rfl) (by kernel_rfl)
/-- multihop/multihoplaw29.MessagesMany -/
noncomputable def F_law29_MessagesMany_l1 (v1 : Int) (a1 : Int) (s2 : (List S_Notice) × Int) : Option (((List S_Notice) × Int) ⊕ ((List S_Notice))) :=
  bif (decide (s2.2 < (IntKind.wrap .i64 (60 + v1)))) then
    (appO 96 s2.1 (Cut.app .whole ([(S_Notice.mk 1 (IntKind.wrap .u16 (a1 + (IntKind.wrap .u16 s2.2))) 0 0 (S_Destination.mk (S_Prefix.mk [0, 0, 0, 0, 0, 0, 0, 0, 0, 0, 0, 0, 0, 0, 0, 0] 0) (S_Prefix.mk [0, 0, 0, 0, 0, 0, 0, 0, 0, 0, 0, 0, 0, 0, 0, 0] 0) 0) 0)] : List S_Notice))).bind fun l6 =>
    some (Sum.inl (l6, IntKind.wrap .i64 (s2.2 + 1)))
  else
    some (Sum.inr s2.1)
noncomputable def F_law29_MessagesMany (a0 : Int) (a1 : Int) : Option (Bool) :=
  (F_made_Mod a0 10).bind fun v1 =>
  (loopO (F_law29_MessagesMany_l1 v1 a1) (([] : List S_Notice), 0)).bind fun b3 =>
  (F_messages_Encode 3 b3).bind fun v8 =>
  (F_messages_Pack 3 b3 1280).bind fun v9 =>
  bif ((v8.2 == 0) == (decide ((IntKind.wrap .i64 (60 + v1)) ≤ 64))) then
    bif ((v8.2 == 3) == (decide ((IntKind.wrap .i64 (60 + v1)) > 64))) then
      bif (v9.2 == 0) then
        bif ((List.length v9.1 : Int) == (IntKind.wrap .i64 (1 + (iquo .i64 (IntKind.wrap .i64 ((IntKind.wrap .i64 (60 + v1)) - 1)) 64)))) then
          (F_law29_known ).bind fun v14 =>
          some (v14)
        else
          some (false)
      else
        some (false)
    else
      some (false)
  else
    some (false)
set_option maxRecDepth 100000 in
set_option maxHeartbeats 40000000 in
theorem ok_law29_MessagesMany (a0 : Int) (a1 : Int) (r : Bool) (h : F_law29_MessagesMany a0 a1 = some r) : Con Try.prog 5 [.c (.lit (.int .i64 (a0))), .c (.lit (.int .u16 (a1)))] [] (.c (.lit (.bool (r)))) [] := by
  unfold F_law29_MessagesMany at h
  refine con_of [] [] 65 Try.func5 rfl rfl (by kernel_rfl) (fun K => ?_)
  refine TS_go 7 ?_
  replace h := bindO h
  obtain ⟨v1, hv1, h⟩ := h
  refine TS_call [] (ok_made_Mod a0 10 v1 hv1) (by kernel_rfl) (by kernel_rfl) ?_
  refine TS_go 13 ?_
  refine TS_nilT 5 600000 39 40 (by kernel_rfl) ?_
  refine TS_cut ⟨[(0, []), (1, []), (5, []), (6, [])], [(600000, (600000, []))]⟩ (.mk [.code (codeAt [1, 1, 1, 0, 1, 0] (bodyOf Try.f5)), .blk 0, .code (codeAt [1, 1, 1, 1] (bodyOf Try.f5))] .normal ⟨[(0, .c (.lit (.int .i64 (IntKind.wrap .i64 (60 + v1))))), (1, .c (.lit (.int .u16 (a1)))), (5, .c (.slc 40 600002 (List.length ([] : List S_Notice)) (List.map S_Notice.cs ([] : List S_Notice)))), (6, .c (.lit (.int .i64 (0))))], [(600000, .spare 39 40 (List.length ([] : List S_Notice)))]⟩) (by kernel_rfl) (by kernel_rfl) ?_
  replace h := bindO h
  obtain ⟨y4, hl1, hK1⟩ := h
  refine TS_loopB (F_law29_MessagesMany_l1 v1 a1) ⟨[(0, []), (1, []), (5, []), (6, [])], [(600000, (600000, []))]⟩ (fun (s2 : (List S_Notice) × Int) => [(5, .c (.slc 40 600002 (List.length s2.1) (List.map S_Notice.cs s2.1))), (6, .c (.lit (.int .i64 (s2.2))))]) (fun (s2 : (List S_Notice) × Int) => [(600000, .spare 39 40 (List.length s2.1))]) (([] : List S_Notice), 0) y4 (.exit 0) (fun (b : (List S_Notice)) => b) ⟨[(0, []), (5, [])], [(600000, (600000, []))]⟩ (fun (b3 : (List S_Notice)) => [(5, .c (.slc 40 600002 (List.length b3) (List.map S_Notice.cs b3)))]) (fun (b3 : (List S_Notice)) => [(600000, .spare 39 40 (List.length b3))]) hl1 (by kernel_rfl) (by kernel_rfl) ?_ ?_
  · intro s2 x h hy1
    unfold F_law29_MessagesMany_l1 at h
    refine TS_go 7 ?_
    replace h := condO h
    rcases h with ⟨hb5, h⟩ | ⟨hb5, h⟩
    · refine TS_know 16 (b := true) hb5 (by kernel_rfl) (by kernel_rfl) ?_
      refine TS_T (by kernel_rfl) rfl ?_
      refine TS_go 10 ?_
      refine TS_litNT 25 39 40 S_Notice.cs [] ([(S_Notice.mk 1 (IntKind.wrap .u16 (a1 + (IntKind.wrap .u16 s2.2))) 0 0 (S_Destination.mk (S_Prefix.mk [0, 0, 0, 0, 0, 0, 0, 0, 0, 0, 0, 0, 0, 0, 0, 0] 0) (S_Prefix.mk [0, 0, 0, 0, 0, 0, 0, 0, 0, 0, 0, 0, 0, 0, 0, 0] 0) 0) 0)] : List S_Notice) (by kernel_rfl) (by kernel_rfl) ?_
      replace h := bindO h
      obtain ⟨_l6, hl6, h⟩ := h
      refine TS_appT (d := 600000) (e := 39) (sz := 40) (N := List.length s2.1) S_Notice.cs (fun _ => by kernel_rfl) (l1 := s2.1) (l2 := ([(S_Notice.mk 1 (IntKind.wrap .u16 (a1 + (IntKind.wrap .u16 s2.2))) 0 0 (S_Destination.mk (S_Prefix.mk [0, 0, 0, 0, 0, 0, 0, 0, 0, 0, 0, 0, 0, 0, 0, 0] 0) (S_Prefix.mk [0, 0, 0, 0, 0, 0, 0, 0, 0, 0, 0, 0, 0, 0, 0, 0] 0) 0) 0)] : List S_Notice)) (c := .whole) hl6 (by kernel_rfl) (by kernel_rfl) ?_
      refine TS_go 8 ?_
      have ret := Option.some.inj h
      subst ret
      exact TS_againB _ ⟨[(0, []), (1, []), (5, []), (6, [])], [(600000, (600000, []))]⟩ rfl (by kernel_rfl) (by kernel_rfl)
    · refine TS_know 16 (b := false) hb5 (by kernel_rfl) (by kernel_rfl) ?_
      refine TS_F (by kernel_rfl) rfl ?_
      refine TS_go 2 ?_
      have ret := Option.some.inj h
      subst ret
      exact TS_brkB s2.1 ⟨[(0, []), (5, [])], [(600000, (600000, []))]⟩ rfl (by kernel_rfl) (by kernel_rfl) (by kernel_rfl)
  · intro b3 hb
    subst y4
    have h := hK1
    refine TS_go 4 ?_
    replace h := bindO h
    obtain ⟨v8, hv8, h⟩ := h
    refine TS_con [[], [41]] [(29, 900000)] none (okT_messages_Encode 3 b3 v8 hv8) (by kernel_rfl) (by kernel_rfl) (by kernel_rfl) ?_
    refine TS_go 9 ?_
    replace h := bindO h
    obtain ⟨v9, hv9, h⟩ := h
    refine TS_con [[], [41]] [(34, 900000)] none (okT_messages_Pack 3 b3 1280 v9 hv9) (by kernel_rfl) (by kernel_rfl) (by kernel_rfl) ?_
    refine TS_go 14 ?_
    replace h := condO h
    rcases h with ⟨hb10, h⟩ | ⟨hb10, h⟩
    · refine TS_know 41 (b := true) hb10 (by kernel_rfl) (by kernel_rfl) ?_
      refine TS_know 42 (b := true) hb10 (by kernel_rfl) (by kernel_rfl) ?_
      refine TS_go 7 ?_
      replace h := condO h
      rcases h with ⟨hb11, h⟩ | ⟨hb11, h⟩
      · refine TS_know 47 (b := true) hb11 (by kernel_rfl) (by kernel_rfl) ?_
        refine TS_know 48 (b := true) hb11 (by kernel_rfl) (by kernel_rfl) ?_
        refine TS_know 49 (b := true) hb11 (by kernel_rfl) (by kernel_rfl) ?_
        refine TS_go 4 ?_
        replace h := condO h
        rcases h with ⟨hb12, h⟩ | ⟨hb12, h⟩
        · refine TS_know 51 (b := true) hb12 (by kernel_rfl) (by kernel_rfl) ?_
          refine TS_know 52 (b := true) hb12 (by kernel_rfl) (by kernel_rfl) ?_
          refine TS_know 53 (b := true) hb12 (by kernel_rfl) (by kernel_rfl) ?_
          refine TS_go 9 ?_
          replace h := condO h
          rcases h with ⟨hb13, h⟩ | ⟨hb13, h⟩
          · refine TS_know 60 (b := true) hb13 (by kernel_rfl) (by kernel_rfl) ?_
            refine TS_know 61 (b := true) hb13 (by kernel_rfl) (by kernel_rfl) ?_
            refine TS_know 62 (b := true) hb13 (by kernel_rfl) (by kernel_rfl) ?_
            replace h := bindO h
            obtain ⟨v14, hv14, h⟩ := h
            refine TS_call [] (ok_law29_known  v14 hv14) (by kernel_rfl) (by kernel_rfl) ?_
            refine TS_go 4 ?_
            have ret := Option.some.inj h
            subst ret
            exact TS_ret (by kernel_rfl) (by kernel_rfl) (by kernel_rfl)
          · refine TS_know 60 (b := false) hb13 (by kernel_rfl) (by kernel_rfl) ?_
            refine TS_know 61 (b := false) hb13 (by kernel_rfl) (by kernel_rfl) ?_
            refine TS_know 62 (b := false) hb13 (by kernel_rfl) (by kernel_rfl) ?_
            refine TS_go 5 ?_
            have ret := Option.some.inj h
            subst ret
            exact TS_ret (by kernel_rfl) (by kernel_rfl) (by kernel_rfl)
        · refine TS_know 51 (b := false) hb12 (by kernel_rfl) (by kernel_rfl) ?_
          refine TS_know 52 (b := false) hb12 (by kernel_rfl) (by kernel_rfl) ?_
          refine TS_know 53 (b := false) hb12 (by kernel_rfl) (by kernel_rfl) ?_
          refine TS_go 14 ?_
          have ret := Option.some.inj h
          subst ret
          exact TS_ret (by kernel_rfl) (by kernel_rfl) (by kernel_rfl)
      · refine TS_know 47 (b := false) hb11 (by kernel_rfl) (by kernel_rfl) ?_
        refine TS_know 48 (b := false) hb11 (by kernel_rfl) (by kernel_rfl) ?_
        refine TS_know 49 (b := false) hb11 (by kernel_rfl) (by kernel_rfl) ?_
        refine TS_go 18 ?_
        have ret := Option.some.inj h
        subst ret
        exact TS_ret (by kernel_rfl) (by kernel_rfl) (by kernel_rfl)
    · refine TS_know 41 (b := false) hb10 (by kernel_rfl) (by kernel_rfl) ?_
      refine TS_know 42 (b := false) hb10 (by kernel_rfl) (by kernel_rfl) ?_
      refine TS_go 25 ?_
      have ret := Option.some.inj h
      subst ret
      exact TS_ret (by kernel_rfl) (by kernel_rfl) (by kernel_rfl)
end
section
open Go.ChangeShapes Go.WideShapes Go.ChangeAt Go.RowKit

theorem own : ownKnob Try.prog.godebug = none := by kernel_rfl
theorem laidOut : laidOutB Try.prog = true := by kernel_rfl

/-- the arguments read as before -/
theorem trodAll_below {H : Type} {enc : TypeId × Value → H} {P : Program} (hl : laidOutB P = true) {W W' : World} (hb : Below W.heap.size W W') :
    ∀ {ts : List TypeId} {vs : List Value} {ds : List (DataW H)} {ps : List MemPlace}, ts.all (fun t => P.readableRec t && decide (t < P.types.size)) = true →
      DataW.TrodAll enc P W 0 (fun _ => true) true ts vs ds ps → DataW.TrodAll enc P W' 0 (fun b => decide (b < W.heap.size)) true ts vs ds ps
  | [], _, _, _, _, h => by
    obtain ⟨rfl, rfl, rfl⟩ := trodAll_nil h
    exact trodAll_mk0
  | t :: ts, vs, ds, ps, hr, h => by
    obtain ⟨v, vs', d, ds', p, q, rfl, rfl, rfl, h1, h2⟩ := trodAll_cons h
    simp only [List.all_cons, Bool.and_eq_true, decide_eq_true_eq] at hr
    have lt : ∀ x ∈ p, x.block < W.heap.size := by obtain ⟨m, hm⟩ := h1; exact DataW.trod_lt m _ _ _ hm
    exact trodAll_cons_mk (Below.trod hl hr.1.1 hr.1.2 h1 hb lt) (trodAll_below hl hb hr.2 h2)

/-- the reader that sees all -/
def rdAll (w : World) : Rd := fun b o => w.cell? ⟨b, o, none⟩
def env0 : Env := ⟨fun _ => (0, 0), fun _ => (.slice none 0 0, .slice none 0 0)⟩
theorem vrel_lit (rd : Rd) (g : Env) (v : Value) : VRel rd g v (.c (.lit v)) := IRel.lit v
def ArgsOk (rd : Rd) (g : Env) : List Value → List SV → Prop
  | [], [] => True
  | u :: us, x :: xs => VRel rd g u x ∧ ArgsOk rd g us xs
  | _, _ => False
theorem ArgsOk.get {rd : Rd} {g : Env} : ∀ {us : List Value} {xs : List SV}, ArgsOk rd g us xs → us.length = xs.length ∧ ∀ (i : Nat) (x : SV), xs[i]? = some x → ∃ u, us[i]? = some u ∧ VRel rd g u x
  | [], [], _ => ⟨rfl, fun i x h => by simp at h⟩
  | u :: us, y :: xs, h => by
    obtain ⟨h1, h2⟩ := h
    obtain ⟨k1, k2⟩ := h2.get
    refine ⟨by simp [k1], fun i x hx => ?_⟩
    rcases i with _ | i
    · cases hx; exact ⟨u, rfl, h1⟩
    · exact k2 i x (by simpa using hx)
/-- a law that is true -/
theorem con_true {P : Program} {f : FuncId} {args : List SV} (h : Con P f args [] (.c (.lit (.bool true))) []) {W : World} {us : List Value} (ha : ArgsOk (rdAll W) env0 us args) :
    Calls P f us.toArray W fun e w' => e = .returned (.bool true) ∧ Ext W w' := by
  obtain ⟨h1, h2⟩ := ha.get
  have nol : ∀ d (x : Res), look ([] : Hp) d = some x → False := fun d x hx => by simp [look] at hx
  have noin : ∀ g b o, ¬ InFoot g ([] : Hp) b o := by rintro g b o ⟨d, r, hd, _⟩; exact nol _ _ hd
  refine (h (rdAll W) env0 W us.toArray (fun b o v hv => hv) (by simpa using h1) (fun i x hx => by simpa using h2 i x hx) (fun d x hx => (nol d x hx).elim) (fun d d' r r' b o _ hd => (nol _ _ hd).elim) (fun b o hx => (noin _ _ _ hx).elim)).mono ?_
  rintro e w' ⟨u, g', rfl, hk, _, _, _, _, hu⟩
  have hE : Ext W w' := (hk.weak (fun b o x => noin _ _ _ x)).ext
  refine ⟨?_, hE⟩
  have := (hu (rdAll w') (by
    intro b o v hv
    obtain ⟨g, rfl⟩ := hE
    have hb := World.block_lt_of_cell? _ _ hv
    unfold rdAll
    rw [cell_plus _ _ _ _ _ hb]
    exact hv) (fun b o u _ _ hc => hc)).1
  cases this
  rfl
def wfI (k : IntKind) (n : Int) : Prop := (Lit.int k n).wf = true
def wfA (k : IntKind) (n : Nat) (l : List Int) : Prop := l.length = n ∧ ∀ z ∈ l, wfI k z
def Seg (rd : Rd) (cs : List Value) (off n : Nat) (l : List SC) : Prop := l.length = n ∧ ∀ (j : Nat) (y : SC), l[j]? = some y → ∃ u, cs[off + j]? = some u ∧ IRel rd u y
theorem Seg.append {rd : Rd} {cs : List Value} {off n m : Nat} {l l' : List SC} (h : Seg rd cs off n l) (k : Seg rd cs (off + n) m l') : Seg rd cs off (n + m) (l ++ l') := by
  refine ⟨by rw [List.length_append, h.1, k.1], fun j y hy => ?_⟩
  by_cases hj : j < l.length
  · rw [List.getElem?_append_left hj] at hy
    exact h.2 j y hy
  · rw [List.getElem?_append_right (by omega)] at hy
    obtain ⟨u, h1, h2⟩ := k.2 _ y hy
    have h3 := h.1
    refine ⟨u, ?_, h2⟩
    rw [← h1]
    congr 1
    omega

/-- a value of the type t is the shadow of an α -/
def Opens (P : Program) (t : TypeId) {α : Type} (f : α → List SC) (wf : α → Prop) : Prop :=
  ∀ (H : Type) (enc : TypeId × Value → H) (W : World) (fuel : Nat) (cs : List Value) (x : DataW H × List MemPlace), DataW.trod enc P W 0 (fun _ => true) true fuel t cs = some x → ∃ a : α, Seg (rdAll W) cs 0 cs.length (f a) ∧ wf a
end
section
open Go.ChangeShapes Go.WideShapes Go.ChangeAt Go.RowKit

def Wt (P : Program) (t : TypeId) {H : Type} (d : DataW H) : Prop := ∀ n ∈ d.weights P t, n ≤ reachBytes
def OpensR (P : Program) (t : TypeId) {α : Type} (f : α → List SC) (wf : α → Prop) : Prop :=
  ∀ (H : Type) (enc : TypeId × Value → H) (W : World) (fuel : Nat) (cs : List Value) (x : DataW H × List MemPlace), DataW.trod enc P W 0 (fun _ => true) true fuel t cs = some x → Wt P t x.1 → ∃ a : α, Seg (rdAll W) cs 0 cs.length (f a) ∧ wf a
theorem Opens.r {P : Program} {t : TypeId} {α : Type} {f : α → List SC} {wf : α → Prop} (h : Opens P t f wf) : OpensR P t f wf := fun H enc W fuel cs x h1 _ => h H enc W fuel cs x h1
end
section
open Go.ChangeShapes Go.WideShapes Go.ChangeAt Go.RowKit

def S_Prefix.wf (x : S_Prefix) : Prop := wfA .u8 16 x.IP ∧ wfI .i64 x.Bits
def S_Destination.wf (x : S_Destination) : Prop := S_Prefix.wf x.Dst ∧ S_Prefix.wf x.Src ∧ wfI .u64 x.Router
def S_Notice.wf (x : S_Notice) : Prop := wfI .i64 x.Kind ∧ wfI .u16 x.Seq ∧ wfI .i64 x.Metric ∧ wfI .u64 x.Neighbour ∧ S_Destination.wf x.To ∧ wfI .i64 x.Hops
end
section
open Go.ChangeShapes Go.WideShapes Go.ChangeAt Go.RowKit

set_option maxRecDepth 100000 in
theorem messagesMany_lifted (hF : ∀ (a0 : Int) (a1 : Int), wfI .i64 a0 → wfI .u16 a1 → F_law29_MessagesMany a0 a1 = some true) (os : Os) (started : os.Started) (H : Type) (enc : TypeId × Value → H) :
    ReturnsInHanded {} Try.checked os 5 .any (Rows.messagesManySpec.pre6 enc Try.prog Try.f5 Rows.messagesManyRow.domain false) (Rows.messagesManySpec.post enc Try.prog Try.f5 false true false false) := by
  refine returnsInHanded_of_change_sized (C := Try.checked) own started (by kernel_rfl) Try.func5
    (ChangeSpec.witness6 (enc := enc) (C := Try.checked) false ⟨#[], #[.int .i64 0, .int .u16 0], []⟩ 8 (by kernel_rfl) (by kernel_rfl) (by kernel_rfl) (by kernel_rfl)) ?_
  intro W base args ds gs before hval0 hW hcnd hsz0 _
  have hval : ∀ (j : Nat) t v, Try.f5.params[j]? = some t → args[j]? = some v → Value.okWide Try.prog W .any base t v := hval0
  have hW' := hW
  obtain ⟨p, q, hA0, hV, rfl, hfz, hnd⟩ := hW
  have hA : DataW.TrodAll enc Try.prog W 0 (fun _ => true) true Try.f5.params.toList args.toList ds p := hA0
  have hAll := hA
  rw [Try.params5] at hA hval hAll
  obtain ⟨v0, vs0, d0, ds0, p0, q0, hargs, rfl, rfl, h0, r0⟩ := trodAll_cons hA
  obtain ⟨v1, vs1, d1, ds1, p1, q1, rfl, rfl, rfl, h1, r1⟩ := trodAll_cons r0
  obtain ⟨rfl, rfl, rfl⟩ := trodAll_nil r1
  obtain rfl : args = #[v0, v1] := by cases args; simp_all
  obtain ⟨rfl, rfl⟩ := trodVars_none hV
  obtain ⟨x0, rfl, rfl, rfl, w0⟩ := open_int Try.underlying3 (hval 0 3 v0 rfl rfl) h0
  obtain ⟨x1, rfl, rfl, rfl, w1⟩ := open_int Try.underlying29 (hval 1 29 v1 rfl rfl) h1
  clear hA0 hval0 hsz0
  refine (con_true (us := [.int .i64 x0, .int .u16 x1]) (ok_law29_MessagesMany x0 x1 true (hF x0 x1 w0 w1)) ⟨vrel_lit _ _ _, vrel_lit _ _ _, trivial⟩).mono fun e W' ⟨he, hx⟩ => ?_
  subst he
  have bel := hx.below
  exact ⟨_, rfl, _, _, _, [], _, [], hW', trodAll_mk1 (shut_bool Try.underlying4 _), trodAll_below laidOut bel (by kernel_rfl) hAll, rfl, bel.frame _, fun h => by cases h⟩

theorem messagesMany_of (hF : ∀ (a0 : Int) (a1 : Int), wfI .i64 a0 → wfI .u16 a1 → F_law29_MessagesMany a0 a1 = some true) : Rows.MessagesManySaid :=
  OpenClaim.holds_of_wide 5 Try.f5 rfl rfl rfl rfl rfl rfl rfl ⟨rfl, rfl, rfl, rfl, rfl⟩ rfl rfl rfl rfl rfl (by kernel_rfl) Try.func5 (by kernel_rfl)
    (of_decide_eq_true (by kernel_rfl)) (by unfold Func.isWrapper; first | (rw [if_pos (by decide +kernel)]; kernel_rfl) | (rw [if_neg (by decide +kernel)]; exact ⟨rfl, rfl⟩))
    (fun os started H enc _ => messagesMany_lifted hF os started H enc)
end
section
open Go.RowKit

theorem beqF {α : Type} [BEq α] [LawfulBEq α] {a b : α} (h : ¬ a = b) : (a == b) = false := by simpa using h
theorem decT {p : Prop} [Decidable p] (h : p) : decide p = true := by simpa using h
theorem decF {p : Prop} [Decidable p] (h : ¬ p) : decide p = false := by simpa using h
theorem wi {x : Int} (h0 : -9223372036854775808 ≤ x) (h1 : x ≤ 9223372036854775807) : IntKind.wrap .i64 x = x := by
  simp [IntKind.wrap, IntKind.bits, IntKind.signed]
  omega
theorem wu {x : Int} (h0 : 0 ≤ x) (h1 : x < 18446744073709551616) : IntKind.wrap .u64 x = x := by
  simp [IntKind.wrap, IntKind.bits, IntKind.signed]
  omega
theorem wu16 {x : Int} (h0 : 0 ≤ x) (h1 : x < 65536) : IntKind.wrap .u16 x = x := by
  simp [IntKind.wrap, IntKind.bits, IntKind.signed]
  omega
theorem wu8 {x : Int} (h0 : 0 ≤ x) (h1 : x < 256) : IntKind.wrap .u8 x = x := by
  simp [IntKind.wrap, IntKind.bits, IntKind.signed]
  omega
theorem wk (k : Nat) (h : k < 9223372036854775807) : IntKind.wrap .i64 ((k : Int) + 1) = ((k + 1 : Nat) : Int) := by
  rw [wi (by omega) (by omega)]; rfl
theorem wrap8 (x : Int) : IntKind.wrap .u8 x = x % 256 := by
  simp [IntKind.wrap, IntKind.bits, IntKind.signed]
theorem wrap16 (x : Int) : IntKind.wrap .u16 x = x % 65536 := by
  simp [IntKind.wrap, IntKind.bits, IntKind.signed]
theorem wrap64 (x : Int) : IntKind.wrap .u64 x = x % 18446744073709551616 := by
  simp [IntKind.wrap, IntKind.bits, IntKind.signed]
section
variable {σ ρ : Type} {step : σ → Option (σ ⊕ ρ)}
theorem loop_done {s : σ} {r : ρ} (h : step s = some (.inr r)) : loopO step s = some r := by rw [loopO_eq, h]
theorem loop_next {s s' : σ} (h : step s = some (.inl s')) : loopO step s = loopO step s' := by rw [loopO_eq, h]
/-- a loop that keeps I and ends with Q -/
theorem loop_inv (I : σ → Prop) (Q : ρ → Prop) (m : σ → Nat) (hs : ∀ s, I s → (∃ s', step s = some (.inl s') ∧ I s' ∧ m s' < m s) ∨ (∃ r, step s = some (.inr r) ∧ Q r)) (s : σ) (h : I s) : ∃ r, loopO step s = some r ∧ Q r := by
  induction hn : m s using Nat.strongRecOn generalizing s with
  | ind n ih =>
    subst hn
    rcases hs s h with ⟨s', h1, h2, h3⟩ | ⟨r, h1, h2⟩
    · obtain ⟨r, hr, hq⟩ := ih (m s') h3 s' h2 rfl
      exact ⟨r, by rw [loop_next h1]; exact hr, hq⟩
    · exact ⟨r, loop_done h1, h2⟩
/-- a loop whose states are known -/
theorem loop_to (S : Nat → σ) (n : Nat) (h : ∀ k, k < n → step (S k) = some (.inl (S (k + 1)))) : loopO step (S 0) = loopO step (S n) := by
  induction n with
  | zero => rfl
  | succ n ih => rw [ih (fun k hk => h k (by omega)), loop_next (h n (by omega))]
theorem loop_run (S : Nat → σ) (n : Nat) {r : ρ} (h : ∀ k, k < n → step (S k) = some (.inl (S (k + 1)))) (he : step (S n) = some (.inr r)) : loopO step (S 0) = some r := by
  rw [loop_to S n h, loop_done he]
/-- a loop that is left at the first place where p fails -/
theorem loop_first (S : Nat → σ) (n : Nat) (p : Nat → Bool) (out : Nat → ρ) {re : ρ} (h1 : ∀ k, k < n → p k = true → step (S k) = some (.inl (S (k + 1)))) (h2 : ∀ k, k < n → p k = false → step (S k) = some (.inr (out k))) (h3 : step (S n) = some (.inr re)) :
    (∃ k, k < n ∧ p k = false ∧ (∀ j, j < k → p j = true) ∧ loopO step (S 0) = some (out k)) ∨ ((∀ k, k < n → p k = true) ∧ loopO step (S 0) = some re) := by
  by_cases hx : ∀ k, k < n → p k = true
  · exact .inr ⟨hx, loop_run S n (fun k hk => h1 k hk (hx k hk)) h3⟩
  · have hx' : ∃ k, k < n ∧ p k = false := by
      apply Classical.byContradiction
      intro hno
      apply hx
      intro k hk
      cases hpk : p k with
      | true => rfl
      | false => exact absurd ⟨k, hk, hpk⟩ hno
    have : ∃ k, (k < n ∧ p k = false) ∧ ∀ j, j < k → ¬ (j < n ∧ p j = false) := by
      obtain ⟨k, hk⟩ := hx'
      induction k using Nat.strongRecOn with
      | ind k ih =>
        by_cases hj : ∃ j, j < k ∧ j < n ∧ p j = false
        · obtain ⟨j, hj1, hj2⟩ := hj; exact ih j hj1 hj2
        · exact ⟨k, hk, fun j hjk hh => hj ⟨j, hjk, hh⟩⟩
    obtain ⟨k, ⟨hk, hpk⟩, hmin⟩ := this
    have hall : ∀ j, j < k → p j = true := by
      intro j hj
      cases hpj : p j with
      | true => rfl
      | false => exact absurd ⟨by omega, hpj⟩ (hmin j hj)
    refine .inl ⟨k, hk, hpk, hall, ?_⟩
    rw [loop_to S k (fun j hj => h1 j (by omega) (hall j hj)), loop_done (h2 k hk hpk)]
/-- a loop that answers whether p holds everywhere -/
theorem loop_all (S : Nat → σ) (n : Nat) (p : Nat → Bool) {rt rf : ρ} (h1 : ∀ k, k < n → p k = true → step (S k) = some (.inl (S (k + 1)))) (h2 : ∀ k, k < n → p k = false → step (S k) = some (.inr rf)) (h3 : step (S n) = some (.inr rt)) :
    loopO step (S 0) = some (if ∀ k, k < n → p k = true then rt else rf) := by
  rcases loop_first S n p (fun _ => rf) h1 h2 h3 with ⟨k, hk, hpk, _, h⟩ | ⟨ha, h⟩
  · rw [h, if_neg]
    intro hh
    rw [hh k hk] at hpk
    cases hpk
  · rw [h, if_pos ha]
end
theorem idx_nat {α : Type} (l : List α) (k : Nat) : idx l (k : Int) = l[k]? := by simp [idx]
theorem idx_lt {α : Type} {l : List α} {k : Nat} (h : k < l.length) : idx l (k : Int) = some l[k] := by rw [idx_nat]; exact List.getElem?_eq_getElem h
theorem appO_some {α : Type} {by_ : Nat} {l1 l2 : List α} (h : (l1.length + l2.length) * by_ ≤ 140737488355328) (h' : l1.length + l2.length ≤ 140737488355328) : appO by_ l1 l2 = some (l1 ++ l2) := by
  unfold appO; rw [if_pos ⟨h, h'⟩]
theorem subO_some {α : Type} {l : List α} {a b : Int} (h0 : 0 ≤ a) (h1 : a ≤ b) (h2 : b ≤ l.length) : subO l a b = some ((l.take b.toNat).drop a.toNat) := by
  unfold subO; rw [if_pos ⟨h0, h1, h2⟩]

theorem arrL_id {n : Nat} {l : List Int} (h : l.length = n) : arrL n l = l := by
  apply List.ext_getElem?
  intro i
  unfold arrL
  rcases Nat.lt_or_ge i n with hi | hi
  · rw [List.getElem?_map, List.getElem?_range hi, List.getElem?_eq_getElem (by omega)]
    simp [List.getD_eq_getElem?_getD, List.getElem?_eq_getElem (show i < l.length by omega)]
  · rw [List.getElem?_eq_none (by simpa using hi), List.getElem?_eq_none (by omega)]
theorem arrEq_iff {n : Nat} {a b : List Int} : arrEq n a b = true ↔ ∀ i, i < n → a.getD i 0 = b.getD i 0 := by
  unfold arrEq
  have : ∀ l : List Nat, (l.foldr (fun i r => (a.getD i 0 == b.getD i 0) && r) true) = true ↔ ∀ i ∈ l, a.getD i 0 = b.getD i 0 := by
    intro l
    induction l with
    | nil => simp
    | cons x l ih => simp only [List.foldr_cons, Bool.and_eq_true, beq_iff_eq, ih, List.mem_cons, forall_eq_or_imp]
  rw [this]
  simp
theorem arrEq_eq {n : Nat} {a b : List Int} (ha : a.length = n) (hb : b.length = n) : arrEq n a b = decide (a = b) := by
  rw [Bool.eq_iff_iff, arrEq_iff, decide_eq_true_iff]
  constructor
  · intro h
    apply List.ext_getElem (by omega)
    intro i h1 h2
    have := h i (by omega)
    simpa [List.getD_eq_getElem?_getD, List.getElem?_eq_getElem h1, List.getElem?_eq_getElem h2] using this
  · rintro rfl _ _; rfl
theorem getD_get {l : List Int} {i : Nat} (h : i < l.length) : l.getD i 0 = l[i] := by simp [List.getD_eq_getElem?_getD, List.getElem?_eq_getElem h]
theorem getD_mem {p : Int → Prop} {l : List Int} (h : ∀ z ∈ l, p z) (h0 : p 0) (i : Nat) : p (l.getD i 0) := by
  rcases Nat.lt_or_ge i l.length with hi | hi
  · rw [getD_get hi]; exact h _ (List.getElem_mem hi)
  · rw [List.getD_eq_getElem?_getD, List.getElem?_eq_none hi]; exact h0
end
section
open Go.RowKit

def okB (l : List Int) : Prop := ∀ z ∈ l, 0 ≤ z ∧ z ≤ 255
theorem okB_nil : okB [] := fun z h => by simp at h
theorem okB.append {a b : List Int} (ha : okB a) (hb : okB b) : okB (a ++ b) := fun z h => (List.mem_append.1 h).elim (ha z) (hb z)
theorem okB.get {l : List Int} (h : okB l) {i : Nat} (hi : i < l.length) : 0 ≤ l[i] ∧ l[i] ≤ 255 := h _ (List.getElem_mem hi)
theorem okB.take {l : List Int} (h : okB l) (n : Nat) : okB (l.take n) := fun z hz => h z (List.mem_of_mem_take hz)
theorem okB.drop {l : List Int} (h : okB l) (n : Nat) : okB (l.drop n) := fun z hz => h z (List.mem_of_mem_drop hz)
theorem okB.set {l : List Int} (h : okB l) (n : Nat) {v : Int} (hv : 0 ≤ v ∧ v ≤ 255) : okB (l.set n v) := fun z hz => (List.mem_or_eq_of_mem_set hz).elim (h z) (fun e => e ▸ hv)
theorem okB.getD {l : List Int} (h : okB l) (n : Nat) : 0 ≤ l.getD n 0 ∧ l.getD n 0 ≤ 255 := getD_mem (p := fun z => 0 ≤ z ∧ z ≤ 255) h (by omega) n
theorem okB_one {v : Int} (h : 0 ≤ v ∧ v ≤ 255) : okB [v] := fun z hz => by rw [List.mem_singleton.1 hz]; exact h
theorem okB_cons {v : Int} {l : List Int} (h : 0 ≤ v ∧ v ≤ 255) (k : okB l) : okB (v :: l) := fun z hz => (List.mem_cons.1 hz).elim (fun e => e ▸ h) (k z)
theorem u8_inj {a b : Int} (ha : 0 ≤ a ∧ a ≤ 255) (hb : 0 ≤ b ∧ b ≤ 255) (h : a.toNat.toUInt8 = b.toNat.toUInt8) : a = b := by
  have e1 : (a.toNat.toUInt8).toNat = a.toNat := by simp [Nat.toUInt8]; omega
  have e2 : (b.toNat.toUInt8).toNat = b.toNat := by simp [Nat.toUInt8]; omega
  rw [h] at e1
  omega
theorem u8L_inj : ∀ {a b : List Int}, okB a → okB b → u8L a = u8L b → a = b
  | [], [], _, _, _ => rfl
  | [], _ :: _, _, _, h => by simp [u8L] at h
  | _ :: _, [], _, _, h => by simp [u8L] at h
  | x :: s, y :: t, ha, hb, h => by
    simp only [u8L, List.map_cons, List.cons.injEq] at h
    rw [u8_inj (ha x (by simp)) (hb y (by simp)) h.1, u8L_inj (fun z hz => ha z (by simp [hz])) (fun z hz => hb z (by simp [hz])) h.2]
theorem u8L_beq {a b : List Int} (ha : okB a) (hb : okB b) : (u8L a == u8L b) = decide (a = b) := by
  by_cases h : a = b
  · subst h; simp
  · rw [decF h]
    exact beqF (fun q => h (u8L_inj ha hb q))
theorem ishr_eq {x y : Int} (h0 : 0 ≤ y) (h1 : y < 64) : ishr .u64 x y = x / 2 ^ y.toNat := by
  unfold ishr
  rw [show min y.toNat IntKind.u64.bits = y.toNat by simp [IntKind.bits]; omega]
  exact Int.fdiv_eq_ediv_of_nonneg _ (Int.pow_nonneg (by omega))
theorem ishl_eq {x y : Int} (h0 : 0 ≤ y) (h1 : y < 64) : ishl .u64 x y = (x * 2 ^ y.toNat) % 18446744073709551616 := by
  unfold ishl
  rw [show min y.toNat IntKind.u64.bits = y.toNat by simp [IntKind.bits]; omega, wrap64]
theorem byte_eq {v : Int} {j : Int} (h0 : 0 ≤ j) (h1 : j < 64) : IntKind.wrap .u8 (ishr .u64 v j) = v / 2 ^ j.toNat % 256 := by
  rw [ishr_eq h0 h1, wrap8]
theorem ior_add {x y : Int} (i : Nat) (h0 : 0 ≤ x) (h1 : x < 2 ^ i) (h2 : 0 ≤ y) (h3 : x + y * 2 ^ i < 18446744073709551616) : ior .u64 x (y * 2 ^ i) = x + y * 2 ^ i := by
  obtain ⟨a, rfl⟩ := Int.eq_ofNat_of_zero_le h0
  obtain ⟨b, rfl⟩ := Int.eq_ofNat_of_zero_le h2
  have hp : ((b : Int) * 2 ^ i) = ((b * 2 ^ i : Nat) : Int) := by rw [Int.natCast_mul, Int.natCast_pow]; rfl
  have ha : a < 2 ^ i := by
    have e : ((2 : Int) ^ i) = ((2 ^ i : Nat) : Int) := by rw [Int.natCast_pow]; rfl
    rw [e] at h1
    omega
  rw [hp] at h3 ⊢
  have h3' : a + b * 2 ^ i < 18446744073709551616 := by omega
  unfold ior
  have e1 : (BitVec.ofInt IntKind.u64.bits (a : Int)).toNat = a := by
    rw [BitVec.toNat_ofInt]
    simp only [IntKind.bits]
    omega
  have e2 : (BitVec.ofInt IntKind.u64.bits ((b * 2 ^ i : Nat) : Int)).toNat = b * 2 ^ i := by
    rw [BitVec.toNat_ofInt]
    simp only [IntKind.bits]
    omega
  rw [BitVec.toNat_or, e1, e2, Nat.or_comm, show b * 2 ^ i ||| a = 2 ^ i * b + a by rw [Nat.two_pow_add_eq_or_of_lt ha, Nat.mul_comm]]
  rw [wrap64, Nat.mul_comm]
  omega

def beB (v : Int) (n : Nat) : List Int := (List.range n).map fun i => v / 2 ^ (8 * (n - 1 - i)) % 256
theorem beB_len (v : Int) (n : Nat) : (beB v n).length = n := by simp [beB]
theorem beB_ok (v : Int) (n : Nat) : okB (beB v n) := fun z hz => by
  obtain ⟨i, _, rfl⟩ := List.mem_map.1 hz
  omega
theorem beB_get {v : Int} {n i : Nat} (h : i < n) : (beB v n)[i]? = some (v / 2 ^ (8 * (n - 1 - i)) % 256) := by
  unfold beB
  rw [List.getElem?_map, List.getElem?_range h]; rfl
theorem take_snoc {α : Type} {l : List α} {k : Nat} {x : α} (h : l[k]? = some x) : l.take (k + 1) = l.take k ++ [x] := by
  rw [List.take_add_one, h]; rfl
theorem set_mid {α : Type} (a b : List α) (x y : α) {k : Nat} (h : k = a.length) : (a ++ x :: b).set k y = a ++ y :: b := by
  subst h
  rw [List.set_append_right _ _ (Nat.le_refl _), Nat.sub_self]
  rfl

/-- the number of bytes, the greatest first -/
def beN : List Int → Int := fun l => l.foldl (fun v c => v * 256 + c) 0
theorem beN_snoc (l : List Int) (x : Int) : beN (l ++ [x]) = beN l * 256 + x := by simp [beN]
theorem beN_aux : ∀ (l : List Int) (v : Int), okB l → 0 ≤ v → 0 ≤ l.foldl (fun v c => v * 256 + c) v ∧ l.foldl (fun v c => v * 256 + c) v < (v + 1) * 256 ^ l.length
  | [], v, _, h => by simp; omega
  | x :: l, v, h, hv => by
    have h1 := h x (by simp)
    obtain ⟨a, b⟩ := beN_aux l (v * 256 + x) (fun z hz => h z (by simp [hz])) (by omega)
    refine ⟨a, Int.lt_of_lt_of_le b ?_⟩
    have e : (v + 1) * (256 : Int) ^ (x :: l).length = (v + 1) * 256 * 256 ^ l.length := by
      rw [List.length_cons, Int.pow_succ, Int.mul_comm ((256 : Int) ^ l.length) 256, Int.mul_assoc]
    rw [e]
    exact Int.mul_le_mul_of_nonneg_right (by omega) (Int.pow_nonneg (by omega))
theorem beN_bd {l : List Int} (h : okB l) : 0 ≤ beN l ∧ beN l < 256 ^ l.length := by
  have := beN_aux l 0 h (by omega)
  simpa [beN] using this
end
section
open Go.RowKit

theorem octets_append_n (a : List Int) (v : Int) (n : Nat) (hn : n ≤ 8) (ha : a.length ≤ 140737488355320) : F_octets_Append_j1 a v n = some (a ++ beB v n) := by
  unfold F_octets_Append_j1
  have e1 : IntKind.wrap .i64 ((a.length : Int) + (n : Int)) = ((a.length + n : Nat) : Int) := by rw [wi (by omega) (by omega)]; rfl
  rw [e1]
  have e2 : mkO 1 ((a.length + n : Nat) : Int) ((a.length + n : Nat) : Int) = some (a.length + n) := by
    unfold mkO
    rw [if_pos ⟨by omega, by omega, by omega, by omega⟩, Int.toNat_natCast]
  rw [e2, Option.bind_some]
  have e3 : cpL (List.replicate (a.length + n) (0 : Int)) 0 (List.length (Cut.app .whole (List.replicate (a.length + n) (0 : Int)))) (Cut.app .whole a) = a ++ (beB v n).take 0 ++ List.replicate (n - 0) 0 := by
    unfold cpL
    simp only [Cut.app, List.length_replicate, List.take_zero, List.nil_append, List.append_nil, Nat.zero_add, Nat.sub_zero]
    rw [show min a.length (a.length + n) = a.length by omega, List.take_length, List.drop_replicate, show a.length + n - a.length = n by omega]
  rw [e3]
  have hl := loop_run (step := F_octets_Append_l2 n a v) (S := fun k => ((k : Int), a ++ (beB v n).take k ++ List.replicate (n - k) 0)) n (r := a ++ beB v n) (fun k hk => by
    unfold F_octets_Append_l2
    dsimp only
    have w1 : IntKind.wrap .i64 ((n : Int) - 1) = (n : Int) - 1 := wi (by omega) (by omega)
    have w2 : IntKind.wrap .i64 ((n : Int) - 1 - (k : Int)) = ((n - 1 - k : Nat) : Int) := by rw [wi (by omega) (by omega)]; omega
    have w3 : IntKind.wrap .i64 (8 * ((n - 1 - k : Nat) : Int)) = ((8 * (n - 1 - k) : Nat) : Int) := by rw [wi (by omega) (by omega)]; omega
    have w4 : IntKind.wrap .i64 ((a.length : Int) + (k : Int)) = ((a.length + k : Nat) : Int) := by rw [wi (by omega) (by omega)]; rfl
    have hlen : (a ++ (beB v n).take k ++ List.replicate (n - k) (0 : Int)).length = a.length + n := by
      simp only [List.length_append, List.length_take, beB_len, List.length_replicate]; omega
    rw [decT (show (k : Int) < (n : Int) by omega), w1, w2, w3, w4, decT (show (0 : Int) ≤ ((8 * (n - 1 - k) : Nat) : Int) by omega)]
    simp only [cond_true, Cut.app, Nat.zero_add, Int.toNat_natCast]
    rw [idx_lt (by omega), Option.bind_some, List.getElem?_eq_getElem (by omega), Option.bind_some, wk k (by omega), byte_eq (by omega) (by omega), Int.toNat_natCast]
    congr 3
    obtain ⟨m, hm⟩ : ∃ m, n - k = m + 1 := ⟨n - k - 1, by omega⟩
    rw [hm, List.replicate_succ, set_mid _ _ _ _ (by simp only [List.length_append, List.length_take, beB_len]; omega), take_snoc (beB_get hk), show n - (k + 1) = m by omega]
    simp) (by
    unfold F_octets_Append_l2
    dsimp only
    rw [decF (show ¬ (n : Int) < (n : Int) by omega)]
    simp only [cond_false]
    rw [List.take_of_length_le (by rw [beB_len]; exact Nat.le_refl _), Nat.sub_self]
    simp)
  simp only [Int.natCast_zero] at hl
  rw [hl]
  rfl
/-- octets.Append -/
theorem octets_append (a : List Int) (v : Int) (n : Nat) (hn : n ≤ 8) (ha : a.length ≤ 140737488355320) : F_octets_Append a v n = some (a ++ beB v n) := by
  unfold F_octets_Append
  rw [decF (show ¬ (n : Int) < 0 by omega), decF (show ¬ (n : Int) > 8 by omega)]
  exact octets_append_n a v n hn ha
end
section
open Go.RowKit

def Bytes (l : List Int) : Prop := ∀ z ∈ l, 0 ≤ z ∧ z ≤ 255
def bit8 (b : Int) (j : Nat) : Int := iand .u8 (ishr .u8 b (7 - (j : Int))) 1
def maskB (b : Int) (c : Nat) : Int := iandNot .u8 b (ishr .u8 255 (c : Int))
theorem byte_fin {b : Int} (h : 0 ≤ b ∧ b ≤ 255) : ∃ x : Fin 256, b = ((x : Nat) : Int) := ⟨⟨b.toNat, by omega⟩, by simp; omega⟩
theorem bit8_sum0 : ∀ x : Fin 256, ((x : Nat) : Int) = 128 * bit8 x 0 + 64 * bit8 x 1 + 32 * bit8 x 2 + 16 * bit8 x 3 + 8 * bit8 x 4 + 4 * bit8 x 5 + 2 * bit8 x 6 + bit8 x 7 := by decide +kernel
theorem bit8_ext {x y : Int} (hx : 0 ≤ x ∧ x ≤ 255) (hy : 0 ≤ y ∧ y ≤ 255) (h : ∀ j, j < 8 → bit8 x j = bit8 y j) : x = y := by
  obtain ⟨a, rfl⟩ := byte_fin hx
  obtain ⟨b, rfl⟩ := byte_fin hy
  rw [bit8_sum0 a, bit8_sum0 b, h 0 (by omega), h 1 (by omega), h 2 (by omega), h 3 (by omega), h 4 (by omega), h 5 (by omega), h 6 (by omega), h 7 (by omega)]
theorem maskB_bit0 : ∀ x : Fin 256, ∀ c : Fin 9, ∀ j : Fin 8, bit8 (maskB x c) j = if (j : Nat) < c then bit8 x j else 0 := by decide +kernel
theorem maskB_bit {x : Int} (hx : 0 ≤ x ∧ x ≤ 255) {c j : Nat} (hc : c ≤ 8) (hj : j < 8) : bit8 (maskB x c) j = if j < c then bit8 x j else 0 := by
  obtain ⟨a, rfl⟩ := byte_fin hx
  exact maskB_bit0 a ⟨c, by omega⟩ ⟨j, hj⟩
theorem maskB_byte0 : ∀ x : Fin 256, ∀ c : Fin 9, 0 ≤ maskB x c ∧ maskB x c ≤ 255 := by decide +kernel
theorem maskB_byte {x : Int} (hx : 0 ≤ x ∧ x ≤ 255) {c : Nat} (hc : c ≤ 8) : 0 ≤ maskB x c ∧ maskB x c ≤ 255 := by
  obtain ⟨a, rfl⟩ := byte_fin hx
  exact maskB_byte0 a ⟨c, by omega⟩
theorem getD_byte {l : List Int} (h : Bytes l) (i : Nat) : 0 ≤ l.getD i 0 ∧ l.getD i 0 ≤ 255 := getD_mem (p := fun z => 0 ≤ z ∧ z ≤ 255) h ⟨by omega, by omega⟩ i
/-- bit k of a row of bytes -/
def bitA (l : List Int) (k : Nat) : Int := bit8 (l.getD (k / 8) 0) (k % 8)
theorem bitA_ext {a b : List Int} (ha : a.length = 16) (hb : b.length = 16) (Ba : Bytes a) (Bb : Bytes b) (h : ∀ k, k < 128 → bitA a k = bitA b k) : a = b := by
  apply List.ext_getElem (by omega)
  intro i h1 h2
  have e : a.getD i 0 = b.getD i 0 := by
    refine bit8_ext (getD_byte Ba i) (getD_byte Bb i) (fun j hj => ?_)
    have := h (8 * i + j) (by omega)
    unfold bitA at this
    rwa [show (8 * i + j) / 8 = i by omega, show (8 * i + j) % 8 = j by omega] at this
  rwa [getD_get h1, getD_get h2] at e
def clamp (bits i : Nat) : Nat := min 8 (bits - 8 * i)
def maskL (l : List Int) (bits : Nat) : List Int := (List.range 16).map fun i => maskB (l.getD i 0) (clamp bits i)
theorem maskL_len (l : List Int) (bits : Nat) : (maskL l bits).length = 16 := by simp [maskL]
theorem maskL_get (l : List Int) (bits : Nat) {i : Nat} (hi : i < 16) : (maskL l bits).getD i 0 = maskB (l.getD i 0) (clamp bits i) := by
  simp [maskL, List.getD_eq_getElem?_getD, List.getElem?_range hi]
theorem maskL_bytes {l : List Int} (h : Bytes l) (bits : Nat) : Bytes (maskL l bits) := by
  intro z hz
  obtain ⟨i, _, rfl⟩ := List.mem_map.1 hz
  exact maskB_byte (getD_byte h i) (by unfold clamp; omega)
theorem bitA_mask {l : List Int} (h : Bytes l) (bits : Nat) {k : Nat} (hk : k < 128) : bitA (maskL l bits) k = if k < bits then bitA l k else 0 := by
  unfold bitA
  rw [maskL_get l bits (show k / 8 < 16 by omega), maskB_bit (getD_byte h _) (by unfold clamp; omega) (by omega)]
  by_cases hb : k < bits
  · rw [if_pos hb, if_pos (by unfold clamp; omega)]
  · rw [if_neg hb, if_neg (by unfold clamp; omega)]
/-- the bits behind the first ones are zero -/
def zeroFrom (l : List Int) (bits : Nat) : Prop := ∀ k, k < 128 → bits ≤ k → bitA l k = 0
theorem mask_eq_self {l : List Int} (hl : l.length = 16) (h : Bytes l) (bits : Nat) : maskL l bits = l ↔ zeroFrom l bits := by
  constructor
  · intro e k hk hb
    have := bitA_mask h bits hk
    rw [e, if_neg (by omega)] at this
    exact this
  · intro hz
    refine bitA_ext (maskL_len _ _) hl (maskL_bytes h _) h (fun k hk => ?_)
    rw [bitA_mask h bits hk]
    split
    · rfl
    · exact (hz k hk (by omega)).symm
end
section
open Go.RowKit

instance : DecidableEq S_Prefix := fun p q => decidable_of_iff (p.IP = q.IP ∧ p.Bits = q.Bits) (by obtain ⟨i, b⟩ := p; obtain ⟨j, c⟩ := q; simp)
def wfP (p : S_Prefix) : Prop := p.IP.length = 16 ∧ Bytes p.IP
instance (l : List Int) (b : Nat) : Decidable (zeroFrom l b) := by unfold zeroFrom; infer_instance
def vpB (p : S_Prefix) : Bool := decide (0 ≤ p.Bits ∧ p.Bits ≤ 128 ∧ zeroFrom p.IP p.Bits.toNat)
theorem vpB_iff {p : S_Prefix} : vpB p = true ↔ 0 ≤ p.Bits ∧ p.Bits ≤ 128 ∧ zeroFrom p.IP p.Bits.toNat := by simp [vpB]

theorem addr_mask (l : List Int) {b : Int} (h0 : 0 ≤ b) (h1 : b ≤ 128) : F_address_Mask l b = some ⟨maskL l b.toNat, b⟩ := by
  unfold F_address_Mask
  obtain ⟨n, rfl⟩ : ∃ n : Nat, b = (n : Int) := ⟨b.toNat, by omega⟩
  rw [if_neg (show ¬ ((n : Int) < 0) by omega), if_neg (show ¬ ((128 : Int) < (n : Int)) by omega)]
  have e := loop_run (step := F_address_Mask_l1 l) (S := fun k => ((k : Int), S_Prefix.mk ((List.range 16).map fun i => if i < k then maskB (l.getD i 0) (clamp n i) else 0) (n : Int))) 16 (r := ⟨maskL l n, n⟩) (by
    intro k hk
    unfold F_address_Mask_l1
    dsimp only
    have hcl : (if (8 : Int) < if IntKind.wrap .i64 ((n : Int) - IntKind.wrap .i64 (8 * (k : Int))) < 0 then 0 else IntKind.wrap .i64 ((n : Int) - IntKind.wrap .i64 (8 * (k : Int))) then 8 else if IntKind.wrap .i64 ((n : Int) - IntKind.wrap .i64 (8 * (k : Int))) < 0 then 0 else IntKind.wrap .i64 ((n : Int) - IntKind.wrap .i64 (8 * (k : Int)))) = ((clamp n k : Nat) : Int) := by
      rw [wi (x := 8 * (k : Int)) (by omega) (by omega), wi (x := (n : Int) - 8 * (k : Int)) (by omega) (by omega)]
      unfold clamp
      split <;> split at * <;> omega
    rw [hcl, decT (show (k : Int) < 16 by omega), decT (show (0 : Int) ≤ (k : Int) ∧ (k : Int) < 16 by omega), decT (show (0 : Int) ≤ ((clamp n k : Nat) : Int) by omega), wk k (by omega)]
    simp only [cond_true, Int.toNat_natCast]
    congr 3
    congr 1
    apply List.ext_getElem?
    intro i
    unfold setA
    rw [List.getElem?_map, List.getElem?_map]
    rcases Nat.lt_or_ge i 16 with hi | hi
    · rw [List.getElem?_range hi]
      simp only [Option.map_some]
      congr 1
      by_cases hik : i = k
      · subst hik
        rw [if_pos rfl, if_pos (by omega)]
        rfl
      · rw [if_neg hik]
        simp only [List.getD_eq_getElem?_getD, List.getElem?_map, List.getElem?_range hi, Option.map_some, Option.getD_some]
        by_cases h2 : i < k
        · rw [if_pos h2, if_pos (by omega)]
        · rw [if_neg h2, if_neg (by omega)]
    · rw [List.getElem?_eq_none (by simpa using hi)]
      rfl) (by
    unfold F_address_Mask_l1
    rw [decF (by dsimp only; omega)]
    simp only [cond_false]
    congr 3)
  have e0 : ((List.range 16).map fun i => if i < 0 then maskB (l.getD i 0) (clamp n i) else 0) = [0, 0, 0, 0, 0, 0, 0, 0, 0, 0, 0, 0, 0, 0, 0, 0] := by simp [List.range, List.range.loop]
  rw [e0] at e
  rw [show ((0 : Nat) : Int) = 0 from rfl] at e
  rw [e]
  rfl
theorem addr_vp {p : S_Prefix} (h : wfP p) : F_address_ValidPrefix p = some (vpB p) := by
  unfold F_address_ValidPrefix
  by_cases h0 : p.Bits ≥ 0
  · rw [decT h0]
    by_cases h1 : p.Bits ≤ 128
    · rw [decT h1, addr_mask p.IP h0 h1]
      simp only [cond_true, Option.bind_some]
      congr 1
      unfold vpB S_Prefix.eqb
      dsimp only
      rw [arrEq_eq (maskL_len _ _) h.1]
      rw [Bool.eq_iff_iff]
      simp only [Bool.and_eq_true, decide_eq_true_eq, beq_iff_eq, and_true, mask_eq_self h.1 h.2]
      constructor
      · rintro hz; exact ⟨h0, h1, hz⟩
      · rintro ⟨_, _, hz⟩; exact hz
    · rw [decF h1]
      simp [vpB]
      omega
  · rw [decF h0]
    simp [vpB]
    omega
/-- a prefix covers an address -/
def agree (l a : List Int) (b : Nat) : Prop := ∀ k, k < 128 → (k < b → bitA l k = bitA a k)
instance (l a : List Int) (b : Nat) : Decidable (agree l a b) := by unfold agree; infer_instance
theorem eqb_P {p q : S_Prefix} (hp : wfP p) (hq : wfP q) : S_Prefix.eqb p q = decide (p = q) := by
  unfold S_Prefix.eqb
  rw [arrEq_eq hp.1 hq.1, Bool.eq_iff_iff]
  obtain ⟨i, b⟩ := p
  obtain ⟨j, c⟩ := q
  simp
end
section
open Go.RowKit

def ad0 : List Int := [0, 0, 0, 0, 0, 0, 0, 0, 0, 0, 0, 0, 0, 0, 0, 0]
def p0 : S_Prefix := S_Prefix.mk ad0 0
def t0 : S_Destination := S_Destination.mk p0 p0 0
structure WfN (n : S_Notice) : Prop where
  seq : 0 ≤ n.Seq ∧ n.Seq ≤ 65535
  nb : 0 ≤ n.Neighbour ∧ n.Neighbour ≤ 18446744073709551615
  ro : 0 ≤ n.To.Router ∧ n.To.Router ≤ 18446744073709551615
  dst : wfP n.To.Dst
  src : wfP n.To.Src
theorem wfP0 : wfP p0 := ⟨rfl, by intro z hz; simp [p0, ad0] at hz; omega⟩
def toB (t : S_Destination) : Bool := vpB t.Dst && vpB t.Src && (t.Router != 0)
noncomputable def validN (n : S_Notice) : Bool :=
  bif n.Kind == 1 then S_Notice.eqb n (S_Notice.mk n.Kind n.Seq 0 0 t0 0)
  else bif n.Kind == 2 then S_Notice.eqb n (S_Notice.mk n.Kind 0 n.Metric n.Neighbour t0 0) && (n.Neighbour != 0) && decide (0 ≤ n.Metric ∧ n.Metric ≤ 65535)
  else bif n.Kind == 3 then S_Notice.eqb n (S_Notice.mk n.Kind n.Seq n.Metric 0 n.To 0) && toB n.To && decide (0 ≤ n.Metric ∧ n.Metric ≤ 65535)
  else bif n.Kind == 4 then S_Notice.eqb n (S_Notice.mk n.Kind 0 0 0 n.To 0) && (n.To.Router == 0) && vpB n.To.Dst && vpB n.To.Src
  else bif n.Kind == 5 then S_Notice.eqb n (S_Notice.mk n.Kind n.Seq 0 0 n.To n.Hops) && toB n.To && decide (1 ≤ n.Hops ∧ n.Hops ≤ 32)
  else false
theorem metric_p (x : Int) : F_metric_Valid x = some (decide (0 ≤ x ∧ x ≤ 65535)) := by
  unfold F_metric_Valid
  by_cases h : x ≥ 0 <;> by_cases h2 : x ≤ 65535 <;> simp [h, h2] <;> omega
theorem to_p {t : S_Destination} (h1 : wfP t.Dst) (h2 : wfP t.Src) : F_sources_ValidTo t = some (toB t) := by
  unfold F_sources_ValidTo toB
  rw [addr_vp h1, Option.bind_some, addr_vp h2]
  cases vpB t.Dst <;> cases vpB t.Src <;> rfl
theorem hops_b (h : Int) : (bif decide (h ≥ 1) then some (decide (h ≤ 32)) else some false) = some (decide (1 ≤ h ∧ h ≤ 32)) := by
  by_cases h1 : h ≥ 1 <;> by_cases h2 : h ≤ 32 <;> simp [h1, h2] <;> omega
theorem valid_p {n : S_Notice} (w : WfN n) : F_messages_Valid n = some (validN n) := by
  unfold F_messages_Valid validN
  simp only [metric_p, to_p w.dst w.src, addr_vp w.dst, addr_vp w.src, Option.bind_some, hops_b]
  change (bif n.Kind == 1 then some (S_Notice.eqb n (S_Notice.mk n.Kind n.Seq 0 0 t0 0)) else bif n.Kind == 2 then bif S_Notice.eqb n (S_Notice.mk n.Kind 0 n.Metric n.Neighbour t0 0) then _ else _ else _) = _
  generalize S_Notice.eqb n (S_Notice.mk n.Kind n.Seq 0 0 t0 0) = b1
  generalize S_Notice.eqb n (S_Notice.mk n.Kind 0 n.Metric n.Neighbour t0 0) = b2
  generalize S_Notice.eqb n (S_Notice.mk n.Kind n.Seq n.Metric 0 n.To 0) = b3
  generalize S_Notice.eqb n (S_Notice.mk n.Kind 0 0 0 n.To 0) = b4
  generalize S_Notice.eqb n (S_Notice.mk n.Kind n.Seq 0 0 n.To n.Hops) = b5
  cases n.Kind == 1
  · cases n.Kind == 2
    · cases n.Kind == 3
      · cases n.Kind == 4
        · cases n.Kind == 5
          · rfl
          · cases b5 <;> cases toB n.To <;> simp
        · cases b4 <;> cases n.To.Router == 0 <;> cases vpB n.To.Dst <;> simp
      · cases b3 <;> cases toB n.To <;> simp
    · cases b2 <;> cases n.Neighbour != 0 <;> simp
  · rfl
theorem eqb_T {a b : S_Destination} (h1 : wfP a.Dst) (h2 : wfP a.Src) (h3 : wfP b.Dst) (h4 : wfP b.Src) : S_Destination.eqb a b = true ↔ a = b := by
  unfold S_Destination.eqb
  rw [eqb_P h1 h3, eqb_P h2 h4]
  obtain ⟨d, s, r⟩ := a
  obtain ⟨d', s', r'⟩ := b
  simp
theorem eqb_N {a b : S_Notice} (ha : WfN a) (hb : WfN b) : S_Notice.eqb a b = true ↔ a = b := by
  unfold S_Notice.eqb
  have := eqb_T ha.dst ha.src hb.dst hb.src
  obtain ⟨k, s, m, n, t, h⟩ := a
  obtain ⟨k', s', m', n', t', h'⟩ := b
  simp only [Bool.and_true, Bool.and_eq_true, beq_iff_eq, this, S_Notice.mk.injEq]
/-- what a valid notice looks like -/
inductive GoodN : S_Notice → Prop where
  | hello (s : Int) (h : 0 ≤ s ∧ s ≤ 65535) : GoodN (S_Notice.mk 1 s 0 0 t0 0)
  | heard (m b : Int) (h : 0 ≤ m ∧ m ≤ 65535) (hb : 0 ≤ b ∧ b ≤ 18446744073709551615) (h0 : b ≠ 0) : GoodN (S_Notice.mk 2 0 m b t0 0)
  | update (s m : Int) (d c : S_Prefix) (r : Int) (hs : 0 ≤ s ∧ s ≤ 65535) (h : 0 ≤ m ∧ m ≤ 65535) (wd : wfP d) (wc : wfP c) (vd : vpB d = true) (vc : vpB c = true) (hr : 0 ≤ r ∧ r ≤ 18446744073709551615) (h0 : r ≠ 0) : GoodN (S_Notice.mk 3 s m 0 (S_Destination.mk d c r) 0)
  | route (d c : S_Prefix) (wd : wfP d) (wc : wfP c) (vd : vpB d = true) (vc : vpB c = true) : GoodN (S_Notice.mk 4 0 0 0 (S_Destination.mk d c 0) 0)
  | seqr (s h : Int) (d c : S_Prefix) (r : Int) (hs : 0 ≤ s ∧ s ≤ 65535) (hh : 1 ≤ h ∧ h ≤ 32) (wd : wfP d) (wc : wfP c) (vd : vpB d = true) (vc : vpB c = true) (hr : 0 ≤ r ∧ r ≤ 18446744073709551615) (h0 : r ≠ 0) : GoodN (S_Notice.mk 5 s 0 0 (S_Destination.mk d c r) h)
theorem eqb_rfl (n : S_Notice) (w : WfN n) : S_Notice.eqb n n = true := (eqb_N w w).2 rfl
theorem good_wf {n : S_Notice} (h : GoodN n) : WfN n := by
  cases h with
  | hello s h => exact ⟨h, ⟨by simp, by simp⟩, ⟨by simp [t0], by simp [t0]⟩, wfP0, wfP0⟩
  | heard m b h hb h0 => exact ⟨⟨by simp, by simp⟩, hb, ⟨by simp [t0], by simp [t0]⟩, wfP0, wfP0⟩
  | update s m d c r hs h wd wc vd vc hr h0 => exact ⟨hs, ⟨by simp, by simp⟩, hr, wd, wc⟩
  | route d c wd wc vd vc => exact ⟨⟨by simp, by simp⟩, ⟨by simp, by simp⟩, ⟨by simp, by simp⟩, wd, wc⟩
  | seqr s h d c r hs hh wd wc vd vc hr h0 => exact ⟨hs, ⟨by simp, by simp⟩, hr, wd, wc⟩
theorem good_valid {n : S_Notice} (h : GoodN n) : validN n = true := by
  have w := good_wf h
  unfold validN
  cases h with
  | hello s h => exact eqb_rfl _ w
  | heard m b h hb h0 =>
    have e := eqb_rfl _ w
    simp only [show ((2 : Int) == 1) = false from rfl, show ((2 : Int) == 2) = true from rfl, cond_false, cond_true, e, decT h, Bool.and_true]
    simp [h0]
  | update s m d c r hs h wd wc vd vc hr h0 =>
    have e := eqb_rfl _ w
    simp only [show ((3 : Int) == 1) = false from rfl, show ((3 : Int) == 2) = false from rfl, show ((3 : Int) == 3) = true from rfl, cond_false, cond_true, e, decT h, Bool.and_true, toB, vd, vc]
    simp [h0]
  | route d c wd wc vd vc =>
    have e := eqb_rfl _ w
    simp only [show ((4 : Int) == 1) = false from rfl, show ((4 : Int) == 2) = false from rfl, show ((4 : Int) == 3) = false from rfl, show ((4 : Int) == 4) = true from rfl, cond_false, cond_true, e, Bool.and_true, vd, vc]
    rfl
  | seqr s h d c r hs hh wd wc vd vc hr h0 =>
    have e := eqb_rfl _ w
    simp only [show ((5 : Int) == 1) = false from rfl, show ((5 : Int) == 2) = false from rfl, show ((5 : Int) == 3) = false from rfl, show ((5 : Int) == 4) = false from rfl, show ((5 : Int) == 5) = true from rfl, cond_false, cond_true, e, decT hh, Bool.and_true, toB, vd, vc]
    simp [h0]
theorem valid_good {n : S_Notice} (w : WfN n) (hv : validN n = true) : GoodN n := by
  unfold validN at hv
  have w0 : (0 : Int) ≤ 0 ∧ (0 : Int) ≤ 65535 := ⟨by decide, by decide⟩
  have w1 : (0 : Int) ≤ 0 ∧ (0 : Int) ≤ 18446744073709551615 := ⟨by decide, by decide⟩
  by_cases k1 : n.Kind = 1
  · rw [k1] at hv
    have e := (eqb_N w (b := S_Notice.mk 1 n.Seq 0 0 t0 0) ⟨w.seq, w1, w1, wfP0, wfP0⟩).1 hv
    rw [e]
    exact .hello _ w.seq
  by_cases k2 : n.Kind = 2
  · rw [k2] at hv
    simp only [show ((2 : Int) == 1) = false from rfl, show ((2 : Int) == 2) = true from rfl, cond_false, cond_true, Bool.and_eq_true, decide_eq_true_eq, bne_iff_ne, ne_eq] at hv
    have e := (eqb_N w (b := S_Notice.mk 2 0 n.Metric n.Neighbour t0 0) ⟨w0, w.nb, w1, wfP0, wfP0⟩).1 hv.1.1
    rw [e]
    exact .heard _ _ hv.2 w.nb hv.1.2
  by_cases k3 : n.Kind = 3
  · rw [k3] at hv
    simp only [show ((3 : Int) == 1) = false from rfl, show ((3 : Int) == 2) = false from rfl, show ((3 : Int) == 3) = true from rfl, cond_false, cond_true, Bool.and_eq_true, decide_eq_true_eq, toB, bne_iff_ne, ne_eq] at hv
    have e := (eqb_N w (b := S_Notice.mk 3 n.Seq n.Metric 0 n.To 0) ⟨w.seq, w1, w.ro, w.dst, w.src⟩).1 hv.1.1
    rw [e]
    exact .update _ _ _ _ _ w.seq hv.2 w.dst w.src hv.1.2.1.1 hv.1.2.1.2 w.ro hv.1.2.2
  by_cases k4 : n.Kind = 4
  · rw [k4] at hv
    simp only [show ((4 : Int) == 1) = false from rfl, show ((4 : Int) == 2) = false from rfl, show ((4 : Int) == 3) = false from rfl, show ((4 : Int) == 4) = true from rfl, cond_false, cond_true, Bool.and_eq_true, beq_iff_eq] at hv
    have e := (eqb_N w (b := S_Notice.mk 4 0 0 0 n.To 0) ⟨w0, w1, w.ro, w.dst, w.src⟩).1 hv.1.1.1
    have e2 : n.To = S_Destination.mk n.To.Dst n.To.Src 0 := by rw [← hv.1.1.2]
    rw [e, e2]
    exact .route _ _ w.dst w.src hv.1.2 hv.2
  by_cases k5 : n.Kind = 5
  · rw [k5] at hv
    simp only [show ((5 : Int) == 1) = false from rfl, show ((5 : Int) == 2) = false from rfl, show ((5 : Int) == 3) = false from rfl, show ((5 : Int) == 4) = false from rfl, show ((5 : Int) == 5) = true from rfl, cond_false, cond_true, Bool.and_eq_true, decide_eq_true_eq, toB, bne_iff_ne, ne_eq] at hv
    have e := (eqb_N w (b := S_Notice.mk 5 n.Seq 0 0 n.To n.Hops) ⟨w.seq, w1, w.ro, w.dst, w.src⟩).1 hv.1.1
    rw [e]
    exact .seqr _ _ _ _ _ w.seq hv.2 w.dst w.src hv.1.2.1.1 hv.1.2.1.2 w.ro hv.1.2.2
  · rw [beqF k1, beqF k2, beqF k3, beqF k4, beqF k5] at hv
    cases hv
def sz (b : Int) : Nat := ((b + 7) / 8).toNat
def pfx (p : S_Prefix) : List Int := p.IP.take (sz p.Bits)
def comm : List Int → List Int → Nat
  | x :: a, y :: b => if x = y then comm a b + 1 else 0
  | _, _ => 0
def el (k : Int) (b : List Int) : List Int := [k, (b.length : Int)] ++ b
def encN (r : Int) (d : List Int) (n : S_Notice) : List Int :=
  if n.Kind = 1 then el 1 (beB n.Seq 2)
  else if n.Kind = 2 then el 2 (beB n.Neighbour 8 ++ beB n.Metric 2)
  else if n.Kind = 3 then (if n.To.Router ≠ r then el 6 (beB n.To.Router 8) else []) ++ el 3 ([(comm (pfx n.To.Dst) d : Int), n.To.Dst.Bits, n.To.Src.Bits] ++ beB n.Seq 2 ++ beB n.Metric 2 ++ (pfx n.To.Dst).drop (comm (pfx n.To.Dst) d) ++ pfx n.To.Src)
  else if n.Kind = 5 then el 5 ([n.To.Dst.Bits, n.To.Src.Bits] ++ beB n.Seq 2 ++ [n.Hops] ++ beB n.To.Router 8 ++ pfx n.To.Dst ++ pfx n.To.Src)
  else el 4 ([n.To.Dst.Bits, n.To.Src.Bits] ++ pfx n.To.Dst ++ pfx n.To.Src)
def nxR (r : Int) (n : S_Notice) : Int := if n.Kind = 3 then n.To.Router else r
def nxD (d : List Int) (n : S_Notice) : List Int := if n.Kind = 3 then n.To.Dst.IP else d
def encL (r : Int) (d : List Int) : List S_Notice → List Int
  | [] => []
  | n :: l => encN r d n ++ encL (nxR r n) (nxD d n) l
theorem sz_le {b : Int} (h0 : 0 ≤ b) (h1 : b ≤ 128) : sz b ≤ 16 := by unfold sz; omega
theorem sz_eq {b : Int} (h0 : 0 ≤ b) (h1 : b ≤ 255) : iquo .i64 (IntKind.wrap .i64 (b + 7)) 8 = (sz b : Int) := by
  rw [wi (by omega) (by omega)]
  unfold iquo sz
  rw [Int.tdiv_eq_ediv_of_nonneg (by omega), wi (by omega) (by omega)]
  omega
theorem size_p {b : Int} (h0 : 0 ≤ b) (h1 : b ≤ 255) : F_messages_size b = some (sz b : Int) := by unfold F_messages_size; rw [sz_eq h0 h1]
theorem pfx_len {p : S_Prefix} (w : wfP p) (v : vpB p = true) : (pfx p).length = sz p.Bits := by
  have := vpB_iff.1 v
  unfold pfx
  rw [List.length_take, w.1, Nat.min_eq_left (sz_le this.1 this.2.1)]
theorem pfx_le {p : S_Prefix} (w : wfP p) : (pfx p).length ≤ 16 := by
  unfold pfx
  rw [List.length_take, w.1]
  omega
theorem pfx_ok {p : S_Prefix} (w : wfP p) : okB (pfx p) := fun z hz => w.2 z (List.mem_of_mem_take hz)
theorem pb_p {p : S_Prefix} (w : wfP p) (v : vpB p = true) : F_messages_prefixBytes p = some (pfx p) := by
  have hv := vpB_iff.1 v
  have := sz_le hv.1 hv.2.1
  unfold F_messages_prefixBytes
  rw [size_p hv.1 (by omega), Option.bind_some, arrL_id w.1, subO_some (by omega) (by omega) (by rw [w.1]; omega)]
  simp [pfx]
theorem comm_le : ∀ (a d : List Int), comm a d ≤ a.length
  | [], _ => by simp [comm]
  | _ :: _, [] => by simp [comm]
  | x :: a, y :: d => by
    unfold comm
    have := comm_le a d
    split <;> simp <;> omega
theorem comm_take : ∀ (a d : List Int), a.take (comm a d) = d.take (comm a d)
  | [], _ => by simp [comm]
  | _ :: _, [] => by simp [comm]
  | x :: a, y :: d => by
    unfold comm
    have := comm_take a d
    split
    · rename_i h; subst h; simp [this]
    · simp
theorem comm_iff : ∀ (a d : List Int) (k : Nat), k ≤ a.length → a.length ≤ d.length → (∀ j, j < k → a.getD j 0 = d.getD j 0) → (k < a.length → a.getD k 0 ≠ d.getD k 0) → comm a d = k
  | [], _, k, h, _, _, _ => by simp [comm] at *; omega
  | x :: a, [], k, _, h, _, _ => by simp at h
  | x :: a, y :: d, k, hk, hl, h1, h2 => by
    unfold comm
    cases k with
    | zero =>
      have := h2 (by simp)
      simp at this
      rw [if_neg this]
    | succ k =>
      have := h1 0 (by omega)
      simp at this
      rw [if_pos this, comm_iff a d k (by simp at hk; omega) (by simpa using hl) (fun j hj => by simpa using h1 (j + 1) (by omega)) (fun h => by simpa using h2 (by simp; omega))]
end
section
open Go.RowKit

theorem el_len (k : Int) (b : List Int) : (el k b).length = b.length + 2 := by simp [el]
theorem encN_len (r : Int) (d : List Int) {n : S_Notice} (g : GoodN n) : (encN r d n).length ≤ 51 := by
  have w := good_wf g
  have h1 := pfx_le w.dst
  have h2 := pfx_le w.src
  have b2 := beB_len n.Seq 2
  have b8 := beB_len n.To.Router 8
  have n8 := beB_len n.Neighbour 8
  have m2 := beB_len n.Metric 2
  unfold encN
  split
  · simp only [el_len]; omega
  split
  · simp only [el_len, List.length_append]; omega
  split
  · split <;> simp only [el_len, List.length_append, List.length_cons, List.length_nil, List.length_drop] <;> omega
  split <;> simp only [el_len, List.length_append, List.length_cons, List.length_nil] <;> omega
theorem wlen {a : List Int} (h : a.length ≤ 255) : IntKind.wrap .u8 (a.length : Int) = (a.length : Int) := wu8 (by omega) (by omega)
theorem el_p {s : S_messages_state} (hs : s.elements.length ≤ 1000000) (k : Int) {b : List Int} (hb : b.length ≤ 255) : F_messages_state_element_H00 s k b = some (S_messages_state.mk (s.elements ++ el k b) s.router s.dst) := by
  unfold F_messages_state_element_H00
  simp only [Cut.app]
  rw [appO_some (by simp; omega) (by simp; omega), Option.bind_some, appO_some (by simp; omega) (by simp; omega), Option.bind_some, wlen hb]
  simp [el]
theorem vb {p : S_Prefix} (v : vpB p = true) : 0 ≤ p.Bits ∧ p.Bits ≤ 128 := ⟨(vpB_iff.1 v).1, (vpB_iff.1 v).2.1⟩
theorem comm_p {a d : List Int} (h : a.length ≤ 16) (hd : d.length = 16) (s : S_messages_state) (hs : s.dst = d) : loopO (F_messages_state_update_H00_l2 a s) 0 = some (comm a d : Int) := by
  have hl := loop_first (step := F_messages_state_update_H00_l2 a s) (S := fun k => (k : Int)) a.length (fun k => a.getD k 0 == d.getD k 0) (fun k => (k : Int)) (re := (a.length : Int)) (fun k hk hp => by
    unfold F_messages_state_update_H00_l2
    rw [decT (by omega), idx_lt hk, decT (by omega), hs, Int.toNat_natCast]
    rw [getD_get hk] at hp
    simp only [cond_true, Option.bind_some, hp, wk k (by omega)]) (fun k hk hp => by
    unfold F_messages_state_update_H00_l2
    rw [decT (by omega), idx_lt hk, decT (by omega), hs, Int.toNat_natCast]
    rw [getD_get hk] at hp
    simp only [cond_true, Option.bind_some, hp, cond_false]) (by
    unfold F_messages_state_update_H00_l2
    rw [decF (by omega)]
    rfl)
  simp only [Int.natCast_zero] at hl
  rcases hl with ⟨k, hk, hp, hj, e⟩ | ⟨hj, e⟩
  · rw [e, comm_iff a d k (by omega) (by omega) (fun j hjk => by simpa using hj j hjk) (fun _ => by simpa using hp)]
  · rw [e, comm_iff a d a.length (by omega) (by omega) (fun j hjk => by simpa using hj j hjk) (fun h => absurd h (by omega))]
theorem appb {a b : List Int} (ha : a.length ≤ 1000000000) (hb : b.length ≤ 1000000000) : appO 1 a b = some (a ++ b) := appO_some (by omega) (by omega)
theorem not_p {n : S_Notice} (g : GoodN n) {s : S_messages_state} (hs : s.elements.length ≤ 900000) (hd : s.dst.length = 16) : F_messages_state_notice_H00 s n = some (S_messages_state.mk (s.elements ++ encN s.router s.dst n) (nxR s.router n) (nxD s.dst n)) := by
  have w := good_wf g
  unfold F_messages_state_notice_H00
  cases g with
  | hello q h =>
    simp only [show ((1 : Int) == 1) = true from rfl, cond_true]
    rw [show (2 : Int) = ((2 : Nat) : Int) from rfl, wu h.1 (by omega), octets_append _ _ _ (by omega) (by simp), Option.bind_some, List.nil_append, el_p (by omega) 1 (by rw [beB_len]; omega)]
    rfl
  | heard m b h hb h0 =>
    simp only [show ((2 : Int) == 1) = false from rfl, show ((2 : Int) == 2) = true from rfl, cond_false, cond_true]
    rw [show (8 : Int) = ((8 : Nat) : Int) from rfl, octets_append _ _ _ (by omega) (by simp), Option.bind_some, List.nil_append, wu h.1 (by omega), show (2 : Int) = ((2 : Nat) : Int) from rfl, octets_append _ _ _ (by omega) (by rw [beB_len]; omega), Option.bind_some, el_p (by omega) _ (by rw [List.length_append, beB_len, beB_len]; omega)]
    rfl
  | update q m d c r hq h wd wc vd vc hr h0 =>
    simp only [show ((3 : Int) == 1) = false from rfl, show ((3 : Int) == 2) = false from rfl, show ((3 : Int) == 3) = true from rfl, cond_false, cond_true]
    have c1 := comm_le (pfx d) s.dst
    have c2 := pfx_le wd
    have c3 := pfx_le wc
    have core : ∀ v1 : S_messages_state, v1.elements.length ≤ 950000 → v1.dst = s.dst → F_messages_state_update_H00_j1 (S_Notice.mk 3 q m 0 (S_Destination.mk d c r) 0) v1 = some (S_messages_state.mk (v1.elements ++ el 3 ([(comm (pfx d) s.dst : Int), d.Bits, c.Bits] ++ beB q 2 ++ beB m 2 ++ (pfx d).drop (comm (pfx d) s.dst) ++ pfx c)) v1.router d.IP) := by
      intro v1 he hdst
      unfold F_messages_state_update_H00_j1
      dsimp only
      simp only [pb_p wd vd, pb_p wc vc, Option.bind_some, comm_p c2 hd v1 hdst, Cut.app]
      rw [wu hq.1 (by omega), wu h.1 (by omega), wu8 (by omega) (by omega), wu8 (vb vd).1 (by have := (vb vd).2; omega), wu8 (vb vc).1 (by have := (vb vc).2; omega), show (2 : Int) = ((2 : Nat) : Int) from rfl, octets_append _ _ _ (by omega) (by simp), Option.bind_some, octets_append _ _ _ (by omega) (by simp [beB_len]), Option.bind_some, subO_some (by omega) (by omega) (by omega), Option.bind_some]
      have e2 : ((pfx d).take (((pfx d).length : Nat) : Int).toNat).drop ((comm (pfx d) s.dst : Nat) : Int).toNat = (pfx d).drop (comm (pfx d) s.dst) := by simp
      rw [e2, appb (by simp [beB_len]) (by simp; omega), Option.bind_some, appb (by simp [beB_len]; omega) (by omega), Option.bind_some, el_p (by dsimp only; omega) 3 (by simp [beB_len]; omega)]
      rfl
    unfold F_messages_state_update_H00
    dsimp only
    by_cases hrr : r = s.router
    · rw [show (r != s.router) = false by simp [hrr], cond_false, core s (by omega) rfl]
      simp only [encN, nxR, nxD, show ¬ ((3 : Int) = 1) by omega, show ¬ ((3 : Int) = 2) by omega, if_true, if_false, hrr, ne_eq, not_true, List.nil_append, Option.bind_some]
    · rw [show (r != s.router) = true by simp [hrr], cond_true, show (8 : Int) = ((8 : Nat) : Int) from rfl, octets_append _ _ _ (by omega) (by simp), Option.bind_some, List.nil_append, el_p (by omega) 6 (by rw [beB_len]; omega), Option.bind_some]
      dsimp only
      rw [core (S_messages_state.mk (s.elements ++ el 6 (beB r 8)) r s.dst) (by dsimp only; rw [List.length_append, el_len, beB_len]; omega) rfl]
      simp only [encN, nxR, nxD, show ¬ ((3 : Int) = 1) by omega, show ¬ ((3 : Int) = 2) by omega, if_true, if_false, ne_eq, hrr, not_false_eq_true, List.append_assoc, Option.bind_some]
  | route d c wd wc vd vc =>
    simp only [show ((4 : Int) == 1) = false from rfl, show ((4 : Int) == 2) = false from rfl, show ((4 : Int) == 3) = false from rfl, show ((4 : Int) == 5) = false from rfl, cond_false]
    have c2 := pfx_le wd
    have c3 := pfx_le wc
    unfold F_messages_state_notice_H00_j1
    dsimp only
    simp only [pb_p wd vd, pb_p wc vc, Option.bind_some, Cut.app]
    rw [wu8 (vb vd).1 (by have := (vb vd).2; omega), wu8 (vb vc).1 (by have := (vb vc).2; omega), appb (by simp) (by omega), Option.bind_some, appb (by simp; omega) (by omega), Option.bind_some, el_p (by omega) 4 (by simp; omega)]
    rfl
  | seqr q h d c r hq hh wd wc vd vc hr h0 =>
    simp only [show ((5 : Int) == 1) = false from rfl, show ((5 : Int) == 2) = false from rfl, show ((5 : Int) == 3) = false from rfl, show ((5 : Int) == 5) = true from rfl, cond_false, cond_true]
    have c2 := pfx_le wd
    have c3 := pfx_le wc
    rw [wu hq.1 (by omega), wu8 (vb vd).1 (by have := (vb vd).2; omega), wu8 (vb vc).1 (by have := (vb vc).2; omega), wu8 (by omega) (by omega), show (2 : Int) = ((2 : Nat) : Int) from rfl, octets_append _ _ _ (by omega) (by simp), Option.bind_some]
    simp only [Cut.app]
    rw [appb (by simp [beB_len]) (by simp), Option.bind_some, show (8 : Int) = ((8 : Nat) : Int) from rfl, octets_append _ _ _ (by omega) (by simp [beB_len]), Option.bind_some]
    unfold F_messages_state_notice_H00_j1
    dsimp only
    simp only [pb_p wd vd, pb_p wc vc, Option.bind_some, Cut.app]
    rw [appb (by simp [beB_len]) (by omega), Option.bind_some, appb (by simp [beB_len]; omega) (by omega), Option.bind_some, el_p (by omega) 5 (by simp [beB_len]; omega)]
    rfl
end
section
open Go.RowKit

theorem encL_append (r : Int) (d : List Int) : ∀ a b : List S_Notice, encL r d (a ++ b) = encL r d a ++ encL (a.foldl nxR r) (a.foldl nxD d) b
  | [], b => rfl
  | n :: a, b => by simp only [List.cons_append, encL, List.foldl_cons, encL_append (nxR r n) (nxD d n) a b, List.append_assoc]
theorem encL_len (r : Int) (d : List Int) : ∀ l : List S_Notice, (∀ n ∈ l, GoodN n) → (encL r d l).length ≤ 51 * l.length
  | [], _ => by simp [encL]
  | n :: l, h => by
    have h1 := encN_len r d (h n (by simp))
    have h2 := encL_len (nxR r n) (nxD d n) l (fun m hm => h m (by simp [hm]))
    simp only [encL, List.length_append, List.length_cons]
    omega
theorem nxD_len {d : List Int} (hd : d.length = 16) {n : S_Notice} (w : WfN n) : (nxD d n).length = 16 := by
  unfold nxD
  split
  · exact w.dst.1
  · exact hd
theorem foldD_len : ∀ (l : List S_Notice) {d : List Int}, d.length = 16 → (∀ n ∈ l, WfN n) → (l.foldl nxD d).length = 16
  | [], _, h, _ => h
  | n :: l, _, h, w => foldD_len l (nxD_len h (w n (by simp))) (fun m hm => w m (by simp [hm]))
def stP (l : List S_Notice) (k : Nat) : S_messages_state := S_messages_state.mk (encL 0 ad0 (l.take k)) ((l.take k).foldl nxR 0) ((l.take k).foldl nxD ad0)
theorem take_good {l : List S_Notice} (g : ∀ n ∈ l, GoodN n) (k : Nat) : ∀ n ∈ l.take k, GoodN n := fun n hn => g n (List.mem_of_mem_take hn)
theorem stP_len {l : List S_Notice} (g : ∀ n ∈ l, GoodN n) (k : Nat) : (stP l k).elements.length ≤ 51 * k := by
  have := encL_len 0 ad0 (l.take k) (take_good g k)
  have h2 : (l.take k).length ≤ k := by rw [List.length_take]; omega
  unfold stP
  dsimp only
  omega
theorem stP_dst {l : List S_Notice} (g : ∀ n ∈ l, GoodN n) (k : Nat) : (stP l k).dst.length = 16 := foldD_len _ rfl fun n hn => good_wf (take_good g k n hn)
theorem take_succ' {α : Type} {l : List α} {k : Nat} (hk : k < l.length) : l.take (k + 1) = l.take k ++ [l[k]] := (List.take_append_getElem hk).symm
theorem stP_next {l : List S_Notice} {k : Nat} (hk : k < l.length) : stP l (k + 1) = S_messages_state.mk ((stP l k).elements ++ encN (stP l k).router (stP l k).dst l[k]) (nxR (stP l k).router l[k]) (nxD (stP l k).dst l[k]) := by
  unfold stP
  rw [take_succ' hk, encL_append, List.foldl_append, List.foldl_append]
  simp [encL]
theorem not_k {l : List S_Notice} (g : ∀ n ∈ l, GoodN n) {k : Nat} (hk : k < l.length) (hn : k ≤ 10000) : F_messages_state_notice_H00 (stP l k) l[k] = some (stP l (k + 1)) := by
  rw [not_p (g _ (List.getElem_mem hk)) (by have := stP_len g k; omega) (stP_dst g k), stP_next hk]
def pk (at_ : Int) (l : List S_Notice) : List Int := [42, 1] ++ beB at_ 5 ++ beB ((encL 0 ad0 l).length : Int) 2 ++ encL 0 ad0 l
theorem pk_len (at_ : Int) (l : List S_Notice) : (pk at_ l).length = (encL 0 ad0 l).length + 9 := by
  simp [pk, beB_len]
  omega
theorem packet_p {s : S_messages_state} (hs : s.elements.length ≤ 1000000) {at_ : Int} (h0 : 0 ≤ at_) (h1 : at_ < 1099511627776) : F_messages_state_packet s at_ = some ([42, 1] ++ beB at_ 5 ++ beB (s.elements.length : Int) 2 ++ s.elements) := by
  unfold F_messages_state_packet
  rw [wu h0 (by omega), show (5 : Int) = ((5 : Nat) : Int) from rfl, octets_append _ _ _ (by omega) (by simp), Option.bind_some, wu (by omega) (by omega), show (2 : Int) = ((2 : Nat) : Int) from rfl, octets_append _ _ _ (by omega) (by simp [beB_len]), Option.bind_some]
  simp only [Cut.app]
  rw [appb (by simp [beB_len]) (by omega)]
  rfl
noncomputable def encS (at_ : Int) (l : List S_Notice) : List Int × Int :=
  if l.length > 64 then ([], 3) else if l.all validN = false then ([], 1) else if at_ < 0 ∨ at_ ≥ 1099511627776 then ([], 2) else (pk at_ l, 0)
theorem all_p {l : List S_Notice} (w : ∀ n ∈ l, WfN n) (hl : l.length ≤ 4611686018427387904) : F_messages_allValid l = some (l.all validN) := by
  unfold F_messages_allValid
  have h := loop_all (step := F_messages_allValid_l1 l) (S := fun k => (k : Int)) l.length (fun k => (l[k]?.map validN).getD true) (rt := Sum.inl ()) (rf := Sum.inr false) (fun k hk hp => by
    unfold F_messages_allValid_l1
    rw [decT (by omega), idx_lt hk]
    rw [List.getElem?_eq_getElem hk] at hp
    simp only [Option.map_some, Option.getD_some] at hp
    simp only [cond_true, Option.bind_some, valid_p (w _ (List.getElem_mem hk)), hp, wk k (by omega)]) (fun k hk hp => by
    unfold F_messages_allValid_l1
    rw [decT (by omega), idx_lt hk]
    rw [List.getElem?_eq_getElem hk] at hp
    simp only [Option.map_some, Option.getD_some] at hp
    simp only [cond_true, Option.bind_some, valid_p (w _ (List.getElem_mem hk)), hp, cond_false]) (by
    unfold F_messages_allValid_l1
    rw [decF (by omega)]
    rfl)
  simp only [Int.natCast_zero] at h
  rw [h]
  have e : (∀ k, k < l.length → (l[k]?.map validN).getD true = true) ↔ l.all validN = true := by
    rw [List.all_eq_true]
    constructor
    · intro hk n hn
      obtain ⟨k, hk', rfl⟩ := List.getElem_of_mem hn
      have := hk k hk'
      rw [List.getElem?_eq_getElem hk'] at this
      simpa using this
    · intro hn k hk
      rw [List.getElem?_eq_getElem hk]
      simpa using hn _ (List.getElem_mem hk)
  by_cases ha : l.all validN = true
  · rw [if_pos (e.2 ha), ha]; rfl
  · rw [if_neg (fun h => ha (e.1 h))]
    rw [Bool.not_eq_true] at ha
    rw [ha]; rfl
theorem all_good {l : List S_Notice} (w : ∀ n ∈ l, WfN n) (h : l.all validN = true) : ∀ n ∈ l, GoodN n := fun n hn => valid_good (w n hn) (List.all_eq_true.1 h n hn)
theorem good_all {l : List S_Notice} (g : ∀ n ∈ l, GoodN n) : l.all validN = true := List.all_eq_true.2 fun n hn => good_valid (g n hn)
theorem enc_p {l : List S_Notice} (w : ∀ n ∈ l, WfN n) (at_ : Int) : F_messages_Encode at_ l = some (encS at_ l) := by
  unfold F_messages_Encode encS
  by_cases h64 : l.length > 64
  · rw [decT (show (l.length : Int) > 64 by omega), if_pos h64]
    rfl
  rw [decF (show ¬ (l.length : Int) > 64 by omega), if_neg h64, cond_false, all_p w (by omega), Option.bind_some]
  by_cases ha : l.all validN = true
  rotate_left
  · rw [Bool.not_eq_true] at ha
    rw [ha, if_pos rfl]
    rfl
  have g := all_good w ha
  rw [ha, cond_true, if_neg (by simp)]
  unfold F_messages_isCreation
  by_cases h0 : at_ < 0
  · rw [decF (show ¬ at_ ≥ 0 by omega), if_pos (.inl h0)]
    rfl
  rw [decT (show at_ ≥ 0 by omega)]
  by_cases h1 : at_ ≥ 1099511627776
  · rw [decF (show ¬ at_ < 1099511627776 by omega), if_pos (.inr h1)]
    rfl
  rw [decT (show at_ < 1099511627776 by omega), if_neg (by omega)]
  simp only [cond_true, Option.bind_some]
  have hl := loop_run (step := F_messages_Encode_l1 l) (S := fun k => ((k : Int), stP l k)) l.length (r := stP l l.length) (fun k hk => by
    unfold F_messages_Encode_l1
    dsimp only
    rw [decT (by omega), idx_lt hk]
    simp only [cond_true, Option.bind_some, not_k g hk (by omega)]
    rw [wk k (by omega)]) (by
    unfold F_messages_Encode_l1
    dsimp only
    rw [decF (by omega)]
    rfl)
  have hl' : loopO (F_messages_Encode_l1 l) (0, S_messages_state.mk [] 0 [0, 0, 0, 0, 0, 0, 0, 0, 0, 0, 0, 0, 0, 0, 0, 0]) = some (stP l l.length) := hl
  rw [hl', Option.bind_some, packet_p (by have := stP_len g l.length; omega) (by omega) (by omega), Option.bind_some]
  unfold stP pk
  rw [List.take_length]
end
section
open Go.RowKit

theorem ior_comm (x y : Int) : ior .u64 x y = ior .u64 y x := by unfold ior; rw [BitVec.or_comm]
theorem be_step {v c : Int} (h0 : 0 ≤ v) (h1 : v < 72057594037927936) (c0 : 0 ≤ c) (c1 : c ≤ 255) : ior .u64 (ishl .u64 v 8) (IntKind.wrap .u64 c) = v * 256 + c := by
  have e : (2 : Int) ^ (8 : Int).toNat = 2 ^ 8 := rfl
  have e2 : (256 : Int) = 2 ^ 8 := rfl
  rw [ishl_eq (by omega) (by omega), wu c0 (by omega), e, Int.emod_eq_of_lt (Int.mul_nonneg h0 (by decide)) (by rw [← e2]; omega), ior_comm, ior_add 8 c0 (by omega) h0 (by rw [← e2]; omega)]
  omega
theorem be_fold (l : List Int) (h : okB l) (h8 : l.length ≤ 8) (k : Nat) (hk : k < l.length) : ior .u64 (ishl .u64 (beN (l.take k)) 8) (IntKind.wrap .u64 l[k]) = beN (l.take (k + 1)) := by
  have hb := beN_bd (h.take k)
  have hl : (l.take k).length = k := by rw [List.length_take]; omega
  have hp : (256 : Int) ^ k ≤ 72057594037927936 := by
    have : k ≤ 7 := by omega
    rcases k with _ | _ | _ | _ | _ | _ | _ | _ | k
    all_goals first | decide | omega
  rw [hl] at hb
  have hx := h.get hk
  rw [be_step hb.1 (by omega) hx.1 hx.2, take_snoc (List.getElem?_eq_getElem hk), beN_snoc]
theorem beN_beB (v : Int) (n : Nat) : beN (beB v n) = v % 256 ^ n := by
  induction n generalizing v with
  | zero => simp [beB, beN, Int.emod_one]
  | succ n ih =>
    have e : beB v (n + 1) = beB (v / 256) n ++ [v % 256] := by
      apply List.ext_getElem?
      intro i
      rcases Nat.lt_trichotomy i n with hi | hi | hi
      · rw [beB_get (by omega), List.getElem?_append_left (by rw [beB_len]; exact hi), beB_get hi]
        congr 2
        rw [show n + 1 - 1 - i = (n - 1 - i) + 1 by omega, Nat.mul_add, Int.pow_add]
        rw [Int.mul_comm, ← Int.ediv_ediv_of_nonneg (by decide)]
        rfl
      · subst hi
        rw [beB_get (by omega), List.getElem?_append_right (by rw [beB_len]; exact Nat.le_refl _), beB_len]
        simp
      · rw [List.getElem?_eq_none (by rw [beB_len]; omega), List.getElem?_eq_none (by simp [beB_len]; omega)]
    rw [e, beN_snoc, ih, Int.pow_succ]
    have h1 := Int.emod_add_mul_ediv v 256
    have h2 := Int.emod_add_mul_ediv (v / 256) (256 ^ n)
    have hp : (0 : Int) < 256 ^ n := Int.pow_pos (by decide)
    have h3 := Int.emod_nonneg (v / 256) (Int.ne_of_gt hp)
    have h4 := Int.emod_lt_of_pos (v / 256) hp
    have h5 := Int.emod_nonneg v (show (256 : Int) ≠ 0 by decide)
    have h6 := Int.emod_lt_of_pos v (show (0 : Int) < 256 by decide)
    have h7 : v = (v / 256 % 256 ^ n * 256 + v % 256) + (256 ^ n * 256) * (v / 256 / 256 ^ n) := by
      have : 256 * (256 ^ n * (v / 256 / 256 ^ n)) = (256 ^ n * 256) * (v / 256 / 256 ^ n) := by
        rw [← Int.mul_assoc, Int.mul_comm (256 : Int) (256 ^ n)]
      omega
    have h8 : (0 : Int) ≤ v / 256 % 256 ^ n * 256 + v % 256 := by omega
    have h9 : v / 256 % 256 ^ n * 256 + v % 256 < 256 ^ n * 256 := by omega
    conv => rhs; rw [h7]
    rw [Int.add_mul_emod_self_left, Int.emod_eq_of_lt h8 h9]
theorem uint_loop {l : List Int} (h : okB l) (h8 : l.length ≤ 8) : loopO (F_octets_Uint_l1 l) (0, 0) = some (beN l) := by
  have hl := loop_run (step := F_octets_Uint_l1 l) (S := fun k => (beN (l.take k), (k : Int))) l.length (r := beN l) (fun k hk => by
    unfold F_octets_Uint_l1
    dsimp only
    rw [decT (show (k : Int) < (l.length : Int) by omega), idx_lt hk]
    simp only [cond_true, Option.bind_some]
    rw [be_fold l h h8 k hk, wk k (by omega)]) (by
    unfold F_octets_Uint_l1
    dsimp only
    rw [decF (show ¬ (l.length : Int) < (l.length : Int) by omega)]
    simp only [cond_false, List.take_length])
  exact hl
/-- octets.Uint within the list -/
theorem uint_some {b : List Int} (h : okB b) (hb : b.length ≤ 1000000000000) (i n : Nat) (h1 : 1 ≤ n) (h8 : n ≤ 8) (hi : i + n ≤ b.length) : F_octets_Uint b i n = some (beN ((b.drop i).take n), true) := by
  unfold F_octets_Uint
  rw [decF (show ¬ (n : Int) < 1 by omega), decF (show ¬ (n : Int) > 8 by omega), decF (show ¬ (i : Int) < 0 by omega), wi (by omega) (by omega), decF (show ¬ (i : Int) > (b.length : Int) - (n : Int) by omega), wi (by omega) (by omega), subO_some (by omega) (by omega) (by omega)]
  simp only [cond_false, Option.bind_some]
  rw [show (b.take ((i : Int) + (n : Int)).toNat).drop (i : Int).toNat = (b.drop i).take n by rw [show ((i : Int) + (n : Int)).toNat = i + n by omega, Int.toNat_natCast, List.drop_take, Nat.add_sub_cancel_left]]
  rw [uint_loop ((h.drop i).take n) (by rw [List.length_take]; omega)]
  rfl
/-- octets.Uint behind the end -/
theorem uint_none {b : List Int} (hb : b.length ≤ 1000000000000) (i n : Nat) (h1 : 1 ≤ n) (h8 : n ≤ 8) (hi : b.length < i + n) : F_octets_Uint b i n = some (0, false) := by
  unfold F_octets_Uint
  rw [decF (show ¬ (n : Int) < 1 by omega), decF (show ¬ (n : Int) > 8 by omega), decF (show ¬ (i : Int) < 0 by omega), wi (by omega) (by omega), decT (show (i : Int) > (b.length : Int) - (n : Int) by omega)]
  rfl
end
section
open Go.RowKit

/-- sixteen bytes that begin with these -/
def fillA (l : List Int) : List Int := l ++ List.replicate (16 - l.length) 0
theorem fillA_len {l : List Int} (h : l.length ≤ 16) : (fillA l).length = 16 := by
  unfold fillA
  rw [List.length_append, List.length_replicate]
  omega
theorem fillA_get (l : List Int) (j : Nat) : (fillA l).getD j 0 = l.getD j 0 := by
  unfold fillA
  simp only [List.getD_eq_getElem?_getD, List.getElem?_append]
  split
  · rfl
  · rename_i h
    rw [List.getElem?_eq_none (l := l) (by omega)]
    by_cases h2 : j - l.length < 16 - l.length
    · rw [List.getElem?_replicate_of_lt h2]; rfl
    · rw [List.getElem?_eq_none (by simp; omega)]
theorem fillA_ok {l : List Int} (h : okB l) : Bytes (fillA l) := fun z hz => by
  rcases List.mem_append.1 hz with h1 | h1
  · exact h z h1
  · rw [(List.mem_replicate.1 h1).2]; exact ⟨by omega, by omega⟩
theorem fillA_wf {l : List Int} (h : okB l) (hl : l.length ≤ 16) (b : Int) : wfP (S_Prefix.mk (fillA l) b) := ⟨fillA_len hl, fillA_ok h⟩
theorem arr_ext {a b : List Int} (ha : a.length = 16) (hb : b.length = 16) (h : ∀ j, j < 16 → a.getD j 0 = b.getD j 0) : a = b := by
  refine List.ext_getElem (by omega) fun i h1 h2 => ?_
  have := h i (by omega)
  rwa [getD_get h1, getD_get h2] at this
theorem ad0_get (j : Nat) : ad0.getD j 0 = 0 := by
  unfold ad0
  by_cases h : j < 16
  · have : j = 0 ∨ j = 1 ∨ j = 2 ∨ j = 3 ∨ j = 4 ∨ j = 5 ∨ j = 6 ∨ j = 7 ∨ j = 8 ∨ j = 9 ∨ j = 10 ∨ j = 11 ∨ j = 12 ∨ j = 13 ∨ j = 14 ∨ j = 15 := by omega
    rcases this with rfl | rfl | rfl | rfl | rfl | rfl | rfl | rfl | rfl | rfl | rfl | rfl | rfl | rfl | rfl | rfl <;> rfl
  · rw [List.getD_eq_getElem?_getD, List.getElem?_eq_none (by simp; omega)]
    rfl
theorem rg_get (f : Nat → Int) {j : Nat} (h : j < 16) : ((List.range 16).map f).getD j 0 = f j := by
  rw [getD_get (by simpa using h)]
  simp
theorem cpA_fill {l : List Int} (h : l.length ≤ 16) : cpA 16 ad0 l = fillA l := by
  refine arr_ext (by simp [cpA]) (fillA_len h) fun j hj => ?_
  rw [fillA_get]
  unfold cpA
  rw [rg_get _ hj, ad0_get]
  split
  · rfl
  · rename_i h
    rw [List.getD_eq_getElem?_getD, List.getElem?_eq_none (by omega)]
    rfl
theorem cpAt_fill {a m : List Int} (h : a.length + m.length ≤ 16) : cpAt 16 (fillA a) a.length (16 - a.length) m = fillA (a ++ m) := by
  refine arr_ext (by simp [cpAt]) (fillA_len (by rw [List.length_append]; exact h)) fun j hj => ?_
  rw [fillA_get]
  unfold cpAt
  rw [rg_get _ hj, fillA_get]
  simp only [List.getD_eq_getElem?_getD, List.getElem?_append]
  split
  · rw [if_neg (by omega)]
  · split
    · omega
    · rw [List.getElem?_eq_none (l := a) (by omega), List.getElem?_eq_none (l := m) (by omega)]
/-- a valid prefix is its own bytes and zeros -/
theorem pfx_fill {p : S_Prefix} (w : wfP p) (v : vpB p = true) : fillA (pfx p) = p.IP := by
  have hv := vpB_iff.1 v
  have hm := (mask_eq_self w.1 w.2 p.Bits.toNat).2 hv.2.2
  refine arr_ext (fillA_len (pfx_le w)) w.1 fun j hj => ?_
  rw [fillA_get]
  by_cases h : j < sz p.Bits
  · rw [getD_get (by rw [pfx_len w v]; exact h), getD_get (by rw [w.1]; exact hj)]
    simp [pfx]
  · rw [List.getD_eq_getElem?_getD, List.getElem?_eq_none (by rw [pfx_len w v]; omega)]
    rw [← hm, maskL_get _ _ hj]
    have hc : clamp p.Bits.toNat j = 0 := by unfold clamp; unfold sz at h; omega
    rw [hc]
    have key : ∀ x : Fin 256, maskB x 0 = 0 := by decide +kernel
    obtain ⟨x, hx⟩ := byte_fin (getD_byte w.2 j)
    rw [hx, key x]
    rfl
def numB (b : List Int) (i n : Nat) : Int := if i + n ≤ b.length then beN ((b.drop i).take n) else 0
theorem num_p {b : List Int} (h : okB b) (hb : b.length ≤ 1000000) (i n : Nat) (h1 : 1 ≤ n) (h8 : n ≤ 8) : F_messages_read_1_R472 i n b = some (numB b i n) := by
  unfold F_messages_read_1_R472 numB
  by_cases hi : i + n ≤ b.length
  · rw [uint_some h (by omega) i n h1 h8 hi, if_pos hi]
    rfl
  · rw [uint_none (by omega) i n h1 h8 (by omega), if_neg hi]
    rfl
theorem num_bd {b : List Int} (h : okB b) (i n : Nat) : 0 ≤ numB b i n ∧ numB b i n < 256 ^ n := by
  unfold numB
  have hp : (0 : Int) < 256 ^ n := Int.pow_pos (by omega)
  split
  · rename_i hi
    have := beN_bd (l := (b.drop i).take n) (fun z hz => h z (List.mem_of_mem_drop (List.mem_of_mem_take hz)))
    rwa [List.length_take, List.length_drop, Nat.min_eq_left (by omega)] at this
  · omega
theorem num_at {a b c : List Int} (n : Nat) (hb : b.length = n) : numB (a ++ b ++ c) a.length n = beN b := by
  unfold numB
  rw [if_pos (by simp; omega)]
  congr 1
  rw [List.append_assoc, List.drop_left, List.take_append_of_le_length (by omega), List.take_of_length_le (by omega)]
theorem beN_one (v : Int) : beN [v] = v := by simp [beN]
def badN : S_Notice := S_Notice.mk 0 0 0 0 t0 0
theorem badN_wf : WfN badN := ⟨by decide, by decide, by decide, wfP0, wfP0⟩
def fits (x y k : Int) (len a : Nat) : Prop := x ≤ 128 ∧ y ≤ 128 ∧ k ≤ sz x ∧ a ≤ len ∧ len = a + (sz x - k.toNat) + sz y
instance (x y k : Int) (len a : Nat) : Decidable (fits x y k len a) := by unfold fits; infer_instance
def dstL (before body : List Int) (x k : Int) (a : Nat) : List Int := fillA (before.take k.toNat ++ (body.drop a).take (sz x - k.toNat))
def srcL (body : List Int) (x k : Int) (a : Nat) : List Int := fillA (body.drop (a + (sz x - k.toNat)))
theorem pfs_p {n : S_Notice} (e1 : n.To.Dst.IP = ad0) (e2 : n.To.Src.IP = ad0) {x y k : Int} (hx : 0 ≤ x ∧ x ≤ 255) (hy : 0 ≤ y ∧ y ≤ 255) (hk : 0 ≤ k ∧ k ≤ 255) {before : List Int} (hbf : before.length = 16) {body : List Int} (hb : body.length ≤ 1000000) (a : Nat) (ha : a ≤ 13) :
    F_messages_prefixes n x y k before body a = some (if fits x y k body.length a then (S_Notice.mk n.Kind n.Seq n.Metric n.Neighbour (S_Destination.mk (S_Prefix.mk (dstL before body x k a) x) (S_Prefix.mk (srcL body x k a) y) n.To.Router) n.Hops, true) else (badN, false)) := by
  unfold F_messages_prefixes
  by_cases h1 : x > 128
  · rw [decT h1, if_neg (show ¬ fits x y k body.length a by unfold fits; omega)]
    rfl
  rw [decF h1]
  by_cases h2 : y > 128
  · rw [decT h2, if_neg (show ¬ fits x y k body.length a by unfold fits; omega)]
    rfl
  rw [decF h2]
  simp only [cond_false]
  have z1 := sz_le hx.1 (by omega : x ≤ 128)
  have z2 := sz_le hy.1 (by omega : y ≤ 128)
  rw [wi (x := x) (by omega) (by omega), wi (x := y) (by omega) (by omega), wi (x := k) (by omega) (by omega), size_p hx.1 hx.2, size_p hy.1 hy.2]
  simp only [Option.bind_some]
  rw [wu (by omega) (by omega)]
  by_cases h3 : k > sz x
  · rw [decT h3, if_neg (show ¬ fits x y k body.length a by unfold fits; omega)]
    rfl
  rw [decF h3]
  by_cases h4 : (body.length : Int) < a
  · rw [decT h4, if_neg (show ¬ fits x y k body.length a by unfold fits; omega)]
    rfl
  rw [decF h4]
  simp only [cond_false]
  rw [wi (x := (sz x : Int) - k) (by omega) (by omega), wi (x := (a : Int) + ((sz x : Int) - k)) (by omega) (by omega), wi (x := (a : Int) + ((sz x : Int) - k) + sz y) (by omega) (by omega)]
  by_cases h5 : (body.length : Int) = (a : Int) + ((sz x : Int) - k) + sz y
  rotate_left
  · rw [show ((body.length : Int) != (a : Int) + ((sz x : Int) - k) + sz y) = true by simp [h5], if_neg (show ¬ fits x y k body.length a by unfold fits; omega)]
    rfl
  rw [show ((body.length : Int) != (a : Int) + ((sz x : Int) - k) + sz y) = false by simp [h5], if_pos (show fits x y k body.length a by unfold fits; omega), arrL_id hbf, subO_some (by omega) (by omega) (by omega), decT (by omega), decT (by omega), subO_some (by omega) (by omega) (by omega), subO_some (by omega) (by omega) (by omega)]
  simp only [cond_false, cond_true, Option.bind_some, Cut.app, e1, e2]
  have q1 : ((a : Int) + ((sz x : Int) - k)).toNat = a + (sz x - k.toNat) := by omega
  have q2 : (((body.length : Nat) : Int)).toNat = body.length := Int.toNat_natCast _
  have q3 : ((a : Nat) : Int).toNat = a := Int.toNat_natCast _
  rw [q1, q2, q3, List.take_length]
  have l1 : (before.take k.toNat).length = k.toNat := by rw [List.length_take, hbf]; omega
  have d1 : (before.take k.toNat).drop (Int.toNat 0) = before.take k.toNat := by simp
  have d2 : (body.take (a + (sz x - k.toNat))).drop a = (body.drop a).take (sz x - k.toNat) := by
    rw [List.drop_take]
    congr 1
    omega
  have l2 : ((body.drop a).take (sz x - k.toNat)).length = sz x - k.toNat := by rw [List.length_take, List.length_drop]; omega
  have c1 := cpAt_fill (a := before.take k.toNat) (m := (body.drop a).take (sz x - k.toNat)) (by omega)
  rw [l1] at c1
  rw [d1, d2, cpA_fill (by omega), cpA_fill (by rw [List.length_drop]; omega), show (Int.toNat (16 : Int) - k.toNat) = 16 - k.toNat from rfl, c1]
  rfl
def readS (k : Int) (b : List Int) (r : Int) (d : List Int) : S_Notice × Bool :=
  if k = 1 then (S_Notice.mk 1 (numB b 0 2) 0 0 t0 0, true)
  else if k = 2 then (S_Notice.mk 2 0 (numB b 8 2) (numB b 0 8) t0 0, true)
  else if k = 3 then (if fits (numB b 1 1) (numB b 2 1) (numB b 0 1) b.length 7 then (S_Notice.mk 3 (numB b 3 2) (numB b 5 2) 0 (S_Destination.mk (S_Prefix.mk (dstL d b (numB b 1 1) (numB b 0 1) 7) (numB b 1 1)) (S_Prefix.mk (srcL b (numB b 1 1) (numB b 0 1) 7) (numB b 2 1)) r) 0, true) else (badN, false))
  else if k = 4 then (if fits (numB b 0 1) (numB b 1 1) 0 b.length 2 then (S_Notice.mk 4 0 0 0 (S_Destination.mk (S_Prefix.mk (dstL d b (numB b 0 1) 0 2) (numB b 0 1)) (S_Prefix.mk (srcL b (numB b 0 1) 0 2) (numB b 1 1)) 0) 0, true) else (badN, false))
  else if k = 5 then (if fits (numB b 0 1) (numB b 1 1) 0 b.length 13 then (S_Notice.mk 5 (numB b 2 2) 0 0 (S_Destination.mk (S_Prefix.mk (dstL d b (numB b 0 1) 0 13) (numB b 0 1)) (S_Prefix.mk (srcL b (numB b 0 1) 0 13) (numB b 1 1)) (numB b 5 8)) (numB b 4 1), true) else (badN, false))
  else (badN, false)
theorem read_p {b : List Int} (h : okB b) (hb : b.length ≤ 255) (k : Int) {s : S_messages_state} (hd : s.dst.length = 16) : F_messages_read k b s = some (readS k b s.router s.dst) := by
  have n1 := fun i => num_bd h i 1
  have n2 := fun i => num_bd h i 2
  have e1 := fun i => num_p h (by omega) i 1 (by omega) (by omega)
  have e2 := fun i => num_p h (by omega) i 2 (by omega) (by omega)
  have e8 := fun i => num_p h (by omega) i 8 (by omega) (by omega)
  have b1 : ∀ i, 0 ≤ numB b i 1 ∧ numB b i 1 ≤ 255 := fun i => by have := n1 i; omega
  have b2 : ∀ i, 0 ≤ numB b i 2 ∧ numB b i 2 ≤ 65535 := fun i => by have := n2 i; omega
  unfold F_messages_read readS
  by_cases k1 : k = 1
  · subst k1
    have := e2 0
    simp only [Int.natCast_zero, show ((2 : Nat) : Int) = 2 from rfl] at this
    simp only [show ((1 : Int) == 1) = true from rfl, cond_true, this, Option.bind_some, if_true, wu16 (b2 0).1 (by have := b2 0; omega)]
    rfl
  rw [beqF k1, if_neg k1, cond_false]
  by_cases k2 : k = 2
  · subst k2
    have h0 := e8 0
    have h1 := e2 8
    simp only [Int.natCast_zero, show ((2 : Nat) : Int) = 2 from rfl, show ((8 : Nat) : Int) = 8 from rfl] at h0 h1
    simp only [show ((2 : Int) == 2) = true from rfl, cond_true, h0, h1, Option.bind_some, if_true, wi (x := numB b 8 2) (by have := b2 8; omega) (by have := b2 8; omega)]
    rfl
  rw [beqF k2, if_neg k2, cond_false]
  by_cases k3 : k = 3
  · subst k3
    have h0 := e2 3
    have h1 := e2 5
    have h2 := e1 1
    have h3 := e1 2
    have h4 := e1 0
    simp only [Int.natCast_zero, show ((1 : Nat) : Int) = 1 from rfl, show ((2 : Nat) : Int) = 2 from rfl, show ((3 : Nat) : Int) = 3 from rfl, show ((5 : Nat) : Int) = 5 from rfl] at h0 h1 h2 h3 h4
    simp only [show ((3 : Int) == 3) = true from rfl, cond_true, h0, h1, h2, h3, h4, Option.bind_some, if_true]
    have hp := pfs_p (n := S_Notice.mk 3 (IntKind.wrap .u16 (numB b 3 2)) (IntKind.wrap .i64 (numB b 5 2)) 0 (S_Destination.mk (S_Prefix.mk ad0 0) (S_Prefix.mk ad0 0) s.router) 0) rfl rfl (b1 1) (b1 2) (b1 0) hd (by omega : b.length ≤ 1000000) 7 (by omega)
    have hp' : F_messages_prefixes (S_Notice.mk 3 (IntKind.wrap .u16 (numB b 3 2)) (IntKind.wrap .i64 (numB b 5 2)) 0 (S_Destination.mk (S_Prefix.mk [0, 0, 0, 0, 0, 0, 0, 0, 0, 0, 0, 0, 0, 0, 0, 0] 0) (S_Prefix.mk [0, 0, 0, 0, 0, 0, 0, 0, 0, 0, 0, 0, 0, 0, 0, 0] 0) s.router) 0) (numB b 1 1) (numB b 2 1) (numB b 0 1) s.dst b 7 = _ := hp
    rw [hp', Option.bind_some, wu16 (b2 3).1 (by have := b2 3; omega), wi (x := numB b 5 2) (by have := b2 5; omega) (by have := b2 5; omega)]
  rw [beqF k3, if_neg k3, cond_false]
  by_cases k4 : k = 4
  · subst k4
    have h2 := e1 0
    have h3 := e1 1
    simp only [Int.natCast_zero, show ((1 : Nat) : Int) = 1 from rfl] at h2 h3
    simp only [show ((4 : Int) == 4) = true from rfl, cond_true, h2, h3, Option.bind_some, if_true]
    have hp := pfs_p (n := S_Notice.mk 4 0 0 0 (S_Destination.mk (S_Prefix.mk ad0 0) (S_Prefix.mk ad0 0) 0) 0) rfl rfl (b1 0) (b1 1) (k := 0) (by omega) hd (by omega : b.length ≤ 1000000) 2 (by omega)
    have hp' : F_messages_prefixes (S_Notice.mk 4 0 0 0 (S_Destination.mk (S_Prefix.mk [0, 0, 0, 0, 0, 0, 0, 0, 0, 0, 0, 0, 0, 0, 0, 0] 0) (S_Prefix.mk [0, 0, 0, 0, 0, 0, 0, 0, 0, 0, 0, 0, 0, 0, 0, 0] 0) 0) 0) (numB b 0 1) (numB b 1 1) 0 s.dst b 2 = _ := hp
    rw [hp', Option.bind_some]
  rw [beqF k4, if_neg k4, cond_false]
  by_cases k5 : k = 5
  · subst k5
    have h0 := e2 2
    have h1 := e1 4
    have h2 := e8 5
    have h3 := e1 0
    have h4 := e1 1
    simp only [Int.natCast_zero, show ((1 : Nat) : Int) = 1 from rfl, show ((2 : Nat) : Int) = 2 from rfl, show ((4 : Nat) : Int) = 4 from rfl, show ((5 : Nat) : Int) = 5 from rfl, show ((8 : Nat) : Int) = 8 from rfl] at h0 h1 h2 h3 h4
    simp only [show ((5 : Int) == 5) = true from rfl, cond_true, h0, h1, h2, h3, h4, Option.bind_some, if_true]
    have hp := pfs_p (n := S_Notice.mk 5 (IntKind.wrap .u16 (numB b 2 2)) 0 0 (S_Destination.mk (S_Prefix.mk ad0 0) (S_Prefix.mk ad0 0) (numB b 5 8)) (IntKind.wrap .i64 (numB b 4 1))) rfl rfl (b1 0) (b1 1) (k := 0) (by omega) hd (by omega : b.length ≤ 1000000) 13 (by omega)
    have hp' : F_messages_prefixes (S_Notice.mk 5 (IntKind.wrap .u16 (numB b 2 2)) 0 0 (S_Destination.mk (S_Prefix.mk [0, 0, 0, 0, 0, 0, 0, 0, 0, 0, 0, 0, 0, 0, 0, 0] 0) (S_Prefix.mk [0, 0, 0, 0, 0, 0, 0, 0, 0, 0, 0, 0, 0, 0, 0, 0] 0) (numB b 5 8)) (IntKind.wrap .i64 (numB b 4 1))) (numB b 0 1) (numB b 1 1) 0 s.dst b 13 = _ := hp
    rw [hp', Option.bind_some, wu16 (b2 2).1 (by have := b2 2; omega), wi (x := numB b 4 1) (by have := b1 4; omega) (by have := b1 4; omega)]
  rw [beqF k5, if_neg k5, cond_false]
  rfl
end
end Go.Proofs.Ytcemblilhbidgaa
