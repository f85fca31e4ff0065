/-
  Part 3 of what the proof of this law rests on.
-/
import Derived.Test.YtcemblilhbidgaaKP2
namespace Go.Proofs.Ytcemblilhbidgaa
section
open Go.RowKit
attribute [local irreducible] TS go TD goD

structure S_Prefix where
  IP : List Int
  Bits : Int
def S_Prefix.cs (x : S_Prefix) : List SC := arrS .u8 16 x.IP ++ [.lit (.int .i64 (x.Bits))]
def S_Prefix.eqb (x y : S_Prefix) : Bool := (arrEq 16 x.IP y.IP) && ((x.Bits == y.Bits) && true)

structure S_Destination where
  Dst : S_Prefix
  Src : S_Prefix
  Router : Int
def S_Destination.cs (x : S_Destination) : List SC := S_Prefix.cs x.Dst ++ S_Prefix.cs x.Src ++ [.lit (.int .u64 (x.Router))]
def S_Destination.eqb (x y : S_Destination) : Bool := (S_Prefix.eqb x.Dst y.Dst) && ((S_Prefix.eqb x.Src y.Src) && ((x.Router == y.Router) && true))

structure S_Notice where
  Kind : Int
  Seq : Int
  Metric : Int
  Neighbour : Int
  To : S_Destination
  Hops : Int
def S_Notice.cs (x : S_Notice) : List SC := [.lit (.int .i64 (x.Kind))] ++ [.lit (.int .u16 (x.Seq))] ++ [.lit (.int .i64 (x.Metric))] ++ [.lit (.int .u64 (x.Neighbour))] ++ S_Destination.cs x.To ++ [.lit (.int .i64 (x.Hops))]
def S_Notice.eqb (x y : S_Notice) : Bool := (x.Kind == y.Kind) && ((x.Seq == y.Seq) && ((x.Metric == y.Metric) && ((x.Neighbour == y.Neighbour) && ((S_Destination.eqb x.To y.To) && ((x.Hops == y.Hops) && true)))))

structure S_messages_state where
  elements : List Int
  router : Int
  dst : List Int
def S_messages_state.cs (x : S_messages_state) : List SC := [eS 1 (ecI .u8) (x.elements)] ++ [.lit (.int .u64 (x.router))] ++ arrS .u8 16 x.dst

structure S_multihopmade_Tape where
  l : List Int
  at_ : Int
def S_multihopmade_Tape.cs (x : S_multihopmade_Tape) : List SC := [eS 1 (ecI .i64) (x.l)] ++ [.lit (.int .i64 (x.at_))]

/-- multihop/metric.Valid -/
noncomputable def F_metric_Valid (a0 : Int) : Option (Bool) :=
  bif (decide (a0 ≥ 0)) then
    some ((decide (a0 ≤ 65535)))
  else
    some (false)
set_option maxRecDepth 100000 in
set_option maxHeartbeats 40000000 in
theorem ok_metric_Valid (a0 : Int) (r : Bool) (h : F_metric_Valid a0 = some r) : Con Try.prog 38 [.c (.lit (.int .i64 (a0)))] [] (.c (.lit (.bool (r)))) [] := by
  unfold F_metric_Valid at h
  refine con_of [] [] 9 Try.func38 rfl rfl (by kernel_rfl) (fun K => ?_)
  refine TS_go 9 ?_
  replace h := condO h
  rcases h with ⟨hb1, h⟩ | ⟨hb1, h⟩
  · refine TS_know 4 (b := true) hb1 (by kernel_rfl) (by kernel_rfl) ?_
    refine TS_know 5 (b := true) hb1 (by kernel_rfl) (by kernel_rfl) ?_
    refine TS_go 6 ?_
    have ret := Option.some.inj h
    subst ret
    exact TS_ret (by kernel_rfl) (by kernel_rfl) (by kernel_rfl)
  · refine TS_know 4 (b := false) hb1 (by kernel_rfl) (by kernel_rfl) ?_
    refine TS_know 5 (b := false) hb1 (by kernel_rfl) (by kernel_rfl) ?_
    refine TS_go 6 ?_
    have ret := Option.some.inj h
    subst ret
    exact TS_ret (by kernel_rfl) (by kernel_rfl) (by kernel_rfl)

/-- multihop/address.Mask -/
noncomputable def F_address_Mask_l1 (a0 : List Int) (s1 : Int × S_Prefix) : Option ((Int × S_Prefix) ⊕ (S_Prefix)) :=
  bif (decide (s1.1 < 16)) then
    bif decide ((0 : Int) ≤ s1.1 ∧ s1.1 < (16 : Int)) then
      bif decide (0 ≤ (if 8 < if IntKind.wrap .i64 (s1.2.Bits - (IntKind.wrap .i64 (8 * s1.1))) < 0 then 0 else IntKind.wrap .i64 (s1.2.Bits - (IntKind.wrap .i64 (8 * s1.1))) then 8 else if IntKind.wrap .i64 (s1.2.Bits - (IntKind.wrap .i64 (8 * s1.1))) < 0 then 0 else IntKind.wrap .i64 (s1.2.Bits - (IntKind.wrap .i64 (8 * s1.1))))) then
        bif decide ((0 : Int) ≤ s1.1 ∧ s1.1 < (16 : Int)) then
          some (Sum.inl (IntKind.wrap .i64 (s1.1 + 1), (S_Prefix.mk (setA 16 s1.2.IP (Int.toNat s1.1) (iandNot .u8 (List.getD a0 (Int.toNat s1.1) 0) (ishr .u8 255 (if 8 < if IntKind.wrap .i64 (s1.2.Bits - (IntKind.wrap .i64 (8 * s1.1))) < 0 then 0 else IntKind.wrap .i64 (s1.2.Bits - (IntKind.wrap .i64 (8 * s1.1))) then 8 else if IntKind.wrap .i64 (s1.2.Bits - (IntKind.wrap .i64 (8 * s1.1))) < 0 then 0 else IntKind.wrap .i64 (s1.2.Bits - (IntKind.wrap .i64 (8 * s1.1))))))) s1.2.Bits)))
        else none
      else none
    else none
  else
    some (Sum.inr s1.2)
noncomputable def F_address_Mask (a0 : List Int) (a1 : Int) : Option (S_Prefix) :=
  (loopO (F_address_Mask_l1 a0) (0, (S_Prefix.mk [0, 0, 0, 0, 0, 0, 0, 0, 0, 0, 0, 0, 0, 0, 0, 0] (if 128 < if a1 < 0 then 0 else a1 then 128 else if a1 < 0 then 0 else a1)))).bind fun b2 =>
  some (b2)
set_option maxRecDepth 100000 in
set_option maxHeartbeats 40000000 in
theorem ok_address_Mask (a0 : List Int) (a1 : Int) (r : S_Prefix) (h : F_address_Mask a0 a1 = some r) : Con Try.prog 58 [.agg (arrS .u8 16 a0), .c (.lit (.int .i64 (a1)))] [] (.agg (S_Prefix.cs r)) [] := by
  unfold F_address_Mask at h
  refine con_of [] [] 33 Try.func58 rfl rfl (by kernel_rfl) (fun K => ?_)
  refine TS_go 20 ?_
  refine TS_cut ⟨[(2, []), (4, []), (5, []), (12, [])], [(2, (2, [])), (4, (4, [])), (5, (5, []))]⟩ (.mk [.code (codeAt [1, 1, 0, 1, 0] (bodyOf Try.f58)), .blk 0, .code (codeAt [1, 1, 1] (bodyOf Try.f58))] .normal ⟨[(2, .c (.box 2 0)), (4, .c (.box 4 0)), (5, .c (.box 5 0)), (12, .c (.lit (.int .i64 (0))))], [(2, .box [.lit (.int .u8 ((a0.getD 0 0))), .lit (.int .u8 ((a0.getD 1 0))), .lit (.int .u8 ((a0.getD 2 0))), .lit (.int .u8 ((a0.getD 3 0))), .lit (.int .u8 ((a0.getD 4 0))), .lit (.int .u8 ((a0.getD 5 0))), .lit (.int .u8 ((a0.getD 6 0))), .lit (.int .u8 ((a0.getD 7 0))), .lit (.int .u8 ((a0.getD 8 0))), .lit (.int .u8 ((a0.getD 9 0))), .lit (.int .u8 ((a0.getD 10 0))), .lit (.int .u8 ((a0.getD 11 0))), .lit (.int .u8 ((a0.getD 12 0))), .lit (.int .u8 ((a0.getD 13 0))), .lit (.int .u8 ((a0.getD 14 0))), .lit (.int .u8 ((a0.getD 15 0)))]), (4, .box [.lit (.int .u8 (0)), .lit (.int .u8 (0)), .lit (.int .u8 (0)), .lit (.int .u8 (0)), .lit (.int .u8 (0)), .lit (.int .u8 (0)), .lit (.int .u8 (0)), .lit (.int .u8 (0)), .lit (.int .u8 (0)), .lit (.int .u8 (0)), .lit (.int .u8 (0)), .lit (.int .u8 (0)), .lit (.int .u8 (0)), .lit (.int .u8 (0)), .lit (.int .u8 (0)), .lit (.int .u8 (0)), .lit (.int .i64 (0))]), (5, .box [.lit (.int .u8 (0)), .lit (.int .u8 (0)), .lit (.int .u8 (0)), .lit (.int .u8 (0)), .lit (.int .u8 (0)), .lit (.int .u8 (0)), .lit (.int .u8 (0)), .lit (.int .u8 (0)), .lit (.int .u8 (0)), .lit (.int .u8 (0)), .lit (.int .u8 (0)), .lit (.int .u8 (0)), .lit (.int .u8 (0)), .lit (.int .u8 (0)), .lit (.int .u8 (0)), .lit (.int .u8 (0)), .lit (.int .i64 (if 128 < if a1 < 0 then 0 else a1 then 128 else if a1 < 0 then 0 else a1))])]⟩) (by kernel_rfl) (by kernel_rfl) ?_
  replace h := bindO h
  obtain ⟨y3, hl1, hK1⟩ := h
  refine TS_loopB (F_address_Mask_l1 a0) ⟨[(2, []), (4, []), (5, []), (12, [])], [(2, (2, [])), (4, (4, [])), (5, (5, []))]⟩ (fun (s1 : Int × S_Prefix) => [(12, .c (.lit (.int .i64 (s1.1))))]) (fun (s1 : Int × S_Prefix) => [(5, .box (S_Prefix.cs s1.2))]) (0, (S_Prefix.mk [0, 0, 0, 0, 0, 0, 0, 0, 0, 0, 0, 0, 0, 0, 0, 0] (if 128 < if a1 < 0 then 0 else a1 then 128 else if a1 < 0 then 0 else a1))) y3 (.exit 0) (fun (b : S_Prefix) => b) ⟨[(4, []), (5, [])], [(4, (4, [])), (5, (5, []))]⟩ (fun (b2 : S_Prefix) => []) (fun (b2 : S_Prefix) => [(5, .box (S_Prefix.cs b2))]) hl1 (by kernel_rfl) (by kernel_rfl) ?_ ?_
  · intro s1 x h hy1
    unfold F_address_Mask_l1 at h
    refine TS_go 5 ?_
    replace h := condO h
    rcases h with ⟨hb4, h⟩ | ⟨hb4, h⟩
    · refine TS_know 13 (b := true) hb4 (by kernel_rfl) (by kernel_rfl) ?_
      refine TS_T (by kernel_rfl) rfl ?_
      refine TS_go 19 ?_
      refine TS_draw (by kernel_rfl) ?_
      refine TD_go 2 ?_
      replace h := chkO h
      obtain ⟨hc5, h⟩ := h
      refine TD_idxA 2 0 16 (i := s1.1) hc5 (by kernel_rfl) (by kernel_rfl) ?_
      refine TD_ldA .u8 0 16 (i := s1.1) a0 hc5 (by kernel_rfl) (by kernel_rfl) ?_
      refine TD_go 1 ?_
      replace h := chkO h
      obtain ⟨hc6, h⟩ := h
      refine TD_num (op := .shr) (k := .u8) (k' := .i64) (m := 255) (i := if 8 < if IntKind.wrap .i64 (s1.2.Bits - (IntKind.wrap .i64 (8 * s1.1))) < 0 then 0 else IntKind.wrap .i64 (s1.2.Bits - (IntKind.wrap .i64 (8 * s1.1))) then 8 else if IntKind.wrap .i64 (s1.2.Bits - (IntKind.wrap .i64 (8 * s1.1))) < 0 then 0 else IntKind.wrap .i64 (s1.2.Bits - (IntKind.wrap .i64 (8 * s1.1)))) (of_decide_eq_true hc6) rfl (by simp) (by kernel_rfl) (by kernel_rfl) ?_
      refine TD_go 2 ?_
      replace h := chkO h
      obtain ⟨hc7, h⟩ := h
      refine TD_idxA 5 0 16 (i := s1.1) hc7 (by kernel_rfl) (by kernel_rfl) ?_
      refine TD_stA (k := .u8) (d := 5) 0 16 (i := s1.1) (v := iandNot .u8 (List.getD a0 (Int.toNat s1.1) 0) (ishr .u8 255 (if 8 < if IntKind.wrap .i64 (s1.2.Bits - (IntKind.wrap .i64 (8 * s1.1))) < 0 then 0 else IntKind.wrap .i64 (s1.2.Bits - (IntKind.wrap .i64 (8 * s1.1))) then 8 else if IntKind.wrap .i64 (s1.2.Bits - (IntKind.wrap .i64 (8 * s1.1))) < 0 then 0 else IntKind.wrap .i64 (s1.2.Bits - (IntKind.wrap .i64 (8 * s1.1)))))) s1.2.IP (pre := []) (post := [.lit (.int .i64 (s1.2.Bits))]) hc7 (by kernel_rfl) (by kernel_rfl) (by kernel_rfl) ?_
      refine TD_end (by kernel_rfl) ?_
      refine TS_go 5 ?_
      have ret := Option.some.inj h
      subst ret
      exact TS_againB _ ⟨[(2, []), (4, []), (5, []), (12, [])], [(2, (2, [])), (4, (4, [])), (5, (5, []))]⟩ rfl (by kernel_rfl) (by kernel_rfl)
    · refine TS_know 13 (b := false) hb4 (by kernel_rfl) (by kernel_rfl) ?_
      refine TS_F (by kernel_rfl) rfl ?_
      refine TS_go 2 ?_
      have ret := Option.some.inj h
      subst ret
      exact TS_brkB s1.2 ⟨[(4, []), (5, [])], [(4, (4, [])), (5, (5, []))]⟩ rfl (by kernel_rfl) (by kernel_rfl) (by kernel_rfl)
  · intro b2 hb
    subst y3
    have h := hK1
    refine TS_go 7 ?_
    have ret := Option.some.inj h
    subst ret
    exact TS_ret (by kernel_rfl) (by kernel_rfl) (by kernel_rfl)

/-- multihop/address.ValidPrefix -/
noncomputable def F_address_ValidPrefix (a0 : S_Prefix) : Option (Bool) :=
  bif (decide (a0.Bits ≥ 0)) then
    bif (decide (a0.Bits ≤ 128)) then
      (F_address_Mask a0.IP a0.Bits).bind fun v3 =>
      some ((S_Prefix.eqb v3 a0))
    else
      some (false)
  else
    some (false)
set_option maxRecDepth 100000 in
set_option maxHeartbeats 40000000 in
theorem ok_address_ValidPrefix (a0 : S_Prefix) (r : Bool) (h : F_address_ValidPrefix a0 = some r) : Con Try.prog 40 [.agg (S_Prefix.cs a0)] [] (.c (.lit (.bool (r)))) [] := by
  unfold F_address_ValidPrefix at h
  refine con_of [] [] 20 Try.func40 rfl rfl (by kernel_rfl) (fun K => ?_)
  refine TS_go 6 ?_
  refine TS_draw (by kernel_rfl) ?_
  refine TD_go 3 ?_
  replace h := condO h
  rcases h with ⟨hb1, h⟩ | ⟨hb1, h⟩
  · refine TD_know 6 (b := true) hb1 trivial (by kernel_rfl) (by kernel_rfl) ?_
    refine TD_go 4 ?_
    replace h := condO h
    rcases h with ⟨hb2, h⟩ | ⟨hb2, h⟩
    · refine TD_know 11 (b := true) hb2 trivial (by kernel_rfl) (by kernel_rfl) ?_
      refine TD_go 4 ?_
      replace h := bindO h
      obtain ⟨v3, hv3, h⟩ := h
      refine TD_call [] (ok_address_Mask a0.IP a0.Bits v3 hv3) (by kernel_rfl) (by kernel_rfl) ?_
      refine TD_go 4 ?_
      refine TD_end (by kernel_rfl) ?_
      refine TS_go 1 ?_
      have ret := Option.some.inj h
      subst ret
      exact TS_ret (by kernel_rfl) (by kernel_rfl) (by kernel_rfl)
    · refine TD_know 11 (b := false) hb2 trivial (by kernel_rfl) (by kernel_rfl) ?_
      refine TD_go 9 ?_
      refine TD_end (by kernel_rfl) ?_
      refine TS_go 1 ?_
      have ret := Option.some.inj h
      subst ret
      exact TS_ret (by kernel_rfl) (by kernel_rfl) (by kernel_rfl)
  · refine TD_know 6 (b := false) hb1 trivial (by kernel_rfl) (by kernel_rfl) ?_
    refine TD_go 14 ?_
    refine TD_end (by kernel_rfl) ?_
    refine TS_go 1 ?_
    have ret := Option.some.inj h
    subst ret
    exact TS_ret (by kernel_rfl) (by kernel_rfl) (by kernel_rfl)

/-- multihop/sources.ValidTo -/
noncomputable def F_sources_ValidTo (a0 : S_Destination) : Option (Bool) :=
  (F_address_ValidPrefix a0.Dst).bind fun v1 =>
  bif v1 then
    (F_address_ValidPrefix a0.Src).bind fun v3 =>
    bif v3 then
      some ((a0.Router != 0))
    else
      some (false)
  else
    some (false)
set_option maxRecDepth 100000 in
set_option maxHeartbeats 40000000 in
theorem ok_sources_ValidTo (a0 : S_Destination) (r : Bool) (h : F_sources_ValidTo a0 = some r) : Con Try.prog 39 [.agg (S_Destination.cs a0)] [] (.c (.lit (.bool (r)))) [] := by
  unfold F_sources_ValidTo at h
  refine con_of [] [] 16 Try.func39 rfl rfl (by kernel_rfl) (fun K => ?_)
  refine TS_go 9 ?_
  replace h := bindO h
  obtain ⟨v1, hv1, h⟩ := h
  refine TS_call [] (ok_address_ValidPrefix a0.Dst v1 hv1) (by kernel_rfl) (by kernel_rfl) ?_
  refine TS_go 1 ?_
  replace h := condO h
  rcases h with ⟨hb2, h⟩ | ⟨hb2, h⟩
  · subst hb2
    refine TS_go 2 ?_
    replace h := bindO h
    obtain ⟨v3, hv3, h⟩ := h
    refine TS_call [] (ok_address_ValidPrefix a0.Src v3 hv3) (by kernel_rfl) (by kernel_rfl) ?_
    refine TS_go 2 ?_
    replace h := condO h
    rcases h with ⟨hb4, h⟩ | ⟨hb4, h⟩
    · subst hb4
      refine TS_go 7 ?_
      have ret := Option.some.inj h
      subst ret
      exact TS_ret (by kernel_rfl) (by kernel_rfl) (by kernel_rfl)
    · subst hb4
      refine TS_go 7 ?_
      have ret := Option.some.inj h
      subst ret
      exact TS_ret (by kernel_rfl) (by kernel_rfl) (by kernel_rfl)
  · subst hb2
    refine TS_go 12 ?_
    have ret := Option.some.inj h
    subst ret
    exact TS_ret (by kernel_rfl) (by kernel_rfl) (by kernel_rfl)

/-- multihop/messages.Valid -/
noncomputable def F_messages_Valid (a0 : S_Notice) : Option (Bool) :=
  bif (a0.Kind == 1) then
    some ((S_Notice.eqb a0 (S_Notice.mk a0.Kind a0.Seq 0 0 (S_Destination.mk (S_Prefix.mk [0, 0, 0, 0, 0, 0, 0, 0, 0, 0, 0, 0, 0, 0, 0, 0] 0) (S_Prefix.mk [0, 0, 0, 0, 0, 0, 0, 0, 0, 0, 0, 0, 0, 0, 0, 0] 0) 0) 0)))
  else
    bif (a0.Kind == 2) then
      bif (S_Notice.eqb a0 (S_Notice.mk a0.Kind 0 a0.Metric a0.Neighbour (S_Destination.mk (S_Prefix.mk [0, 0, 0, 0, 0, 0, 0, 0, 0, 0, 0, 0, 0, 0, 0, 0] 0) (S_Prefix.mk [0, 0, 0, 0, 0, 0, 0, 0, 0, 0, 0, 0, 0, 0, 0, 0] 0) 0) 0)) then
        bif (a0.Neighbour != 0) then
          (F_metric_Valid a0.Metric).bind fun v5 =>
          some (v5)
        else
          some (false)
      else
        some (false)
    else
      bif (a0.Kind == 3) then
        bif (S_Notice.eqb a0 (S_Notice.mk a0.Kind a0.Seq a0.Metric 0 a0.To 0)) then
          (F_sources_ValidTo a0.To).bind fun v8 =>
          bif v8 then
            (F_metric_Valid a0.Metric).bind fun v10 =>
            some (v10)
          else
            some (false)
        else
          some (false)
      else
        bif (a0.Kind == 4) then
          bif (S_Notice.eqb a0 (S_Notice.mk a0.Kind 0 0 0 a0.To 0)) then
            bif (a0.To.Router == 0) then
              (F_address_ValidPrefix a0.To.Dst).bind fun v14 =>
              bif v14 then
                (F_address_ValidPrefix a0.To.Src).bind fun v16 =>
                some (v16)
              else
                some (false)
            else
              some (false)
          else
            some (false)
        else
          bif (a0.Kind == 5) then
            bif (S_Notice.eqb a0 (S_Notice.mk a0.Kind a0.Seq 0 0 a0.To a0.Hops)) then
              (F_sources_ValidTo a0.To).bind fun v19 =>
              bif v19 then
                bif (decide (a0.Hops ≥ 1)) then
                  some ((decide (a0.Hops ≤ 32)))
                else
                  some (false)
              else
                some (false)
            else
              some (false)
          else
            some (false)
set_option maxRecDepth 100000 in
set_option maxHeartbeats 40000000 in
theorem ok_messages_Valid (a0 : S_Notice) (r : Bool) (h : F_messages_Valid a0 = some r) : Con Try.prog 16 [.agg (S_Notice.cs a0)] [] (.c (.lit (.bool (r)))) [] := by
  unfold F_messages_Valid at h
  refine con_of [] [] 117 Try.func16 rfl rfl (by kernel_rfl) (fun K => ?_)
  refine TS_go 25 ?_
  replace h := condO h
  rcases h with ⟨hb1, h⟩ | ⟨hb1, h⟩
  · refine TS_know 10 (b := true) hb1 (by kernel_rfl) (by kernel_rfl) ?_
    refine TS_know 9 (b := true) hb1 (by kernel_rfl) (by kernel_rfl) ?_
    refine TS_T (by kernel_rfl) rfl ?_
    refine TS_go 17 ?_
    have ret := Option.some.inj h
    subst ret
    exact TS_ret (by kernel_rfl) (by kernel_rfl) (by kernel_rfl)
  · refine TS_know 10 (b := false) hb1 (by kernel_rfl) (by kernel_rfl) ?_
    refine TS_know 9 (b := false) hb1 (by kernel_rfl) (by kernel_rfl) ?_
    refine TS_F (by kernel_rfl) rfl ?_
    refine TS_go 5 ?_
    replace h := condO h
    rcases h with ⟨hb2, h⟩ | ⟨hb2, h⟩
    · refine TS_know 18 (b := true) hb2 (by kernel_rfl) (by kernel_rfl) ?_
      refine TS_know 17 (b := true) hb2 (by kernel_rfl) (by kernel_rfl) ?_
      refine TS_T (by kernel_rfl) rfl ?_
      refine TS_go 1 ?_
      refine TS_draw (by kernel_rfl) ?_
      refine TD_go 8 ?_
      refine TD_end (by kernel_rfl) ?_
      refine TS_go 6 ?_
      replace h := condO h
      rcases h with ⟨hb3, h⟩ | ⟨hb3, h⟩
      · refine TS_know 27 (b := true) hb3 (by kernel_rfl) (by kernel_rfl) ?_
        refine TS_know 28 (b := true) hb3 (by kernel_rfl) (by kernel_rfl) ?_
        refine TS_go 5 ?_
        replace h := condO h
        rcases h with ⟨hb4, h⟩ | ⟨hb4, h⟩
        · refine TS_know 31 (b := true) hb4 (by kernel_rfl) (by kernel_rfl) ?_
          refine TS_know 32 (b := true) hb4 (by kernel_rfl) (by kernel_rfl) ?_
          refine TS_know 33 (b := true) hb4 (by kernel_rfl) (by kernel_rfl) ?_
          refine TS_go 2 ?_
          replace h := bindO h
          obtain ⟨v5, hv5, h⟩ := h
          refine TS_call [] (ok_metric_Valid a0.Metric v5 hv5) (by kernel_rfl) (by kernel_rfl) ?_
          refine TS_go 6 ?_
          have ret := Option.some.inj h
          subst ret
          exact TS_ret (by kernel_rfl) (by kernel_rfl) (by kernel_rfl)
        · refine TS_know 31 (b := false) hb4 (by kernel_rfl) (by kernel_rfl) ?_
          refine TS_know 32 (b := false) hb4 (by kernel_rfl) (by kernel_rfl) ?_
          refine TS_know 33 (b := false) hb4 (by kernel_rfl) (by kernel_rfl) ?_
          refine TS_go 9 ?_
          have ret := Option.some.inj h
          subst ret
          exact TS_ret (by kernel_rfl) (by kernel_rfl) (by kernel_rfl)
      · refine TS_know 27 (b := false) hb3 (by kernel_rfl) (by kernel_rfl) ?_
        refine TS_know 28 (b := false) hb3 (by kernel_rfl) (by kernel_rfl) ?_
        refine TS_go 14 ?_
        have ret := Option.some.inj h
        subst ret
        exact TS_ret (by kernel_rfl) (by kernel_rfl) (by kernel_rfl)
    · refine TS_know 18 (b := false) hb2 (by kernel_rfl) (by kernel_rfl) ?_
      refine TS_know 17 (b := false) hb2 (by kernel_rfl) (by kernel_rfl) ?_
      refine TS_F (by kernel_rfl) rfl ?_
      refine TS_go 5 ?_
      replace h := condO h
      rcases h with ⟨hb6, h⟩ | ⟨hb6, h⟩
      · refine TS_know 39 (b := true) hb6 (by kernel_rfl) (by kernel_rfl) ?_
        refine TS_know 38 (b := true) hb6 (by kernel_rfl) (by kernel_rfl) ?_
        refine TS_T (by kernel_rfl) rfl ?_
        refine TS_go 1 ?_
        refine TS_draw (by kernel_rfl) ?_
        refine TD_go 12 ?_
        refine TD_end (by kernel_rfl) ?_
        refine TS_go 6 ?_
        replace h := condO h
        rcases h with ⟨hb7, h⟩ | ⟨hb7, h⟩
        · refine TS_know 51 (b := true) hb7 (by kernel_rfl) (by kernel_rfl) ?_
          refine TS_know 52 (b := true) hb7 (by kernel_rfl) (by kernel_rfl) ?_
          refine TS_go 2 ?_
          replace h := bindO h
          obtain ⟨v8, hv8, h⟩ := h
          refine TS_call [] (ok_sources_ValidTo a0.To v8 hv8) (by kernel_rfl) (by kernel_rfl) ?_
          refine TS_go 2 ?_
          replace h := condO h
          rcases h with ⟨hb9, h⟩ | ⟨hb9, h⟩
          · subst hb9
            refine TS_go 2 ?_
            replace h := bindO h
            obtain ⟨v10, hv10, h⟩ := h
            refine TS_call [] (ok_metric_Valid a0.Metric v10 hv10) (by kernel_rfl) (by kernel_rfl) ?_
            refine TS_go 6 ?_
            have ret := Option.some.inj h
            subst ret
            exact TS_ret (by kernel_rfl) (by kernel_rfl) (by kernel_rfl)
          · subst hb9
            refine TS_go 9 ?_
            have ret := Option.some.inj h
            subst ret
            exact TS_ret (by kernel_rfl) (by kernel_rfl) (by kernel_rfl)
        · refine TS_know 51 (b := false) hb7 (by kernel_rfl) (by kernel_rfl) ?_
          refine TS_know 52 (b := false) hb7 (by kernel_rfl) (by kernel_rfl) ?_
          refine TS_go 14 ?_
          have ret := Option.some.inj h
          subst ret
          exact TS_ret (by kernel_rfl) (by kernel_rfl) (by kernel_rfl)
      · refine TS_know 39 (b := false) hb6 (by kernel_rfl) (by kernel_rfl) ?_
        refine TS_know 38 (b := false) hb6 (by kernel_rfl) (by kernel_rfl) ?_
        refine TS_F (by kernel_rfl) rfl ?_
        refine TS_go 5 ?_
        replace h := condO h
        rcases h with ⟨hb11, h⟩ | ⟨hb11, h⟩
        · refine TS_know 63 (b := true) hb11 (by kernel_rfl) (by kernel_rfl) ?_
          refine TS_know 62 (b := true) hb11 (by kernel_rfl) (by kernel_rfl) ?_
          refine TS_T (by kernel_rfl) rfl ?_
          refine TS_go 13 ?_
          replace h := condO h
          rcases h with ⟨hb12, h⟩ | ⟨hb12, h⟩
          · refine TS_know 69 (b := true) hb12 (by kernel_rfl) (by kernel_rfl) ?_
            refine TS_know 70 (b := true) hb12 (by kernel_rfl) (by kernel_rfl) ?_
            refine TS_go 6 ?_
            replace h := condO h
            rcases h with ⟨hb13, h⟩ | ⟨hb13, h⟩
            · refine TS_know 74 (b := true) hb13 (by kernel_rfl) (by kernel_rfl) ?_
              refine TS_know 75 (b := true) hb13 (by kernel_rfl) (by kernel_rfl) ?_
              refine TS_know 76 (b := true) hb13 (by kernel_rfl) (by kernel_rfl) ?_
              refine TS_go 3 ?_
              replace h := bindO h
              obtain ⟨v14, hv14, h⟩ := h
              refine TS_call [] (ok_address_ValidPrefix a0.To.Dst v14 hv14) (by kernel_rfl) (by kernel_rfl) ?_
              refine TS_go 2 ?_
              replace h := condO h
              rcases h with ⟨hb15, h⟩ | ⟨hb15, h⟩
              · subst hb15
                refine TS_go 3 ?_
                replace h := bindO h
                obtain ⟨v16, hv16, h⟩ := h
                refine TS_call [] (ok_address_ValidPrefix a0.To.Src v16 hv16) (by kernel_rfl) (by kernel_rfl) ?_
                refine TS_go 6 ?_
                have ret := Option.some.inj h
                subst ret
                exact TS_ret (by kernel_rfl) (by kernel_rfl) (by kernel_rfl)
              · subst hb15
                refine TS_go 10 ?_
                have ret := Option.some.inj h
                subst ret
                exact TS_ret (by kernel_rfl) (by kernel_rfl) (by kernel_rfl)
            · refine TS_know 74 (b := false) hb13 (by kernel_rfl) (by kernel_rfl) ?_
              refine TS_know 75 (b := false) hb13 (by kernel_rfl) (by kernel_rfl) ?_
              refine TS_know 76 (b := false) hb13 (by kernel_rfl) (by kernel_rfl) ?_
              refine TS_go 16 ?_
              have ret := Option.some.inj h
              subst ret
              exact TS_ret (by kernel_rfl) (by kernel_rfl) (by kernel_rfl)
          · refine TS_know 69 (b := false) hb12 (by kernel_rfl) (by kernel_rfl) ?_
            refine TS_know 70 (b := false) hb12 (by kernel_rfl) (by kernel_rfl) ?_
            refine TS_go 22 ?_
            have ret := Option.some.inj h
            subst ret
            exact TS_ret (by kernel_rfl) (by kernel_rfl) (by kernel_rfl)
        · refine TS_know 63 (b := false) hb11 (by kernel_rfl) (by kernel_rfl) ?_
          refine TS_know 62 (b := false) hb11 (by kernel_rfl) (by kernel_rfl) ?_
          refine TS_F (by kernel_rfl) rfl ?_
          refine TS_go 5 ?_
          replace h := condO h
          rcases h with ⟨hb17, h⟩ | ⟨hb17, h⟩
          · refine TS_know 89 (b := true) hb17 (by kernel_rfl) (by kernel_rfl) ?_
            refine TS_know 88 (b := true) hb17 (by kernel_rfl) (by kernel_rfl) ?_
            refine TS_T (by kernel_rfl) rfl ?_
            refine TS_go 1 ?_
            refine TS_draw (by kernel_rfl) ?_
            refine TD_go 12 ?_
            refine TD_end (by kernel_rfl) ?_
            refine TS_go 6 ?_
            replace h := condO h
            rcases h with ⟨hb18, h⟩ | ⟨hb18, h⟩
            · refine TS_know 101 (b := true) hb18 (by kernel_rfl) (by kernel_rfl) ?_
              refine TS_know 102 (b := true) hb18 (by kernel_rfl) (by kernel_rfl) ?_
              refine TS_go 2 ?_
              replace h := bindO h
              obtain ⟨v19, hv19, h⟩ := h
              refine TS_call [] (ok_sources_ValidTo a0.To v19 hv19) (by kernel_rfl) (by kernel_rfl) ?_
              refine TS_go 2 ?_
              replace h := condO h
              rcases h with ⟨hb20, h⟩ | ⟨hb20, h⟩
              · subst hb20
                refine TS_go 5 ?_
                replace h := condO h
                rcases h with ⟨hb21, h⟩ | ⟨hb21, h⟩
                · refine TS_know 110 (b := true) hb21 (by kernel_rfl) (by kernel_rfl) ?_
                  refine TS_know 111 (b := true) hb21 (by kernel_rfl) (by kernel_rfl) ?_
                  refine TS_know 112 (b := true) hb21 (by kernel_rfl) (by kernel_rfl) ?_
                  refine TS_go 9 ?_
                  have ret := Option.some.inj h
                  subst ret
                  exact TS_ret (by kernel_rfl) (by kernel_rfl) (by kernel_rfl)
                · refine TS_know 110 (b := false) hb21 (by kernel_rfl) (by kernel_rfl) ?_
                  refine TS_know 111 (b := false) hb21 (by kernel_rfl) (by kernel_rfl) ?_
                  refine TS_know 112 (b := false) hb21 (by kernel_rfl) (by kernel_rfl) ?_
                  refine TS_go 9 ?_
                  have ret := Option.some.inj h
                  subst ret
                  exact TS_ret (by kernel_rfl) (by kernel_rfl) (by kernel_rfl)
              · subst hb20
                refine TS_go 14 ?_
                have ret := Option.some.inj h
                subst ret
                exact TS_ret (by kernel_rfl) (by kernel_rfl) (by kernel_rfl)
            · refine TS_know 101 (b := false) hb18 (by kernel_rfl) (by kernel_rfl) ?_
              refine TS_know 102 (b := false) hb18 (by kernel_rfl) (by kernel_rfl) ?_
              refine TS_go 19 ?_
              have ret := Option.some.inj h
              subst ret
              exact TS_ret (by kernel_rfl) (by kernel_rfl) (by kernel_rfl)
          · refine TS_know 89 (b := false) hb17 (by kernel_rfl) (by kernel_rfl) ?_
            refine TS_know 88 (b := false) hb17 (by kernel_rfl) (by kernel_rfl) ?_
            refine TS_F (by kernel_rfl) rfl ?_
            refine TS_go 7 ?_
            have ret := Option.some.inj h
            subst ret
            exact TS_ret (by kernel_rfl) (by kernel_rfl) (by kernel_rfl)

/-- multihop/messages.allValid -/
noncomputable def F_messages_allValid_l1 (a0 : List S_Notice) (s1 : Int) : Option ((Int) ⊕ ((Unit) ⊕ (Bool))) :=
  bif (decide (s1 < (List.length a0 : Int))) then
    (idx a0 s1).bind fun e5 =>
    (F_messages_Valid e5).bind fun v6 =>
    bif v6 then
      some (Sum.inl (IntKind.wrap .i64 (s1 + 1)))
    else
      some (Sum.inr (Sum.inr false))
  else
    some (Sum.inr (Sum.inl ()))
noncomputable def F_messages_allValid (a0 : List S_Notice) : Option (Bool) :=
  (loopO (F_messages_allValid_l1 a0) 0).bind (Sum.elim (fun b2 =>
    some (true)
  ) (fun w8 => some w8))
set_option maxRecDepth 100000 in
set_option maxHeartbeats 40000000 in
theorem ok_messages_allValid (a0 : List S_Notice) (r : Bool) (h : F_messages_allValid a0 = some r) : Con Try.prog 44 [.c (eS 40 S_Notice.cs (a0))] [] (.c (.lit (.bool (r)))) [] := by
  unfold F_messages_allValid at h
  refine con_of [] [] 15 Try.func44 rfl rfl (by kernel_rfl) (fun K => ?_)
  refine TS_go 12 ?_
  refine TS_cut ⟨[(5, []), (6, []), (7, [])], []⟩ (.mk [.code (codeAt [1, 0, 1, 0] (bodyOf Try.f44)), .blk 0, .code (codeAt [1, 1] (bodyOf Try.f44))] .normal ⟨[(5, .c (.slc 40 0 (List.length a0) (List.map S_Notice.cs a0))), (6, .c (.lit (.int .i64 ((List.length a0 : Int))))), (7, .c (.lit (.int .i64 (0))))], []⟩) (by kernel_rfl) (by kernel_rfl) ?_
  replace h := bindO h
  obtain ⟨y3, hl1, hK1⟩ := h
  refine TS_loopB (F_messages_allValid_l1 a0) ⟨[(5, []), (6, []), (7, [])], []⟩ (fun (s1 : Int) => [(7, .c (.lit (.int .i64 (s1))))]) (fun (s1 : Int) => []) 0 y3 (.exit 0) (fun (b : Unit) => (Sum.inl b : (Unit) ⊕ (Bool))) ⟨[], []⟩ (fun (b2 : Unit) => []) (fun (b2 : Unit) => []) hl1 (by kernel_rfl) (by kernel_rfl) ?_ ?_
  · intro s1 x h hy1
    unfold F_messages_allValid_l1 at h
    refine TS_go 5 ?_
    replace h := condO h
    rcases h with ⟨hb4, h⟩ | ⟨hb4, h⟩
    · refine TS_know 8 (b := true) hb4 (by kernel_rfl) (by kernel_rfl) ?_
      refine TS_T (by kernel_rfl) rfl ?_
      refine TS_go 5 ?_
      replace h := bindO h
      obtain ⟨e5, he5, h⟩ := h
      refine TS_idx S_Notice.cs he5 (by kernel_rfl) (by kernel_rfl) ?_
      refine TS_go 7 ?_
      replace h := bindO h
      obtain ⟨v6, hv6, h⟩ := h
      refine TS_call [] (ok_messages_Valid e5 v6 hv6) (by kernel_rfl) (by kernel_rfl) ?_
      refine TS_go 2 ?_
      replace h := condO h
      rcases h with ⟨hb7, h⟩ | ⟨hb7, h⟩
      · subst hb7
        refine TS_F (by kernel_rfl) rfl ?_
        refine TS_go 6 ?_
        have ret := Option.some.inj h
        subst ret
        exact TS_againB _ ⟨[(5, []), (6, []), (7, [])], []⟩ rfl (by kernel_rfl) (by kernel_rfl)
      · subst hb7
        refine TS_T (by kernel_rfl) rfl ?_
        refine TS_go 7 ?_
        have ret := Option.some.inj h
        subst ret
        have hy1q := hy1 _ rfl
        subst hy1q
        replace h := (elimR hK1)
        refine TS_retB rfl (by kernel_rfl) ?_
        refine TS_go 2 ?_
        have ret := Option.some.inj h
        subst ret
        exact TS_ret (by kernel_rfl) (by kernel_rfl) (by kernel_rfl)
    · refine TS_know 8 (b := false) hb4 (by kernel_rfl) (by kernel_rfl) ?_
      refine TS_F (by kernel_rfl) rfl ?_
      refine TS_go 2 ?_
      have ret := Option.some.inj h
      subst ret
      exact TS_brkB () ⟨[], []⟩ rfl (by kernel_rfl) (by kernel_rfl) (by kernel_rfl)
  · intro b2 hb
    subst y3
    have h := elimL hK1
    refine TS_go 6 ?_
    have ret := Option.some.inj h
    subst ret
    exact TS_ret (by kernel_rfl) (by kernel_rfl) (by kernel_rfl)

/-- multihop/messages.isCreation -/
noncomputable def F_messages_isCreation (a0 : Int) : Option (Bool) :=
  bif (decide (a0 ≥ 0)) then
    some ((decide (a0 < 1099511627776)))
  else
    some (false)
set_option maxRecDepth 100000 in
set_option maxHeartbeats 40000000 in
theorem ok_messages_isCreation (a0 : Int) (r : Bool) (h : F_messages_isCreation a0 = some r) : Con Try.prog 45 [.c (.lit (.int .i64 (a0)))] [] (.c (.lit (.bool (r)))) [] := by
  unfold F_messages_isCreation at h
  refine con_of [] [] 9 Try.func45 rfl rfl (by kernel_rfl) (fun K => ?_)
  refine TS_go 9 ?_
  replace h := condO h
  rcases h with ⟨hb1, h⟩ | ⟨hb1, h⟩
  · refine TS_know 4 (b := true) hb1 (by kernel_rfl) (by kernel_rfl) ?_
    refine TS_know 5 (b := true) hb1 (by kernel_rfl) (by kernel_rfl) ?_
    refine TS_go 6 ?_
    have ret := Option.some.inj h
    subst ret
    exact TS_ret (by kernel_rfl) (by kernel_rfl) (by kernel_rfl)
  · refine TS_know 4 (b := false) hb1 (by kernel_rfl) (by kernel_rfl) ?_
    refine TS_know 5 (b := false) hb1 (by kernel_rfl) (by kernel_rfl) ?_
    refine TS_go 6 ?_
    have ret := Option.some.inj h
    subst ret
    exact TS_ret (by kernel_rfl) (by kernel_rfl) (by kernel_rfl)

/-- multihop/octets.Append -/
noncomputable def F_octets_Append_l2 (v1 : Int) (a0 : List Int) (a1 : Int) (s3 : Int × (List Int)) : Option ((Int × (List Int)) ⊕ ((List Int))) :=
  bif (decide (s3.1 < v1)) then
    bif decide (0 ≤ (IntKind.wrap .i64 (8 * (IntKind.wrap .i64 ((IntKind.wrap .i64 (v1 - 1)) - s3.1))))) then
      (idx (Cut.app .whole s3.2) (IntKind.wrap .i64 ((List.length a0 : Int) + s3.1))).bind fun _e8 =>
      (s3.2[(0 + Int.toNat (IntKind.wrap .i64 ((List.length a0 : Int) + s3.1)))]?).bind fun _e9 =>
      some (Sum.inl (IntKind.wrap .i64 (s3.1 + 1), (List.set s3.2 (0 + Int.toNat (IntKind.wrap .i64 ((List.length a0 : Int) + s3.1))) (IntKind.wrap .u8 (ishr .u64 a1 (IntKind.wrap .i64 (8 * (IntKind.wrap .i64 ((IntKind.wrap .i64 (v1 - 1)) - s3.1)))))))))
    else none
  else
    some (Sum.inr s3.2)
noncomputable def F_octets_Append_j1 (a0 : List Int) (a1 : Int) (v1 : Int) : Option ((List Int)) :=
  (mkO 1 (IntKind.wrap .i64 ((List.length a0 : Int) + v1)) (IntKind.wrap .i64 ((List.length a0 : Int) + v1))).bind fun n2 =>
  (loopO (F_octets_Append_l2 v1 a0 a1) (0, (cpL (List.replicate n2 (0 : Int)) 0 (List.length (Cut.app .whole (List.replicate n2 (0 : Int)))) (Cut.app .whole a0)))).bind fun b4 =>
  some (b4)
noncomputable def F_octets_Append (a0 : List Int) (a1 : Int) (a2 : Int) : Option ((List Int)) :=
  bif (decide (a2 < 0)) then
    (F_octets_Append_j1 a0 a1) 0
  else
    bif (decide (a2 > 8)) then
      (F_octets_Append_j1 a0 a1) 0
    else
      (F_octets_Append_j1 a0 a1) a2
set_option maxRecDepth 100000 in
set_option maxHeartbeats 40000000 in
theorem okT_octets_Append (a0 : List Int) (a1 : Int) (a2 : Int) (r : (List Int)) (h : F_octets_Append a0 a1 a2 = some r) : Con Try.prog 61 [.c (eS 1 (ecI .u8) (a0)), .c (.lit (.int .u64 (a1))), .c (.lit (.int .i64 (a2)))] [] (.c (.slc 1 900002 (List.length r) (List.map (ecI .u8) r))) [(900000, .spare 5 1 (List.length r))] := by
  unfold F_octets_Append at h
  refine con_of [] [(900000, [])] 43 Try.func61 rfl rfl (by kernel_rfl) (fun K => ?_)
  refine TS_go 4 ?_
  refine TS_cut ⟨[(0, []), (1, []), (2, [])], []⟩ (.mk [.code (codeAt [1] (bodyOf Try.f61))] .normal ⟨[(0, .c (.slc 1 0 (List.length a0) (List.map (ecI .u8) a0))), (1, .c (.lit (.int .u64 (a1)))), (2, .c (.lit (.int .i64 (a2))))], []⟩) (by kernel_rfl) (by kernel_rfl) ?_
  refine TS_joinB ⟨[(0, []), (1, []), (2, [])], []⟩ (fun (v1 : Int) => [(2, .c (.lit (.int .i64 (v1))))]) (fun (v1 : Int) => []) (F_octets_Append_j1 a0 a1) r ?_ ?_
  · clear h
    intro v1 h
    unfold F_octets_Append_j1 at h
    refine TS_go 6 ?_
    replace h := bindO h
    obtain ⟨n2, hn2, h⟩ := h
    refine TS_makeR 19 5 1 (ecI .u8) (0 : Int) [] (cs := [.lit (.int .u8 (0))]) (l := IntKind.wrap .i64 ((List.length a0 : Int) + v1)) (c := IntKind.wrap .i64 ((List.length a0 : Int) + v1)) hn2 (by kernel_rfl) (by kernel_rfl) (by kernel_rfl) ?_
    refine TS_go 6 ?_
    refine TS_cpR 19 5 1 (List.length (List.replicate n2 (0 : Int))) 0 (ecI .u8) (fun _ => by kernel_rfl) (l := (List.replicate n2 (0 : Int))) (l2 := a0) .whole .whole (by kernel_rfl) (by kernel_rfl) ?_
    refine TS_go 8 ?_
    refine TS_cut ⟨[(0, []), (1, []), (2, []), (7, []), (23, []), (24, [])], [(19, (19, []))]⟩ (.mk [.code (codeAt [1, 1, 1, 1, 0, 1, 0] (bodyOf Try.f61)), .blk 0, .code (codeAt [1, 1, 1, 1, 1] (bodyOf Try.f61))] .normal ⟨[(0, .c (.slc 1 0 (List.length a0) (List.map (ecI .u8) a0))), (1, .c (.lit (.int .u64 (a1)))), (2, .c (.lit (.int .i64 (v1)))), (7, .c (.own 19)), (23, .c (.lit (.int .i64 (v1)))), (24, .c (.lit (.int .i64 (0))))], [(19, .row 5 1 (List.length (cpL (List.replicate n2 (0 : Int)) 0 (List.length (Cut.app .whole (List.replicate n2 (0 : Int)))) (Cut.app .whole a0))) (List.map (ecI .u8) (cpL (List.replicate n2 (0 : Int)) 0 (List.length (Cut.app .whole (List.replicate n2 (0 : Int)))) (Cut.app .whole a0))))]⟩) (by kernel_rfl) (by kernel_rfl) ?_
    replace h := bindO h
    obtain ⟨y5, hl2, hK2⟩ := h
    refine TS_loopB (F_octets_Append_l2 v1 a0 a1) ⟨[(0, []), (1, []), (2, []), (7, []), (23, []), (24, [])], [(19, (19, []))]⟩ (fun (s3 : Int × (List Int)) => [(24, .c (.lit (.int .i64 (s3.1))))]) (fun (s3 : Int × (List Int)) => [(19, .row 5 1 (List.length s3.2) (List.map (ecI .u8) s3.2))]) (0, (cpL (List.replicate n2 (0 : Int)) 0 (List.length (Cut.app .whole (List.replicate n2 (0 : Int)))) (Cut.app .whole a0))) y5 (.exit 0) (fun (b : (List Int)) => b) ⟨[(7, [])], [(19, (19, []))]⟩ (fun (b4 : (List Int)) => []) (fun (b4 : (List Int)) => [(19, .row 5 1 (List.length b4) (List.map (ecI .u8) b4))]) hl2 (by kernel_rfl) (by kernel_rfl) ?_ ?_
    · intro s3 x h hy2
      unfold F_octets_Append_l2 at h
      refine TS_go 5 ?_
      replace h := condO h
      rcases h with ⟨hb6, h⟩ | ⟨hb6, h⟩
      · refine TS_know 25 (b := true) hb6 (by kernel_rfl) (by kernel_rfl) ?_
        refine TS_T (by kernel_rfl) rfl ?_
        refine TS_go 20 ?_
        replace h := chkO h
        obtain ⟨hc7, h⟩ := h
        refine TS_num (op := .shr) (k := .u64) (k' := .i64) (m := a1) (i := IntKind.wrap .i64 (8 * (IntKind.wrap .i64 ((IntKind.wrap .i64 (v1 - 1)) - s3.1)))) (of_decide_eq_true hc7) rfl (by simp) (by kernel_rfl) (by kernel_rfl) ?_
        refine TS_go 1 ?_
        replace h := bindO h
        obtain ⟨_e8, he8, h⟩ := h
        refine TS_idxR 19 1 0 (ecI .u8) .whole he8 (by kernel_rfl) (by kernel_rfl) ?_
        replace h := bindO h
        obtain ⟨_e9, he9, h⟩ := h
        refine TS_stE 19 5 1 (List.length s3.2) (0 + Int.toNat (IntKind.wrap .i64 ((List.length a0 : Int) + s3.1))) 0 (ecI .u8) (ds := [.lit (.int .u8 (IntKind.wrap .u8 (ishr .u64 a1 (IntKind.wrap .i64 (8 * (IntKind.wrap .i64 ((IntKind.wrap .i64 (v1 - 1)) - s3.1)))))))]) (IntKind.wrap .u8 (ishr .u64 a1 (IntKind.wrap .i64 (8 * (IntKind.wrap .i64 ((IntKind.wrap .i64 (v1 - 1)) - s3.1)))))) he9 (by kernel_rfl) (by kernel_rfl) (by kernel_rfl) (by kernel_rfl) ?_
        refine TS_go 6 ?_
        have ret := Option.some.inj h
        subst ret
        exact TS_againB _ ⟨[(0, []), (1, []), (2, []), (7, []), (23, []), (24, [])], [(19, (19, []))]⟩ rfl (by kernel_rfl) (by kernel_rfl)
      · refine TS_know 25 (b := false) hb6 (by kernel_rfl) (by kernel_rfl) ?_
        refine TS_F (by kernel_rfl) rfl ?_
        refine TS_go 2 ?_
        have ret := Option.some.inj h
        subst ret
        exact TS_brkB s3.2 ⟨[(7, [])], [(19, (19, []))]⟩ rfl (by kernel_rfl) (by kernel_rfl) (by kernel_rfl)
    · intro b4 hb
      subst y5
      have h := hK2
      refine TS_go 6 ?_
      refine TS_settle 19 (by kernel_rfl) ?_
      refine TS_fitU ⟨[(6, [])], [(19, (900000, []))]⟩ (by kernel_rfl) ?_
      refine TS_go 1 ?_
      have ret := Option.some.inj h
      subst ret
      exact TS_ret (by kernel_rfl) (by kernel_rfl) (by kernel_rfl)
  · refine TS_go 5 ?_
    replace h := condO h
    rcases h with ⟨hb11, h⟩ | ⟨hb11, h⟩
    · refine TS_know 10 (b := true) hb11 (by kernel_rfl) (by kernel_rfl) ?_
      refine TS_know 11 (b := true) hb11 (by kernel_rfl) (by kernel_rfl) ?_
      refine TS_go 4 ?_
      refine TS_T (by kernel_rfl) rfl ?_
      refine TS_go 3 ?_
      exact TS_meet 0 ⟨[(0, []), (1, []), (2, [])], []⟩ h (by kernel_rfl) (by kernel_rfl)
    · refine TS_know 10 (b := false) hb11 (by kernel_rfl) (by kernel_rfl) ?_
      refine TS_know 11 (b := false) hb11 (by kernel_rfl) (by kernel_rfl) ?_
      refine TS_go 4 ?_
      replace h := condO h
      rcases h with ⟨hb12, h⟩ | ⟨hb12, h⟩
      · refine TS_know 13 (b := true) hb12 (by kernel_rfl) (by kernel_rfl) ?_
        refine TS_know 14 (b := true) hb12 (by kernel_rfl) (by kernel_rfl) ?_
        refine TS_T (by kernel_rfl) rfl ?_
        refine TS_go 3 ?_
        exact TS_meet 0 ⟨[(0, []), (1, []), (2, [])], []⟩ h (by kernel_rfl) (by kernel_rfl)
      · refine TS_know 13 (b := false) hb12 (by kernel_rfl) (by kernel_rfl) ?_
        refine TS_know 14 (b := false) hb12 (by kernel_rfl) (by kernel_rfl) ?_
        refine TS_F (by kernel_rfl) rfl ?_
        refine TS_go 1 ?_
        exact TS_meet a2 ⟨[(0, []), (1, []), (2, [])], []⟩ h (by kernel_rfl) (by kernel_rfl)
/-- (multihop/messages.state).element -/
noncomputable def F_messages_state_element_H00 (a0 : S_messages_state) (a1 : Int) (a2 : List Int) : Option (S_messages_state) :=
  (appO 1 a0.elements (Cut.app .whole ([a1, IntKind.wrap .u8 (List.length a2 : Int)] : List Int))).bind fun l1 =>
  (appO 1 l1 (Cut.app .whole a2)).bind fun l2 =>
  some ((S_messages_state.mk l2 a0.router a0.dst))
set_option maxRecDepth 100000 in
set_option maxHeartbeats 40000000 in
theorem ok_messages_state_element_H00 (a0 : S_messages_state) (a1 : Int) (a2 : List Int) (r : S_messages_state) (h : F_messages_state_element_H00 a0 a1 a2 = some r) : ConG Try.prog 60 [.agg [.slc 1 1000003 (List.length a0.elements) (List.map (ecI .u8) a0.elements), .lit (.int .u64 (a0.router)), .lit (.int .u8 ((a0.dst.getD 0 0))), .lit (.int .u8 ((a0.dst.getD 1 0))), .lit (.int .u8 ((a0.dst.getD 2 0))), .lit (.int .u8 ((a0.dst.getD 3 0))), .lit (.int .u8 ((a0.dst.getD 4 0))), .lit (.int .u8 ((a0.dst.getD 5 0))), .lit (.int .u8 ((a0.dst.getD 6 0))), .lit (.int .u8 ((a0.dst.getD 7 0))), .lit (.int .u8 ((a0.dst.getD 8 0))), .lit (.int .u8 ((a0.dst.getD 9 0))), .lit (.int .u8 ((a0.dst.getD 10 0))), .lit (.int .u8 ((a0.dst.getD 11 0))), .lit (.int .u8 ((a0.dst.getD 12 0))), .lit (.int .u8 ((a0.dst.getD 13 0))), .lit (.int .u8 ((a0.dst.getD 14 0))), .lit (.int .u8 ((a0.dst.getD 15 0)))], .c (.lit (.int .u8 (a1))), .c (eS 1 (ecI .u8) (a2))] 5 1 (List.length a0.elements) (.agg [.slc 1 1000003 (List.length r.elements) (List.map (ecI .u8) r.elements), .lit (.int .u64 (r.router)), .lit (.int .u8 ((r.dst.getD 0 0))), .lit (.int .u8 ((r.dst.getD 1 0))), .lit (.int .u8 ((r.dst.getD 2 0))), .lit (.int .u8 ((r.dst.getD 3 0))), .lit (.int .u8 ((r.dst.getD 4 0))), .lit (.int .u8 ((r.dst.getD 5 0))), .lit (.int .u8 ((r.dst.getD 6 0))), .lit (.int .u8 ((r.dst.getD 7 0))), .lit (.int .u8 ((r.dst.getD 8 0))), .lit (.int .u8 ((r.dst.getD 9 0))), .lit (.int .u8 ((r.dst.getD 10 0))), .lit (.int .u8 ((r.dst.getD 11 0))), .lit (.int .u8 ((r.dst.getD 12 0))), .lit (.int .u8 ((r.dst.getD 13 0))), .lit (.int .u8 ((r.dst.getD 14 0))), .lit (.int .u8 ((r.dst.getD 15 0)))]) (List.length r.elements) := by
  unfold F_messages_state_element_H00 at h
  refine con_ofGA [] 22 0 0 _ Try.func60 rfl rfl (by kernel_rfl) rfl rfl (fun K => ?_)
  refine TS_go 13 ?_
  refine TS_litNT 13 5 1 (ecI .u8) [] ([a1, IntKind.wrap .u8 (List.length a2 : Int)] : List Int) (by kernel_rfl) (by kernel_rfl) ?_
  replace h := bindO h
  obtain ⟨l1, hl1, h⟩ := h
  refine TS_appT (d := 1000001) (e := 5) (sz := 1) (N := List.length a0.elements) (ecI .u8) (fun _ => by kernel_rfl) (l1 := a0.elements) (l2 := ([a1, IntKind.wrap .u8 (List.length a2 : Int)] : List Int)) (c := .whole) hl1 (by kernel_rfl) (by kernel_rfl) ?_
  refine TS_go 8 ?_
  replace h := bindO h
  obtain ⟨l2, hl2, h⟩ := h
  refine TS_appT (d := 1000001) (e := 5) (sz := 1) (N := List.length l1) (ecI .u8) (fun _ => by kernel_rfl) (l1 := l1) (l2 := a2) (c := .whole) hl2 (by kernel_rfl) (by kernel_rfl) ?_
  refine TS_go 9 ?_
  have ret := Option.some.inj h
  subst ret
  exact TS_retG (sz1 := 1) (xs1 := List.map (ecI .u8) a0.elements) (by kernel_rfl) (by kernel_rfl) (by kernel_rfl) (by kernel_rfl)

/-- multihop/messages.size -/
noncomputable def F_messages_size (a0 : Int) : Option (Int) :=
  some (iquo .i64 (IntKind.wrap .i64 (a0 + 7)) 8)
set_option maxRecDepth 100000 in
set_option maxHeartbeats 40000000 in
theorem ok_messages_size (a0 : Int) (r : Int) (h : F_messages_size a0 = some r) : Con Try.prog 70 [.c (.lit (.int .i64 (a0)))] [] (.c (.lit (.int .i64 (r)))) [] := by
  unfold F_messages_size at h
  refine con_of [] [] 6 Try.func70 rfl rfl (by kernel_rfl) (fun K => ?_)
  refine TS_go 12 ?_
  have ret := Option.some.inj h
  subst ret
  exact TS_ret (by kernel_rfl) (by kernel_rfl) (by kernel_rfl)

/-- multihop/messages.prefixBytes -/
noncomputable def F_messages_prefixBytes (a0 : S_Prefix) : Option ((List Int)) :=
  (F_messages_size a0.Bits).bind fun v1 =>
  (subO (arrL 16 a0.IP) 0 v1).bind fun l2 =>
  some (l2)
set_option maxRecDepth 100000 in
set_option maxHeartbeats 40000000 in
theorem ok_messages_prefixBytes (a0 : S_Prefix) (r : (List Int)) (h : F_messages_prefixBytes a0 = some r) : Con Try.prog 63 [.agg (S_Prefix.cs a0)] [] (.c (eS 1 (ecI .u8) (r))) [] := by
  unfold F_messages_prefixBytes at h
  refine con_of [[2]] [] 8 Try.func63 rfl rfl (by kernel_rfl) (fun K => ?_)
  refine TS_go 2 ?_
  refine TS_boxF (cs := [.lit (.int .u8 ((a0.IP.getD 0 0))), .lit (.int .u8 ((a0.IP.getD 1 0))), .lit (.int .u8 ((a0.IP.getD 2 0))), .lit (.int .u8 ((a0.IP.getD 3 0))), .lit (.int .u8 ((a0.IP.getD 4 0))), .lit (.int .u8 ((a0.IP.getD 5 0))), .lit (.int .u8 ((a0.IP.getD 6 0))), .lit (.int .u8 ((a0.IP.getD 7 0))), .lit (.int .u8 ((a0.IP.getD 8 0))), .lit (.int .u8 ((a0.IP.getD 9 0))), .lit (.int .u8 ((a0.IP.getD 10 0))), .lit (.int .u8 ((a0.IP.getD 11 0))), .lit (.int .u8 ((a0.IP.getD 12 0))), .lit (.int .u8 ((a0.IP.getD 13 0))), .lit (.int .u8 ((a0.IP.getD 14 0))), .lit (.int .u8 ((a0.IP.getD 15 0))), .lit (.int .i64 (a0.Bits))]) (by kernel_rfl) (by kernel_rfl) ?_
  refine TS_go 7 ?_
  replace h := bindO h
  obtain ⟨v1, hv1, h⟩ := h
  refine TS_call [] (ok_messages_size a0.Bits v1 hv1) (by kernel_rfl) (by kernel_rfl) ?_
  replace h := bindO h
  obtain ⟨_l2, hl2, h⟩ := h
  refine TS_slF (k := .u8) (a := 0) (b := v1) 16 a0.IP (by decide) hl2 (by kernel_rfl) (by kernel_rfl) ?_
  refine TS_go 3 ?_
  have ret := Option.some.inj h
  subst ret
  exact TS_ret (by kernel_rfl) (by kernel_rfl) (by kernel_rfl)

/-- (multihop/messages.state).update -/
noncomputable def F_messages_state_update_H00_l2 (v2 : (List Int)) (v1 : S_messages_state) (s3 : Int) : Option ((Int) ⊕ (Int)) :=
  bif (decide (s3 < (List.length v2 : Int))) then
    (idx v2 s3).bind fun e7 =>
    bif decide ((0 : Int) ≤ s3 ∧ s3 < (16 : Int)) then
      bif (e7 == (List.getD v1.dst (Int.toNat s3) 0)) then
        some (Sum.inl (IntKind.wrap .i64 (s3 + 1)))
      else
        some (Sum.inr s3)
    else none
  else
    some (Sum.inr s3)
noncomputable def F_messages_state_update_H00_j1 (a1 : S_Notice) (v1 : S_messages_state) : Option (S_messages_state) :=
  (F_messages_prefixBytes a1.To.Dst).bind fun v2 =>
  (loopO (F_messages_state_update_H00_l2 v2 v1) 0).bind fun b4 =>
  (F_octets_Append ([IntKind.wrap .u8 b4, IntKind.wrap .u8 a1.To.Dst.Bits, IntKind.wrap .u8 a1.To.Src.Bits] : List Int) (IntKind.wrap .u64 a1.Seq) 2).bind fun v11 =>
  (F_octets_Append v11 (IntKind.wrap .u64 a1.Metric) 2).bind fun v12 =>
  (subO v2 b4 (List.length v2 : Int)).bind fun l13 =>
  (appO 1 v12 (Cut.app .whole l13)).bind fun l14 =>
  (F_messages_prefixBytes a1.To.Src).bind fun v15 =>
  (appO 1 l14 (Cut.app .whole v15)).bind fun l16 =>
  (F_messages_state_element_H00 (S_messages_state.mk v1.elements v1.router a1.To.Dst.IP) 3 l16).bind fun v17 =>
  some (v17)
noncomputable def F_messages_state_update_H00 (a0 : S_messages_state) (a1 : S_Notice) : Option (S_messages_state) :=
  bif (a1.To.Router != a0.router) then
    (F_octets_Append ([] : List Int) a1.To.Router 8).bind fun v19 =>
    (F_messages_state_element_H00 a0 6 v19).bind fun v20 =>
    (F_messages_state_update_H00_j1 a1) (S_messages_state.mk v20.elements a1.To.Router v20.dst)
  else
    (F_messages_state_update_H00_j1 a1) a0
set_option maxRecDepth 100000 in
set_option maxHeartbeats 40000000 in
theorem ok_messages_state_update_H00 (a0 : S_messages_state) (a1 : S_Notice) (r : S_messages_state) (h : F_messages_state_update_H00 a0 a1 = some r) : ConG Try.prog 62 [.agg [.slc 1 1000003 (List.length a0.elements) (List.map (ecI .u8) a0.elements), .lit (.int .u64 (a0.router)), .lit (.int .u8 ((a0.dst.getD 0 0))), .lit (.int .u8 ((a0.dst.getD 1 0))), .lit (.int .u8 ((a0.dst.getD 2 0))), .lit (.int .u8 ((a0.dst.getD 3 0))), .lit (.int .u8 ((a0.dst.getD 4 0))), .lit (.int .u8 ((a0.dst.getD 5 0))), .lit (.int .u8 ((a0.dst.getD 6 0))), .lit (.int .u8 ((a0.dst.getD 7 0))), .lit (.int .u8 ((a0.dst.getD 8 0))), .lit (.int .u8 ((a0.dst.getD 9 0))), .lit (.int .u8 ((a0.dst.getD 10 0))), .lit (.int .u8 ((a0.dst.getD 11 0))), .lit (.int .u8 ((a0.dst.getD 12 0))), .lit (.int .u8 ((a0.dst.getD 13 0))), .lit (.int .u8 ((a0.dst.getD 14 0))), .lit (.int .u8 ((a0.dst.getD 15 0)))], .agg (S_Notice.cs a1)] 5 1 (List.length a0.elements) (.agg [.slc 1 1000003 (List.length r.elements) (List.map (ecI .u8) r.elements), .lit (.int .u64 (r.router)), .lit (.int .u8 ((r.dst.getD 0 0))), .lit (.int .u8 ((r.dst.getD 1 0))), .lit (.int .u8 ((r.dst.getD 2 0))), .lit (.int .u8 ((r.dst.getD 3 0))), .lit (.int .u8 ((r.dst.getD 4 0))), .lit (.int .u8 ((r.dst.getD 5 0))), .lit (.int .u8 ((r.dst.getD 6 0))), .lit (.int .u8 ((r.dst.getD 7 0))), .lit (.int .u8 ((r.dst.getD 8 0))), .lit (.int .u8 ((r.dst.getD 9 0))), .lit (.int .u8 ((r.dst.getD 10 0))), .lit (.int .u8 ((r.dst.getD 11 0))), .lit (.int .u8 ((r.dst.getD 12 0))), .lit (.int .u8 ((r.dst.getD 13 0))), .lit (.int .u8 ((r.dst.getD 14 0))), .lit (.int .u8 ((r.dst.getD 15 0)))]) (List.length r.elements) := by
  unfold F_messages_state_update_H00 at h
  refine con_ofGA [] 87 0 0 _ Try.func62 rfl rfl (by kernel_rfl) rfl rfl (fun K => ?_)
  refine TS_go 6 ?_
  refine TS_cut ⟨[(2000000, []), (2, []), (3, []), (4, [])], [(1000001, (1000001, [])), (2, (2, [])), (3, (3, [])), (4, (4, []))]⟩ (.mk [.code (codeAt [1] (bodyOf Try.f62))] .normal ⟨[(2000000, .c (.slc 1 1000003 (List.length a0.elements) (List.map (ecI .u8) a0.elements))), (2, .c (.box 2 0)), (3, .c (.box 3 0)), (4, .c (.box 4 0))], [(1000001, .spare 5 1 (List.length a0.elements)), (2, .box [.slc 1 1000003 (List.length a0.elements) (List.map (ecI .u8) a0.elements), .lit (.int .u64 (a0.router)), .lit (.int .u8 ((a0.dst.getD 0 0))), .lit (.int .u8 ((a0.dst.getD 1 0))), .lit (.int .u8 ((a0.dst.getD 2 0))), .lit (.int .u8 ((a0.dst.getD 3 0))), .lit (.int .u8 ((a0.dst.getD 4 0))), .lit (.int .u8 ((a0.dst.getD 5 0))), .lit (.int .u8 ((a0.dst.getD 6 0))), .lit (.int .u8 ((a0.dst.getD 7 0))), .lit (.int .u8 ((a0.dst.getD 8 0))), .lit (.int .u8 ((a0.dst.getD 9 0))), .lit (.int .u8 ((a0.dst.getD 10 0))), .lit (.int .u8 ((a0.dst.getD 11 0))), .lit (.int .u8 ((a0.dst.getD 12 0))), .lit (.int .u8 ((a0.dst.getD 13 0))), .lit (.int .u8 ((a0.dst.getD 14 0))), .lit (.int .u8 ((a0.dst.getD 15 0)))]), (3, .box [.lit (.int .i64 (a1.Kind)), .lit (.int .u16 (a1.Seq)), .lit (.int .i64 (a1.Metric)), .lit (.int .u64 (a1.Neighbour)), .lit (.int .u8 ((a1.To.Dst.IP.getD 0 0))), .lit (.int .u8 ((a1.To.Dst.IP.getD 1 0))), .lit (.int .u8 ((a1.To.Dst.IP.getD 2 0))), .lit (.int .u8 ((a1.To.Dst.IP.getD 3 0))), .lit (.int .u8 ((a1.To.Dst.IP.getD 4 0))), .lit (.int .u8 ((a1.To.Dst.IP.getD 5 0))), .lit (.int .u8 ((a1.To.Dst.IP.getD 6 0))), .lit (.int .u8 ((a1.To.Dst.IP.getD 7 0))), .lit (.int .u8 ((a1.To.Dst.IP.getD 8 0))), .lit (.int .u8 ((a1.To.Dst.IP.getD 9 0))), .lit (.int .u8 ((a1.To.Dst.IP.getD 10 0))), .lit (.int .u8 ((a1.To.Dst.IP.getD 11 0))), .lit (.int .u8 ((a1.To.Dst.IP.getD 12 0))), .lit (.int .u8 ((a1.To.Dst.IP.getD 13 0))), .lit (.int .u8 ((a1.To.Dst.IP.getD 14 0))), .lit (.int .u8 ((a1.To.Dst.IP.getD 15 0))), .lit (.int .i64 (a1.To.Dst.Bits)), .lit (.int .u8 ((a1.To.Src.IP.getD 0 0))), .lit (.int .u8 ((a1.To.Src.IP.getD 1 0))), .lit (.int .u8 ((a1.To.Src.IP.getD 2 0))), .lit (.int .u8 ((a1.To.Src.IP.getD 3 0))), .lit (.int .u8 ((a1.To.Src.IP.getD 4 0))), .lit (.int .u8 ((a1.To.Src.IP.getD 5 0))), .lit (.int .u8 ((a1.To.Src.IP.getD 6 0))), .lit (.int .u8 ((a1.To.Src.IP.getD 7 0))), .lit (.int .u8 ((a1.To.Src.IP.getD 8 0))), .lit (.int .u8 ((a1.To.Src.IP.getD 9 0))), .lit (.int .u8 ((a1.To.Src.IP.getD 10 0))), .lit (.int .u8 ((a1.To.Src.IP.getD 11 0))), .lit (.int .u8 ((a1.To.Src.IP.getD 12 0))), .lit (.int .u8 ((a1.To.Src.IP.getD 13 0))), .lit (.int .u8 ((a1.To.Src.IP.getD 14 0))), .lit (.int .u8 ((a1.To.Src.IP.getD 15 0))), .lit (.int .i64 (a1.To.Src.Bits)), .lit (.int .u64 (a1.To.Router)), .lit (.int .i64 (a1.Hops))]), (4, .box [.lit (.slice none 0 0), .lit (.int .u64 (0)), .lit (.int .u8 (0)), .lit (.int .u8 (0)), .lit (.int .u8 (0)), .lit (.int .u8 (0)), .lit (.int .u8 (0)), .lit (.int .u8 (0)), .lit (.int .u8 (0)), .lit (.int .u8 (0)), .lit (.int .u8 (0)), .lit (.int .u8 (0)), .lit (.int .u8 (0)), .lit (.int .u8 (0)), .lit (.int .u8 (0)), .lit (.int .u8 (0)), .lit (.int .u8 (0)), .lit (.int .u8 (0))])]⟩) (by kernel_rfl) (by kernel_rfl) ?_
  refine TS_joinB ⟨[(2, []), (3, []), (4, []), (2000000, [])], [(2, (2, [])), (3, (3, [])), (4, (4, [])), (1000001, (1000001, []))]⟩ (fun (v1 : S_messages_state) => []) (fun (v1 : S_messages_state) => [(2, .box [.slc 1 1000003 (List.length v1.elements) (List.map (ecI .u8) v1.elements), .lit (.int .u64 (v1.router)), .lit (.int .u8 ((v1.dst.getD 0 0))), .lit (.int .u8 ((v1.dst.getD 1 0))), .lit (.int .u8 ((v1.dst.getD 2 0))), .lit (.int .u8 ((v1.dst.getD 3 0))), .lit (.int .u8 ((v1.dst.getD 4 0))), .lit (.int .u8 ((v1.dst.getD 5 0))), .lit (.int .u8 ((v1.dst.getD 6 0))), .lit (.int .u8 ((v1.dst.getD 7 0))), .lit (.int .u8 ((v1.dst.getD 8 0))), .lit (.int .u8 ((v1.dst.getD 9 0))), .lit (.int .u8 ((v1.dst.getD 10 0))), .lit (.int .u8 ((v1.dst.getD 11 0))), .lit (.int .u8 ((v1.dst.getD 12 0))), .lit (.int .u8 ((v1.dst.getD 13 0))), .lit (.int .u8 ((v1.dst.getD 14 0))), .lit (.int .u8 ((v1.dst.getD 15 0)))]), (1000001, .spare 5 1 (List.length v1.elements))]) (F_messages_state_update_H00_j1 a1) r ?_ ?_
  · clear h
    intro v1 h
    unfold F_messages_state_update_H00_j1 at h
    refine TS_go 5 ?_
    replace h := bindO h
    obtain ⟨v2, hv2, h⟩ := h
    refine TS_call [] (ok_messages_prefixBytes a1.To.Dst v2 hv2) (by kernel_rfl) (by kernel_rfl) ?_
    refine TS_go 8 ?_
    refine TS_cut ⟨[(2, []), (3, []), (4, []), (2000000, []), (5, []), (6, [])], [(2, (2, [])), (3, (3, [])), (4, (4, [])), (1000001, (1000001, []))]⟩ (.mk [.code (codeAt [1, 1, 1, 1, 0, 0] (bodyOf Try.f62)), .blk 0, .code (codeAt [1, 1, 1, 1, 1] (bodyOf Try.f62))] .normal ⟨[(2, .c (.box 2 0)), (3, .c (.box 3 0)), (4, .c (.box 4 0)), (2000000, .c (.slc 1 1000003 (List.length a0.elements) (List.map (ecI .u8) a0.elements))), (5, .c (.slc 1 0 (List.length v2) (List.map (ecI .u8) v2))), (6, .c (.lit (.int .i64 (0))))], [(2, .box [.slc 1 1000003 (List.length v1.elements) (List.map (ecI .u8) v1.elements), .lit (.int .u64 (v1.router)), .lit (.int .u8 ((v1.dst.getD 0 0))), .lit (.int .u8 ((v1.dst.getD 1 0))), .lit (.int .u8 ((v1.dst.getD 2 0))), .lit (.int .u8 ((v1.dst.getD 3 0))), .lit (.int .u8 ((v1.dst.getD 4 0))), .lit (.int .u8 ((v1.dst.getD 5 0))), .lit (.int .u8 ((v1.dst.getD 6 0))), .lit (.int .u8 ((v1.dst.getD 7 0))), .lit (.int .u8 ((v1.dst.getD 8 0))), .lit (.int .u8 ((v1.dst.getD 9 0))), .lit (.int .u8 ((v1.dst.getD 10 0))), .lit (.int .u8 ((v1.dst.getD 11 0))), .lit (.int .u8 ((v1.dst.getD 12 0))), .lit (.int .u8 ((v1.dst.getD 13 0))), .lit (.int .u8 ((v1.dst.getD 14 0))), .lit (.int .u8 ((v1.dst.getD 15 0)))]), (3, .box [.lit (.int .i64 (a1.Kind)), .lit (.int .u16 (a1.Seq)), .lit (.int .i64 (a1.Metric)), .lit (.int .u64 (a1.Neighbour)), .lit (.int .u8 ((a1.To.Dst.IP.getD 0 0))), .lit (.int .u8 ((a1.To.Dst.IP.getD 1 0))), .lit (.int .u8 ((a1.To.Dst.IP.getD 2 0))), .lit (.int .u8 ((a1.To.Dst.IP.getD 3 0))), .lit (.int .u8 ((a1.To.Dst.IP.getD 4 0))), .lit (.int .u8 ((a1.To.Dst.IP.getD 5 0))), .lit (.int .u8 ((a1.To.Dst.IP.getD 6 0))), .lit (.int .u8 ((a1.To.Dst.IP.getD 7 0))), .lit (.int .u8 ((a1.To.Dst.IP.getD 8 0))), .lit (.int .u8 ((a1.To.Dst.IP.getD 9 0))), .lit (.int .u8 ((a1.To.Dst.IP.getD 10 0))), .lit (.int .u8 ((a1.To.Dst.IP.getD 11 0))), .lit (.int .u8 ((a1.To.Dst.IP.getD 12 0))), .lit (.int .u8 ((a1.To.Dst.IP.getD 13 0))), .lit (.int .u8 ((a1.To.Dst.IP.getD 14 0))), .lit (.int .u8 ((a1.To.Dst.IP.getD 15 0))), .lit (.int .i64 (a1.To.Dst.Bits)), .lit (.int .u8 ((a1.To.Src.IP.getD 0 0))), .lit (.int .u8 ((a1.To.Src.IP.getD 1 0))), .lit (.int .u8 ((a1.To.Src.IP.getD 2 0))), .lit (.int .u8 ((a1.To.Src.IP.getD 3 0))), .lit (.int .u8 ((a1.To.Src.IP.getD 4 0))), .lit (.int .u8 ((a1.To.Src.IP.getD 5 0))), .lit (.int .u8 ((a1.To.Src.IP.getD 6 0))), .lit (.int .u8 ((a1.To.Src.IP.getD 7 0))), .lit (.int .u8 ((a1.To.Src.IP.getD 8 0))), .lit (.int .u8 ((a1.To.Src.IP.getD 9 0))), .lit (.int .u8 ((a1.To.Src.IP.getD 10 0))), .lit (.int .u8 ((a1.To.Src.IP.getD 11 0))), .lit (.int .u8 ((a1.To.Src.IP.getD 12 0))), .lit (.int .u8 ((a1.To.Src.IP.getD 13 0))), .lit (.int .u8 ((a1.To.Src.IP.getD 14 0))), .lit (.int .u8 ((a1.To.Src.IP.getD 15 0))), .lit (.int .i64 (a1.To.Src.Bits)), .lit (.int .u64 (a1.To.Router)), .lit (.int .i64 (a1.Hops))]), (4, .box [.lit (.slice none 0 0), .lit (.int .u64 (0)), .lit (.int .u8 (0)), .lit (.int .u8 (0)), .lit (.int .u8 (0)), .lit (.int .u8 (0)), .lit (.int .u8 (0)), .lit (.int .u8 (0)), .lit (.int .u8 (0)), .lit (.int .u8 (0)), .lit (.int .u8 (0)), .lit (.int .u8 (0)), .lit (.int .u8 (0)), .lit (.int .u8 (0)), .lit (.int .u8 (0)), .lit (.int .u8 (0)), .lit (.int .u8 (0)), .lit (.int .u8 (0))]), (1000001, .spare 5 1 (List.length v1.elements))]⟩) (by kernel_rfl) (by kernel_rfl) ?_
    replace h := bindO h
    obtain ⟨y5, hl2, hK2⟩ := h
    refine TS_loopB (F_messages_state_update_H00_l2 v2 v1) ⟨[(2, []), (3, []), (4, []), (5, []), (6, []), (2000000, [])], [(2, (2, [])), (3, (3, [])), (4, (4, [])), (1000001, (1000001, []))]⟩ (fun (s3 : Int) => [(6, .c (.lit (.int .i64 (s3))))]) (fun (s3 : Int) => []) 0 y5 (.exit 0) (fun (b : Int) => b) ⟨[(2, []), (3, []), (4, []), (5, []), (6, []), (2000000, [])], [(2, (2, [])), (3, (3, [])), (4, (4, [])), (1000001, (1000001, []))]⟩ (fun (b4 : Int) => [(6, .c (.lit (.int .i64 (b4))))]) (fun (b4 : Int) => []) hl2 (by kernel_rfl) (by kernel_rfl) ?_ ?_
    · intro s3 x h hy2
      unfold F_messages_state_update_H00_l2 at h
      refine TS_go 2 ?_
      refine TS_draw (by kernel_rfl) ?_
      refine TD_go 4 ?_
      replace h := condO h
      rcases h with ⟨hb6, h⟩ | ⟨hb6, h⟩
      · refine TD_know 32 (b := true) hb6 trivial (by kernel_rfl) (by kernel_rfl) ?_
        refine TD_go 2 ?_
        replace h := bindO h
        obtain ⟨_e7, he7, h⟩ := h
        refine TD_idx (ecI .u8) he7 (by kernel_rfl) (by kernel_rfl) ?_
        refine TD_go 3 ?_
        replace h := chkO h
        obtain ⟨hc8, h⟩ := h
        refine TD_idxA 2 2 16 (i := s3) hc8 (by kernel_rfl) (by kernel_rfl) ?_
        refine TD_ldA .u8 2 16 (i := s3) v1.dst hc8 (by kernel_rfl) (by kernel_rfl) ?_
        refine TD_go 2 ?_
        refine TD_end (by kernel_rfl) ?_
        replace h := condO h
        rcases h with ⟨hb9, h⟩ | ⟨hb9, h⟩
        · refine TS_know 31 (b := true) hb6 (by kernel_rfl) (by kernel_rfl) ?_
          refine TS_know 41 (b := true) hb9 (by kernel_rfl) (by kernel_rfl) ?_
          refine TS_know 42 (b := true) hb9 (by kernel_rfl) (by kernel_rfl) ?_
          refine TS_T (by kernel_rfl) rfl ?_
          refine TS_go 8 ?_
          have ret := Option.some.inj h
          subst ret
          exact TS_againB _ ⟨[(2, []), (3, []), (4, []), (5, []), (6, []), (2000000, [])], [(2, (2, [])), (3, (3, [])), (4, (4, [])), (1000001, (1000001, []))]⟩ rfl (by kernel_rfl) (by kernel_rfl)
        · refine TS_know 31 (b := true) hb6 (by kernel_rfl) (by kernel_rfl) ?_
          refine TS_know 41 (b := false) hb9 (by kernel_rfl) (by kernel_rfl) ?_
          refine TS_know 42 (b := false) hb9 (by kernel_rfl) (by kernel_rfl) ?_
          refine TS_F (by kernel_rfl) rfl ?_
          refine TS_go 2 ?_
          have ret := Option.some.inj h
          subst ret
          exact TS_brkB s3 ⟨[(2, []), (3, []), (4, []), (5, []), (6, []), (2000000, [])], [(2, (2, [])), (3, (3, [])), (4, (4, [])), (1000001, (1000001, []))]⟩ rfl (by kernel_rfl) (by kernel_rfl) (by kernel_rfl)
      · refine TD_know 32 (b := false) hb6 trivial (by kernel_rfl) (by kernel_rfl) ?_
        refine TD_go 10 ?_
        refine TD_end (by kernel_rfl) ?_
        refine TS_F (by kernel_rfl) rfl ?_
        refine TS_go 2 ?_
        have ret := Option.some.inj h
        subst ret
        exact TS_brkB s3 ⟨[(2, []), (3, []), (4, []), (5, []), (6, []), (2000000, [])], [(2, (2, [])), (3, (3, [])), (4, (4, [])), (1000001, (1000001, []))]⟩ rfl (by kernel_rfl) (by kernel_rfl) (by kernel_rfl)
    · intro b4 hb
      subst y5
      have h := hK2
      refine TS_go 15 ?_
      refine TS_litNT 57 5 1 (ecI .u8) [] ([IntKind.wrap .u8 b4, IntKind.wrap .u8 a1.To.Dst.Bits, IntKind.wrap .u8 a1.To.Src.Bits] : List Int) (by kernel_rfl) (by kernel_rfl) ?_
      refine TS_go 8 ?_
      replace h := bindO h
      obtain ⟨v11, hv11, h⟩ := h
      refine TS_con [[2]] [(62, 900000)] none (okT_octets_Append ([IntKind.wrap .u8 b4, IntKind.wrap .u8 a1.To.Dst.Bits, IntKind.wrap .u8 a1.To.Src.Bits] : List Int) (IntKind.wrap .u64 a1.Seq) 2 v11 hv11) (by kernel_rfl) (by kernel_rfl) (by kernel_rfl) ?_
      refine TS_go 8 ?_
      replace h := bindO h
      obtain ⟨v12, hv12, h⟩ := h
      refine TS_con [[2]] [(67, 900000)] none (okT_octets_Append v11 (IntKind.wrap .u64 a1.Metric) 2 v12 hv12) (by kernel_rfl) (by kernel_rfl) (by kernel_rfl) ?_
      refine TS_go 7 ?_
      replace h := bindO h
      obtain ⟨l13, hl13, h⟩ := h
      refine TS_sub (ecI .u8) 1 hl13 (by kernel_rfl) (by kernel_rfl) ?_
      replace h := bindO h
      obtain ⟨l14, hl14, h⟩ := h
      refine TS_appT (d := 67) (e := 5) (sz := 1) (N := List.length v12) (ecI .u8) (fun _ => by kernel_rfl) (l1 := v12) (l2 := l13) (c := .whole) hl14 (by kernel_rfl) (by kernel_rfl) ?_
      refine TS_go 8 ?_
      replace h := bindO h
      obtain ⟨v15, hv15, h⟩ := h
      refine TS_call [] (ok_messages_prefixBytes a1.To.Src v15 hv15) (by kernel_rfl) (by kernel_rfl) ?_
      replace h := bindO h
      obtain ⟨l16, hl16, h⟩ := h
      refine TS_appT (d := 67) (e := 5) (sz := 1) (N := List.length l14) (ecI .u8) (fun _ => by kernel_rfl) (l1 := l14) (l2 := v15) (c := .whole) hl16 (by kernel_rfl) (by kernel_rfl) ?_
      refine TS_go 15 ?_
      replace h := bindO h
      obtain ⟨v17, hv17, h⟩ := h
      refine TS_conG 1000001 [[], [], [2]] (ok_messages_state_element_H00 (S_messages_state.mk v1.elements v1.router a1.To.Dst.IP) 3 l16 v17 hv17) (by kernel_rfl) (by kernel_rfl) (by kernel_rfl) ?_
      refine TS_go 3 ?_
      have ret := Option.some.inj h
      subst ret
      exact TS_retG (sz1 := 1) (xs1 := List.map (ecI .u8) a0.elements) (by kernel_rfl) (by kernel_rfl) (by kernel_rfl) (by kernel_rfl)
  · refine TS_go 9 ?_
    replace h := condO h
    rcases h with ⟨hb18, h⟩ | ⟨hb18, h⟩
    · refine TS_know 13 (b := true) hb18 (by kernel_rfl) (by kernel_rfl) ?_
      refine TS_T (by kernel_rfl) rfl ?_
      refine TS_go 1 ?_
      refine TS_draw (by kernel_rfl) ?_
      refine TD_go 4 ?_
      replace h := bindO h
      obtain ⟨v19, hv19, h⟩ := h
      refine TD_conX (d := 18) (e := 900000) [[2]] (okT_octets_Append ([] : List Int) a1.To.Router 8 v19 hv19) (by kernel_rfl) (by kernel_rfl) ?_
      replace h := bindO h
      obtain ⟨v20, hv20, h⟩ := h
      refine TD_conG 1000001 [[], [], [2]] (ok_messages_state_element_H00 a0 6 v19 v20 hv20) (by kernel_rfl) (by kernel_rfl) (by kernel_rfl) ?_
      refine TD_go 1 ?_
      refine TD_end (by kernel_rfl) ?_
      refine TS_go 7 ?_
      exact TS_meet (S_messages_state.mk v20.elements a1.To.Router v20.dst) ⟨[(2, []), (3, []), (4, []), (2000000, [])], [(2, (2, [])), (3, (3, [])), (4, (4, [])), (1000001, (1000001, []))]⟩ h (by kernel_rfl) (by kernel_rfl)
    · refine TS_know 13 (b := false) hb18 (by kernel_rfl) (by kernel_rfl) ?_
      refine TS_F (by kernel_rfl) rfl ?_
      refine TS_go 1 ?_
      exact TS_meet a0 ⟨[(2, []), (3, []), (4, []), (2000000, [])], [(2, (2, [])), (3, (3, [])), (4, (4, [])), (1000001, (1000001, []))]⟩ h (by kernel_rfl) (by kernel_rfl)

/-- (multihop/messages.state).notice -/
noncomputable def F_messages_state_notice_H00_j1 (a1 : S_Notice) (a0 : S_messages_state) (v10 : (List Int) × Int) : Option (S_messages_state) :=
  (F_messages_prefixBytes a1.To.Dst).bind fun v11 =>
  (appO 1 v10.1 (Cut.app .whole v11)).bind fun l12 =>
  (F_messages_prefixBytes a1.To.Src).bind fun v13 =>
  (appO 1 l12 (Cut.app .whole v13)).bind fun l14 =>
  (F_messages_state_element_H00 a0 v10.2 l14).bind fun v15 =>
  some (v15)
noncomputable def F_messages_state_notice_H00 (a0 : S_messages_state) (a1 : S_Notice) : Option (S_messages_state) :=
  bif (a1.Kind == 1) then
    (F_octets_Append ([] : List Int) (IntKind.wrap .u64 a1.Seq) 2).bind fun v2 =>
    (F_messages_state_element_H00 a0 1 v2).bind fun v3 =>
    some (v3)
  else
    bif (a1.Kind == 2) then
      (F_octets_Append ([] : List Int) a1.Neighbour 8).bind fun v5 =>
      (F_octets_Append v5 (IntKind.wrap .u64 a1.Metric) 2).bind fun v6 =>
      (F_messages_state_element_H00 a0 2 v6).bind fun v7 =>
      some (v7)
    else
      bif (a1.Kind == 3) then
        (F_messages_state_update_H00 a0 a1).bind fun v9 =>
        some (v9)
      else
        bif (a1.Kind == 5) then
          (F_octets_Append ([IntKind.wrap .u8 a1.To.Dst.Bits, IntKind.wrap .u8 a1.To.Src.Bits] : List Int) (IntKind.wrap .u64 a1.Seq) 2).bind fun v17 =>
          (appO 1 v17 (Cut.app .whole ([IntKind.wrap .u8 a1.Hops] : List Int))).bind fun l18 =>
          (F_octets_Append l18 a1.To.Router 8).bind fun v19 =>
          (F_messages_state_notice_H00_j1 a1 a0) (v19, 5)
        else
          (F_messages_state_notice_H00_j1 a1 a0) (([IntKind.wrap .u8 a1.To.Dst.Bits, IntKind.wrap .u8 a1.To.Src.Bits] : List Int), 4)
set_option maxRecDepth 100000 in
set_option maxHeartbeats 40000000 in
theorem ok_messages_state_notice_H00 (a0 : S_messages_state) (a1 : S_Notice) (r : S_messages_state) (h : F_messages_state_notice_H00 a0 a1 = some r) : ConG Try.prog 46 [.agg [.slc 1 1000003 (List.length a0.elements) (List.map (ecI .u8) a0.elements), .lit (.int .u64 (a0.router)), .lit (.int .u8 ((a0.dst.getD 0 0))), .lit (.int .u8 ((a0.dst.getD 1 0))), .lit (.int .u8 ((a0.dst.getD 2 0))), .lit (.int .u8 ((a0.dst.getD 3 0))), .lit (.int .u8 ((a0.dst.getD 4 0))), .lit (.int .u8 ((a0.dst.getD 5 0))), .lit (.int .u8 ((a0.dst.getD 6 0))), .lit (.int .u8 ((a0.dst.getD 7 0))), .lit (.int .u8 ((a0.dst.getD 8 0))), .lit (.int .u8 ((a0.dst.getD 9 0))), .lit (.int .u8 ((a0.dst.getD 10 0))), .lit (.int .u8 ((a0.dst.getD 11 0))), .lit (.int .u8 ((a0.dst.getD 12 0))), .lit (.int .u8 ((a0.dst.getD 13 0))), .lit (.int .u8 ((a0.dst.getD 14 0))), .lit (.int .u8 ((a0.dst.getD 15 0)))], .agg (S_Notice.cs a1)] 5 1 (List.length a0.elements) (.agg [.slc 1 1000003 (List.length r.elements) (List.map (ecI .u8) r.elements), .lit (.int .u64 (r.router)), .lit (.int .u8 ((r.dst.getD 0 0))), .lit (.int .u8 ((r.dst.getD 1 0))), .lit (.int .u8 ((r.dst.getD 2 0))), .lit (.int .u8 ((r.dst.getD 3 0))), .lit (.int .u8 ((r.dst.getD 4 0))), .lit (.int .u8 ((r.dst.getD 5 0))), .lit (.int .u8 ((r.dst.getD 6 0))), .lit (.int .u8 ((r.dst.getD 7 0))), .lit (.int .u8 ((r.dst.getD 8 0))), .lit (.int .u8 ((r.dst.getD 9 0))), .lit (.int .u8 ((r.dst.getD 10 0))), .lit (.int .u8 ((r.dst.getD 11 0))), .lit (.int .u8 ((r.dst.getD 12 0))), .lit (.int .u8 ((r.dst.getD 13 0))), .lit (.int .u8 ((r.dst.getD 14 0))), .lit (.int .u8 ((r.dst.getD 15 0)))]) (List.length r.elements) := by
  unfold F_messages_state_notice_H00 at h
  refine con_ofGA [] 80 0 0 _ Try.func46 rfl rfl (by kernel_rfl) rfl rfl (fun K => ?_)
  refine TS_go 22 ?_
  replace h := condO h
  rcases h with ⟨hb1, h⟩ | ⟨hb1, h⟩
  · refine TS_know 10 (b := true) hb1 (by kernel_rfl) (by kernel_rfl) ?_
    refine TS_know 9 (b := true) hb1 (by kernel_rfl) (by kernel_rfl) ?_
    refine TS_T (by kernel_rfl) rfl ?_
    refine TS_go 1 ?_
    refine TS_draw (by kernel_rfl) ?_
    refine TD_go 4 ?_
    replace h := bindO h
    obtain ⟨v2, hv2, h⟩ := h
    refine TD_conX (d := 15) (e := 900000) [[2]] (okT_octets_Append ([] : List Int) (IntKind.wrap .u64 a1.Seq) 2 v2 hv2) (by kernel_rfl) (by kernel_rfl) ?_
    replace h := bindO h
    obtain ⟨v3, hv3, h⟩ := h
    refine TD_conG 1000001 [[], [], [2]] (ok_messages_state_element_H00 a0 1 v2 v3 hv3) (by kernel_rfl) (by kernel_rfl) (by kernel_rfl) ?_
    refine TD_go 1 ?_
    refine TD_end (by kernel_rfl) ?_
    refine TS_go 3 ?_
    have ret := Option.some.inj h
    subst ret
    exact TS_retG (sz1 := 1) (xs1 := List.map (ecI .u8) a0.elements) (by kernel_rfl) (by kernel_rfl) (by kernel_rfl) (by kernel_rfl)
  · refine TS_know 10 (b := false) hb1 (by kernel_rfl) (by kernel_rfl) ?_
    refine TS_know 9 (b := false) hb1 (by kernel_rfl) (by kernel_rfl) ?_
    refine TS_F (by kernel_rfl) rfl ?_
    refine TS_go 5 ?_
    replace h := condO h
    rcases h with ⟨hb4, h⟩ | ⟨hb4, h⟩
    · refine TS_know 18 (b := true) hb4 (by kernel_rfl) (by kernel_rfl) ?_
      refine TS_know 17 (b := true) hb4 (by kernel_rfl) (by kernel_rfl) ?_
      refine TS_T (by kernel_rfl) rfl ?_
      refine TS_go 5 ?_
      replace h := bindO h
      obtain ⟨v5, hv5, h⟩ := h
      refine TS_con [[2]] [(22, 900000)] none (okT_octets_Append ([] : List Int) a1.Neighbour 8 v5 hv5) (by kernel_rfl) (by kernel_rfl) (by kernel_rfl) ?_
      refine TS_go 3 ?_
      refine TS_draw (by kernel_rfl) ?_
      refine TD_go 5 ?_
      replace h := bindO h
      obtain ⟨v6, hv6, h⟩ := h
      refine TD_conX (d := 28) (e := 900000) [[2]] (okT_octets_Append v5 (IntKind.wrap .u64 a1.Metric) 2 v6 hv6) (by kernel_rfl) (by kernel_rfl) ?_
      replace h := bindO h
      obtain ⟨v7, hv7, h⟩ := h
      refine TD_conG 1000001 [[], [], [2]] (ok_messages_state_element_H00 a0 2 v6 v7 hv7) (by kernel_rfl) (by kernel_rfl) (by kernel_rfl) ?_
      refine TD_go 1 ?_
      refine TD_end (by kernel_rfl) ?_
      refine TS_go 3 ?_
      have ret := Option.some.inj h
      subst ret
      exact TS_retG (sz1 := 1) (xs1 := List.map (ecI .u8) a0.elements) (by kernel_rfl) (by kernel_rfl) (by kernel_rfl) (by kernel_rfl)
    · refine TS_know 18 (b := false) hb4 (by kernel_rfl) (by kernel_rfl) ?_
      refine TS_know 17 (b := false) hb4 (by kernel_rfl) (by kernel_rfl) ?_
      refine TS_F (by kernel_rfl) rfl ?_
      refine TS_go 5 ?_
      replace h := condO h
      rcases h with ⟨hb8, h⟩ | ⟨hb8, h⟩
      · refine TS_know 31 (b := true) hb8 (by kernel_rfl) (by kernel_rfl) ?_
        refine TS_know 30 (b := true) hb8 (by kernel_rfl) (by kernel_rfl) ?_
        refine TS_T (by kernel_rfl) rfl ?_
        refine TS_go 4 ?_
        replace h := bindO h
        obtain ⟨v9, hv9, h⟩ := h
        refine TS_conG 1000001 [] (ok_messages_state_update_H00 a0 a1 v9 hv9) (by kernel_rfl) (by kernel_rfl) (by kernel_rfl) ?_
        refine TS_go 5 ?_
        have ret := Option.some.inj h
        subst ret
        exact TS_retG (sz1 := 1) (xs1 := List.map (ecI .u8) a0.elements) (by kernel_rfl) (by kernel_rfl) (by kernel_rfl) (by kernel_rfl)
      · refine TS_know 31 (b := false) hb8 (by kernel_rfl) (by kernel_rfl) ?_
        refine TS_know 30 (b := false) hb8 (by kernel_rfl) (by kernel_rfl) ?_
        refine TS_F (by kernel_rfl) rfl ?_
        refine TS_go 18 ?_
        refine TS_litNT 45 5 1 (ecI .u8) [] ([IntKind.wrap .u8 a1.To.Dst.Bits, IntKind.wrap .u8 a1.To.Src.Bits] : List Int) (by kernel_rfl) (by kernel_rfl) ?_
        refine TS_go 2 ?_
        refine TS_cut ⟨[(2000000, []), (2, []), (3, []), (4, []), (5, []), (6, [])], [(1000001, (1000001, [])), (2, (2, [])), (3, (3, [])), (4, (4, [])), (45, (45, []))]⟩ (.mk [.code (codeAt [1, 1, 1, 1, 1] (bodyOf Try.f46))] .normal ⟨[(2000000, .c (.slc 1 1000003 (List.length a0.elements) (List.map (ecI .u8) a0.elements))), (2, .c (.box 2 0)), (3, .c (.box 3 0)), (4, .c (.box 4 0)), (5, .c (.slc 1 47 (List.length ([IntKind.wrap .u8 a1.To.Dst.Bits, IntKind.wrap .u8 a1.To.Src.Bits] : List Int)) (List.map (ecI .u8) ([IntKind.wrap .u8 a1.To.Dst.Bits, IntKind.wrap .u8 a1.To.Src.Bits] : List Int)))), (6, .c (.lit (.int .u8 (4))))], [(1000001, .spare 5 1 (List.length a0.elements)), (2, .box [.slc 1 1000003 (List.length a0.elements) (List.map (ecI .u8) a0.elements), .lit (.int .u64 (a0.router)), .lit (.int .u8 ((a0.dst.getD 0 0))), .lit (.int .u8 ((a0.dst.getD 1 0))), .lit (.int .u8 ((a0.dst.getD 2 0))), .lit (.int .u8 ((a0.dst.getD 3 0))), .lit (.int .u8 ((a0.dst.getD 4 0))), .lit (.int .u8 ((a0.dst.getD 5 0))), .lit (.int .u8 ((a0.dst.getD 6 0))), .lit (.int .u8 ((a0.dst.getD 7 0))), .lit (.int .u8 ((a0.dst.getD 8 0))), .lit (.int .u8 ((a0.dst.getD 9 0))), .lit (.int .u8 ((a0.dst.getD 10 0))), .lit (.int .u8 ((a0.dst.getD 11 0))), .lit (.int .u8 ((a0.dst.getD 12 0))), .lit (.int .u8 ((a0.dst.getD 13 0))), .lit (.int .u8 ((a0.dst.getD 14 0))), .lit (.int .u8 ((a0.dst.getD 15 0)))]), (3, .box [.lit (.int .i64 (a1.Kind)), .lit (.int .u16 (a1.Seq)), .lit (.int .i64 (a1.Metric)), .lit (.int .u64 (a1.Neighbour)), .lit (.int .u8 ((a1.To.Dst.IP.getD 0 0))), .lit (.int .u8 ((a1.To.Dst.IP.getD 1 0))), .lit (.int .u8 ((a1.To.Dst.IP.getD 2 0))), .lit (.int .u8 ((a1.To.Dst.IP.getD 3 0))), .lit (.int .u8 ((a1.To.Dst.IP.getD 4 0))), .lit (.int .u8 ((a1.To.Dst.IP.getD 5 0))), .lit (.int .u8 ((a1.To.Dst.IP.getD 6 0))), .lit (.int .u8 ((a1.To.Dst.IP.getD 7 0))), .lit (.int .u8 ((a1.To.Dst.IP.getD 8 0))), .lit (.int .u8 ((a1.To.Dst.IP.getD 9 0))), .lit (.int .u8 ((a1.To.Dst.IP.getD 10 0))), .lit (.int .u8 ((a1.To.Dst.IP.getD 11 0))), .lit (.int .u8 ((a1.To.Dst.IP.getD 12 0))), .lit (.int .u8 ((a1.To.Dst.IP.getD 13 0))), .lit (.int .u8 ((a1.To.Dst.IP.getD 14 0))), .lit (.int .u8 ((a1.To.Dst.IP.getD 15 0))), .lit (.int .i64 (a1.To.Dst.Bits)), .lit (.int .u8 ((a1.To.Src.IP.getD 0 0))), .lit (.int .u8 ((a1.To.Src.IP.getD 1 0))), .lit (.int .u8 ((a1.To.Src.IP.getD 2 0))), .lit (.int .u8 ((a1.To.Src.IP.getD 3 0))), .lit (.int .u8 ((a1.To.Src.IP.getD 4 0))), .lit (.int .u8 ((a1.To.Src.IP.getD 5 0))), .lit (.int .u8 ((a1.To.Src.IP.getD 6 0))), .lit (.int .u8 ((a1.To.Src.IP.getD 7 0))), .lit (.int .u8 ((a1.To.Src.IP.getD 8 0))), .lit (.int .u8 ((a1.To.Src.IP.getD 9 0))), .lit (.int .u8 ((a1.To.Src.IP.getD 10 0))), .lit (.int .u8 ((a1.To.Src.IP.getD 11 0))), .lit (.int .u8 ((a1.To.Src.IP.getD 12 0))), .lit (.int .u8 ((a1.To.Src.IP.getD 13 0))), .lit (.int .u8 ((a1.To.Src.IP.getD 14 0))), .lit (.int .u8 ((a1.To.Src.IP.getD 15 0))), .lit (.int .i64 (a1.To.Src.Bits)), .lit (.int .u64 (a1.To.Router)), .lit (.int .i64 (a1.Hops))]), (4, .box [.lit (.slice none 0 0), .lit (.int .u64 (0)), .lit (.int .u8 (0)), .lit (.int .u8 (0)), .lit (.int .u8 (0)), .lit (.int .u8 (0)), .lit (.int .u8 (0)), .lit (.int .u8 (0)), .lit (.int .u8 (0)), .lit (.int .u8 (0)), .lit (.int .u8 (0)), .lit (.int .u8 (0)), .lit (.int .u8 (0)), .lit (.int .u8 (0)), .lit (.int .u8 (0)), .lit (.int .u8 (0)), .lit (.int .u8 (0)), .lit (.int .u8 (0))]), (45, .spare 5 1 (List.length ([IntKind.wrap .u8 a1.To.Dst.Bits, IntKind.wrap .u8 a1.To.Src.Bits] : List Int)))]⟩) (by kernel_rfl) (by kernel_rfl) ?_
        refine TS_joinB ⟨[(2, []), (3, []), (4, []), (5, []), (6, []), (2000000, [])], [(2, (2, [])), (3, (3, [])), (4, (4, [])), (45, (45, [])), (1000001, (1000001, []))]⟩ (fun (v10 : (List Int) × Int) => [(5, .c (.slc 1 47 (List.length v10.1) (List.map (ecI .u8) v10.1))), (6, .c (.lit (.int .u8 (v10.2))))]) (fun (v10 : (List Int) × Int) => [(45, .spare 5 1 (List.length v10.1))]) (F_messages_state_notice_H00_j1 a1 a0) r ?_ ?_
        · clear h
          intro v10 h
          unfold F_messages_state_notice_H00_j1 at h
          refine TS_go 6 ?_
          replace h := bindO h
          obtain ⟨v11, hv11, h⟩ := h
          refine TS_call [] (ok_messages_prefixBytes a1.To.Dst v11 hv11) (by kernel_rfl) (by kernel_rfl) ?_
          replace h := bindO h
          obtain ⟨l12, hl12, h⟩ := h
          refine TS_appT (d := 45) (e := 5) (sz := 1) (N := List.length v10.1) (ecI .u8) (fun _ => by kernel_rfl) (l1 := v10.1) (l2 := v11) (c := .whole) hl12 (by kernel_rfl) (by kernel_rfl) ?_
          refine TS_go 3 ?_
          refine TS_draw (by kernel_rfl) ?_
          refine TD_go 6 ?_
          replace h := bindO h
          obtain ⟨v13, hv13, h⟩ := h
          refine TD_call [] (ok_messages_prefixBytes a1.To.Src v13 hv13) (by kernel_rfl) (by kernel_rfl) ?_
          replace h := bindO h
          obtain ⟨l14, hl14, h⟩ := h
          refine TD_appT (d := 45) (e := 5) (sz := 1) (N := List.length l12) (ecI .u8) (fun _ => by kernel_rfl) (l1 := l12) (l2 := v13) (c := .whole) hl14 (by kernel_rfl) (by kernel_rfl) ?_
          replace h := bindO h
          obtain ⟨v15, hv15, h⟩ := h
          refine TD_conG 1000001 [[], [], [2]] (ok_messages_state_element_H00 a0 v10.2 l14 v15 hv15) (by kernel_rfl) (by kernel_rfl) (by kernel_rfl) ?_
          refine TD_go 1 ?_
          refine TD_end (by kernel_rfl) ?_
          refine TS_go 1 ?_
          have ret := Option.some.inj h
          subst ret
          exact TS_retG (sz1 := 1) (xs1 := List.map (ecI .u8) a0.elements) (by kernel_rfl) (by kernel_rfl) (by kernel_rfl) (by kernel_rfl)
        · refine TS_go 6 ?_
          replace h := condO h
          rcases h with ⟨hb16, h⟩ | ⟨hb16, h⟩
          · refine TS_know 48 (b := true) hb16 (by kernel_rfl) (by kernel_rfl) ?_
            refine TS_T (by kernel_rfl) rfl ?_
            refine TS_go 10 ?_
            replace h := bindO h
            obtain ⟨v17, hv17, h⟩ := h
            refine TS_con [[2]] [(53, 900000)] none (okT_octets_Append ([IntKind.wrap .u8 a1.To.Dst.Bits, IntKind.wrap .u8 a1.To.Src.Bits] : List Int) (IntKind.wrap .u64 a1.Seq) 2 v17 hv17) (by kernel_rfl) (by kernel_rfl) (by kernel_rfl) ?_
            refine TS_go 8 ?_
            refine TS_litNT 58 5 1 (ecI .u8) [] ([IntKind.wrap .u8 a1.Hops] : List Int) (by kernel_rfl) (by kernel_rfl) ?_
            replace h := bindO h
            obtain ⟨l18, hl18, h⟩ := h
            refine TS_appT (d := 53) (e := 5) (sz := 1) (N := List.length v17) (ecI .u8) (fun _ => by kernel_rfl) (l1 := v17) (l2 := ([IntKind.wrap .u8 a1.Hops] : List Int)) (c := .whole) hl18 (by kernel_rfl) (by kernel_rfl) ?_
            refine TS_go 7 ?_
            replace h := bindO h
            obtain ⟨v19, hv19, h⟩ := h
            refine TS_con [[2]] [(64, 900000)] none (okT_octets_Append l18 a1.To.Router 8 v19 hv19) (by kernel_rfl) (by kernel_rfl) (by kernel_rfl) ?_
            refine TS_go 2 ?_
            exact TS_meet (v19, 5) ⟨[(2, []), (3, []), (4, []), (5, []), (6, []), (2000000, [])], [(2, (2, [])), (3, (3, [])), (4, (4, [])), (64, (45, [])), (1000001, (1000001, []))]⟩ h (by kernel_rfl) (by kernel_rfl)
          · refine TS_know 48 (b := false) hb16 (by kernel_rfl) (by kernel_rfl) ?_
            refine TS_F (by kernel_rfl) rfl ?_
            refine TS_go 1 ?_
            exact TS_meet (([IntKind.wrap .u8 a1.To.Dst.Bits, IntKind.wrap .u8 a1.To.Src.Bits] : List Int), 4) ⟨[(2, []), (3, []), (4, []), (5, []), (6, []), (2000000, [])], [(2, (2, [])), (3, (3, [])), (4, (4, [])), (45, (45, [])), (1000001, (1000001, []))]⟩ h (by kernel_rfl) (by kernel_rfl)

/-- (multihop/messages.state).packet -/
noncomputable def F_messages_state_packet (a0 : S_messages_state) (a1 : Int) : Option ((List Int)) :=
  (F_octets_Append ([42, 1] : List Int) (IntKind.wrap .u64 a1) 5).bind fun v1 =>
  (F_octets_Append v1 (IntKind.wrap .u64 (List.length a0.elements : Int)) 2).bind fun v2 =>
  (appO 1 v2 (Cut.app .whole a0.elements)).bind fun l3 =>
  some (l3)
set_option maxRecDepth 100000 in
set_option maxHeartbeats 40000000 in
theorem okT_messages_state_packet (a0 : S_messages_state) (a1 : Int) (r : (List Int)) (h : F_messages_state_packet a0 a1 = some r) : Con Try.prog 47 [.agg (S_messages_state.cs a0), .c (.lit (.int .i64 (a1)))] [] (.c (.slc 1 900002 (List.length r) (List.map (ecI .u8) r))) [(900000, .spare 5 1 (List.length r))] := by
  unfold F_messages_state_packet at h
  refine con_of [] [(900000, [])] 20 Try.func47 rfl rfl (by kernel_rfl) (fun K => ?_)
  refine TS_go 7 ?_
  refine TS_litNT 6 5 1 (ecI .u8) [] ([42, 1] : List Int) (by kernel_rfl) (by kernel_rfl) ?_
  refine TS_go 2 ?_
  replace h := bindO h
  obtain ⟨v1, hv1, h⟩ := h
  refine TS_con [[2]] [(9, 900000)] none (okT_octets_Append ([42, 1] : List Int) (IntKind.wrap .u64 a1) 5 v1 hv1) (by kernel_rfl) (by kernel_rfl) (by kernel_rfl) ?_
  refine TS_go 9 ?_
  replace h := bindO h
  obtain ⟨v2, hv2, h⟩ := h
  refine TS_con [[2]] [(15, 900000)] none (okT_octets_Append v1 (IntKind.wrap .u64 (List.length a0.elements : Int)) 2 v2 hv2) (by kernel_rfl) (by kernel_rfl) (by kernel_rfl) ?_
  refine TS_go 7 ?_
  replace h := bindO h
  obtain ⟨_l3, hl3, h⟩ := h
  refine TS_appT (d := 15) (e := 5) (sz := 1) (N := List.length v2) (ecI .u8) (fun _ => by kernel_rfl) (l1 := v2) (l2 := a0.elements) (c := .whole) hl3 (by kernel_rfl) (by kernel_rfl) ?_
  refine TS_go 2 ?_
  refine TS_fitU ⟨[(4, [])], [(15, (900000, []))]⟩ (by kernel_rfl) ?_
  refine TS_go 1 ?_
  have ret := Option.some.inj h
  subst ret
  exact TS_ret (by kernel_rfl) (by kernel_rfl) (by kernel_rfl)
/-- multihop/messages.Encode -/
noncomputable def F_messages_Encode_l1 (a1 : List S_Notice) (s6 : Int × S_messages_state) : Option ((Int × S_messages_state) ⊕ (S_messages_state)) :=
  bif (decide (s6.1 < (List.length a1 : Int))) then
    (idx a1 s6.1).bind fun e10 =>
    (F_messages_state_notice_H00 s6.2 e10).bind fun v11 =>
    some (Sum.inl (IntKind.wrap .i64 (s6.1 + 1), v11))
  else
    some (Sum.inr s6.2)
noncomputable def F_messages_Encode (a0 : Int) (a1 : List S_Notice) : Option ((List Int) × Int) :=
  bif (decide ((List.length a1 : Int) > 64)) then
    some ((([] : List Int), 3))
  else
    (F_messages_allValid a1).bind fun v2 =>
    bif v2 then
      (F_messages_isCreation a0).bind fun v4 =>
      bif v4 then
        (loopO (F_messages_Encode_l1 a1) (0, (S_messages_state.mk ([] : List Int) 0 [0, 0, 0, 0, 0, 0, 0, 0, 0, 0, 0, 0, 0, 0, 0, 0]))).bind fun b7 =>
        (F_messages_state_packet b7 a0).bind fun v13 =>
        some ((v13, 0))
      else
        some ((([] : List Int), 2))
    else
      some ((([] : List Int), 1))
set_option maxRecDepth 100000 in
set_option maxHeartbeats 40000000 in
theorem okT_messages_Encode (a0 : Int) (a1 : List S_Notice) (r : (List Int) × Int) (h : F_messages_Encode a0 a1 = some r) : Con Try.prog 21 [.c (.lit (.int .i64 (a0))), .c (eS 40 S_Notice.cs (a1))] [] (.tup [(false, [.slc 1 900002 (List.length r.1) (List.map (ecI .u8) r.1)]), (false, [.lit (.int .i64 (r.2))])]) [(900000, .spare 5 1 (List.length r.1))] := by
  unfold F_messages_Encode at h
  refine con_of [] [(900000, [])] 31 Try.func21 rfl rfl (by kernel_rfl) (fun K => ?_)
  refine TS_go 12 ?_
  replace h := condO h
  rcases h with ⟨hb1, h⟩ | ⟨hb1, h⟩
  · refine TS_know 11 (b := true) hb1 (by kernel_rfl) (by kernel_rfl) ?_
    refine TS_T (by kernel_rfl) rfl ?_
    refine TS_go 5 ?_
    refine TS_nilT 4 600000 5 1 (by kernel_rfl) ?_
    refine TS_fitU ⟨[(4, []), (5, [])], [(600000, (900000, []))]⟩ (by kernel_rfl) ?_
    refine TS_go 2 ?_
    have ret := Option.some.inj h
    subst ret
    exact TS_ret (by kernel_rfl) (by kernel_rfl) (by kernel_rfl)
  · refine TS_know 11 (b := false) hb1 (by kernel_rfl) (by kernel_rfl) ?_
    refine TS_F (by kernel_rfl) rfl ?_
    refine TS_go 5 ?_
    replace h := bindO h
    obtain ⟨v2, hv2, h⟩ := h
    refine TS_call [] (ok_messages_allValid a1 v2 hv2) (by kernel_rfl) (by kernel_rfl) ?_
    refine TS_go 2 ?_
    replace h := condO h
    rcases h with ⟨hb3, h⟩ | ⟨hb3, h⟩
    · subst hb3
      refine TS_F (by kernel_rfl) rfl ?_
      refine TS_go 5 ?_
      replace h := bindO h
      obtain ⟨v4, hv4, h⟩ := h
      refine TS_call [] (ok_messages_isCreation a0 v4 hv4) (by kernel_rfl) (by kernel_rfl) ?_
      refine TS_go 2 ?_
      replace h := condO h
      rcases h with ⟨hb5, h⟩ | ⟨hb5, h⟩
      · subst hb5
        refine TS_F (by kernel_rfl) rfl ?_
        refine TS_go 13 ?_
        refine TS_nilB 6 0 600000 5 1 (by kernel_rfl) ?_
        refine TS_cut ⟨[(0, []), (6, []), (18, []), (19, []), (20, [])], [(6, (6, [])), (600000, (600000, []))]⟩ (.mk [.code (codeAt [1, 1, 1, 1, 1, 0, 1, 0] (bodyOf Try.f21)), .blk 0, .code (codeAt [1, 1, 1, 1, 1, 1] (bodyOf Try.f21))] .normal ⟨[(0, .c (.lit (.int .i64 (a0)))), (6, .c (.box 6 0)), (18, .c (.slc 40 0 (List.length a1) (List.map S_Notice.cs a1))), (19, .c (.lit (.int .i64 ((List.length a1 : Int))))), (20, .c (.lit (.int .i64 (0))))], [(6, .box [.slc 1 600002 (List.length ([] : List Int)) (List.map (ecI .u8) ([] : List Int)), .lit (.int .u64 (0)), .lit (.int .u8 (0)), .lit (.int .u8 (0)), .lit (.int .u8 (0)), .lit (.int .u8 (0)), .lit (.int .u8 (0)), .lit (.int .u8 (0)), .lit (.int .u8 (0)), .lit (.int .u8 (0)), .lit (.int .u8 (0)), .lit (.int .u8 (0)), .lit (.int .u8 (0)), .lit (.int .u8 (0)), .lit (.int .u8 (0)), .lit (.int .u8 (0)), .lit (.int .u8 (0)), .lit (.int .u8 (0))]), (600000, .spare 5 1 (List.length ([] : List Int)))]⟩) (by kernel_rfl) (by kernel_rfl) ?_
        replace h := bindO h
        obtain ⟨y8, hl1, hK1⟩ := h
        refine TS_loopB (F_messages_Encode_l1 a1) ⟨[(0, []), (6, []), (18, []), (19, []), (20, [])], [(6, (6, [])), (600000, (600000, []))]⟩ (fun (s6 : Int × S_messages_state) => [(20, .c (.lit (.int .i64 (s6.1))))]) (fun (s6 : Int × S_messages_state) => [(6, .box [.slc 1 600002 (List.length s6.2.elements) (List.map (ecI .u8) s6.2.elements), .lit (.int .u64 (s6.2.router)), .lit (.int .u8 ((s6.2.dst.getD 0 0))), .lit (.int .u8 ((s6.2.dst.getD 1 0))), .lit (.int .u8 ((s6.2.dst.getD 2 0))), .lit (.int .u8 ((s6.2.dst.getD 3 0))), .lit (.int .u8 ((s6.2.dst.getD 4 0))), .lit (.int .u8 ((s6.2.dst.getD 5 0))), .lit (.int .u8 ((s6.2.dst.getD 6 0))), .lit (.int .u8 ((s6.2.dst.getD 7 0))), .lit (.int .u8 ((s6.2.dst.getD 8 0))), .lit (.int .u8 ((s6.2.dst.getD 9 0))), .lit (.int .u8 ((s6.2.dst.getD 10 0))), .lit (.int .u8 ((s6.2.dst.getD 11 0))), .lit (.int .u8 ((s6.2.dst.getD 12 0))), .lit (.int .u8 ((s6.2.dst.getD 13 0))), .lit (.int .u8 ((s6.2.dst.getD 14 0))), .lit (.int .u8 ((s6.2.dst.getD 15 0)))]), (600000, .spare 5 1 (List.length s6.2.elements))]) (0, (S_messages_state.mk ([] : List Int) 0 [0, 0, 0, 0, 0, 0, 0, 0, 0, 0, 0, 0, 0, 0, 0, 0])) y8 (.exit 0) (fun (b : S_messages_state) => b) ⟨[(0, []), (6, [])], [(6, (6, [])), (600000, (600000, []))]⟩ (fun (b7 : S_messages_state) => []) (fun (b7 : S_messages_state) => [(6, .box [.slc 1 600002 (List.length b7.elements) (List.map (ecI .u8) b7.elements), .lit (.int .u64 (b7.router)), .lit (.int .u8 ((b7.dst.getD 0 0))), .lit (.int .u8 ((b7.dst.getD 1 0))), .lit (.int .u8 ((b7.dst.getD 2 0))), .lit (.int .u8 ((b7.dst.getD 3 0))), .lit (.int .u8 ((b7.dst.getD 4 0))), .lit (.int .u8 ((b7.dst.getD 5 0))), .lit (.int .u8 ((b7.dst.getD 6 0))), .lit (.int .u8 ((b7.dst.getD 7 0))), .lit (.int .u8 ((b7.dst.getD 8 0))), .lit (.int .u8 ((b7.dst.getD 9 0))), .lit (.int .u8 ((b7.dst.getD 10 0))), .lit (.int .u8 ((b7.dst.getD 11 0))), .lit (.int .u8 ((b7.dst.getD 12 0))), .lit (.int .u8 ((b7.dst.getD 13 0))), .lit (.int .u8 ((b7.dst.getD 14 0))), .lit (.int .u8 ((b7.dst.getD 15 0)))]), (600000, .spare 5 1 (List.length b7.elements))]) hl1 (by kernel_rfl) (by kernel_rfl) ?_ ?_
        · intro s6 x h hy1
          unfold F_messages_Encode_l1 at h
          refine TS_go 5 ?_
          replace h := condO h
          rcases h with ⟨hb9, h⟩ | ⟨hb9, h⟩
          · refine TS_know 21 (b := true) hb9 (by kernel_rfl) (by kernel_rfl) ?_
            refine TS_T (by kernel_rfl) rfl ?_
            refine TS_go 5 ?_
            replace h := bindO h
            obtain ⟨e10, he10, h⟩ := h
            refine TS_idx S_Notice.cs he10 (by kernel_rfl) (by kernel_rfl) ?_
            refine TS_go 7 ?_
            replace h := bindO h
            obtain ⟨v11, hv11, h⟩ := h
            refine TS_conG 600000 [] (ok_messages_state_notice_H00 s6.2 e10 v11 hv11) (by kernel_rfl) (by kernel_rfl) (by kernel_rfl) ?_
            refine TS_go 7 ?_
            have ret := Option.some.inj h
            subst ret
            exact TS_againB _ ⟨[(0, []), (6, []), (18, []), (19, []), (20, [])], [(6, (6, [])), (600000, (600000, []))]⟩ rfl (by kernel_rfl) (by kernel_rfl)
          · refine TS_know 21 (b := false) hb9 (by kernel_rfl) (by kernel_rfl) ?_
            refine TS_F (by kernel_rfl) rfl ?_
            refine TS_go 2 ?_
            have ret := Option.some.inj h
            subst ret
            exact TS_brkB s6.2 ⟨[(0, []), (6, [])], [(6, (6, [])), (600000, (600000, []))]⟩ rfl (by kernel_rfl) (by kernel_rfl) (by kernel_rfl)
        · intro b7 hb
          subst y8
          have h := hK1
          refine TS_go 5 ?_
          replace h := bindO h
          obtain ⟨v13, hv13, h⟩ := h
          refine TS_con [[2]] [(30, 900000)] none (okT_messages_state_packet b7 a0 v13 hv13) (by kernel_rfl) (by kernel_rfl) (by kernel_rfl) ?_
          refine TS_go 3 ?_
          refine TS_fitU ⟨[(4, []), (5, [])], [(30, (900000, []))]⟩ (by kernel_rfl) ?_
          refine TS_go 1 ?_
          have ret := Option.some.inj h
          subst ret
          exact TS_ret (by kernel_rfl) (by kernel_rfl) (by kernel_rfl)
      · subst hb5
        refine TS_T (by kernel_rfl) rfl ?_
        refine TS_go 5 ?_
        refine TS_nilT 4 600000 5 1 (by kernel_rfl) ?_
        refine TS_fitU ⟨[(4, []), (5, [])], [(600000, (900000, []))]⟩ (by kernel_rfl) ?_
        refine TS_go 2 ?_
        have ret := Option.some.inj h
        subst ret
        exact TS_ret (by kernel_rfl) (by kernel_rfl) (by kernel_rfl)
    · subst hb3
      refine TS_T (by kernel_rfl) rfl ?_
      refine TS_go 5 ?_
      refine TS_nilT 4 600000 5 1 (by kernel_rfl) ?_
      refine TS_fitU ⟨[(4, []), (5, [])], [(600000, (900000, []))]⟩ (by kernel_rfl) ?_
      refine TS_go 2 ?_
      have ret := Option.some.inj h
      subst ret
      exact TS_ret (by kernel_rfl) (by kernel_rfl) (by kernel_rfl)
/-- multihop/octets.Uint -/
noncomputable def F_octets_Uint_l1 (l5 : List Int) (s6 : Int × Int) : Option ((Int × Int) ⊕ (Int)) :=
  bif (decide (s6.2 < (List.length l5 : Int))) then
    (idx l5 s6.2).bind fun e10 =>
    some (Sum.inl (ior .u64 (ishl .u64 s6.1 8) (IntKind.wrap .u64 e10), IntKind.wrap .i64 (s6.2 + 1)))
  else
    some (Sum.inr s6.1)
noncomputable def F_octets_Uint (a0 : List Int) (a1 : Int) (a2 : Int) : Option (Int × Bool) :=
  bif (decide (a2 < 1)) then
    some ((0, false))
  else
    bif (decide (a2 > 8)) then
      some ((0, false))
    else
      bif (decide (a1 < 0)) then
        some ((0, false))
      else
        bif (decide (a1 > (IntKind.wrap .i64 ((List.length a0 : Int) - a2)))) then
          some ((0, false))
        else
          (subO a0 a1 (IntKind.wrap .i64 (a1 + a2))).bind fun l5 =>
          (loopO (F_octets_Uint_l1 l5) (0, 0)).bind fun b7 =>
          some ((b7, true))
set_option maxRecDepth 100000 in
set_option maxHeartbeats 40000000 in
theorem ok_octets_Uint (a0 : List Int) (a1 : Int) (a2 : Int) (r : Int × Bool) (h : F_octets_Uint a0 a1 a2 = some r) : Con Try.prog 48 [.c (eS 1 (ecI .u8) (a0)), .c (.lit (.int .i64 (a1))), .c (.lit (.int .i64 (a2)))] [] (.tup [(false, [.lit (.int .u64 (r.1))]), (false, [.lit (.bool (r.2))])]) [] := by
  unfold F_octets_Uint at h
  refine con_of [] [] 47 Try.func48 rfl rfl (by kernel_rfl) (fun K => ?_)
  refine TS_go 11 ?_
  replace h := condO h
  rcases h with ⟨hb1, h⟩ | ⟨hb1, h⟩
  · refine TS_know 12 (b := true) hb1 (by kernel_rfl) (by kernel_rfl) ?_
    refine TS_know 13 (b := true) hb1 (by kernel_rfl) (by kernel_rfl) ?_
    refine TS_go 16 ?_
    refine TS_T (by kernel_rfl) rfl ?_
    refine TS_go 7 ?_
    have ret := Option.some.inj h
    subst ret
    exact TS_ret (by kernel_rfl) (by kernel_rfl) (by kernel_rfl)
  · refine TS_know 12 (b := false) hb1 (by kernel_rfl) (by kernel_rfl) ?_
    refine TS_know 13 (b := false) hb1 (by kernel_rfl) (by kernel_rfl) ?_
    refine TS_go 4 ?_
    replace h := condO h
    rcases h with ⟨hb2, h⟩ | ⟨hb2, h⟩
    · refine TS_know 15 (b := true) hb2 (by kernel_rfl) (by kernel_rfl) ?_
      refine TS_know 16 (b := true) hb2 (by kernel_rfl) (by kernel_rfl) ?_
      refine TS_know 17 (b := true) hb2 (by kernel_rfl) (by kernel_rfl) ?_
      refine TS_go 12 ?_
      refine TS_T (by kernel_rfl) rfl ?_
      refine TS_go 7 ?_
      have ret := Option.some.inj h
      subst ret
      exact TS_ret (by kernel_rfl) (by kernel_rfl) (by kernel_rfl)
    · refine TS_know 15 (b := false) hb2 (by kernel_rfl) (by kernel_rfl) ?_
      refine TS_know 16 (b := false) hb2 (by kernel_rfl) (by kernel_rfl) ?_
      refine TS_know 17 (b := false) hb2 (by kernel_rfl) (by kernel_rfl) ?_
      refine TS_go 4 ?_
      replace h := condO h
      rcases h with ⟨hb3, h⟩ | ⟨hb3, h⟩
      · refine TS_know 19 (b := true) hb3 (by kernel_rfl) (by kernel_rfl) ?_
        refine TS_know 20 (b := true) hb3 (by kernel_rfl) (by kernel_rfl) ?_
        refine TS_know 21 (b := true) hb3 (by kernel_rfl) (by kernel_rfl) ?_
        refine TS_go 8 ?_
        refine TS_T (by kernel_rfl) rfl ?_
        refine TS_go 7 ?_
        have ret := Option.some.inj h
        subst ret
        exact TS_ret (by kernel_rfl) (by kernel_rfl) (by kernel_rfl)
      · refine TS_know 19 (b := false) hb3 (by kernel_rfl) (by kernel_rfl) ?_
        refine TS_know 20 (b := false) hb3 (by kernel_rfl) (by kernel_rfl) ?_
        refine TS_know 21 (b := false) hb3 (by kernel_rfl) (by kernel_rfl) ?_
        refine TS_go 8 ?_
        replace h := condO h
        rcases h with ⟨hb4, h⟩ | ⟨hb4, h⟩
        · refine TS_know 27 (b := true) hb4 (by kernel_rfl) (by kernel_rfl) ?_
          refine TS_know 28 (b := true) hb4 (by kernel_rfl) (by kernel_rfl) ?_
          refine TS_T (by kernel_rfl) rfl ?_
          refine TS_go 7 ?_
          have ret := Option.some.inj h
          subst ret
          exact TS_ret (by kernel_rfl) (by kernel_rfl) (by kernel_rfl)
        · refine TS_know 27 (b := false) hb4 (by kernel_rfl) (by kernel_rfl) ?_
          refine TS_know 28 (b := false) hb4 (by kernel_rfl) (by kernel_rfl) ?_
          refine TS_F (by kernel_rfl) rfl ?_
          refine TS_go 13 ?_
          replace h := bindO h
          obtain ⟨l5, hl5, h⟩ := h
          refine TS_sub (ecI .u8) 1 hl5 (by kernel_rfl) (by kernel_rfl) ?_
          refine TS_go 4 ?_
          refine TS_cut ⟨[(8, []), (34, []), (35, []), (36, [])], []⟩ (.mk [.code (codeAt [1, 1, 1, 0, 1, 0] (bodyOf Try.f48)), .blk 0, .code (codeAt [1, 1, 1, 1] (bodyOf Try.f48))] .normal ⟨[(8, .c (.lit (.int .u64 (0)))), (34, .c (.slc 1 0 (List.length l5) (List.map (ecI .u8) l5))), (35, .c (.lit (.int .i64 ((List.length l5 : Int))))), (36, .c (.lit (.int .i64 (0))))], []⟩) (by kernel_rfl) (by kernel_rfl) ?_
          replace h := bindO h
          obtain ⟨y8, hl1, hK1⟩ := h
          refine TS_loopB (F_octets_Uint_l1 l5) ⟨[(8, []), (34, []), (35, []), (36, [])], []⟩ (fun (s6 : Int × Int) => [(8, .c (.lit (.int .u64 (s6.1)))), (36, .c (.lit (.int .i64 (s6.2))))]) (fun (s6 : Int × Int) => []) (0, 0) y8 (.exit 0) (fun (b : Int) => b) ⟨[(8, [])], []⟩ (fun (b7 : Int) => [(8, .c (.lit (.int .u64 (b7))))]) (fun (b7 : Int) => []) hl1 (by kernel_rfl) (by kernel_rfl) ?_ ?_
          · intro s6 x h hy1
            unfold F_octets_Uint_l1 at h
            refine TS_go 5 ?_
            replace h := condO h
            rcases h with ⟨hb9, h⟩ | ⟨hb9, h⟩
            · refine TS_know 37 (b := true) hb9 (by kernel_rfl) (by kernel_rfl) ?_
              refine TS_T (by kernel_rfl) rfl ?_
              refine TS_go 5 ?_
              replace h := bindO h
              obtain ⟨_e10, he10, h⟩ := h
              refine TS_idx (ecI .u8) he10 (by kernel_rfl) (by kernel_rfl) ?_
              refine TS_go 16 ?_
              have ret := Option.some.inj h
              subst ret
              exact TS_againB _ ⟨[(8, []), (34, []), (35, []), (36, [])], []⟩ rfl (by kernel_rfl) (by kernel_rfl)
            · refine TS_know 37 (b := false) hb9 (by kernel_rfl) (by kernel_rfl) ?_
              refine TS_F (by kernel_rfl) rfl ?_
              refine TS_go 2 ?_
              have ret := Option.some.inj h
              subst ret
              exact TS_brkB s6.1 ⟨[(8, [])], []⟩ rfl (by kernel_rfl) (by kernel_rfl) (by kernel_rfl)
          · intro b7 hb
            subst y8
            have h := hK1
            refine TS_go 8 ?_
            have ret := Option.some.inj h
            subst ret
            exact TS_ret (by kernel_rfl) (by kernel_rfl) (by kernel_rfl)

/-- multihop/messages.read1 -/
noncomputable def F_messages_read_1_R472 (a0 : Int) (a1 : Int) (a2 : List Int) : Option (Int) :=
  (F_octets_Uint a2 a0 a1).bind fun v1 =>
  some (v1.1)
set_option maxRecDepth 100000 in
set_option maxHeartbeats 40000000 in
theorem ok_messages_read_1_R472 (a0 : Int) (a1 : Int) (a2 : List Int) (r : Int) (h : F_messages_read_1_R472 a0 a1 a2 = some r) : Con Try.prog 71 [.c (.lit (.int .i64 (a0))), .c (.lit (.int .i64 (a1))), .c (.ref ([eS 1 (ecI .u8) (a2)]))] [] (.c (.lit (.int .u64 (r)))) [] := by
  unfold F_messages_read_1_R472 at h
  refine con_of [] [] 16 Try.func71 rfl rfl (by kernel_rfl) (fun K => ?_)
  refine TS_go 9 ?_
  replace h := bindO h
  obtain ⟨v1, hv1, h⟩ := h
  refine TS_call [] (ok_octets_Uint a2 a0 a1 v1 hv1) (by kernel_rfl) (by kernel_rfl) ?_
  refine TS_go 12 ?_
  have ret := Option.some.inj h
  subst ret
  exact TS_ret (by kernel_rfl) (by kernel_rfl) (by kernel_rfl)

/-- multihop/messages.prefixes -/
noncomputable def F_messages_prefixes (a0 : S_Notice) (a1 : Int) (a2 : Int) (a3 : Int) (a4 : List Int) (a5 : List Int) (a6 : Int) : Option (S_Notice × Bool) :=
  bif (decide (a1 > 128)) then
    some (((S_Notice.mk 0 0 0 0 (S_Destination.mk (S_Prefix.mk [0, 0, 0, 0, 0, 0, 0, 0, 0, 0, 0, 0, 0, 0, 0, 0] 0) (S_Prefix.mk [0, 0, 0, 0, 0, 0, 0, 0, 0, 0, 0, 0, 0, 0, 0, 0] 0) 0) 0), false))
  else
    bif (decide (a2 > 128)) then
      some (((S_Notice.mk 0 0 0 0 (S_Destination.mk (S_Prefix.mk [0, 0, 0, 0, 0, 0, 0, 0, 0, 0, 0, 0, 0, 0, 0, 0] 0) (S_Prefix.mk [0, 0, 0, 0, 0, 0, 0, 0, 0, 0, 0, 0, 0, 0, 0, 0] 0) 0) 0), false))
    else
      (F_messages_size (IntKind.wrap .i64 a1)).bind fun v3 =>
      bif (decide (a3 > (IntKind.wrap .u64 v3))) then
        some (((S_Notice.mk 0 0 0 0 (S_Destination.mk (S_Prefix.mk [0, 0, 0, 0, 0, 0, 0, 0, 0, 0, 0, 0, 0, 0, 0, 0] 0) (S_Prefix.mk [0, 0, 0, 0, 0, 0, 0, 0, 0, 0, 0, 0, 0, 0, 0, 0] 0) 0) 0), false))
      else
        bif (decide ((List.length a5 : Int) < a6)) then
          some (((S_Notice.mk 0 0 0 0 (S_Destination.mk (S_Prefix.mk [0, 0, 0, 0, 0, 0, 0, 0, 0, 0, 0, 0, 0, 0, 0, 0] 0) (S_Prefix.mk [0, 0, 0, 0, 0, 0, 0, 0, 0, 0, 0, 0, 0, 0, 0, 0] 0) 0) 0), false))
        else
          (F_messages_size (IntKind.wrap .i64 a1)).bind fun v6 =>
          (F_messages_size (IntKind.wrap .i64 a2)).bind fun v7 =>
          bif ((List.length a5 : Int) != (IntKind.wrap .i64 ((IntKind.wrap .i64 (a6 + (IntKind.wrap .i64 (v6 - (IntKind.wrap .i64 a3))))) + v7))) then
            some (((S_Notice.mk 0 0 0 0 (S_Destination.mk (S_Prefix.mk [0, 0, 0, 0, 0, 0, 0, 0, 0, 0, 0, 0, 0, 0, 0, 0] 0) (S_Prefix.mk [0, 0, 0, 0, 0, 0, 0, 0, 0, 0, 0, 0, 0, 0, 0, 0] 0) 0) 0), false))
          else
            (subO (arrL 16 a4) 0 (IntKind.wrap .i64 a3)).bind fun l9 =>
            bif decide ((0 : Int) ≤ (IntKind.wrap .i64 a3) ∧ (IntKind.wrap .i64 a3) ≤ (16 : Int) ∧ (16 : Int) ≤ (16 : Int)) then
              (subO a5 a6 (IntKind.wrap .i64 (a6 + (IntKind.wrap .i64 (v6 - (IntKind.wrap .i64 a3)))))).bind fun l11 =>
              bif decide ((Int.toNat (IntKind.wrap .i64 a3)) + (Int.toNat (16 : Int) - Int.toNat (IntKind.wrap .i64 a3)) ≤ 16) then
                (subO a5 (IntKind.wrap .i64 (a6 + (IntKind.wrap .i64 (v6 - (IntKind.wrap .i64 a3))))) (List.length a5 : Int)).bind fun l13 =>
                some (((S_Notice.mk a0.Kind a0.Seq a0.Metric a0.Neighbour (S_Destination.mk (S_Prefix.mk (cpAt 16 (cpA 16 a0.To.Dst.IP (Cut.app .whole l9)) (Int.toNat (IntKind.wrap .i64 a3)) (Int.toNat (16 : Int) - Int.toNat (IntKind.wrap .i64 a3)) (Cut.app .whole l11)) (IntKind.wrap .i64 a1)) (S_Prefix.mk (cpA 16 a0.To.Src.IP (Cut.app .whole l13)) (IntKind.wrap .i64 a2)) a0.To.Router) a0.Hops), true))
              else none
            else none
set_option maxRecDepth 100000 in
set_option maxHeartbeats 40000000 in
theorem ok_messages_prefixes (a0 : S_Notice) (a1 : Int) (a2 : Int) (a3 : Int) (a4 : List Int) (a5 : List Int) (a6 : Int) (r : S_Notice × Bool) (h : F_messages_prefixes a0 a1 a2 a3 a4 a5 a6 = some r) : Con Try.prog 72 [.agg (S_Notice.cs a0), .c (.lit (.int .u64 (a1))), .c (.lit (.int .u64 (a2))), .c (.lit (.int .u64 (a3))), .agg (arrS .u8 16 a4), .c (eS 1 (ecI .u8) (a5)), .c (.lit (.int .i64 (a6)))] [] (.tup [(true, S_Notice.cs r.1), (false, [.lit (.bool (r.2))])]) [] := by
  unfold F_messages_prefixes at h
  refine con_of [] [] 98 Try.func72 rfl rfl (by kernel_rfl) (fun K => ?_)
  refine TS_go 3 ?_
  refine TS_boxF (cs := [.lit (.int .u8 ((a4.getD 0 0))), .lit (.int .u8 ((a4.getD 1 0))), .lit (.int .u8 ((a4.getD 2 0))), .lit (.int .u8 ((a4.getD 3 0))), .lit (.int .u8 ((a4.getD 4 0))), .lit (.int .u8 ((a4.getD 5 0))), .lit (.int .u8 ((a4.getD 6 0))), .lit (.int .u8 ((a4.getD 7 0))), .lit (.int .u8 ((a4.getD 8 0))), .lit (.int .u8 ((a4.getD 9 0))), .lit (.int .u8 ((a4.getD 10 0))), .lit (.int .u8 ((a4.getD 11 0))), .lit (.int .u8 ((a4.getD 12 0))), .lit (.int .u8 ((a4.getD 13 0))), .lit (.int .u8 ((a4.getD 14 0))), .lit (.int .u8 ((a4.getD 15 0)))]) (by kernel_rfl) (by kernel_rfl) ?_
  refine TS_go 9 ?_
  replace h := condO h
  rcases h with ⟨hb1, h⟩ | ⟨hb1, h⟩
  · refine TS_know 19 (b := true) hb1 (by kernel_rfl) (by kernel_rfl) ?_
    refine TS_know 20 (b := true) hb1 (by kernel_rfl) (by kernel_rfl) ?_
    refine TS_go 18 ?_
    refine TS_T (by kernel_rfl) rfl ?_
    refine TS_go 8 ?_
    have ret := Option.some.inj h
    subst ret
    exact TS_ret (by kernel_rfl) (by kernel_rfl) (by kernel_rfl)
  · refine TS_know 19 (b := false) hb1 (by kernel_rfl) (by kernel_rfl) ?_
    refine TS_know 20 (b := false) hb1 (by kernel_rfl) (by kernel_rfl) ?_
    refine TS_go 4 ?_
    replace h := condO h
    rcases h with ⟨hb2, h⟩ | ⟨hb2, h⟩
    · refine TS_know 22 (b := true) hb2 (by kernel_rfl) (by kernel_rfl) ?_
      refine TS_know 23 (b := true) hb2 (by kernel_rfl) (by kernel_rfl) ?_
      refine TS_know 24 (b := true) hb2 (by kernel_rfl) (by kernel_rfl) ?_
      refine TS_go 14 ?_
      refine TS_T (by kernel_rfl) rfl ?_
      refine TS_go 8 ?_
      have ret := Option.some.inj h
      subst ret
      exact TS_ret (by kernel_rfl) (by kernel_rfl) (by kernel_rfl)
    · refine TS_know 22 (b := false) hb2 (by kernel_rfl) (by kernel_rfl) ?_
      refine TS_know 23 (b := false) hb2 (by kernel_rfl) (by kernel_rfl) ?_
      refine TS_know 24 (b := false) hb2 (by kernel_rfl) (by kernel_rfl) ?_
      refine TS_go 3 ?_
      replace h := bindO h
      obtain ⟨v3, hv3, h⟩ := h
      refine TS_call [] (ok_messages_size (IntKind.wrap .i64 a1) v3 hv3) (by kernel_rfl) (by kernel_rfl) ?_
      refine TS_go 4 ?_
      replace h := condO h
      rcases h with ⟨hb4, h⟩ | ⟨hb4, h⟩
      · refine TS_know 30 (b := true) hb4 (by kernel_rfl) (by kernel_rfl) ?_
        refine TS_know 31 (b := true) hb4 (by kernel_rfl) (by kernel_rfl) ?_
        refine TS_know 32 (b := true) hb4 (by kernel_rfl) (by kernel_rfl) ?_
        refine TS_go 6 ?_
        refine TS_T (by kernel_rfl) rfl ?_
        refine TS_go 8 ?_
        have ret := Option.some.inj h
        subst ret
        exact TS_ret (by kernel_rfl) (by kernel_rfl) (by kernel_rfl)
      · refine TS_know 30 (b := false) hb4 (by kernel_rfl) (by kernel_rfl) ?_
        refine TS_know 31 (b := false) hb4 (by kernel_rfl) (by kernel_rfl) ?_
        refine TS_know 32 (b := false) hb4 (by kernel_rfl) (by kernel_rfl) ?_
        refine TS_go 6 ?_
        replace h := condO h
        rcases h with ⟨hb5, h⟩ | ⟨hb5, h⟩
        · refine TS_know 36 (b := true) hb5 (by kernel_rfl) (by kernel_rfl) ?_
          refine TS_know 37 (b := true) hb5 (by kernel_rfl) (by kernel_rfl) ?_
          refine TS_T (by kernel_rfl) rfl ?_
          refine TS_go 8 ?_
          have ret := Option.some.inj h
          subst ret
          exact TS_ret (by kernel_rfl) (by kernel_rfl) (by kernel_rfl)
        · refine TS_know 36 (b := false) hb5 (by kernel_rfl) (by kernel_rfl) ?_
          refine TS_know 37 (b := false) hb5 (by kernel_rfl) (by kernel_rfl) ?_
          refine TS_F (by kernel_rfl) rfl ?_
          refine TS_go 7 ?_
          replace h := bindO h
          obtain ⟨v6, hv6, h⟩ := h
          refine TS_call [] (ok_messages_size (IntKind.wrap .i64 a1) v6 hv6) (by kernel_rfl) (by kernel_rfl) ?_
          refine TS_go 16 ?_
          replace h := bindO h
          obtain ⟨v7, hv7, h⟩ := h
          refine TS_call [] (ok_messages_size (IntKind.wrap .i64 a2) v7 hv7) (by kernel_rfl) (by kernel_rfl) ?_
          refine TS_go 3 ?_
          replace h := condO h
          rcases h with ⟨hb8, h⟩ | ⟨hb8, h⟩
          · refine TS_know 56 (b := true) hb8 (by kernel_rfl) (by kernel_rfl) ?_
            refine TS_T (by kernel_rfl) rfl ?_
            refine TS_go 8 ?_
            have ret := Option.some.inj h
            subst ret
            exact TS_ret (by kernel_rfl) (by kernel_rfl) (by kernel_rfl)
          · refine TS_know 56 (b := false) hb8 (by kernel_rfl) (by kernel_rfl) ?_
            refine TS_F (by kernel_rfl) rfl ?_
            refine TS_go 17 ?_
            refine TS_draw (by kernel_rfl) ?_
            refine TD_go 3 ?_
            refine TD_win 7 4 16 (a := 0) (b := 16) (by decide) (by decide) (by kernel_rfl) (by kernel_rfl) ?_
            refine TD_go 1 ?_
            replace h := bindO h
            obtain ⟨l9, hl9, h⟩ := h
            refine TD_slF (k := .u8) (a := 0) (b := IntKind.wrap .i64 a3) 16 a4 (by decide) hl9 (by kernel_rfl) (by kernel_rfl) ?_
            refine TD_cpW (k := .u8) 7 4 16 a0.To.Dst.IP l9 .whole (pre := [.lit (.int .i64 (a0.Kind)), .lit (.int .u16 (a0.Seq)), .lit (.int .i64 (a0.Metric)), .lit (.int .u64 (a0.Neighbour))]) (post := [.lit (.int .i64 (IntKind.wrap .i64 a1)), .lit (.int .u8 ((a0.To.Src.IP.getD 0 0))), .lit (.int .u8 ((a0.To.Src.IP.getD 1 0))), .lit (.int .u8 ((a0.To.Src.IP.getD 2 0))), .lit (.int .u8 ((a0.To.Src.IP.getD 3 0))), .lit (.int .u8 ((a0.To.Src.IP.getD 4 0))), .lit (.int .u8 ((a0.To.Src.IP.getD 5 0))), .lit (.int .u8 ((a0.To.Src.IP.getD 6 0))), .lit (.int .u8 ((a0.To.Src.IP.getD 7 0))), .lit (.int .u8 ((a0.To.Src.IP.getD 8 0))), .lit (.int .u8 ((a0.To.Src.IP.getD 9 0))), .lit (.int .u8 ((a0.To.Src.IP.getD 10 0))), .lit (.int .u8 ((a0.To.Src.IP.getD 11 0))), .lit (.int .u8 ((a0.To.Src.IP.getD 12 0))), .lit (.int .u8 ((a0.To.Src.IP.getD 13 0))), .lit (.int .u8 ((a0.To.Src.IP.getD 14 0))), .lit (.int .u8 ((a0.To.Src.IP.getD 15 0))), .lit (.int .i64 (IntKind.wrap .i64 a2)), .lit (.int .u64 (a0.To.Router)), .lit (.int .i64 (a0.Hops))]) (by kernel_rfl) (by kernel_rfl) (by kernel_rfl) ?_
            refine TD_end (by kernel_rfl) ?_
            refine TS_go 1 ?_
            refine TS_draw (by kernel_rfl) ?_
            refine TD_go 4 ?_
            replace h := chkO h
            obtain ⟨hc10, h⟩ := h
            refine TD_win 7 4 16 (a := IntKind.wrap .i64 a3) (b := (16 : Int)) hc10 (by decide) (by kernel_rfl) (by kernel_rfl) ?_
            refine TD_go 5 ?_
            replace h := bindO h
            obtain ⟨l11, hl11, h⟩ := h
            refine TD_sub (ecI .u8) 1 hl11 (by kernel_rfl) (by kernel_rfl) ?_
            replace h := chkO h
            obtain ⟨hc12, h⟩ := h
            refine TD_cpV (k := .u8) 7 4 16 (Int.toNat (IntKind.wrap .i64 a3)) (Int.toNat (16 : Int) - Int.toNat (IntKind.wrap .i64 a3)) (cpA 16 a0.To.Dst.IP (Cut.app .whole l9)) l11 .whole (pre := [.lit (.int .i64 (a0.Kind)), .lit (.int .u16 (a0.Seq)), .lit (.int .i64 (a0.Metric)), .lit (.int .u64 (a0.Neighbour))]) (post := [.lit (.int .i64 (IntKind.wrap .i64 a1)), .lit (.int .u8 ((a0.To.Src.IP.getD 0 0))), .lit (.int .u8 ((a0.To.Src.IP.getD 1 0))), .lit (.int .u8 ((a0.To.Src.IP.getD 2 0))), .lit (.int .u8 ((a0.To.Src.IP.getD 3 0))), .lit (.int .u8 ((a0.To.Src.IP.getD 4 0))), .lit (.int .u8 ((a0.To.Src.IP.getD 5 0))), .lit (.int .u8 ((a0.To.Src.IP.getD 6 0))), .lit (.int .u8 ((a0.To.Src.IP.getD 7 0))), .lit (.int .u8 ((a0.To.Src.IP.getD 8 0))), .lit (.int .u8 ((a0.To.Src.IP.getD 9 0))), .lit (.int .u8 ((a0.To.Src.IP.getD 10 0))), .lit (.int .u8 ((a0.To.Src.IP.getD 11 0))), .lit (.int .u8 ((a0.To.Src.IP.getD 12 0))), .lit (.int .u8 ((a0.To.Src.IP.getD 13 0))), .lit (.int .u8 ((a0.To.Src.IP.getD 14 0))), .lit (.int .u8 ((a0.To.Src.IP.getD 15 0))), .lit (.int .i64 (IntKind.wrap .i64 a2)), .lit (.int .u64 (a0.To.Router)), .lit (.int .i64 (a0.Hops))]) (by kernel_rfl) hc12 (by kernel_rfl) (by kernel_rfl) ?_
            refine TD_end (by kernel_rfl) ?_
            refine TS_go 1 ?_
            refine TS_draw (by kernel_rfl) ?_
            refine TD_go 3 ?_
            refine TD_win 7 21 16 (a := 0) (b := 16) (by decide) (by decide) (by kernel_rfl) (by kernel_rfl) ?_
            refine TD_go 4 ?_
            replace h := bindO h
            obtain ⟨l13, hl13, h⟩ := h
            refine TD_sub (ecI .u8) 1 hl13 (by kernel_rfl) (by kernel_rfl) ?_
            refine TD_cpW (k := .u8) 7 21 16 a0.To.Src.IP l13 .whole (pre := [.lit (.int .i64 (a0.Kind)), .lit (.int .u16 (a0.Seq)), .lit (.int .i64 (a0.Metric)), .lit (.int .u64 (a0.Neighbour)), .lit (.int .u8 (((cpAt 16 (cpA 16 a0.To.Dst.IP (Cut.app .whole l9)) (Int.toNat (IntKind.wrap .i64 a3)) (Int.toNat (16 : Int) - Int.toNat (IntKind.wrap .i64 a3)) (Cut.app .whole l11)).getD 0 0))), .lit (.int .u8 (((cpAt 16 (cpA 16 a0.To.Dst.IP (Cut.app .whole l9)) (Int.toNat (IntKind.wrap .i64 a3)) (Int.toNat (16 : Int) - Int.toNat (IntKind.wrap .i64 a3)) (Cut.app .whole l11)).getD 1 0))), .lit (.int .u8 (((cpAt 16 (cpA 16 a0.To.Dst.IP (Cut.app .whole l9)) (Int.toNat (IntKind.wrap .i64 a3)) (Int.toNat (16 : Int) - Int.toNat (IntKind.wrap .i64 a3)) (Cut.app .whole l11)).getD 2 0))), .lit (.int .u8 (((cpAt 16 (cpA 16 a0.To.Dst.IP (Cut.app .whole l9)) (Int.toNat (IntKind.wrap .i64 a3)) (Int.toNat (16 : Int) - Int.toNat (IntKind.wrap .i64 a3)) (Cut.app .whole l11)).getD 3 0))), .lit (.int .u8 (((cpAt 16 (cpA 16 a0.To.Dst.IP (Cut.app .whole l9)) (Int.toNat (IntKind.wrap .i64 a3)) (Int.toNat (16 : Int) - Int.toNat (IntKind.wrap .i64 a3)) (Cut.app .whole l11)).getD 4 0))), .lit (.int .u8 (((cpAt 16 (cpA 16 a0.To.Dst.IP (Cut.app .whole l9)) (Int.toNat (IntKind.wrap .i64 a3)) (Int.toNat (16 : Int) - Int.toNat (IntKind.wrap .i64 a3)) (Cut.app .whole l11)).getD 5 0))), .lit (.int .u8 (((cpAt 16 (cpA 16 a0.To.Dst.IP (Cut.app .whole l9)) (Int.toNat (IntKind.wrap .i64 a3)) (Int.toNat (16 : Int) - Int.toNat (IntKind.wrap .i64 a3)) (Cut.app .whole l11)).getD 6 0))), .lit (.int .u8 (((cpAt 16 (cpA 16 a0.To.Dst.IP (Cut.app .whole l9)) (Int.toNat (IntKind.wrap .i64 a3)) (Int.toNat (16 : Int) - Int.toNat (IntKind.wrap .i64 a3)) (Cut.app .whole l11)).getD 7 0))), .lit (.int .u8 (((cpAt 16 (cpA 16 a0.To.Dst.IP (Cut.app .whole l9)) (Int.toNat (IntKind.wrap .i64 a3)) (Int.toNat (16 : Int) - Int.toNat (IntKind.wrap .i64 a3)) (Cut.app .whole l11)).getD 8 0))), .lit (.int .u8 (((cpAt 16 (cpA 16 a0.To.Dst.IP (Cut.app .whole l9)) (Int.toNat (IntKind.wrap .i64 a3)) (Int.toNat (16 : Int) - Int.toNat (IntKind.wrap .i64 a3)) (Cut.app .whole l11)).getD 9 0))), .lit (.int .u8 (((cpAt 16 (cpA 16 a0.To.Dst.IP (Cut.app .whole l9)) (Int.toNat (IntKind.wrap .i64 a3)) (Int.toNat (16 : Int) - Int.toNat (IntKind.wrap .i64 a3)) (Cut.app .whole l11)).getD 10 0))), .lit (.int .u8 (((cpAt 16 (cpA 16 a0.To.Dst.IP (Cut.app .whole l9)) (Int.toNat (IntKind.wrap .i64 a3)) (Int.toNat (16 : Int) - Int.toNat (IntKind.wrap .i64 a3)) (Cut.app .whole l11)).getD 11 0))), .lit (.int .u8 (((cpAt 16 (cpA 16 a0.To.Dst.IP (Cut.app .whole l9)) (Int.toNat (IntKind.wrap .i64 a3)) (Int.toNat (16 : Int) - Int.toNat (IntKind.wrap .i64 a3)) (Cut.app .whole l11)).getD 12 0))), .lit (.int .u8 (((cpAt 16 (cpA 16 a0.To.Dst.IP (Cut.app .whole l9)) (Int.toNat (IntKind.wrap .i64 a3)) (Int.toNat (16 : Int) - Int.toNat (IntKind.wrap .i64 a3)) (Cut.app .whole l11)).getD 13 0))), .lit (.int .u8 (((cpAt 16 (cpA 16 a0.To.Dst.IP (Cut.app .whole l9)) (Int.toNat (IntKind.wrap .i64 a3)) (Int.toNat (16 : Int) - Int.toNat (IntKind.wrap .i64 a3)) (Cut.app .whole l11)).getD 14 0))), .lit (.int .u8 (((cpAt 16 (cpA 16 a0.To.Dst.IP (Cut.app .whole l9)) (Int.toNat (IntKind.wrap .i64 a3)) (Int.toNat (16 : Int) - Int.toNat (IntKind.wrap .i64 a3)) (Cut.app .whole l11)).getD 15 0))), .lit (.int .i64 (IntKind.wrap .i64 a1))]) (post := [.lit (.int .i64 (IntKind.wrap .i64 a2)), .lit (.int .u64 (a0.To.Router)), .lit (.int .i64 (a0.Hops))]) (by kernel_rfl) (by kernel_rfl) (by kernel_rfl) ?_
            refine TD_end (by kernel_rfl) ?_
            refine TS_go 7 ?_
            have ret := Option.some.inj h
            subst ret
            exact TS_ret (by kernel_rfl) (by kernel_rfl) (by kernel_rfl)

/-- multihop/messages.read -/
noncomputable def F_messages_read (a0 : Int) (a1 : List Int) (a2 : S_messages_state) : Option (S_Notice × Bool) :=
  bif (a0 == 1) then
    (F_messages_read_1_R472 0 2 a1).bind fun v2 =>
    some (((S_Notice.mk 1 (IntKind.wrap .u16 v2) 0 0 (S_Destination.mk (S_Prefix.mk [0, 0, 0, 0, 0, 0, 0, 0, 0, 0, 0, 0, 0, 0, 0, 0] 0) (S_Prefix.mk [0, 0, 0, 0, 0, 0, 0, 0, 0, 0, 0, 0, 0, 0, 0, 0] 0) 0) 0), true))
  else
    bif (a0 == 2) then
      (F_messages_read_1_R472 0 8 a1).bind fun v4 =>
      (F_messages_read_1_R472 8 2 a1).bind fun v5 =>
      some (((S_Notice.mk 2 0 (IntKind.wrap .i64 v5) v4 (S_Destination.mk (S_Prefix.mk [0, 0, 0, 0, 0, 0, 0, 0, 0, 0, 0, 0, 0, 0, 0, 0] 0) (S_Prefix.mk [0, 0, 0, 0, 0, 0, 0, 0, 0, 0, 0, 0, 0, 0, 0, 0] 0) 0) 0), true))
    else
      bif (a0 == 3) then
        (F_messages_read_1_R472 3 2 a1).bind fun v7 =>
        (F_messages_read_1_R472 5 2 a1).bind fun v8 =>
        (F_messages_read_1_R472 1 1 a1).bind fun v9 =>
        (F_messages_read_1_R472 2 1 a1).bind fun v10 =>
        (F_messages_read_1_R472 0 1 a1).bind fun v11 =>
        (F_messages_prefixes (S_Notice.mk 3 (IntKind.wrap .u16 v7) (IntKind.wrap .i64 v8) 0 (S_Destination.mk (S_Prefix.mk [0, 0, 0, 0, 0, 0, 0, 0, 0, 0, 0, 0, 0, 0, 0, 0] 0) (S_Prefix.mk [0, 0, 0, 0, 0, 0, 0, 0, 0, 0, 0, 0, 0, 0, 0, 0] 0) a2.router) 0) v9 v10 v11 a2.dst a1 7).bind fun v12 =>
        some ((v12.1, v12.2))
      else
        bif (a0 == 4) then
          (F_messages_read_1_R472 0 1 a1).bind fun v14 =>
          (F_messages_read_1_R472 1 1 a1).bind fun v15 =>
          (F_messages_prefixes (S_Notice.mk 4 0 0 0 (S_Destination.mk (S_Prefix.mk [0, 0, 0, 0, 0, 0, 0, 0, 0, 0, 0, 0, 0, 0, 0, 0] 0) (S_Prefix.mk [0, 0, 0, 0, 0, 0, 0, 0, 0, 0, 0, 0, 0, 0, 0, 0] 0) 0) 0) v14 v15 0 a2.dst a1 2).bind fun v16 =>
          some ((v16.1, v16.2))
        else
          bif (a0 == 5) then
            (F_messages_read_1_R472 2 2 a1).bind fun v18 =>
            (F_messages_read_1_R472 4 1 a1).bind fun v19 =>
            (F_messages_read_1_R472 5 8 a1).bind fun v20 =>
            (F_messages_read_1_R472 0 1 a1).bind fun v21 =>
            (F_messages_read_1_R472 1 1 a1).bind fun v22 =>
            (F_messages_prefixes (S_Notice.mk 5 (IntKind.wrap .u16 v18) 0 0 (S_Destination.mk (S_Prefix.mk [0, 0, 0, 0, 0, 0, 0, 0, 0, 0, 0, 0, 0, 0, 0, 0] 0) (S_Prefix.mk [0, 0, 0, 0, 0, 0, 0, 0, 0, 0, 0, 0, 0, 0, 0, 0] 0) v20) (IntKind.wrap .i64 v19)) v21 v22 0 a2.dst a1 13).bind fun v23 =>
            some ((v23.1, v23.2))
          else
            some (((S_Notice.mk 0 0 0 0 (S_Destination.mk (S_Prefix.mk [0, 0, 0, 0, 0, 0, 0, 0, 0, 0, 0, 0, 0, 0, 0, 0] 0) (S_Prefix.mk [0, 0, 0, 0, 0, 0, 0, 0, 0, 0, 0, 0, 0, 0, 0, 0] 0) 0) 0), false))
set_option maxRecDepth 100000 in
set_option maxHeartbeats 40000000 in
theorem ok_messages_read (a0 : Int) (a1 : List Int) (a2 : S_messages_state) (r : S_Notice × Bool) (h : F_messages_read a0 a1 a2 = some r) : Con Try.prog 64 [.c (.lit (.int .u8 (a0))), .c (eS 1 (ecI .u8) (a1)), .agg (S_messages_state.cs a2)] [] (.tup [(true, S_Notice.cs r.1), (false, [.lit (.bool (r.2))])]) [] := by
  unfold F_messages_read at h
  refine con_of [] [] 93 Try.func64 rfl rfl (by kernel_rfl) (fun K => ?_)
  refine TS_go 2 ?_
  refine TS_boxF (cs := [.slc 1 0 (List.length a1) (List.map (ecI .u8) a1)]) (by kernel_rfl) (by kernel_rfl) ?_
  refine TS_go 6 ?_
  refine TS_mkf (f := 71) (cs := [.ref [.slc 1 0 (List.length a1) (List.map (ecI .u8) a1)]]) (by kernel_rfl) (by kernel_rfl) ?_
  refine TS_go 13 ?_
  replace h := condO h
  rcases h with ⟨hb1, h⟩ | ⟨hb1, h⟩
  · refine TS_know 15 (b := true) hb1 (by kernel_rfl) (by kernel_rfl) ?_
    refine TS_know 14 (b := true) hb1 (by kernel_rfl) (by kernel_rfl) ?_
    refine TS_T (by kernel_rfl) rfl ?_
    refine TS_go 3 ?_
    replace h := bindO h
    obtain ⟨v2, hv2, h⟩ := h
    refine TS_call [] (ok_messages_read_1_R472 0 2 a1 v2 hv2) (by kernel_rfl) (by kernel_rfl) ?_
    refine TS_go 8 ?_
    have ret := Option.some.inj h
    subst ret
    exact TS_ret (by kernel_rfl) (by kernel_rfl) (by kernel_rfl)
  · refine TS_know 15 (b := false) hb1 (by kernel_rfl) (by kernel_rfl) ?_
    refine TS_know 14 (b := false) hb1 (by kernel_rfl) (by kernel_rfl) ?_
    refine TS_F (by kernel_rfl) rfl ?_
    refine TS_go 5 ?_
    replace h := condO h
    rcases h with ⟨hb3, h⟩ | ⟨hb3, h⟩
    · refine TS_know 21 (b := true) hb3 (by kernel_rfl) (by kernel_rfl) ?_
      refine TS_know 20 (b := true) hb3 (by kernel_rfl) (by kernel_rfl) ?_
      refine TS_T (by kernel_rfl) rfl ?_
      refine TS_go 3 ?_
      replace h := bindO h
      obtain ⟨v4, hv4, h⟩ := h
      refine TS_call [] (ok_messages_read_1_R472 0 8 a1 v4 hv4) (by kernel_rfl) (by kernel_rfl) ?_
      refine TS_go 1 ?_
      replace h := bindO h
      obtain ⟨v5, hv5, h⟩ := h
      refine TS_call [] (ok_messages_read_1_R472 8 2 a1 v5 hv5) (by kernel_rfl) (by kernel_rfl) ?_
      refine TS_go 8 ?_
      have ret := Option.some.inj h
      subst ret
      exact TS_ret (by kernel_rfl) (by kernel_rfl) (by kernel_rfl)
    · refine TS_know 21 (b := false) hb3 (by kernel_rfl) (by kernel_rfl) ?_
      refine TS_know 20 (b := false) hb3 (by kernel_rfl) (by kernel_rfl) ?_
      refine TS_F (by kernel_rfl) rfl ?_
      refine TS_go 5 ?_
      replace h := condO h
      rcases h with ⟨hb6, h⟩ | ⟨hb6, h⟩
      · refine TS_know 29 (b := true) hb6 (by kernel_rfl) (by kernel_rfl) ?_
        refine TS_know 28 (b := true) hb6 (by kernel_rfl) (by kernel_rfl) ?_
        refine TS_T (by kernel_rfl) rfl ?_
        refine TS_go 3 ?_
        replace h := bindO h
        obtain ⟨v7, hv7, h⟩ := h
        refine TS_call [] (ok_messages_read_1_R472 3 2 a1 v7 hv7) (by kernel_rfl) (by kernel_rfl) ?_
        refine TS_go 2 ?_
        replace h := bindO h
        obtain ⟨v8, hv8, h⟩ := h
        refine TS_call [] (ok_messages_read_1_R472 5 2 a1 v8 hv8) (by kernel_rfl) (by kernel_rfl) ?_
        refine TS_go 14 ?_
        refine TS_draw (by kernel_rfl) ?_
        refine TD_go 2 ?_
        replace h := bindO h
        obtain ⟨v9, hv9, h⟩ := h
        refine TD_call [] (ok_messages_read_1_R472 1 1 a1 v9 hv9) (by kernel_rfl) (by kernel_rfl) ?_
        refine TD_go 1 ?_
        replace h := bindO h
        obtain ⟨v10, hv10, h⟩ := h
        refine TD_call [] (ok_messages_read_1_R472 2 1 a1 v10 hv10) (by kernel_rfl) (by kernel_rfl) ?_
        refine TD_go 1 ?_
        replace h := bindO h
        obtain ⟨v11, hv11, h⟩ := h
        refine TD_call [] (ok_messages_read_1_R472 0 1 a1 v11 hv11) (by kernel_rfl) (by kernel_rfl) ?_
        refine TD_go 3 ?_
        replace h := bindO h
        obtain ⟨v12, hv12, h⟩ := h
        refine TD_call [] (ok_messages_prefixes (S_Notice.mk 3 (IntKind.wrap .u16 v7) (IntKind.wrap .i64 v8) 0 (S_Destination.mk (S_Prefix.mk [0, 0, 0, 0, 0, 0, 0, 0, 0, 0, 0, 0, 0, 0, 0, 0] 0) (S_Prefix.mk [0, 0, 0, 0, 0, 0, 0, 0, 0, 0, 0, 0, 0, 0, 0, 0] 0) a2.router) 0) v9 v10 v11 a2.dst a1 7 v12 hv12) (by kernel_rfl) (by kernel_rfl) ?_
        refine TD_go 4 ?_
        refine TD_end (by kernel_rfl) ?_
        refine TS_go 3 ?_
        have ret := Option.some.inj h
        subst ret
        exact TS_ret (by kernel_rfl) (by kernel_rfl) (by kernel_rfl)
      · refine TS_know 29 (b := false) hb6 (by kernel_rfl) (by kernel_rfl) ?_
        refine TS_know 28 (b := false) hb6 (by kernel_rfl) (by kernel_rfl) ?_
        refine TS_F (by kernel_rfl) rfl ?_
        refine TS_go 5 ?_
        replace h := condO h
        rcases h with ⟨hb13, h⟩ | ⟨hb13, h⟩
        · refine TS_know 55 (b := true) hb13 (by kernel_rfl) (by kernel_rfl) ?_
          refine TS_know 54 (b := true) hb13 (by kernel_rfl) (by kernel_rfl) ?_
          refine TS_T (by kernel_rfl) rfl ?_
          refine TS_go 7 ?_
          refine TS_draw (by kernel_rfl) ?_
          refine TD_go 2 ?_
          replace h := bindO h
          obtain ⟨v14, hv14, h⟩ := h
          refine TD_call [] (ok_messages_read_1_R472 0 1 a1 v14 hv14) (by kernel_rfl) (by kernel_rfl) ?_
          refine TD_go 1 ?_
          replace h := bindO h
          obtain ⟨v15, hv15, h⟩ := h
          refine TD_call [] (ok_messages_read_1_R472 1 1 a1 v15 hv15) (by kernel_rfl) (by kernel_rfl) ?_
          refine TD_go 3 ?_
          replace h := bindO h
          obtain ⟨v16, hv16, h⟩ := h
          refine TD_call [] (ok_messages_prefixes (S_Notice.mk 4 0 0 0 (S_Destination.mk (S_Prefix.mk [0, 0, 0, 0, 0, 0, 0, 0, 0, 0, 0, 0, 0, 0, 0, 0] 0) (S_Prefix.mk [0, 0, 0, 0, 0, 0, 0, 0, 0, 0, 0, 0, 0, 0, 0, 0] 0) 0) 0) v14 v15 0 a2.dst a1 2 v16 hv16) (by kernel_rfl) (by kernel_rfl) ?_
          refine TD_go 4 ?_
          refine TD_end (by kernel_rfl) ?_
          refine TS_go 3 ?_
          have ret := Option.some.inj h
          subst ret
          exact TS_ret (by kernel_rfl) (by kernel_rfl) (by kernel_rfl)
        · refine TS_know 55 (b := false) hb13 (by kernel_rfl) (by kernel_rfl) ?_
          refine TS_know 54 (b := false) hb13 (by kernel_rfl) (by kernel_rfl) ?_
          refine TS_F (by kernel_rfl) rfl ?_
          refine TS_go 5 ?_
          replace h := condO h
          rcases h with ⟨hb17, h⟩ | ⟨hb17, h⟩
          · refine TS_know 69 (b := true) hb17 (by kernel_rfl) (by kernel_rfl) ?_
            refine TS_know 68 (b := true) hb17 (by kernel_rfl) (by kernel_rfl) ?_
            refine TS_T (by kernel_rfl) rfl ?_
            refine TS_go 3 ?_
            replace h := bindO h
            obtain ⟨v18, hv18, h⟩ := h
            refine TS_call [] (ok_messages_read_1_R472 2 2 a1 v18 hv18) (by kernel_rfl) (by kernel_rfl) ?_
            refine TS_go 2 ?_
            replace h := bindO h
            obtain ⟨v19, hv19, h⟩ := h
            refine TS_call [] (ok_messages_read_1_R472 4 1 a1 v19 hv19) (by kernel_rfl) (by kernel_rfl) ?_
            refine TS_go 8 ?_
            replace h := bindO h
            obtain ⟨v20, hv20, h⟩ := h
            refine TS_call [] (ok_messages_read_1_R472 5 8 a1 v20 hv20) (by kernel_rfl) (by kernel_rfl) ?_
            refine TS_go 5 ?_
            refine TS_draw (by kernel_rfl) ?_
            refine TD_go 2 ?_
            replace h := bindO h
            obtain ⟨v21, hv21, h⟩ := h
            refine TD_call [] (ok_messages_read_1_R472 0 1 a1 v21 hv21) (by kernel_rfl) (by kernel_rfl) ?_
            refine TD_go 1 ?_
            replace h := bindO h
            obtain ⟨v22, hv22, h⟩ := h
            refine TD_call [] (ok_messages_read_1_R472 1 1 a1 v22 hv22) (by kernel_rfl) (by kernel_rfl) ?_
            refine TD_go 3 ?_
            replace h := bindO h
            obtain ⟨v23, hv23, h⟩ := h
            refine TD_call [] (ok_messages_prefixes (S_Notice.mk 5 (IntKind.wrap .u16 v18) 0 0 (S_Destination.mk (S_Prefix.mk [0, 0, 0, 0, 0, 0, 0, 0, 0, 0, 0, 0, 0, 0, 0, 0] 0) (S_Prefix.mk [0, 0, 0, 0, 0, 0, 0, 0, 0, 0, 0, 0, 0, 0, 0, 0] 0) v20) (IntKind.wrap .i64 v19)) v21 v22 0 a2.dst a1 13 v23 hv23) (by kernel_rfl) (by kernel_rfl) ?_
            refine TD_go 4 ?_
            refine TD_end (by kernel_rfl) ?_
            refine TS_go 3 ?_
            have ret := Option.some.inj h
            subst ret
            exact TS_ret (by kernel_rfl) (by kernel_rfl) (by kernel_rfl)
          · refine TS_know 69 (b := false) hb17 (by kernel_rfl) (by kernel_rfl) ?_
            refine TS_know 68 (b := false) hb17 (by kernel_rfl) (by kernel_rfl) ?_
            refine TS_F (by kernel_rfl) rfl ?_
            refine TS_go 9 ?_
            have ret := Option.some.inj h
            subst ret
            exact TS_ret (by kernel_rfl) (by kernel_rfl) (by kernel_rfl)

/-- multihop/messages.parse -/
noncomputable def F_messages_parse_j2 (s1 : (List Int) × (List S_Notice) × S_messages_state) (v16 : S_Notice × Bool) (l12 : List Int) (v18 : S_messages_state) : Option (((List Int) × (List S_Notice) × S_messages_state) ⊕ (((List S_Notice)) ⊕ ((List S_Notice) × Bool))) :=
  (appO 96 s1.2.1 (Cut.app .whole ([v16.1] : List S_Notice))).bind fun l19 =>
  some (Sum.inl (l12, l19, v18))
noncomputable def F_messages_parse_l1  (s1 : (List Int) × (List S_Notice) × S_messages_state) : Option (((List Int) × (List S_Notice) × S_messages_state) ⊕ (((List S_Notice)) ⊕ ((List S_Notice) × Bool))) :=
  bif (decide ((List.length s1.1 : Int) > 0)) then
    bif (decide ((List.length s1.1 : Int) < 2)) then
      some (Sum.inr (Sum.inr (([] : List S_Notice), false)))
    else
      (idx s1.1 1).bind fun e6 =>
      bif (decide ((IntKind.wrap .i64 ((List.length s1.1 : Int) - 2)) < (IntKind.wrap .i64 e6))) then
        some (Sum.inr (Sum.inr (([] : List S_Notice), false)))
      else
        bif (decide ((List.length s1.2.1 : Int) > 64)) then
          some (Sum.inr (Sum.inr (([] : List S_Notice), false)))
        else
          (idx s1.1 0).bind fun e9 =>
          (idx s1.1 1).bind fun e10 =>
          (subO s1.1 2 (IntKind.wrap .i64 (2 + (IntKind.wrap .i64 e10)))).bind fun l11 =>
          (subO s1.1 (IntKind.wrap .i64 (2 + (List.length l11 : Int))) (List.length s1.1 : Int)).bind fun l12 =>
          bif (e9 == 6) then
            (F_octets_Uint l11 0 8).bind fun v14 =>
            bif v14.2 then
              some (Sum.inl (l12, s1.2.1, (S_messages_state.mk s1.2.2.elements v14.1 s1.2.2.dst)))
            else
              some (Sum.inr (Sum.inr (([] : List S_Notice), false)))
          else
            (F_messages_read e9 l11 s1.2.2).bind fun v16 =>
            bif v16.2 then
              bif (v16.1.Kind == 3) then
                (F_messages_parse_j2 s1 v16 l12) (S_messages_state.mk s1.2.2.elements s1.2.2.router v16.1.To.Dst.IP)
              else
                (F_messages_parse_j2 s1 v16 l12) s1.2.2
            else
              some (Sum.inr (Sum.inr (([] : List S_Notice), false)))
  else
    some (Sum.inr (Sum.inl s1.2.1))
noncomputable def F_messages_parse (a0 : List Int) : Option ((List S_Notice) × Bool) :=
  (loopO (F_messages_parse_l1) (a0, ([] : List S_Notice), (S_messages_state.mk ([] : List Int) 0 [0, 0, 0, 0, 0, 0, 0, 0, 0, 0, 0, 0, 0, 0, 0, 0]))).bind (Sum.elim (fun b2 =>
    some ((b2, true))
  ) (fun w21 => some w21))
set_option maxRecDepth 100000 in
set_option maxHeartbeats 40000000 in
theorem okT_messages_parse (a0 : List Int) (r : (List S_Notice) × Bool) (h : F_messages_parse a0 = some r) : Con Try.prog 49 [.c (eS 1 (ecI .u8) (a0))] [] (.tup [(false, [.slc 40 900002 (List.length r.1) (List.map S_Notice.cs r.1)]), (false, [.lit (.bool (r.2))])]) [(900000, .spare 39 40 (List.length r.1))] := by
  unfold F_messages_parse at h
  refine con_of [] [(900000, [])] 81 Try.func49 rfl rfl (by kernel_rfl) (fun K => ?_)
  refine TS_go 15 ?_
  refine TS_nilT 4 600000 39 40 (by kernel_rfl) ?_
  refine TS_cut ⟨[(0, []), (4, []), (5, [])], [(5, (5, [])), (600000, (600000, []))]⟩ (.mk [.code (codeAt [1, 1, 1, 0, 0] (bodyOf Try.f49)), .blk 0, .code (codeAt [1, 1, 1, 1] (bodyOf Try.f49))] .normal ⟨[(0, .c (.slc 1 0 (List.length a0) (List.map (ecI .u8) a0))), (4, .c (.slc 40 600002 (List.length ([] : List S_Notice)) (List.map S_Notice.cs ([] : List S_Notice)))), (5, .c (.box 5 0))], [(5, .box [.lit (.slice none 0 0), .lit (.int .u64 (0)), .lit (.int .u8 (0)), .lit (.int .u8 (0)), .lit (.int .u8 (0)), .lit (.int .u8 (0)), .lit (.int .u8 (0)), .lit (.int .u8 (0)), .lit (.int .u8 (0)), .lit (.int .u8 (0)), .lit (.int .u8 (0)), .lit (.int .u8 (0)), .lit (.int .u8 (0)), .lit (.int .u8 (0)), .lit (.int .u8 (0)), .lit (.int .u8 (0)), .lit (.int .u8 (0)), .lit (.int .u8 (0))]), (600000, .spare 39 40 (List.length ([] : List S_Notice)))]⟩) (by kernel_rfl) (by kernel_rfl) ?_
  replace h := bindO h
  obtain ⟨y3, hl1, hK1⟩ := h
  refine TS_loopB (F_messages_parse_l1) ⟨[(0, []), (4, []), (5, [])], [(600000, (600000, [])), (5, (5, [2]))]⟩ (fun (s1 : (List Int) × (List S_Notice) × S_messages_state) => [(0, .c (eS 1 (ecI .u8) (s1.1))), (4, .c (.slc 40 600002 (List.length s1.2.1) (List.map S_Notice.cs s1.2.1)))]) (fun (s1 : (List Int) × (List S_Notice) × S_messages_state) => [(5, .box (S_messages_state.cs s1.2.2)), (600000, .spare 39 40 (List.length s1.2.1))]) (a0, ([] : List S_Notice), (S_messages_state.mk ([] : List Int) 0 [0, 0, 0, 0, 0, 0, 0, 0, 0, 0, 0, 0, 0, 0, 0, 0])) y3 (.exit 0) (fun (b : (List S_Notice)) => (Sum.inl b : ((List S_Notice)) ⊕ ((List S_Notice) × Bool))) ⟨[(4, [])], [(600000, (600000, []))]⟩ (fun (b2 : (List S_Notice)) => [(4, .c (.slc 40 600002 (List.length b2) (List.map S_Notice.cs b2)))]) (fun (b2 : (List S_Notice)) => [(600000, .spare 39 40 (List.length b2))]) hl1 (by kernel_rfl) (by kernel_rfl) ?_ ?_
  · intro s1 x h hy1
    unfold F_messages_parse_l1 at h
    refine TS_go 7 ?_
    replace h := condO h
    rcases h with ⟨hb4, h⟩ | ⟨hb4, h⟩
    · refine TS_know 14 (b := true) hb4 (by kernel_rfl) (by kernel_rfl) ?_
      refine TS_T (by kernel_rfl) rfl ?_
      refine TS_go 9 ?_
      replace h := condO h
      rcases h with ⟨hb5, h⟩ | ⟨hb5, h⟩
      · refine TS_know 17 (b := true) hb5 (by kernel_rfl) (by kernel_rfl) ?_
        refine TS_know 18 (b := true) hb5 (by kernel_rfl) (by kernel_rfl) ?_
        refine TS_go 15 ?_
        refine TS_T (by kernel_rfl) rfl ?_
        refine TS_go 5 ?_
        refine TS_nilT 2 600001 39 40 (by kernel_rfl) ?_
        refine TS_fitU ⟨[(2, []), (3, [])], [(600001, (900000, []))]⟩ (by kernel_rfl) ?_
        refine TS_go 3 ?_
        have ret := Option.some.inj h
        subst ret
        have hy1q := hy1 _ rfl
        subst hy1q
        replace h := (elimR hK1)
        refine TS_retB rfl (by kernel_rfl) ?_
        refine TS_go 2 ?_
        have ret := Option.some.inj h
        subst ret
        exact TS_ret (by kernel_rfl) (by kernel_rfl) (by kernel_rfl)
      · refine TS_know 17 (b := false) hb5 (by kernel_rfl) (by kernel_rfl) ?_
        refine TS_know 18 (b := false) hb5 (by kernel_rfl) (by kernel_rfl) ?_
        refine TS_go 4 ?_
        replace h := bindO h
        obtain ⟨_e6, he6, h⟩ := h
        refine TS_idx (ecI .u8) he6 (by kernel_rfl) (by kernel_rfl) ?_
        refine TS_go 5 ?_
        replace h := condO h
        rcases h with ⟨hb7, h⟩ | ⟨hb7, h⟩
        · refine TS_know 26 (b := true) hb7 (by kernel_rfl) (by kernel_rfl) ?_
          refine TS_know 27 (b := true) hb7 (by kernel_rfl) (by kernel_rfl) ?_
          refine TS_know 28 (b := true) hb7 (by kernel_rfl) (by kernel_rfl) ?_
          refine TS_go 5 ?_
          refine TS_T (by kernel_rfl) rfl ?_
          refine TS_go 5 ?_
          refine TS_nilT 2 600001 39 40 (by kernel_rfl) ?_
          refine TS_fitU ⟨[(2, []), (3, [])], [(600001, (900000, []))]⟩ (by kernel_rfl) ?_
          refine TS_go 3 ?_
          have ret := Option.some.inj h
          subst ret
          have hy1q := hy1 _ rfl
          subst hy1q
          replace h := (elimR hK1)
          refine TS_retB rfl (by kernel_rfl) ?_
          refine TS_go 2 ?_
          have ret := Option.some.inj h
          subst ret
          exact TS_ret (by kernel_rfl) (by kernel_rfl) (by kernel_rfl)
        · refine TS_know 26 (b := false) hb7 (by kernel_rfl) (by kernel_rfl) ?_
          refine TS_know 27 (b := false) hb7 (by kernel_rfl) (by kernel_rfl) ?_
          refine TS_know 28 (b := false) hb7 (by kernel_rfl) (by kernel_rfl) ?_
          refine TS_go 5 ?_
          replace h := condO h
          rcases h with ⟨hb8, h⟩ | ⟨hb8, h⟩
          · refine TS_know 31 (b := true) hb8 (by kernel_rfl) (by kernel_rfl) ?_
            refine TS_know 32 (b := true) hb8 (by kernel_rfl) (by kernel_rfl) ?_
            refine TS_T (by kernel_rfl) rfl ?_
            refine TS_go 5 ?_
            refine TS_nilT 2 600001 39 40 (by kernel_rfl) ?_
            refine TS_fitU ⟨[(2, []), (3, [])], [(600001, (900000, []))]⟩ (by kernel_rfl) ?_
            refine TS_go 3 ?_
            have ret := Option.some.inj h
            subst ret
            have hy1q := hy1 _ rfl
            subst hy1q
            replace h := (elimR hK1)
            refine TS_retB rfl (by kernel_rfl) ?_
            refine TS_go 2 ?_
            have ret := Option.some.inj h
            subst ret
            exact TS_ret (by kernel_rfl) (by kernel_rfl) (by kernel_rfl)
          · refine TS_know 31 (b := false) hb8 (by kernel_rfl) (by kernel_rfl) ?_
            refine TS_know 32 (b := false) hb8 (by kernel_rfl) (by kernel_rfl) ?_
            refine TS_F (by kernel_rfl) rfl ?_
            refine TS_go 2 ?_
            refine TS_draw (by kernel_rfl) ?_
            refine TD_go 1 ?_
            replace h := bindO h
            obtain ⟨e9, he9, h⟩ := h
            refine TD_idx (ecI .u8) he9 (by kernel_rfl) (by kernel_rfl) ?_
            refine TD_go 3 ?_
            replace h := bindO h
            obtain ⟨_e10, he10, h⟩ := h
            refine TD_idx (ecI .u8) he10 (by kernel_rfl) (by kernel_rfl) ?_
            refine TD_go 3 ?_
            replace h := bindO h
            obtain ⟨l11, hl11, h⟩ := h
            refine TD_sub (ecI .u8) 1 hl11 (by kernel_rfl) (by kernel_rfl) ?_
            refine TD_go 2 ?_
            refine TD_end (by kernel_rfl) ?_
            refine TS_go 6 ?_
            replace h := bindO h
            obtain ⟨l12, hl12, h⟩ := h
            refine TS_sub (ecI .u8) 1 hl12 (by kernel_rfl) (by kernel_rfl) ?_
            refine TS_go 8 ?_
            replace h := condO h
            rcases h with ⟨hb13, h⟩ | ⟨hb13, h⟩
            · refine TS_know 49 (b := true) hb13 (by kernel_rfl) (by kernel_rfl) ?_
              refine TS_T (by kernel_rfl) rfl ?_
              refine TS_go 3 ?_
              replace h := bindO h
              obtain ⟨v14, hv14, h⟩ := h
              refine TS_call [] (ok_octets_Uint l11 0 8 v14 hv14) (by kernel_rfl) (by kernel_rfl) ?_
              refine TS_go 12 ?_
              replace h := condO h
              rcases h with ⟨hb15, h⟩ | ⟨hb15, h⟩
              · refine TS_know 54 (b := true) hb15 (by kernel_rfl) (by kernel_rfl) ?_
                refine TS_know 9 (b := true) hb15 (by kernel_rfl) (by kernel_rfl) ?_
                refine TS_know 55 (b := true) hb15 (by kernel_rfl) (by kernel_rfl) ?_
                refine TS_know 56 (b := false) (notF hb15) (by kernel_rfl) (by kernel_rfl) ?_
                refine TS_F (by kernel_rfl) rfl ?_
                refine TS_go 10 ?_
                have ret := Option.some.inj h
                subst ret
                exact TS_againB _ ⟨[(0, []), (4, []), (5, [])], [(600000, (600000, [])), (5, (5, []))]⟩ rfl (by kernel_rfl) (by kernel_rfl)
              · refine TS_know 54 (b := false) hb15 (by kernel_rfl) (by kernel_rfl) ?_
                refine TS_know 9 (b := false) hb15 (by kernel_rfl) (by kernel_rfl) ?_
                refine TS_know 55 (b := false) hb15 (by kernel_rfl) (by kernel_rfl) ?_
                refine TS_know 56 (b := true) (notT hb15) (by kernel_rfl) (by kernel_rfl) ?_
                refine TS_T (by kernel_rfl) rfl ?_
                refine TS_go 5 ?_
                refine TS_nilT 2 600001 39 40 (by kernel_rfl) ?_
                refine TS_fitU ⟨[(2, []), (3, [])], [(600001, (900000, []))]⟩ (by kernel_rfl) ?_
                refine TS_go 4 ?_
                have ret := Option.some.inj h
                subst ret
                have hy1q := hy1 _ rfl
                subst hy1q
                replace h := (elimR hK1)
                refine TS_retB rfl (by kernel_rfl) ?_
                refine TS_go 2 ?_
                have ret := Option.some.inj h
                subst ret
                exact TS_ret (by kernel_rfl) (by kernel_rfl) (by kernel_rfl)
            · refine TS_know 49 (b := false) hb13 (by kernel_rfl) (by kernel_rfl) ?_
              refine TS_F (by kernel_rfl) rfl ?_
              refine TS_go 6 ?_
              replace h := bindO h
              obtain ⟨v16, hv16, h⟩ := h
              refine TS_call [] (ok_messages_read e9 l11 s1.2.2 v16 hv16) (by kernel_rfl) (by kernel_rfl) ?_
              refine TS_go 13 ?_
              replace h := condO h
              rcases h with ⟨hb17, h⟩ | ⟨hb17, h⟩
              · refine TS_know 65 (b := true) hb17 (by kernel_rfl) (by kernel_rfl) ?_
                refine TS_know 11 (b := true) hb17 (by kernel_rfl) (by kernel_rfl) ?_
                refine TS_know 66 (b := true) hb17 (by kernel_rfl) (by kernel_rfl) ?_
                refine TS_know 67 (b := false) (notF hb17) (by kernel_rfl) (by kernel_rfl) ?_
                refine TS_F (by kernel_rfl) rfl ?_
                refine TS_go 1 ?_
                refine TS_cut ⟨[(0, []), (4, []), (5, []), (10, [])], [(600000, (600000, [])), (5, (5, [])), (10, (10, []))]⟩ (.mk [.code (codeAt [1, 1, 1, 0, 0, 0, 1, 0, 1, 1, 1, 1, 1, 1] (bodyOf Try.f49)), .blk 1] .normal ⟨[(0, .c (.slc 1 0 (List.length l12) (List.map (ecI .u8) l12))), (4, .c (.slc 40 600002 (List.length s1.2.1) (List.map S_Notice.cs s1.2.1))), (5, .c (.box 5 0)), (10, .c (.box 10 0))], [(600000, .spare 39 40 (List.length s1.2.1)), (5, .box [.slc 1 0 (List.length s1.2.2.elements) (List.map (ecI .u8) s1.2.2.elements), .lit (.int .u64 (s1.2.2.router)), .lit (.int .u8 ((s1.2.2.dst.getD 0 0))), .lit (.int .u8 ((s1.2.2.dst.getD 1 0))), .lit (.int .u8 ((s1.2.2.dst.getD 2 0))), .lit (.int .u8 ((s1.2.2.dst.getD 3 0))), .lit (.int .u8 ((s1.2.2.dst.getD 4 0))), .lit (.int .u8 ((s1.2.2.dst.getD 5 0))), .lit (.int .u8 ((s1.2.2.dst.getD 6 0))), .lit (.int .u8 ((s1.2.2.dst.getD 7 0))), .lit (.int .u8 ((s1.2.2.dst.getD 8 0))), .lit (.int .u8 ((s1.2.2.dst.getD 9 0))), .lit (.int .u8 ((s1.2.2.dst.getD 10 0))), .lit (.int .u8 ((s1.2.2.dst.getD 11 0))), .lit (.int .u8 ((s1.2.2.dst.getD 12 0))), .lit (.int .u8 ((s1.2.2.dst.getD 13 0))), .lit (.int .u8 ((s1.2.2.dst.getD 14 0))), .lit (.int .u8 ((s1.2.2.dst.getD 15 0)))]), (10, .box [.lit (.int .i64 (v16.1.Kind)), .lit (.int .u16 (v16.1.Seq)), .lit (.int .i64 (v16.1.Metric)), .lit (.int .u64 (v16.1.Neighbour)), .lit (.int .u8 ((v16.1.To.Dst.IP.getD 0 0))), .lit (.int .u8 ((v16.1.To.Dst.IP.getD 1 0))), .lit (.int .u8 ((v16.1.To.Dst.IP.getD 2 0))), .lit (.int .u8 ((v16.1.To.Dst.IP.getD 3 0))), .lit (.int .u8 ((v16.1.To.Dst.IP.getD 4 0))), .lit (.int .u8 ((v16.1.To.Dst.IP.getD 5 0))), .lit (.int .u8 ((v16.1.To.Dst.IP.getD 6 0))), .lit (.int .u8 ((v16.1.To.Dst.IP.getD 7 0))), .lit (.int .u8 ((v16.1.To.Dst.IP.getD 8 0))), .lit (.int .u8 ((v16.1.To.Dst.IP.getD 9 0))), .lit (.int .u8 ((v16.1.To.Dst.IP.getD 10 0))), .lit (.int .u8 ((v16.1.To.Dst.IP.getD 11 0))), .lit (.int .u8 ((v16.1.To.Dst.IP.getD 12 0))), .lit (.int .u8 ((v16.1.To.Dst.IP.getD 13 0))), .lit (.int .u8 ((v16.1.To.Dst.IP.getD 14 0))), .lit (.int .u8 ((v16.1.To.Dst.IP.getD 15 0))), .lit (.int .i64 (v16.1.To.Dst.Bits)), .lit (.int .u8 ((v16.1.To.Src.IP.getD 0 0))), .lit (.int .u8 ((v16.1.To.Src.IP.getD 1 0))), .lit (.int .u8 ((v16.1.To.Src.IP.getD 2 0))), .lit (.int .u8 ((v16.1.To.Src.IP.getD 3 0))), .lit (.int .u8 ((v16.1.To.Src.IP.getD 4 0))), .lit (.int .u8 ((v16.1.To.Src.IP.getD 5 0))), .lit (.int .u8 ((v16.1.To.Src.IP.getD 6 0))), .lit (.int .u8 ((v16.1.To.Src.IP.getD 7 0))), .lit (.int .u8 ((v16.1.To.Src.IP.getD 8 0))), .lit (.int .u8 ((v16.1.To.Src.IP.getD 9 0))), .lit (.int .u8 ((v16.1.To.Src.IP.getD 10 0))), .lit (.int .u8 ((v16.1.To.Src.IP.getD 11 0))), .lit (.int .u8 ((v16.1.To.Src.IP.getD 12 0))), .lit (.int .u8 ((v16.1.To.Src.IP.getD 13 0))), .lit (.int .u8 ((v16.1.To.Src.IP.getD 14 0))), .lit (.int .u8 ((v16.1.To.Src.IP.getD 15 0))), .lit (.int .i64 (v16.1.To.Src.Bits)), .lit (.int .u64 (v16.1.To.Router)), .lit (.int .i64 (v16.1.Hops))])]⟩) (by kernel_rfl) (by kernel_rfl) ?_
                refine TS_joinB ⟨[(0, []), (4, []), (5, []), (10, [])], [(600000, (600000, [])), (5, (5, [])), (10, (10, []))]⟩ (fun (v18 : S_messages_state) => []) (fun (v18 : S_messages_state) => [(5, .box (S_messages_state.cs v18))]) (F_messages_parse_j2 s1 v16 l12) x ?_ ?_
                · clear h
                  intro v18 h
                  unfold F_messages_parse_j2 at h
                  refine TS_go 3 ?_
                  refine TS_litNT 78 39 40 S_Notice.cs [] ([v16.1] : List S_Notice) (by kernel_rfl) (by kernel_rfl) ?_
                  replace h := bindO h
                  obtain ⟨_l19, hl19, h⟩ := h
                  refine TS_appT (d := 600000) (e := 39) (sz := 40) (N := List.length s1.2.1) S_Notice.cs (fun _ => by kernel_rfl) (l1 := s1.2.1) (l2 := ([v16.1] : List S_Notice)) (c := .whole) hl19 (by kernel_rfl) (by kernel_rfl) ?_
                  refine TS_go 3 ?_
                  have ret := Option.some.inj h
                  subst ret
                  exact TS_againB _ ⟨[(0, []), (4, []), (5, [])], [(600000, (600000, [])), (5, (5, []))]⟩ rfl (by kernel_rfl) (by kernel_rfl)
                · refine TS_go 6 ?_
                  replace h := condO h
                  rcases h with ⟨hb20, h⟩ | ⟨hb20, h⟩
                  · refine TS_know 70 (b := true) hb20 (by kernel_rfl) (by kernel_rfl) ?_
                    refine TS_T (by kernel_rfl) rfl ?_
                    refine TS_go 8 ?_
                    exact TS_meet (S_messages_state.mk s1.2.2.elements s1.2.2.router v16.1.To.Dst.IP) ⟨[(0, []), (4, []), (5, []), (10, [])], [(600000, (600000, [])), (5, (5, [])), (10, (10, []))]⟩ h (by kernel_rfl) (by kernel_rfl)
                  · refine TS_know 70 (b := false) hb20 (by kernel_rfl) (by kernel_rfl) ?_
                    refine TS_F (by kernel_rfl) rfl ?_
                    refine TS_go 1 ?_
                    exact TS_meet s1.2.2 ⟨[(0, []), (4, []), (5, []), (10, [])], [(600000, (600000, [])), (5, (5, [])), (10, (10, []))]⟩ h (by kernel_rfl) (by kernel_rfl)
              · refine TS_know 65 (b := false) hb17 (by kernel_rfl) (by kernel_rfl) ?_
                refine TS_know 11 (b := false) hb17 (by kernel_rfl) (by kernel_rfl) ?_
                refine TS_know 66 (b := false) hb17 (by kernel_rfl) (by kernel_rfl) ?_
                refine TS_know 67 (b := true) (notT hb17) (by kernel_rfl) (by kernel_rfl) ?_
                refine TS_T (by kernel_rfl) rfl ?_
                refine TS_go 5 ?_
                refine TS_nilT 2 600001 39 40 (by kernel_rfl) ?_
                refine TS_fitU ⟨[(2, []), (3, [])], [(600001, (900000, []))]⟩ (by kernel_rfl) ?_
                refine TS_go 3 ?_
                have ret := Option.some.inj h
                subst ret
                have hy1q := hy1 _ rfl
                subst hy1q
                replace h := (elimR hK1)
                refine TS_retB rfl (by kernel_rfl) ?_
                refine TS_go 2 ?_
                have ret := Option.some.inj h
                subst ret
                exact TS_ret (by kernel_rfl) (by kernel_rfl) (by kernel_rfl)
    · refine TS_know 14 (b := false) hb4 (by kernel_rfl) (by kernel_rfl) ?_
      refine TS_F (by kernel_rfl) rfl ?_
      refine TS_go 2 ?_
      have ret := Option.some.inj h
      subst ret
      exact TS_brkB s1.2.1 ⟨[(4, [])], [(600000, (600000, []))]⟩ rfl (by kernel_rfl) (by kernel_rfl) (by kernel_rfl)
  · intro b2 hb
    subst y3
    have h := elimL hK1
    refine TS_go 7 ?_
    refine TS_fitU ⟨[(2, []), (3, [])], [(600000, (900000, []))]⟩ (by kernel_rfl) ?_
    refine TS_go 1 ?_
    have ret := Option.some.inj h
    subst ret
    exact TS_ret (by kernel_rfl) (by kernel_rfl) (by kernel_rfl)
/-- bytes.Equal -/
noncomputable def F_bytes_Equal (a0 : List Int) (a1 : List Int) : Option (Bool) :=
  some (((u8L (Cut.app .whole a0)) == (u8L (Cut.app .whole a1))))
set_option maxRecDepth 100000 in
set_option maxHeartbeats 40000000 in
theorem ok_bytes_Equal (a0 : List Int) (a1 : List Int) (r : Bool) (h : F_bytes_Equal a0 a1 = some r) : Con Try.prog 28 [.c (eS 1 (ecI .u8) (a0)), .c (eS 1 (ecI .u8) (a1))] [] (.c (.lit (.bool (r)))) [] := by
  unfold F_bytes_Equal at h
  refine con_of [] [] 10 Try.func28 rfl rfl (by kernel_rfl) (fun K => ?_)
  refine TS_go 7 ?_
  refine TS_b2s a0 .whole (by kernel_rfl) (by kernel_rfl) ?_
  refine TS_go 1 ?_
  refine TS_b2s a1 .whole (by kernel_rfl) (by kernel_rfl) ?_
  refine TS_str .eql (u8L (Cut.app .whole a0)) (u8L (Cut.app .whole a1)) rfl (by kernel_rfl) (by kernel_rfl) ?_
  refine TS_go 3 ?_
  have ret := Option.some.inj h
  subst ret
  exact TS_ret (by kernel_rfl) (by kernel_rfl) (by kernel_rfl)
end
end Go.Proofs.Ytcemblilhbidgaa
