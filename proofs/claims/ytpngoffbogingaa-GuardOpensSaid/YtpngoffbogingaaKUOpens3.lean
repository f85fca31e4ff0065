/-
  Part 3 of what the proof of this law rests on.
-/
import Derived.Test.YtpngoffbogingaaKUOpens2
namespace Go.Proofs.Ytpngoffbogingaa
section
open Go.RowKit
attribute [local irreducible] TS go TD goD

structure S_multihopmade_Tape where
  l : List Int
  at_ : Int
def S_multihopmade_Tape.cs (x : S_multihopmade_Tape) : List SC := [eS 1 (ecI .i64) (x.l)] ++ [.lit (.int .i64 (x.at_))]

structure S_LinkKey where
  Index : Int
  Key : List Int
def S_LinkKey.cs (x : S_LinkKey) : List SC := [.lit (.int .u8 (x.Index))] ++ arrS .u8 16 x.Key
def S_LinkKey.eqb (x y : S_LinkKey) : Bool := (x.Index == y.Index) && ((arrEq 16 x.Key y.Key) && true)

structure S_Addr where
  Mode : Int
  Short : Int
  EUI : Int
def S_Addr.cs (x : S_Addr) : List SC := [.lit (.int .i64 (x.Mode))] ++ [.lit (.int .u16 (x.Short))] ++ [.lit (.int .u64 (x.EUI))]
def S_Addr.eqb (x y : S_Addr) : Bool := (x.Mode == y.Mode) && ((x.Short == y.Short) && ((x.EUI == y.EUI) && true))

structure S_Peer where
  Src : S_Addr
  Key : Int
  Last : Int
  Window : Int
def S_Peer.cs (x : S_Peer) : List SC := S_Addr.cs x.Src ++ [.lit (.int .u8 (x.Key))] ++ [.lit (.int .u32 (x.Last))] ++ [.lit (.int .u32 (x.Window))]
def S_Peer.eqb (x y : S_Peer) : Bool := (S_Addr.eqb x.Src y.Src) && ((x.Key == y.Key) && ((x.Last == y.Last) && ((x.Window == y.Window) && true)))

structure S_Guard where
  Keys : List S_LinkKey
  Counter : Int
  Reserved : Int
  Nonce : Int
  Peers : List S_Peer
def S_Guard.cs (x : S_Guard) : List SC := [eS 17 S_LinkKey.cs (x.Keys)] ++ [.lit (.int .u32 (x.Counter))] ++ [.lit (.int .u32 (x.Reserved))] ++ [.lit (.int .u32 (x.Nonce))] ++ [eS 6 S_Peer.cs (x.Peers)]

structure S_Frame where
  Kind : Int
  AckRequest : Bool
  Pending : Bool
  Secure : Bool
  Seq : Int
  Pan : Int
  Dst : S_Addr
  Src : S_Addr
  Counter : Int
  Key : Int
  Payload : List Int
  MIC : List Int
def S_Frame.cs (x : S_Frame) : List SC := [.lit (.int .i64 (x.Kind))] ++ [.lit (.bool (x.AckRequest))] ++ [.lit (.bool (x.Pending))] ++ [.lit (.bool (x.Secure))] ++ [.lit (.int .u8 (x.Seq))] ++ [.lit (.int .u16 (x.Pan))] ++ S_Addr.cs x.Dst ++ S_Addr.cs x.Src ++ [.lit (.int .u32 (x.Counter))] ++ [.lit (.int .u8 (x.Key))] ++ [eS 1 (ecI .u8) (x.Payload)] ++ [eS 1 (ecI .u8) (x.MIC)]

structure S_multihopref03_state where
  a : Int
  b : Int
  c : Int
  d : Int
def S_multihopref03_state.cs (x : S_multihopref03_state) : List SC := [.lit (.int .u64 (x.a))] ++ [.lit (.int .u64 (x.b))] ++ [.lit (.int .u64 (x.c))] ++ [.lit (.int .u64 (x.d))]

/-- multihop/multihopmade.New -/
noncomputable def F_made_New_j1  (v1 : (List Int)) : Option (S_multihopmade_Tape) :=
  some ((S_multihopmade_Tape.mk v1 0))
noncomputable def F_made_New (a0 : List Int) : Option (S_multihopmade_Tape) :=
  bif (decide ((List.length a0 : Int) > 400)) then
    (subO a0 0 400).bind fun l3 =>
    (F_made_New_j1) l3
  else
    (F_made_New_j1) a0
set_option maxRecDepth 100000 in
set_option maxHeartbeats 40000000 in
theorem ok_made_New (a0 : List Int) (r : S_multihopmade_Tape) (h : F_made_New a0 = some r) : Con Try.prog 10 [.c (eS 1 (ecI .i64) (a0))] [] (.c (.box 10 0)) [(10, .box (S_multihopmade_Tape.cs r))] := by
  unfold F_made_New at h
  refine con_of [] [(10, [2])] 11 Try.func10 rfl rfl (by kernel_rfl) (fun K => ?_)
  refine TS_go 4 ?_
  refine TS_cut ⟨[(0, [])], []⟩ (.mk [.code (codeAt [1] (bodyOf Try.f10))] .normal ⟨[(0, .c (.slc 1 0 (List.length a0) (List.map (ecI .i64) a0)))], []⟩) (by kernel_rfl) (by kernel_rfl) ?_
  refine TS_joinB ⟨[(0, [])], []⟩ (fun (v1 : (List Int)) => [(0, .c (eS 1 (ecI .i64) (v1)))]) (fun (v1 : (List Int)) => []) (F_made_New_j1) r ?_ ?_
  · clear h
    intro v1 h
    unfold F_made_New_j1 at h
    refine TS_go 8 ?_
    have ret := Option.some.inj h
    subst ret
    exact TS_ret (by kernel_rfl) (by kernel_rfl) (by kernel_rfl)
  · refine TS_go 6 ?_
    replace h := condO h
    rcases h with ⟨hb2, h⟩ | ⟨hb2, h⟩
    · refine TS_know 5 (b := true) hb2 (by kernel_rfl) (by kernel_rfl) ?_
      refine TS_T (by kernel_rfl) rfl ?_
      refine TS_go 2 ?_
      replace h := bindO h
      obtain ⟨l3, hl3, h⟩ := h
      refine TS_sub (ecI .i64) 1 hl3 (by kernel_rfl) (by kernel_rfl) ?_
      refine TS_go 2 ?_
      exact TS_meet l3 ⟨[(0, [])], []⟩ h (by kernel_rfl) (by kernel_rfl)
    · refine TS_know 5 (b := false) hb2 (by kernel_rfl) (by kernel_rfl) ?_
      refine TS_F (by kernel_rfl) rfl ?_
      refine TS_go 1 ?_
      exact TS_meet a0 ⟨[(0, [])], []⟩ h (by kernel_rfl) (by kernel_rfl)

/-- (*multihop/multihopmade.Tape).Next -/
noncomputable def F_made_Tape_Next_j1 (a0 : S_multihopmade_Tape) (v4 : Int) : Option (Int × S_multihopmade_Tape) :=
  some ((v4, (S_multihopmade_Tape.mk a0.l (IntKind.wrap .i64 (a0.at_ + 1)))))
noncomputable def F_made_Tape_Next (a0 : S_multihopmade_Tape) (a1 : Int) : Option (Int × S_multihopmade_Tape) :=
  bif (decide (a0.at_ ≥ (List.length a0.l : Int))) then
    some ((0, a0))
  else
    (idx a0.l a0.at_).bind fun e2 =>
    bif decide (a1 ≠ 0) then
      bif (decide ((Int.tmod e2 a1) < 0)) then
        (F_made_Tape_Next_j1 a0) (IntKind.wrap .i64 ((Int.tmod e2 a1) + a1))
      else
        (F_made_Tape_Next_j1 a0) (Int.tmod e2 a1)
    else none
set_option maxRecDepth 100000 in
set_option maxHeartbeats 40000000 in
theorem ok_made_Tape_Next (a0 : S_multihopmade_Tape) (a1 : Int) (r : Int × S_multihopmade_Tape) (h : F_made_Tape_Next a0 a1 = some r) : Con Try.prog 19 [.c (.box 1000000 0), .c (.lit (.int .i64 (a1)))] [(1000000, .box (S_multihopmade_Tape.cs a0))] (.c (.lit (.int .i64 (r.1)))) [(1000000, .box (S_multihopmade_Tape.cs r.2))] := by
  unfold F_made_Tape_Next at h
  refine con_of [] [(1000000, [2])] 41 Try.func19 rfl rfl (by kernel_rfl) (fun K => ?_)
  refine TS_go 6 ?_
  refine TS_draw (by kernel_rfl) ?_
  refine TD_go 10 ?_
  refine TD_end (by kernel_rfl) ?_
  replace h := condO h
  rcases h with ⟨hb1, h⟩ | ⟨hb1, h⟩
  · refine TS_know 15 (b := true) hb1 (by kernel_rfl) (by kernel_rfl) ?_
    refine TS_T (by kernel_rfl) rfl ?_
    refine TS_go 6 ?_
    have ret := Option.some.inj h
    subst ret
    exact TS_ret (by kernel_rfl) (by kernel_rfl) (by kernel_rfl)
  · refine TS_know 15 (b := false) hb1 (by kernel_rfl) (by kernel_rfl) ?_
    refine TS_F (by kernel_rfl) rfl ?_
    refine TS_go 2 ?_
    refine TS_draw (by kernel_rfl) ?_
    refine TD_go 8 ?_
    replace h := bindO h
    obtain ⟨e2, he2, h⟩ := h
    refine TD_idx (ecI .i64) he2 (by kernel_rfl) (by kernel_rfl) ?_
    refine TD_go 2 ?_
    replace h := chkO h
    obtain ⟨hc3, h⟩ := h
    refine TD_num (op := .rem) (k := .i64) (k' := .i64) (m := e2) (i := a1) (of_decide_eq_true hc3) rfl (by simp) (by kernel_rfl) (by kernel_rfl) ?_
    refine TD_go 1 ?_
    refine TD_end (by kernel_rfl) ?_
    refine TS_go 11 ?_
    refine TS_cut ⟨[(1, []), (5, [])], [(1000000, (1000000, []))]⟩ (.mk [.code (codeAt [1, 1, 1, 1] (bodyOf Try.f19))] .normal ⟨[(1, .c (.lit (.int .i64 (a1)))), (5, .c (.lit (.int .i64 (Int.tmod e2 a1))))], [(1000000, .box [.slc 1 0 (List.length a0.l) (List.map (ecI .i64) a0.l), .lit (.int .i64 (IntKind.wrap .i64 (a0.at_ + 1)))])]⟩) (by kernel_rfl) (by kernel_rfl) ?_
    refine TS_joinB ⟨[(5, [])], [(1000000, (1000000, []))]⟩ (fun (v4 : Int) => [(5, .c (.lit (.int .i64 (v4))))]) (fun (v4 : Int) => []) (F_made_Tape_Next_j1 a0) r ?_ ?_
    · clear h
      intro v4 h
      unfold F_made_Tape_Next_j1 at h
      refine TS_go 6 ?_
      have ret := Option.some.inj h
      subst ret
      exact TS_ret (by kernel_rfl) (by kernel_rfl) (by kernel_rfl)
    · refine TS_go 5 ?_
      replace h := condO h
      rcases h with ⟨hb5, h⟩ | ⟨hb5, h⟩
      · refine TS_know 36 (b := true) hb5 (by kernel_rfl) (by kernel_rfl) ?_
        refine TS_T (by kernel_rfl) rfl ?_
        refine TS_go 6 ?_
        exact TS_meet (IntKind.wrap .i64 ((Int.tmod e2 a1) + a1)) ⟨[(5, [])], [(1000000, (1000000, []))]⟩ h (by kernel_rfl) (by kernel_rfl)
      · refine TS_know 36 (b := false) hb5 (by kernel_rfl) (by kernel_rfl) ?_
        refine TS_F (by kernel_rfl) rfl ?_
        refine TS_go 1 ?_
        exact TS_meet (Int.tmod e2 a1) ⟨[(5, [])], [(1000000, (1000000, []))]⟩ h (by kernel_rfl) (by kernel_rfl)

/-- multihop/multihopmade.Key -/
noncomputable def F_made_Key_l1 (a0 : Int) (s1 : Int × (List Int)) : Option ((Int × (List Int)) ⊕ ((List Int))) :=
  bif (decide (s1.1 < 16)) then
    bif decide ((0 : Int) ≤ s1.1 ∧ s1.1 < (16 : Int)) then
      some (Sum.inl (IntKind.wrap .i64 (s1.1 + 1), (setA 16 s1.2 (Int.toNat s1.1) (IntKind.wrap .u8 (IntKind.wrap .i64 ((IntKind.wrap .i64 (17 * a0)) + s1.1))))))
    else none
  else
    some (Sum.inr s1.2)
noncomputable def F_made_Key (a0 : Int) : Option ((List Int)) :=
  (loopO (F_made_Key_l1 a0) (0, [0, 0, 0, 0, 0, 0, 0, 0, 0, 0, 0, 0, 0, 0, 0, 0])).bind fun b2 =>
  some (b2)
set_option maxRecDepth 100000 in
set_option maxHeartbeats 40000000 in
theorem ok_made_Key (a0 : Int) (r : (List Int)) (h : F_made_Key a0 = some r) : Con Try.prog 33 [.c (.lit (.int .i64 (a0)))] [] (.agg (arrS .u8 16 r)) [] := by
  unfold F_made_Key at h
  refine con_of [] [] 17 Try.func33 rfl rfl (by kernel_rfl) (fun K => ?_)
  refine TS_go 14 ?_
  refine TS_cut ⟨[(0, []), (2, []), (3, []), (4, [])], [(2, (2, [])), (3, (3, []))]⟩ (.mk [.code (codeAt [1, 1, 0, 1, 0] (bodyOf Try.f33)), .blk 0, .code (codeAt [1, 1, 1] (bodyOf Try.f33))] .normal ⟨[(0, .c (.lit (.int .i64 (a0)))), (2, .c (.box 2 0)), (3, .c (.box 3 0)), (4, .c (.lit (.int .i64 (0))))], [(2, .box [.lit (.int .u8 (0)), .lit (.int .u8 (0)), .lit (.int .u8 (0)), .lit (.int .u8 (0)), .lit (.int .u8 (0)), .lit (.int .u8 (0)), .lit (.int .u8 (0)), .lit (.int .u8 (0)), .lit (.int .u8 (0)), .lit (.int .u8 (0)), .lit (.int .u8 (0)), .lit (.int .u8 (0)), .lit (.int .u8 (0)), .lit (.int .u8 (0)), .lit (.int .u8 (0)), .lit (.int .u8 (0))]), (3, .box [.lit (.int .u8 (0)), .lit (.int .u8 (0)), .lit (.int .u8 (0)), .lit (.int .u8 (0)), .lit (.int .u8 (0)), .lit (.int .u8 (0)), .lit (.int .u8 (0)), .lit (.int .u8 (0)), .lit (.int .u8 (0)), .lit (.int .u8 (0)), .lit (.int .u8 (0)), .lit (.int .u8 (0)), .lit (.int .u8 (0)), .lit (.int .u8 (0)), .lit (.int .u8 (0)), .lit (.int .u8 (0))])]⟩) (by kernel_rfl) (by kernel_rfl) ?_
  replace h := bindO h
  obtain ⟨y3, hl1, hK1⟩ := h
  refine TS_loopB (F_made_Key_l1 a0) ⟨[(0, []), (2, []), (3, []), (4, [])], [(2, (2, [])), (3, (3, []))]⟩ (fun (s1 : Int × (List Int)) => [(4, .c (.lit (.int .i64 (s1.1))))]) (fun (s1 : Int × (List Int)) => [(3, .box (arrS .u8 16 s1.2))]) (0, [0, 0, 0, 0, 0, 0, 0, 0, 0, 0, 0, 0, 0, 0, 0, 0]) y3 (.exit 0) (fun (b : (List Int)) => b) ⟨[(2, []), (3, [])], [(2, (2, [])), (3, (3, []))]⟩ (fun (b2 : (List Int)) => []) (fun (b2 : (List Int)) => [(3, .box (arrS .u8 16 b2))]) hl1 (by kernel_rfl) (by kernel_rfl) ?_ ?_
  · intro s1 x h hy1
    unfold F_made_Key_l1 at h
    refine TS_go 6 ?_
    replace h := condO h
    rcases h with ⟨hb4, h⟩ | ⟨hb4, h⟩
    · refine TS_know 6 (b := true) hb4 (by kernel_rfl) (by kernel_rfl) ?_
      refine TS_T (by kernel_rfl) rfl ?_
      refine TS_go 10 ?_
      replace h := chkO h
      obtain ⟨hc5, h⟩ := h
      refine TS_idxA 3 0 16 (i := s1.1) hc5 (by kernel_rfl) (by kernel_rfl) ?_
      refine TS_stA (k := .u8) (d := 3) 0 16 (i := s1.1) (v := IntKind.wrap .u8 (IntKind.wrap .i64 ((IntKind.wrap .i64 (17 * a0)) + s1.1))) s1.2 (pre := []) (post := []) hc5 (by kernel_rfl) (by kernel_rfl) (by kernel_rfl) ?_
      refine TS_go 7 ?_
      have ret := Option.some.inj h
      subst ret
      exact TS_againB _ ⟨[(0, []), (2, []), (3, []), (4, [])], [(2, (2, [])), (3, (3, []))]⟩ rfl (by kernel_rfl) (by kernel_rfl)
    · refine TS_know 6 (b := false) hb4 (by kernel_rfl) (by kernel_rfl) ?_
      refine TS_F (by kernel_rfl) rfl ?_
      refine TS_go 2 ?_
      have ret := Option.some.inj h
      subst ret
      exact TS_brkB s1.2 ⟨[(2, []), (3, [])], [(2, (2, [])), (3, (3, []))]⟩ rfl (by kernel_rfl) (by kernel_rfl) (by kernel_rfl)
  · intro b2 hb
    subst y3
    have h := hK1
    refine TS_go 7 ?_
    have ret := Option.some.inj h
    subst ret
    exact TS_ret (by kernel_rfl) (by kernel_rfl) (by kernel_rfl)

/-- (*multihop/multihopmade.Tape).Bool -/
noncomputable def F_made_Tape_Bool (a0 : S_multihopmade_Tape) (a1 : Int) : Option (Bool × S_multihopmade_Tape) :=
  (F_made_Tape_Next a0 a1).bind fun v1 =>
  some (((v1.1 == (IntKind.wrap .i64 (a1 - 1))), v1.2))
set_option maxRecDepth 100000 in
set_option maxHeartbeats 40000000 in
theorem ok_made_Tape_Bool (a0 : S_multihopmade_Tape) (a1 : Int) (r : Bool × S_multihopmade_Tape) (h : F_made_Tape_Bool a0 a1 = some r) : Con Try.prog 34 [.c (.box 1000000 0), .c (.lit (.int .i64 (a1)))] [(1000000, .box (S_multihopmade_Tape.cs a0))] (.c (.lit (.bool (r.1)))) [(1000000, .box (S_multihopmade_Tape.cs r.2))] := by
  unfold F_made_Tape_Bool at h
  refine con_of [] [(1000000, [2])] 11 Try.func34 rfl rfl (by kernel_rfl) (fun K => ?_)
  refine TS_go 8 ?_
  replace h := bindO h
  obtain ⟨v1, hv1, h⟩ := h
  refine TS_con [] [] (some (1000000, 0)) (ok_made_Tape_Next a0 a1 v1 hv1) (by kernel_rfl) (by kernel_rfl) (by kernel_rfl) ?_
  refine TS_go 6 ?_
  have ret := Option.some.inj h
  subst ret
  exact TS_ret (by kernel_rfl) (by kernel_rfl) (by kernel_rfl)

/-- (*multihop/multihopmade.Tape).Word -/
noncomputable def F_made_Tape_Word (a0 : S_multihopmade_Tape) : Option (Int × S_multihopmade_Tape) :=
  (F_made_Tape_Next a0 65536).bind fun v1 =>
  (F_made_Tape_Next v1.2 5).bind fun v2 =>
  bif (v2.1 == 0) then
    some ((IntKind.wrap .u64 v1.1, v2.2))
  else
    bif (v2.1 == 1) then
      some ((IntKind.wrap .u64 ((ishl .u64 (IntKind.wrap .u64 v1.1) 48) + (IntKind.wrap .u64 v1.1)), v2.2))
    else
      bif (v2.1 == 2) then
        some ((IntKind.wrap .u64 (9223372036854775808 + (IntKind.wrap .u64 v1.1)), v2.2))
      else
        bif (v2.1 == 3) then
          some ((IntKind.wrap .u64 (18446744073709551615 - (Int.tmod (IntKind.wrap .u64 v1.1) 4)), v2.2))
        else
          some ((Int.tmod (IntKind.wrap .u64 v1.1) 4, v2.2))
set_option maxRecDepth 100000 in
set_option maxHeartbeats 40000000 in
theorem ok_made_Tape_Word (a0 : S_multihopmade_Tape) (r : Int × S_multihopmade_Tape) (h : F_made_Tape_Word a0 = some r) : Con Try.prog 35 [.c (.box 1000000 0)] [(1000000, .box (S_multihopmade_Tape.cs a0))] (.c (.lit (.int .u64 (r.1)))) [(1000000, .box (S_multihopmade_Tape.cs r.2))] := by
  unfold F_made_Tape_Word at h
  refine con_of [] [(1000000, [2])] 29 Try.func35 rfl rfl (by kernel_rfl) (fun K => ?_)
  refine TS_go 7 ?_
  replace h := bindO h
  obtain ⟨v1, hv1, h⟩ := h
  refine TS_con [] [] (some (1000000, 0)) (ok_made_Tape_Next a0 65536 v1 hv1) (by kernel_rfl) (by kernel_rfl) (by kernel_rfl) ?_
  refine TS_go 7 ?_
  replace h := bindO h
  obtain ⟨v2, hv2, h⟩ := h
  refine TS_con [] [] (some (1000000, 0)) (ok_made_Tape_Next v1.2 5 v2 hv2) (by kernel_rfl) (by kernel_rfl) (by kernel_rfl) ?_
  refine TS_go 7 ?_
  replace h := condO h
  rcases h with ⟨hb3, h⟩ | ⟨hb3, h⟩
  · refine TS_know 10 (b := true) hb3 (by kernel_rfl) (by kernel_rfl) ?_
    refine TS_know 9 (b := true) hb3 (by kernel_rfl) (by kernel_rfl) ?_
    refine TS_T (by kernel_rfl) rfl ?_
    refine TS_go 8 ?_
    have ret := Option.some.inj h
    subst ret
    exact TS_ret (by kernel_rfl) (by kernel_rfl) (by kernel_rfl)
  · refine TS_know 10 (b := false) hb3 (by kernel_rfl) (by kernel_rfl) ?_
    refine TS_know 9 (b := false) hb3 (by kernel_rfl) (by kernel_rfl) ?_
    refine TS_F (by kernel_rfl) rfl ?_
    refine TS_go 5 ?_
    replace h := condO h
    rcases h with ⟨hb4, h⟩ | ⟨hb4, h⟩
    · refine TS_know 13 (b := true) hb4 (by kernel_rfl) (by kernel_rfl) ?_
      refine TS_know 12 (b := true) hb4 (by kernel_rfl) (by kernel_rfl) ?_
      refine TS_T (by kernel_rfl) rfl ?_
      refine TS_go 11 ?_
      have ret := Option.some.inj h
      subst ret
      exact TS_ret (by kernel_rfl) (by kernel_rfl) (by kernel_rfl)
    · refine TS_know 13 (b := false) hb4 (by kernel_rfl) (by kernel_rfl) ?_
      refine TS_know 12 (b := false) hb4 (by kernel_rfl) (by kernel_rfl) ?_
      refine TS_F (by kernel_rfl) rfl ?_
      refine TS_go 5 ?_
      replace h := condO h
      rcases h with ⟨hb5, h⟩ | ⟨hb5, h⟩
      · refine TS_know 19 (b := true) hb5 (by kernel_rfl) (by kernel_rfl) ?_
        refine TS_know 18 (b := true) hb5 (by kernel_rfl) (by kernel_rfl) ?_
        refine TS_T (by kernel_rfl) rfl ?_
        refine TS_go 9 ?_
        have ret := Option.some.inj h
        subst ret
        exact TS_ret (by kernel_rfl) (by kernel_rfl) (by kernel_rfl)
      · refine TS_know 19 (b := false) hb5 (by kernel_rfl) (by kernel_rfl) ?_
        refine TS_know 18 (b := false) hb5 (by kernel_rfl) (by kernel_rfl) ?_
        refine TS_F (by kernel_rfl) rfl ?_
        refine TS_go 5 ?_
        replace h := condO h
        rcases h with ⟨hb6, h⟩ | ⟨hb6, h⟩
        · refine TS_know 23 (b := true) hb6 (by kernel_rfl) (by kernel_rfl) ?_
          refine TS_know 22 (b := true) hb6 (by kernel_rfl) (by kernel_rfl) ?_
          refine TS_T (by kernel_rfl) rfl ?_
          refine TS_go 10 ?_
          have ret := Option.some.inj h
          subst ret
          exact TS_ret (by kernel_rfl) (by kernel_rfl) (by kernel_rfl)
        · refine TS_know 23 (b := false) hb6 (by kernel_rfl) (by kernel_rfl) ?_
          refine TS_know 22 (b := false) hb6 (by kernel_rfl) (by kernel_rfl) ?_
          refine TS_F (by kernel_rfl) rfl ?_
          refine TS_go 9 ?_
          have ret := Option.some.inj h
          subst ret
          exact TS_ret (by kernel_rfl) (by kernel_rfl) (by kernel_rfl)

/-- (*multihop/multihopmade.Tape).Guard -/
noncomputable def F_made_Tape_Guard_j2 (s2 : Int × S_multihopmade_Tape × S_Guard) (v6 : S_multihopmade_Tape × S_Guard) : Option ((Int × S_multihopmade_Tape × S_Guard) ⊕ (S_multihopmade_Tape × S_Guard)) :=
  some (Sum.inl (IntKind.wrap .i64 (s2.1 + 1), v6.1, v6.2))
noncomputable def F_made_Tape_Guard_l1  (s2 : Int × S_multihopmade_Tape × S_Guard) : Option ((Int × S_multihopmade_Tape × S_Guard) ⊕ (S_multihopmade_Tape × S_Guard)) :=
  bif (decide (s2.1 < 3)) then
    (F_made_Tape_Next s2.2.1 4).bind fun v7 =>
    bif (decide (v7.1 > 0)) then
      (F_made_Key s2.1).bind fun v9 =>
      (appO 17 s2.2.2.Keys (Cut.app .whole ([(S_LinkKey.mk (IntKind.wrap .u8 s2.1) v9)] : List S_LinkKey))).bind fun l10 =>
      (F_made_Tape_Guard_j2 s2) (v7.2, (S_Guard.mk l10 s2.2.2.Counter s2.2.2.Reserved s2.2.2.Nonce s2.2.2.Peers))
    else
      (F_made_Tape_Guard_j2 s2) (v7.2, s2.2.2)
  else
    some (Sum.inr (s2.2.1, s2.2.2))
noncomputable def F_made_Tape_Guard_j6 (s19 : Int × S_multihopmade_Tape × S_Guard) (v23 : S_multihopmade_Tape × S_Guard) : Option ((Int × S_multihopmade_Tape × S_Guard) ⊕ (S_multihopmade_Tape × S_Guard)) :=
  some (Sum.inl (IntKind.wrap .i64 (s19.1 + 1), v23.1, v23.2))
noncomputable def F_made_Tape_Guard_l5 (s15 : Int × S_multihopmade_Tape × S_Guard) (s19 : Int × S_multihopmade_Tape × S_Guard) : Option ((Int × S_multihopmade_Tape × S_Guard) ⊕ (S_multihopmade_Tape × S_Guard)) :=
  bif (decide (s19.1 < (List.length s19.2.2.Keys : Int))) then
    (F_made_Tape_Bool s19.2.1 3).bind fun v24 =>
    bif v24.1 then
      (idx s19.2.2.Keys s19.1).bind fun e26 =>
      (F_made_Tape_Next v24.2 60).bind fun v27 =>
      (F_made_Tape_Word v27.2).bind fun v28 =>
      (appO 40 s19.2.2.Peers (Cut.app .whole ([(S_Peer.mk (S_Addr.mk 2 (IntKind.wrap .u16 s15.1) 0) e26.Index (IntKind.wrap .u32 v27.1) (ior .u32 (IntKind.wrap .u32 v28.1) 1))] : List S_Peer))).bind fun l29 =>
      (F_made_Tape_Guard_j6 s19) (v28.2, (S_Guard.mk s19.2.2.Keys s19.2.2.Counter s19.2.2.Reserved s19.2.2.Nonce l29))
    else
      (F_made_Tape_Guard_j6 s19) (v24.2, s19.2.2)
  else
    some (Sum.inr (s19.2.1, s19.2.2))
noncomputable def F_made_Tape_Guard_l4  (s15 : Int × S_multihopmade_Tape × S_Guard) : Option ((Int × S_multihopmade_Tape × S_Guard) ⊕ (S_multihopmade_Tape × S_Guard)) :=
  bif (decide (s15.1 < 5)) then
    (loopO (F_made_Tape_Guard_l5 s15) (0, s15.2.1, s15.2.2)).bind fun b20 =>
    some (Sum.inl (IntKind.wrap .i64 (s15.1 + 1), b20.1, b20.2))
  else
    some (Sum.inr (s15.2.1, s15.2.2))
noncomputable def F_made_Tape_Guard_j3  (v14 : S_multihopmade_Tape × S_Guard) : Option (S_Guard × S_multihopmade_Tape) :=
  (loopO (F_made_Tape_Guard_l4) (0, v14.1, v14.2)).bind fun b16 =>
  some ((b16.2, b16.1))
noncomputable def F_made_Tape_Guard (a0 : S_multihopmade_Tape) : Option (S_Guard × S_multihopmade_Tape) :=
  (F_made_Tape_Next a0 3).bind fun v1 =>
  (loopO (F_made_Tape_Guard_l1) (0, v1.2, (S_Guard.mk ([] : List S_LinkKey) 0 0 (IntKind.wrap .u32 v1.1) ([] : List S_Peer)))).bind fun b3 =>
  (F_made_Tape_Next b3.1 50).bind fun v12 =>
  (F_made_Tape_Next v12.2 40).bind fun v13 =>
  (F_made_Tape_Bool v13.2 8).bind fun v32 =>
  bif v32.1 then
    (F_made_Tape_Next v32.2 2).bind fun v34 =>
    (F_made_Tape_Guard_j3) (v34.2, (S_Guard.mk b3.2.Keys (IntKind.wrap .u32 (4294967295 - (IntKind.wrap .u32 v34.1))) 4294967295 b3.2.Nonce b3.2.Peers))
  else
    (F_made_Tape_Guard_j3) (v32.2, (S_Guard.mk b3.2.Keys (IntKind.wrap .u32 v12.1) (IntKind.wrap .u32 ((IntKind.wrap .u32 v12.1) + (IntKind.wrap .u32 v13.1))) b3.2.Nonce b3.2.Peers))
set_option maxRecDepth 100000 in
set_option maxHeartbeats 40000000 in
theorem okT_made_Tape_Guard (a0 : S_multihopmade_Tape) (r : S_Guard × S_multihopmade_Tape) (h : F_made_Tape_Guard a0 = some r) : Con Try.prog 11 [.c (.box 1000000 0)] [(1000000, .box (S_multihopmade_Tape.cs a0))] (.agg [.slc 17 900002 (List.length r.1.Keys) (List.map S_LinkKey.cs r.1.Keys), .lit (.int .u32 (r.1.Counter)), .lit (.int .u32 (r.1.Reserved)), .lit (.int .u32 (r.1.Nonce)), .slc 6 900006 (List.length r.1.Peers) (List.map S_Peer.cs r.1.Peers)]) [(1000000, .box (S_multihopmade_Tape.cs r.2)), (900000, .spare 69 17 (List.length r.1.Keys)), (900004, .spare 79 6 (List.length r.1.Peers))] := by
  unfold F_made_Tape_Guard at h
  refine con_of [] [(1000000, [2]), (900000, []), (900004, [])] 85 Try.func11 rfl rfl (by kernel_rfl) (fun K => ?_)
  refine TS_go 7 ?_
  replace h := bindO h
  obtain ⟨v1, hv1, h⟩ := h
  refine TS_con [] [] (some (1000000, 0)) (ok_made_Tape_Next a0 3 v1 hv1) (by kernel_rfl) (by kernel_rfl) (by kernel_rfl) ?_
  refine TS_go 11 ?_
  refine TS_nilB 3 0 600000 69 17 (by kernel_rfl) ?_
  refine TS_nilB 3 4 600001 79 6 (by kernel_rfl) ?_
  refine TS_cut ⟨[(0, []), (2, []), (3, []), (4, [])], [(1000000, (1000000, [])), (2, (2, [])), (3, (3, [])), (600000, (600000, [])), (600001, (600001, []))]⟩ (.mk [.code (codeAt [1, 1, 0, 1, 0] (bodyOf Try.f11)), .blk 0, .code (codeAt [1, 1, 1] (bodyOf Try.f11))] .normal ⟨[(0, .c (.box 1000000 0)), (2, .c (.box 2 0)), (3, .c (.box 3 0)), (4, .c (.lit (.int .i64 (0))))], [(1000000, .box [.slc 1 0 (List.length v1.2.l) (List.map (ecI .i64) v1.2.l), .lit (.int .i64 (v1.2.at_))]), (2, .box [.lit (.slice none 0 0), .lit (.int .u32 (0)), .lit (.int .u32 (0)), .lit (.int .u32 (0)), .lit (.slice none 0 0)]), (3, .box [.slc 17 600002 (List.length ([] : List S_LinkKey)) (List.map S_LinkKey.cs ([] : List S_LinkKey)), .lit (.int .u32 (0)), .lit (.int .u32 (0)), .lit (.int .u32 (IntKind.wrap .u32 v1.1)), .slc 6 600003 (List.length ([] : List S_Peer)) (List.map S_Peer.cs ([] : List S_Peer))]), (600000, .spare 69 17 (List.length ([] : List S_LinkKey))), (600001, .spare 79 6 (List.length ([] : List S_Peer)))]⟩) (by kernel_rfl) (by kernel_rfl) ?_
  replace h := bindO h
  obtain ⟨y4, hl1, hK1⟩ := h
  refine TS_loopB (F_made_Tape_Guard_l1) ⟨[(0, []), (2, []), (3, []), (4, [])], [(1000000, (1000000, [])), (2, (2, [])), (3, (3, [])), (600000, (600000, [])), (600001, (600001, []))]⟩ (fun (s2 : Int × S_multihopmade_Tape × S_Guard) => [(4, .c (.lit (.int .i64 (s2.1))))]) (fun (s2 : Int × S_multihopmade_Tape × S_Guard) => [(1000000, .box (S_multihopmade_Tape.cs s2.2.1)), (3, .box [.slc 17 600002 (List.length s2.2.2.Keys) (List.map S_LinkKey.cs s2.2.2.Keys), .lit (.int .u32 (s2.2.2.Counter)), .lit (.int .u32 (s2.2.2.Reserved)), .lit (.int .u32 (s2.2.2.Nonce)), .slc 6 600003 (List.length s2.2.2.Peers) (List.map S_Peer.cs s2.2.2.Peers)]), (600000, .spare 69 17 (List.length s2.2.2.Keys)), (600001, .spare 79 6 (List.length s2.2.2.Peers))]) (0, v1.2, (S_Guard.mk ([] : List S_LinkKey) 0 0 (IntKind.wrap .u32 v1.1) ([] : List S_Peer))) y4 (.exit 0) (fun (b : S_multihopmade_Tape × S_Guard) => b) ⟨[(0, []), (2, []), (3, [])], [(1000000, (1000000, [])), (2, (2, [])), (3, (3, [])), (600000, (600000, [])), (600001, (600001, []))]⟩ (fun (b3 : S_multihopmade_Tape × S_Guard) => []) (fun (b3 : S_multihopmade_Tape × S_Guard) => [(1000000, .box (S_multihopmade_Tape.cs b3.1)), (3, .box [.slc 17 600002 (List.length b3.2.Keys) (List.map S_LinkKey.cs b3.2.Keys), .lit (.int .u32 (b3.2.Counter)), .lit (.int .u32 (b3.2.Reserved)), .lit (.int .u32 (b3.2.Nonce)), .slc 6 600003 (List.length b3.2.Peers) (List.map S_Peer.cs b3.2.Peers)]), (600000, .spare 69 17 (List.length b3.2.Keys)), (600001, .spare 79 6 (List.length b3.2.Peers))]) hl1 (by kernel_rfl) (by kernel_rfl) ?_ ?_
  · intro s2 x h hy1
    unfold F_made_Tape_Guard_l1 at h
    refine TS_go 6 ?_
    replace h := condO h
    rcases h with ⟨hb5, h⟩ | ⟨hb5, h⟩
    · refine TS_know 13 (b := true) hb5 (by kernel_rfl) (by kernel_rfl) ?_
      refine TS_T (by kernel_rfl) rfl ?_
      refine TS_go 1 ?_
      refine TS_cut ⟨[(0, []), (2, []), (3, []), (4, [])], [(1000000, (1000000, [])), (2, (2, [])), (3, (3, [])), (600000, (600000, [])), (600001, (600001, []))]⟩ (.mk [.code (codeAt [1, 1, 0, 1, 0, 0, 1] (bodyOf Try.f11))] .normal ⟨[(0, .c (.box 1000000 0)), (2, .c (.box 2 0)), (3, .c (.box 3 0)), (4, .c (.lit (.int .i64 (s2.1))))], [(1000000, .box [.slc 1 0 (List.length s2.2.1.l) (List.map (ecI .i64) s2.2.1.l), .lit (.int .i64 (s2.2.1.at_))]), (2, .box [.lit (.slice none 0 0), .lit (.int .u32 (0)), .lit (.int .u32 (0)), .lit (.int .u32 (0)), .lit (.slice none 0 0)]), (3, .box [.slc 17 600002 (List.length s2.2.2.Keys) (List.map S_LinkKey.cs s2.2.2.Keys), .lit (.int .u32 (s2.2.2.Counter)), .lit (.int .u32 (s2.2.2.Reserved)), .lit (.int .u32 (s2.2.2.Nonce)), .slc 6 600003 (List.length s2.2.2.Peers) (List.map S_Peer.cs s2.2.2.Peers)]), (600000, .spare 69 17 (List.length s2.2.2.Keys)), (600001, .spare 79 6 (List.length s2.2.2.Peers))]⟩) (by kernel_rfl) (by kernel_rfl) ?_
      refine TS_joinB ⟨[(0, []), (2, []), (3, []), (4, [])], [(1000000, (1000000, [])), (2, (2, [])), (3, (3, [])), (600000, (600000, [])), (600001, (600001, []))]⟩ (fun (v6 : S_multihopmade_Tape × S_Guard) => []) (fun (v6 : S_multihopmade_Tape × S_Guard) => [(1000000, .box (S_multihopmade_Tape.cs v6.1)), (3, .box [.slc 17 600002 (List.length v6.2.Keys) (List.map S_LinkKey.cs v6.2.Keys), .lit (.int .u32 (v6.2.Counter)), .lit (.int .u32 (v6.2.Reserved)), .lit (.int .u32 (v6.2.Nonce)), .slc 6 600003 (List.length v6.2.Peers) (List.map S_Peer.cs v6.2.Peers)]), (600000, .spare 69 17 (List.length v6.2.Keys)), (600001, .spare 79 6 (List.length v6.2.Peers))]) (F_made_Tape_Guard_j2 s2) x ?_ ?_
      · clear h
        intro v6 h
        unfold F_made_Tape_Guard_j2 at h
        refine TS_go 5 ?_
        have ret := Option.some.inj h
        subst ret
        exact TS_againB _ ⟨[(0, []), (2, []), (3, []), (4, [])], [(1000000, (1000000, [])), (2, (2, [])), (3, (3, [])), (600000, (600000, [])), (600001, (600001, []))]⟩ rfl (by kernel_rfl) (by kernel_rfl)
      · refine TS_go 4 ?_
        replace h := bindO h
        obtain ⟨v7, hv7, h⟩ := h
        refine TS_con [] [] (some (1000000, 0)) (ok_made_Tape_Next s2.2.1 4 v7 hv7) (by kernel_rfl) (by kernel_rfl) (by kernel_rfl) ?_
        refine TS_go 2 ?_
        replace h := condO h
        rcases h with ⟨hb8, h⟩ | ⟨hb8, h⟩
        · refine TS_know 18 (b := true) hb8 (by kernel_rfl) (by kernel_rfl) ?_
          refine TS_T (by kernel_rfl) rfl ?_
          refine TS_draw (by kernel_rfl) ?_
          refine TD_go 5 ?_
          replace h := bindO h
          obtain ⟨v9, hv9, h⟩ := h
          refine TD_call [] (ok_made_Key s2.1 v9 hv9) (by kernel_rfl) (by kernel_rfl) ?_
          refine TD_go 1 ?_
          refine TD_litNT 26 69 17 S_LinkKey.cs [] ([(S_LinkKey.mk (IntKind.wrap .u8 s2.1) v9)] : List S_LinkKey) (by kernel_rfl) (by kernel_rfl) ?_
          replace h := bindO h
          obtain ⟨l10, hl10, h⟩ := h
          refine TD_appT (d := 600000) (e := 69) (sz := 17) (N := List.length s2.2.2.Keys) S_LinkKey.cs (fun _ => by kernel_rfl) (l1 := s2.2.2.Keys) (l2 := ([(S_LinkKey.mk (IntKind.wrap .u8 s2.1) v9)] : List S_LinkKey)) (c := .whole) hl10 (by kernel_rfl) (by kernel_rfl) ?_
          refine TD_go 2 ?_
          refine TD_end (by kernel_rfl) ?_
          refine TS_go 1 ?_
          exact TS_meet (v7.2, (S_Guard.mk l10 s2.2.2.Counter s2.2.2.Reserved s2.2.2.Nonce s2.2.2.Peers)) ⟨[(0, []), (2, []), (3, []), (4, [])], [(1000000, (1000000, [])), (2, (2, [])), (3, (3, [])), (600000, (600000, [])), (600001, (600001, []))]⟩ h (by kernel_rfl) (by kernel_rfl)
        · refine TS_know 18 (b := false) hb8 (by kernel_rfl) (by kernel_rfl) ?_
          refine TS_F (by kernel_rfl) rfl ?_
          refine TS_go 2 ?_
          exact TS_meet (v7.2, s2.2.2) ⟨[(0, []), (2, []), (3, []), (4, [])], [(1000000, (1000000, [])), (2, (2, [])), (3, (3, [])), (600000, (600000, [])), (600001, (600001, []))]⟩ h (by kernel_rfl) (by kernel_rfl)
    · refine TS_know 13 (b := false) hb5 (by kernel_rfl) (by kernel_rfl) ?_
      refine TS_F (by kernel_rfl) rfl ?_
      refine TS_go 2 ?_
      have ret := Option.some.inj h
      subst ret
      exact TS_brkB (s2.2.1, s2.2.2) ⟨[(0, []), (2, []), (3, [])], [(1000000, (1000000, [])), (2, (2, [])), (3, (3, [])), (600000, (600000, [])), (600001, (600001, []))]⟩ rfl (by kernel_rfl) (by kernel_rfl) (by kernel_rfl)
  · intro b3 hb
    subst y4
    have h := hK1
    refine TS_go 4 ?_
    replace h := bindO h
    obtain ⟨v12, hv12, h⟩ := h
    refine TS_con [] [] (some (1000000, 0)) (ok_made_Tape_Next b3.1 50 v12 hv12) (by kernel_rfl) (by kernel_rfl) (by kernel_rfl) ?_
    refine TS_go 5 ?_
    refine TS_draw (by kernel_rfl) ?_
    refine TD_go 3 ?_
    replace h := bindO h
    obtain ⟨v13, hv13, h⟩ := h
    refine TD_con (_h := []) (_h' := []) [] 1000000 0 [.slc 1 0 (List.length v12.2.l) (List.map (ecI .i64) v12.2.l), .lit (.int .i64 (v12.2.at_))] _ _ (ok_made_Tape_Next v12.2 40 v13 hv13) (by kernel_rfl) (by kernel_rfl) (by kernel_rfl) (by kernel_rfl) ?_
    refine TD_go 4 ?_
    refine TD_end (by kernel_rfl) ?_
    refine TS_cut ⟨[(0, []), (2, []), (3, [])], [(1000000, (1000000, [])), (2, (2, [])), (3, (3, [])), (600000, (600000, [])), (600001, (600001, []))]⟩ (.mk [.code (codeAt [1, 1, 1, 1, 1] (bodyOf Try.f11))] .normal ⟨[(0, .c (.box 1000000 0)), (2, .c (.box 2 0)), (3, .c (.box 3 0))], [(1000000, .box [.slc 1 0 (List.length v13.2.l) (List.map (ecI .i64) v13.2.l), .lit (.int .i64 (v13.2.at_))]), (2, .box [.lit (.slice none 0 0), .lit (.int .u32 (0)), .lit (.int .u32 (0)), .lit (.int .u32 (0)), .lit (.slice none 0 0)]), (3, .box [.slc 17 600002 (List.length b3.2.Keys) (List.map S_LinkKey.cs b3.2.Keys), .lit (.int .u32 (IntKind.wrap .u32 v12.1)), .lit (.int .u32 (IntKind.wrap .u32 ((IntKind.wrap .u32 v12.1) + (IntKind.wrap .u32 v13.1)))), .lit (.int .u32 (b3.2.Nonce)), .slc 6 600003 (List.length b3.2.Peers) (List.map S_Peer.cs b3.2.Peers)]), (600000, .spare 69 17 (List.length b3.2.Keys)), (600001, .spare 79 6 (List.length b3.2.Peers))]⟩) (by kernel_rfl) (by kernel_rfl) ?_
    refine TS_joinB ⟨[(0, []), (2, []), (3, [])], [(1000000, (1000000, [])), (2, (2, [])), (3, (3, [])), (600000, (600000, [])), (600001, (600001, []))]⟩ (fun (v14 : S_multihopmade_Tape × S_Guard) => []) (fun (v14 : S_multihopmade_Tape × S_Guard) => [(1000000, .box (S_multihopmade_Tape.cs v14.1)), (3, .box [.slc 17 600002 (List.length v14.2.Keys) (List.map S_LinkKey.cs v14.2.Keys), .lit (.int .u32 (v14.2.Counter)), .lit (.int .u32 (v14.2.Reserved)), .lit (.int .u32 (v14.2.Nonce)), .slc 6 600003 (List.length v14.2.Peers) (List.map S_Peer.cs v14.2.Peers)]), (600000, .spare 69 17 (List.length v14.2.Keys)), (600001, .spare 79 6 (List.length v14.2.Peers))]) (F_made_Tape_Guard_j3) r ?_ ?_
    · clear h
      intro v14 h
      unfold F_made_Tape_Guard_j3 at h
      refine TS_go 6 ?_
      refine TS_cut ⟨[(0, []), (2, []), (3, []), (5, [])], [(1000000, (1000000, [])), (2, (2, [])), (3, (3, [])), (600000, (600000, [])), (600001, (600001, []))]⟩ (.mk [.code (codeAt [1, 1, 1, 1, 1, 1, 0, 1, 0] (bodyOf Try.f11)), .blk 2, .code (codeAt [1, 1, 1, 1, 1, 1, 1] (bodyOf Try.f11))] .normal ⟨[(0, .c (.box 1000000 0)), (2, .c (.box 2 0)), (3, .c (.box 3 0)), (5, .c (.lit (.int .i64 (0))))], [(1000000, .box [.slc 1 0 (List.length v14.1.l) (List.map (ecI .i64) v14.1.l), .lit (.int .i64 (v14.1.at_))]), (2, .box [.lit (.slice none 0 0), .lit (.int .u32 (0)), .lit (.int .u32 (0)), .lit (.int .u32 (0)), .lit (.slice none 0 0)]), (3, .box [.slc 17 600002 (List.length v14.2.Keys) (List.map S_LinkKey.cs v14.2.Keys), .lit (.int .u32 (v14.2.Counter)), .lit (.int .u32 (v14.2.Reserved)), .lit (.int .u32 (v14.2.Nonce)), .slc 6 600003 (List.length v14.2.Peers) (List.map S_Peer.cs v14.2.Peers)]), (600000, .spare 69 17 (List.length v14.2.Keys)), (600001, .spare 79 6 (List.length v14.2.Peers))]⟩) (by kernel_rfl) (by kernel_rfl) ?_
      replace h := bindO h
      obtain ⟨y17, hl4, hK4⟩ := h
      refine TS_loopB (F_made_Tape_Guard_l4) ⟨[(0, []), (2, []), (3, []), (5, [])], [(1000000, (1000000, [])), (2, (2, [])), (3, (3, [])), (600000, (600000, [])), (600001, (600001, []))]⟩ (fun (s15 : Int × S_multihopmade_Tape × S_Guard) => [(5, .c (.lit (.int .i64 (s15.1))))]) (fun (s15 : Int × S_multihopmade_Tape × S_Guard) => [(1000000, .box (S_multihopmade_Tape.cs s15.2.1)), (3, .box [.slc 17 600002 (List.length s15.2.2.Keys) (List.map S_LinkKey.cs s15.2.2.Keys), .lit (.int .u32 (s15.2.2.Counter)), .lit (.int .u32 (s15.2.2.Reserved)), .lit (.int .u32 (s15.2.2.Nonce)), .slc 6 600003 (List.length s15.2.2.Peers) (List.map S_Peer.cs s15.2.2.Peers)]), (600000, .spare 69 17 (List.length s15.2.2.Keys)), (600001, .spare 79 6 (List.length s15.2.2.Peers))]) (0, v14.1, v14.2) y17 (.exit 2) (fun (b : S_multihopmade_Tape × S_Guard) => b) ⟨[(2, []), (3, [])], [(1000000, (1000000, [])), (2, (2, [])), (3, (3, [])), (600000, (600000, [])), (600001, (600001, []))]⟩ (fun (b16 : S_multihopmade_Tape × S_Guard) => []) (fun (b16 : S_multihopmade_Tape × S_Guard) => [(1000000, .box (S_multihopmade_Tape.cs b16.1)), (3, .box [.slc 17 600002 (List.length b16.2.Keys) (List.map S_LinkKey.cs b16.2.Keys), .lit (.int .u32 (b16.2.Counter)), .lit (.int .u32 (b16.2.Reserved)), .lit (.int .u32 (b16.2.Nonce)), .slc 6 600003 (List.length b16.2.Peers) (List.map S_Peer.cs b16.2.Peers)]), (600000, .spare 69 17 (List.length b16.2.Keys)), (600001, .spare 79 6 (List.length b16.2.Peers))]) hl4 (by kernel_rfl) (by kernel_rfl) ?_ ?_
      · intro s15 x h hy4
        unfold F_made_Tape_Guard_l4 at h
        refine TS_go 6 ?_
        replace h := condO h
        rcases h with ⟨hb18, h⟩ | ⟨hb18, h⟩
        · refine TS_know 49 (b := true) hb18 (by kernel_rfl) (by kernel_rfl) ?_
          refine TS_T (by kernel_rfl) rfl ?_
          refine TS_go 8 ?_
          refine TS_cut ⟨[(0, []), (2, []), (3, []), (5, []), (6, [])], [(1000000, (1000000, [])), (2, (2, [])), (3, (3, [])), (600000, (600000, [])), (600001, (600001, []))]⟩ (.mk [.code (codeAt [1, 1, 1, 1, 1, 1, 0, 1, 0, 0, 1, 0, 0, 1, 0] (bodyOf Try.f11)), .blk 4, .blk 3, .code (codeAt [1, 1, 1, 1, 1, 1, 0, 1, 0, 0, 1, 1] (bodyOf Try.f11))] .normal ⟨[(0, .c (.box 1000000 0)), (2, .c (.box 2 0)), (3, .c (.box 3 0)), (5, .c (.lit (.int .i64 (s15.1)))), (6, .c (.lit (.int .i64 (0))))], [(1000000, .box [.slc 1 0 (List.length s15.2.1.l) (List.map (ecI .i64) s15.2.1.l), .lit (.int .i64 (s15.2.1.at_))]), (2, .box [.lit (.slice none 0 0), .lit (.int .u32 (0)), .lit (.int .u32 (0)), .lit (.int .u32 (0)), .lit (.slice none 0 0)]), (3, .box [.slc 17 600002 (List.length s15.2.2.Keys) (List.map S_LinkKey.cs s15.2.2.Keys), .lit (.int .u32 (s15.2.2.Counter)), .lit (.int .u32 (s15.2.2.Reserved)), .lit (.int .u32 (s15.2.2.Nonce)), .slc 6 600003 (List.length s15.2.2.Peers) (List.map S_Peer.cs s15.2.2.Peers)]), (600000, .spare 69 17 (List.length s15.2.2.Keys)), (600001, .spare 79 6 (List.length s15.2.2.Peers))]⟩) (by kernel_rfl) (by kernel_rfl) ?_
          replace h := bindO h
          obtain ⟨y21, hl5, hK5⟩ := h
          refine TS_loopB (F_made_Tape_Guard_l5 s15) ⟨[(0, []), (2, []), (3, []), (5, []), (6, [])], [(1000000, (1000000, [])), (2, (2, [])), (3, (3, [])), (600000, (600000, [])), (600001, (600001, []))]⟩ (fun (s19 : Int × S_multihopmade_Tape × S_Guard) => [(6, .c (.lit (.int .i64 (s19.1))))]) (fun (s19 : Int × S_multihopmade_Tape × S_Guard) => [(1000000, .box (S_multihopmade_Tape.cs s19.2.1)), (3, .box [.slc 17 600002 (List.length s19.2.2.Keys) (List.map S_LinkKey.cs s19.2.2.Keys), .lit (.int .u32 (s19.2.2.Counter)), .lit (.int .u32 (s19.2.2.Reserved)), .lit (.int .u32 (s19.2.2.Nonce)), .slc 6 600003 (List.length s19.2.2.Peers) (List.map S_Peer.cs s19.2.2.Peers)]), (600000, .spare 69 17 (List.length s19.2.2.Keys)), (600001, .spare 79 6 (List.length s19.2.2.Peers))]) (0, s15.2.1, s15.2.2) y21 (.exit 4) (fun (b : S_multihopmade_Tape × S_Guard) => b) ⟨[(0, []), (2, []), (3, []), (5, [])], [(1000000, (1000000, [])), (2, (2, [])), (3, (3, [])), (600000, (600000, [])), (600001, (600001, []))]⟩ (fun (b20 : S_multihopmade_Tape × S_Guard) => []) (fun (b20 : S_multihopmade_Tape × S_Guard) => [(1000000, .box (S_multihopmade_Tape.cs b20.1)), (3, .box [.slc 17 600002 (List.length b20.2.Keys) (List.map S_LinkKey.cs b20.2.Keys), .lit (.int .u32 (b20.2.Counter)), .lit (.int .u32 (b20.2.Reserved)), .lit (.int .u32 (b20.2.Nonce)), .slc 6 600003 (List.length b20.2.Peers) (List.map S_Peer.cs b20.2.Peers)]), (600000, .spare 69 17 (List.length b20.2.Keys)), (600001, .spare 79 6 (List.length b20.2.Peers))]) hl5 (by kernel_rfl) (by kernel_rfl) ?_ ?_
          · intro s19 x h hy5
            unfold F_made_Tape_Guard_l5 at h
            refine TS_go 9 ?_
            replace h := condO h
            rcases h with ⟨hb22, h⟩ | ⟨hb22, h⟩
            · refine TS_know 56 (b := true) hb22 (by kernel_rfl) (by kernel_rfl) ?_
              refine TS_T (by kernel_rfl) rfl ?_
              refine TS_go 1 ?_
              refine TS_cut ⟨[(0, []), (2, []), (3, []), (5, []), (6, [])], [(1000000, (1000000, [])), (2, (2, [])), (3, (3, [])), (600000, (600000, [])), (600001, (600001, []))]⟩ (.mk [.code (codeAt [1, 1, 1, 1, 1, 1, 0, 1, 0, 0, 1, 0, 0, 1, 0, 0, 1] (bodyOf Try.f11))] .normal ⟨[(0, .c (.box 1000000 0)), (2, .c (.box 2 0)), (3, .c (.box 3 0)), (5, .c (.lit (.int .i64 (s15.1)))), (6, .c (.lit (.int .i64 (s19.1))))], [(1000000, .box [.slc 1 0 (List.length s19.2.1.l) (List.map (ecI .i64) s19.2.1.l), .lit (.int .i64 (s19.2.1.at_))]), (2, .box [.lit (.slice none 0 0), .lit (.int .u32 (0)), .lit (.int .u32 (0)), .lit (.int .u32 (0)), .lit (.slice none 0 0)]), (3, .box [.slc 17 600002 (List.length s19.2.2.Keys) (List.map S_LinkKey.cs s19.2.2.Keys), .lit (.int .u32 (s19.2.2.Counter)), .lit (.int .u32 (s19.2.2.Reserved)), .lit (.int .u32 (s19.2.2.Nonce)), .slc 6 600003 (List.length s19.2.2.Peers) (List.map S_Peer.cs s19.2.2.Peers)]), (600000, .spare 69 17 (List.length s19.2.2.Keys)), (600001, .spare 79 6 (List.length s19.2.2.Peers))]⟩) (by kernel_rfl) (by kernel_rfl) ?_
              refine TS_joinB ⟨[(0, []), (2, []), (3, []), (5, []), (6, [])], [(1000000, (1000000, [])), (2, (2, [])), (3, (3, [])), (600000, (600000, [])), (600001, (600001, []))]⟩ (fun (v23 : S_multihopmade_Tape × S_Guard) => []) (fun (v23 : S_multihopmade_Tape × S_Guard) => [(1000000, .box (S_multihopmade_Tape.cs v23.1)), (3, .box [.slc 17 600002 (List.length v23.2.Keys) (List.map S_LinkKey.cs v23.2.Keys), .lit (.int .u32 (v23.2.Counter)), .lit (.int .u32 (v23.2.Reserved)), .lit (.int .u32 (v23.2.Nonce)), .slc 6 600003 (List.length v23.2.Peers) (List.map S_Peer.cs v23.2.Peers)]), (600000, .spare 69 17 (List.length v23.2.Keys)), (600001, .spare 79 6 (List.length v23.2.Peers))]) (F_made_Tape_Guard_j6 s19) x ?_ ?_
              · clear h
                intro v23 h
                unfold F_made_Tape_Guard_j6 at h
                refine TS_go 5 ?_
                have ret := Option.some.inj h
                subst ret
                exact TS_againB _ ⟨[(0, []), (2, []), (3, []), (5, []), (6, [])], [(1000000, (1000000, [])), (2, (2, [])), (3, (3, [])), (600000, (600000, [])), (600001, (600001, []))]⟩ rfl (by kernel_rfl) (by kernel_rfl)
              · refine TS_go 4 ?_
                replace h := bindO h
                obtain ⟨v24, hv24, h⟩ := h
                refine TS_con [] [] (some (1000000, 0)) (ok_made_Tape_Bool s19.2.1 3 v24 hv24) (by kernel_rfl) (by kernel_rfl) (by kernel_rfl) ?_
                refine TS_go 1 ?_
                replace h := condO h
                rcases h with ⟨hb25, h⟩ | ⟨hb25, h⟩
                · refine TS_know 60 (b := true) hb25 (by kernel_rfl) (by kernel_rfl) ?_
                  refine TS_T (by kernel_rfl) rfl ?_
                  refine TS_go 1 ?_
                  refine TS_draw (by kernel_rfl) ?_
                  refine TD_go 6 ?_
                  replace h := bindO h
                  obtain ⟨e26, he26, h⟩ := h
                  refine TD_idx S_LinkKey.cs he26 (by kernel_rfl) (by kernel_rfl) ?_
                  refine TD_go 3 ?_
                  replace h := bindO h
                  obtain ⟨v27, hv27, h⟩ := h
                  refine TD_con (_h := []) (_h' := []) [] 1000000 0 [.slc 1 0 (List.length v24.2.l) (List.map (ecI .i64) v24.2.l), .lit (.int .i64 (v24.2.at_))] _ _ (ok_made_Tape_Next v24.2 60 v27 hv27) (by kernel_rfl) (by kernel_rfl) (by kernel_rfl) (by kernel_rfl) ?_
                  refine TD_go 2 ?_
                  replace h := bindO h
                  obtain ⟨v28, hv28, h⟩ := h
                  refine TD_con (_h := []) (_h' := []) [] 1000000 0 [.slc 1 0 (List.length v27.2.l) (List.map (ecI .i64) v27.2.l), .lit (.int .i64 (v27.2.at_))] _ _ (ok_made_Tape_Word v27.2 v28 hv28) (by kernel_rfl) (by kernel_rfl) (by kernel_rfl) (by kernel_rfl) ?_
                  refine TD_go 5 ?_
                  refine TD_end (by kernel_rfl) ?_
                  refine TS_go 4 ?_
                  refine TS_litNT 81 79 6 S_Peer.cs [] ([(S_Peer.mk (S_Addr.mk 2 (IntKind.wrap .u16 s15.1) 0) e26.Index (IntKind.wrap .u32 v27.1) (ior .u32 (IntKind.wrap .u32 v28.1) 1))] : List S_Peer) (by kernel_rfl) (by kernel_rfl) ?_
                  replace h := bindO h
                  obtain ⟨l29, hl29, h⟩ := h
                  refine TS_appT (d := 600001) (e := 79) (sz := 6) (N := List.length s19.2.2.Peers) S_Peer.cs (fun _ => by kernel_rfl) (l1 := s19.2.2.Peers) (l2 := ([(S_Peer.mk (S_Addr.mk 2 (IntKind.wrap .u16 s15.1) 0) e26.Index (IntKind.wrap .u32 v27.1) (ior .u32 (IntKind.wrap .u32 v28.1) 1))] : List S_Peer)) (c := .whole) hl29 (by kernel_rfl) (by kernel_rfl) ?_
                  refine TS_go 4 ?_
                  exact TS_meet (v28.2, (S_Guard.mk s19.2.2.Keys s19.2.2.Counter s19.2.2.Reserved s19.2.2.Nonce l29)) ⟨[(0, []), (2, []), (3, []), (5, []), (6, [])], [(1000000, (1000000, [])), (2, (2, [])), (3, (3, [])), (600000, (600000, [])), (600001, (600001, []))]⟩ h (by kernel_rfl) (by kernel_rfl)
                · refine TS_know 60 (b := false) hb25 (by kernel_rfl) (by kernel_rfl) ?_
                  refine TS_F (by kernel_rfl) rfl ?_
                  refine TS_go 2 ?_
                  exact TS_meet (v24.2, s19.2.2) ⟨[(0, []), (2, []), (3, []), (5, []), (6, [])], [(1000000, (1000000, [])), (2, (2, [])), (3, (3, [])), (600000, (600000, [])), (600001, (600001, []))]⟩ h (by kernel_rfl) (by kernel_rfl)
            · refine TS_know 56 (b := false) hb22 (by kernel_rfl) (by kernel_rfl) ?_
              refine TS_F (by kernel_rfl) rfl ?_
              refine TS_go 2 ?_
              have ret := Option.some.inj h
              subst ret
              exact TS_brkB (s19.2.1, s19.2.2) ⟨[(0, []), (2, []), (3, []), (5, [])], [(1000000, (1000000, [])), (2, (2, [])), (3, (3, [])), (600000, (600000, [])), (600001, (600001, []))]⟩ rfl (by kernel_rfl) (by kernel_rfl) (by kernel_rfl)
          · intro b20 hb
            subst y21
            have h := hK5
            refine TS_go 7 ?_
            have ret := Option.some.inj h
            subst ret
            exact TS_againB _ ⟨[(0, []), (2, []), (3, []), (5, [])], [(1000000, (1000000, [])), (2, (2, [])), (3, (3, [])), (600000, (600000, [])), (600001, (600001, []))]⟩ rfl (by kernel_rfl) (by kernel_rfl)
        · refine TS_know 49 (b := false) hb18 (by kernel_rfl) (by kernel_rfl) ?_
          refine TS_F (by kernel_rfl) rfl ?_
          refine TS_go 2 ?_
          have ret := Option.some.inj h
          subst ret
          exact TS_brkB (s15.2.1, s15.2.2) ⟨[(2, []), (3, [])], [(1000000, (1000000, [])), (2, (2, [])), (3, (3, [])), (600000, (600000, [])), (600001, (600001, []))]⟩ rfl (by kernel_rfl) (by kernel_rfl) (by kernel_rfl)
      · intro b16 hb
        subst y17
        have h := hK4
        refine TS_go 6 ?_
        refine TS_fitU ⟨[(2, [])], [(600000, (900000, [])), (600001, (900004, [])), (1000000, (1000000, [])), (2, (2, []))]⟩ (by kernel_rfl) ?_
        refine TS_go 1 ?_
        have ret := Option.some.inj h
        subst ret
        exact TS_ret (by kernel_rfl) (by kernel_rfl) (by kernel_rfl)
    · refine TS_go 3 ?_
      replace h := bindO h
      obtain ⟨v32, hv32, h⟩ := h
      refine TS_con [] [] (some (1000000, 0)) (ok_made_Tape_Bool v13.2 8 v32 hv32) (by kernel_rfl) (by kernel_rfl) (by kernel_rfl) ?_
      refine TS_go 1 ?_
      replace h := condO h
      rcases h with ⟨hb33, h⟩ | ⟨hb33, h⟩
      · refine TS_know 41 (b := true) hb33 (by kernel_rfl) (by kernel_rfl) ?_
        refine TS_T (by kernel_rfl) rfl ?_
        refine TS_go 2 ?_
        replace h := bindO h
        obtain ⟨v34, hv34, h⟩ := h
        refine TS_con [] [] (some (1000000, 0)) (ok_made_Tape_Next v32.2 2 v34 hv34) (by kernel_rfl) (by kernel_rfl) (by kernel_rfl) ?_
        refine TS_go 7 ?_
        exact TS_meet (v34.2, (S_Guard.mk b3.2.Keys (IntKind.wrap .u32 (4294967295 - (IntKind.wrap .u32 v34.1))) 4294967295 b3.2.Nonce b3.2.Peers)) ⟨[(0, []), (2, []), (3, [])], [(1000000, (1000000, [])), (2, (2, [])), (3, (3, [])), (600000, (600000, [])), (600001, (600001, []))]⟩ h (by kernel_rfl) (by kernel_rfl)
      · refine TS_know 41 (b := false) hb33 (by kernel_rfl) (by kernel_rfl) ?_
        refine TS_F (by kernel_rfl) rfl ?_
        refine TS_go 1 ?_
        exact TS_meet (v32.2, (S_Guard.mk b3.2.Keys (IntKind.wrap .u32 v12.1) (IntKind.wrap .u32 ((IntKind.wrap .u32 v12.1) + (IntKind.wrap .u32 v13.1))) b3.2.Nonce b3.2.Peers)) ⟨[(0, []), (2, []), (3, [])], [(1000000, (1000000, [])), (2, (2, [])), (3, (3, [])), (600000, (600000, [])), (600001, (600001, []))]⟩ h (by kernel_rfl) (by kernel_rfl)
/-- (*multihop/multihopmade.Tape).Device -/
noncomputable def F_made_Tape_Device (a0 : S_multihopmade_Tape) : Option (S_Addr × S_multihopmade_Tape) :=
  (F_made_Tape_Next a0 5).bind fun v1 =>
  (F_made_Tape_Bool v1.2 2).bind fun v2 =>
  bif v2.1 then
    some (((S_Addr.mk 3 0 (IntKind.wrap .u64 (144115188075855872 + (IntKind.wrap .u64 v1.1)))), v2.2))
  else
    some (((S_Addr.mk 2 (IntKind.wrap .u16 v1.1) 0), v2.2))
set_option maxRecDepth 100000 in
set_option maxHeartbeats 40000000 in
theorem ok_made_Tape_Device (a0 : S_multihopmade_Tape) (r : S_Addr × S_multihopmade_Tape) (h : F_made_Tape_Device a0 = some r) : Con Try.prog 55 [.c (.box 1000000 0)] [(1000000, .box (S_multihopmade_Tape.cs a0))] (.agg (S_Addr.cs r.1)) [(1000000, .box (S_multihopmade_Tape.cs r.2))] := by
  unfold F_made_Tape_Device at h
  refine con_of [] [(1000000, [2])] 15 Try.func55 rfl rfl (by kernel_rfl) (fun K => ?_)
  refine TS_go 7 ?_
  replace h := bindO h
  obtain ⟨v1, hv1, h⟩ := h
  refine TS_con [] [] (some (1000000, 0)) (ok_made_Tape_Next a0 5 v1 hv1) (by kernel_rfl) (by kernel_rfl) (by kernel_rfl) ?_
  refine TS_go 6 ?_
  replace h := bindO h
  obtain ⟨v2, hv2, h⟩ := h
  refine TS_con [] [] (some (1000000, 0)) (ok_made_Tape_Bool v1.2 2 v2 hv2) (by kernel_rfl) (by kernel_rfl) (by kernel_rfl) ?_
  refine TS_go 1 ?_
  replace h := condO h
  rcases h with ⟨hb3, h⟩ | ⟨hb3, h⟩
  · refine TS_know 7 (b := true) hb3 (by kernel_rfl) (by kernel_rfl) ?_
    refine TS_T (by kernel_rfl) rfl ?_
    refine TS_go 10 ?_
    have ret := Option.some.inj h
    subst ret
    exact TS_ret (by kernel_rfl) (by kernel_rfl) (by kernel_rfl)
  · refine TS_know 7 (b := false) hb3 (by kernel_rfl) (by kernel_rfl) ?_
    refine TS_F (by kernel_rfl) rfl ?_
    refine TS_go 9 ?_
    have ret := Option.some.inj h
    subst ret
    exact TS_ret (by kernel_rfl) (by kernel_rfl) (by kernel_rfl)

/-- (*multihop/multihopmade.Tape).Bytes -/
noncomputable def F_made_Tape_Bytes_l1  (s3 : Int × S_multihopmade_Tape × (List Int)) : Option ((Int × S_multihopmade_Tape × (List Int)) ⊕ (S_multihopmade_Tape × (List Int))) :=
  bif (decide (s3.1 < (List.length s3.2.2 : Int))) then
    (F_made_Tape_Next s3.2.1 256).bind fun v7 =>
    (idx (Cut.app .whole s3.2.2) s3.1).bind fun _e8 =>
    (s3.2.2[(0 + Int.toNat s3.1)]?).bind fun _e9 =>
    some (Sum.inl (IntKind.wrap .i64 (s3.1 + 1), v7.2, (List.set s3.2.2 (0 + Int.toNat s3.1) (IntKind.wrap .u8 v7.1))))
  else
    some (Sum.inr (s3.2.1, s3.2.2))
noncomputable def F_made_Tape_Bytes (a0 : S_multihopmade_Tape) (a1 : Int) : Option ((List Int) × S_multihopmade_Tape) :=
  (F_made_Tape_Next a0 (IntKind.wrap .i64 (a1 + 1))).bind fun v1 =>
  (mkO 1 v1.1 v1.1).bind fun n2 =>
  (loopO (F_made_Tape_Bytes_l1) (0, v1.2, (List.replicate n2 (0 : Int)))).bind fun b4 =>
  some ((b4.2, b4.1))
set_option maxRecDepth 100000 in
set_option maxHeartbeats 40000000 in
theorem okT_made_Tape_Bytes (a0 : S_multihopmade_Tape) (a1 : Int) (r : (List Int) × S_multihopmade_Tape) (h : F_made_Tape_Bytes a0 a1 = some r) : Con Try.prog 56 [.c (.box 1000000 0), .c (.lit (.int .i64 (a1)))] [(1000000, .box (S_multihopmade_Tape.cs a0))] (.c (.slc 1 900002 (List.length r.1) (List.map (ecI .u8) r.1))) [(1000000, .box (S_multihopmade_Tape.cs r.2)), (900000, .spare 5 1 (List.length r.1))] := by
  unfold F_made_Tape_Bytes at h
  refine con_of [] [(1000000, [2]), (900000, [])] 25 Try.func56 rfl rfl (by kernel_rfl) (fun K => ?_)
  refine TS_go 9 ?_
  replace h := bindO h
  obtain ⟨v1, hv1, h⟩ := h
  refine TS_con [] [] (some (1000000, 0)) (ok_made_Tape_Next a0 (IntKind.wrap .i64 (a1 + 1)) v1 hv1) (by kernel_rfl) (by kernel_rfl) (by kernel_rfl) ?_
  replace h := bindO h
  obtain ⟨n2, hn2, h⟩ := h
  refine TS_makeR 11 5 1 (ecI .u8) (0 : Int) [] (cs := [.lit (.int .u8 (0))]) (l := v1.1) (c := v1.1) hn2 (by kernel_rfl) (by kernel_rfl) (by kernel_rfl) ?_
  refine TS_go 8 ?_
  refine TS_cut ⟨[(0, []), (5, []), (6, [])], [(1000000, (1000000, [])), (11, (11, []))]⟩ (.mk [.code (codeAt [1, 1, 0, 1, 0] (bodyOf Try.f56)), .blk 0, .code (codeAt [1, 1, 1] (bodyOf Try.f56))] .normal ⟨[(0, .c (.box 1000000 0)), (5, .c (.own 11)), (6, .c (.lit (.int .i64 (0))))], [(1000000, .box [.slc 1 0 (List.length v1.2.l) (List.map (ecI .i64) v1.2.l), .lit (.int .i64 (v1.2.at_))]), (11, .row 5 1 (List.length (List.replicate n2 (0 : Int))) (List.map (ecI .u8) (List.replicate n2 (0 : Int))))]⟩) (by kernel_rfl) (by kernel_rfl) ?_
  replace h := bindO h
  obtain ⟨y5, hl1, hK1⟩ := h
  refine TS_loopB (F_made_Tape_Bytes_l1) ⟨[(0, []), (5, []), (6, [])], [(1000000, (1000000, [])), (11, (11, []))]⟩ (fun (s3 : Int × S_multihopmade_Tape × (List Int)) => [(6, .c (.lit (.int .i64 (s3.1))))]) (fun (s3 : Int × S_multihopmade_Tape × (List Int)) => [(1000000, .box (S_multihopmade_Tape.cs s3.2.1)), (11, .row 5 1 (List.length s3.2.2) (List.map (ecI .u8) s3.2.2))]) (0, v1.2, (List.replicate n2 (0 : Int))) y5 (.exit 0) (fun (b : S_multihopmade_Tape × (List Int)) => b) ⟨[(5, [])], [(1000000, (1000000, [])), (11, (11, []))]⟩ (fun (b4 : S_multihopmade_Tape × (List Int)) => []) (fun (b4 : S_multihopmade_Tape × (List Int)) => [(1000000, .box (S_multihopmade_Tape.cs b4.1)), (11, .row 5 1 (List.length b4.2) (List.map (ecI .u8) b4.2))]) hl1 (by kernel_rfl) (by kernel_rfl) ?_ ?_
  · intro s3 x h hy1
    unfold F_made_Tape_Bytes_l1 at h
    refine TS_go 8 ?_
    replace h := condO h
    rcases h with ⟨hb6, h⟩ | ⟨hb6, h⟩
    · refine TS_know 15 (b := true) hb6 (by kernel_rfl) (by kernel_rfl) ?_
      refine TS_T (by kernel_rfl) rfl ?_
      refine TS_go 7 ?_
      replace h := bindO h
      obtain ⟨v7, hv7, h⟩ := h
      refine TS_con [] [] (some (1000000, 0)) (ok_made_Tape_Next s3.2.1 256 v7 hv7) (by kernel_rfl) (by kernel_rfl) (by kernel_rfl) ?_
      refine TS_go 1 ?_
      replace h := bindO h
      obtain ⟨_e8, he8, h⟩ := h
      refine TS_idxR 11 1 0 (ecI .u8) .whole he8 (by kernel_rfl) (by kernel_rfl) ?_
      replace h := bindO h
      obtain ⟨_e9, he9, h⟩ := h
      refine TS_stE 11 5 1 (List.length s3.2.2) (0 + Int.toNat s3.1) 0 (ecI .u8) (ds := [.lit (.int .u8 (IntKind.wrap .u8 v7.1))]) (IntKind.wrap .u8 v7.1) he9 (by kernel_rfl) (by kernel_rfl) (by kernel_rfl) (by kernel_rfl) ?_
      refine TS_go 7 ?_
      have ret := Option.some.inj h
      subst ret
      exact TS_againB _ ⟨[(0, []), (5, []), (6, [])], [(1000000, (1000000, [])), (11, (11, []))]⟩ rfl (by kernel_rfl) (by kernel_rfl)
    · refine TS_know 15 (b := false) hb6 (by kernel_rfl) (by kernel_rfl) ?_
      refine TS_F (by kernel_rfl) rfl ?_
      refine TS_go 2 ?_
      have ret := Option.some.inj h
      subst ret
      exact TS_brkB (s3.2.1, s3.2.2) ⟨[(5, [])], [(1000000, (1000000, [])), (11, (11, []))]⟩ rfl (by kernel_rfl) (by kernel_rfl) (by kernel_rfl)
  · intro b4 hb
    subst y5
    have h := hK1
    refine TS_go 6 ?_
    refine TS_settle 11 (by kernel_rfl) ?_
    refine TS_fitU ⟨[(4, [])], [(11, (900000, [])), (1000000, (1000000, []))]⟩ (by kernel_rfl) ?_
    refine TS_go 1 ?_
    have ret := Option.some.inj h
    subst ret
    exact TS_ret (by kernel_rfl) (by kernel_rfl) (by kernel_rfl)
/-- (*multihop/multihopmade.Tape).Frame -/
noncomputable def F_made_Tape_Frame_j1  (v9 : S_multihopmade_Tape × S_Frame) : Option (S_Frame × S_multihopmade_Tape) :=
  some ((v9.2, v9.1))
noncomputable def F_made_Tape_Frame (a0 : S_multihopmade_Tape) (a1 : Int) : Option (S_Frame × S_multihopmade_Tape) :=
  (F_made_Tape_Next a0 2).bind fun v1 =>
  (F_made_Tape_Bool v1.2 2).bind fun v2 =>
  (F_made_Tape_Bool v2.2 4).bind fun v3 =>
  (F_made_Tape_Next v3.2 256).bind fun v4 =>
  (F_made_Tape_Next v4.2 3).bind fun v5 =>
  (F_made_Tape_Device v5.2).bind fun v6 =>
  (F_made_Tape_Device v6.2).bind fun v7 =>
  (F_made_Tape_Bytes v7.2 a1).bind fun v8 =>
  (F_made_Tape_Bool v8.2 5).bind fun v10 =>
  bif v10.1 then
    (F_made_Tape_Frame_j1) (v10.2, (S_Frame.mk (IntKind.wrap .i64 (1 + (IntKind.wrap .i64 (2 * v1.1)))) false v3.1 false (IntKind.wrap .u8 v4.1) (IntKind.wrap .u16 v5.1) (S_Addr.mk 2 65535 0) v7.1 0 0 v8.1 ([] : List Int)))
  else
    (F_made_Tape_Frame_j1) (v10.2, (S_Frame.mk (IntKind.wrap .i64 (1 + (IntKind.wrap .i64 (2 * v1.1)))) v2.1 v3.1 false (IntKind.wrap .u8 v4.1) (IntKind.wrap .u16 v5.1) v6.1 v7.1 0 0 v8.1 ([] : List Int)))
set_option maxRecDepth 100000 in
set_option maxHeartbeats 40000000 in
theorem okT_made_Tape_Frame (a0 : S_multihopmade_Tape) (a1 : Int) (r : S_Frame × S_multihopmade_Tape) (h : F_made_Tape_Frame a0 a1 = some r) : Con Try.prog 18 [.c (.box 1000000 0), .c (.lit (.int .i64 (a1)))] [(1000000, .box (S_multihopmade_Tape.cs a0))] (.agg [.lit (.int .i64 (r.1.Kind)), .lit (.bool (r.1.AckRequest)), .lit (.bool (r.1.Pending)), .lit (.bool (r.1.Secure)), .lit (.int .u8 (r.1.Seq)), .lit (.int .u16 (r.1.Pan)), .lit (.int .i64 (r.1.Dst.Mode)), .lit (.int .u16 (r.1.Dst.Short)), .lit (.int .u64 (r.1.Dst.EUI)), .lit (.int .i64 (r.1.Src.Mode)), .lit (.int .u16 (r.1.Src.Short)), .lit (.int .u64 (r.1.Src.EUI)), .lit (.int .u32 (r.1.Counter)), .lit (.int .u8 (r.1.Key)), .slc 1 900016 (List.length r.1.Payload) (List.map (ecI .u8) r.1.Payload), .slc 1 0 (List.length r.1.MIC) (List.map (ecI .u8) r.1.MIC)]) [(1000000, .box (S_multihopmade_Tape.cs r.2)), (900014, .spare 5 1 (List.length r.1.Payload))] := by
  unfold F_made_Tape_Frame at h
  refine con_of [[0, 0, 0, 0, 0, 0, 0, 0, 0, 0, 0, 0, 0, 0, 0, 2]] [(1000000, [2]), (900014, [])] 34 Try.func18 rfl rfl (by kernel_rfl) (fun K => ?_)
  refine TS_go 7 ?_
  replace h := bindO h
  obtain ⟨v1, hv1, h⟩ := h
  refine TS_con [] [] (some (1000000, 0)) (ok_made_Tape_Next a0 2 v1 hv1) (by kernel_rfl) (by kernel_rfl) (by kernel_rfl) ?_
  refine TS_go 3 ?_
  replace h := bindO h
  obtain ⟨v2, hv2, h⟩ := h
  refine TS_con [] [] (some (1000000, 0)) (ok_made_Tape_Bool v1.2 2 v2 hv2) (by kernel_rfl) (by kernel_rfl) (by kernel_rfl) ?_
  refine TS_go 1 ?_
  replace h := bindO h
  obtain ⟨v3, hv3, h⟩ := h
  refine TS_con [] [] (some (1000000, 0)) (ok_made_Tape_Bool v2.2 4 v3 hv3) (by kernel_rfl) (by kernel_rfl) (by kernel_rfl) ?_
  refine TS_go 1 ?_
  replace h := bindO h
  obtain ⟨v4, hv4, h⟩ := h
  refine TS_con [] [] (some (1000000, 0)) (ok_made_Tape_Next v3.2 256 v4 hv4) (by kernel_rfl) (by kernel_rfl) (by kernel_rfl) ?_
  refine TS_go 2 ?_
  replace h := bindO h
  obtain ⟨v5, hv5, h⟩ := h
  refine TS_con [] [] (some (1000000, 0)) (ok_made_Tape_Next v4.2 3 v5 hv5) (by kernel_rfl) (by kernel_rfl) (by kernel_rfl) ?_
  refine TS_go 2 ?_
  replace h := bindO h
  obtain ⟨v6, hv6, h⟩ := h
  refine TS_con [] [] (some (1000000, 0)) (ok_made_Tape_Device v5.2 v6 hv6) (by kernel_rfl) (by kernel_rfl) (by kernel_rfl) ?_
  refine TS_go 1 ?_
  replace h := bindO h
  obtain ⟨v7, hv7, h⟩ := h
  refine TS_con [] [] (some (1000000, 0)) (ok_made_Tape_Device v6.2 v7 hv7) (by kernel_rfl) (by kernel_rfl) (by kernel_rfl) ?_
  refine TS_go 2 ?_
  replace h := bindO h
  obtain ⟨v8, hv8, h⟩ := h
  refine TS_con [] [(26, 900000)] (some (1000000, 0)) (okT_made_Tape_Bytes v7.2 a1 v8 hv8) (by kernel_rfl) (by kernel_rfl) (by kernel_rfl) ?_
  refine TS_go 4 ?_
  refine TS_cut ⟨[(0, []), (4, []), (5, [])], [(1000000, (1000000, [])), (4, (4, [])), (26, (26, [])), (5, (5, []))]⟩ (.mk [.code (codeAt [1, 1] (bodyOf Try.f18))] .normal ⟨[(0, .c (.box 1000000 0)), (4, .c (.box 4 0)), (5, .c (.box 5 0))], [(1000000, .box [.slc 1 0 (List.length v8.2.l) (List.map (ecI .i64) v8.2.l), .lit (.int .i64 (v8.2.at_))]), (4, .box [.lit (.int .i64 (0)), .lit (.bool (false)), .lit (.bool (false)), .lit (.bool (false)), .lit (.int .u8 (0)), .lit (.int .u16 (0)), .lit (.int .i64 (0)), .lit (.int .u16 (0)), .lit (.int .u64 (0)), .lit (.int .i64 (0)), .lit (.int .u16 (0)), .lit (.int .u64 (0)), .lit (.int .u32 (0)), .lit (.int .u8 (0)), .lit (.slice none 0 0), .lit (.slice none 0 0)]), (26, .spare 5 1 (List.length v8.1)), (5, .box [.lit (.int .i64 (IntKind.wrap .i64 (1 + (IntKind.wrap .i64 (2 * v1.1))))), .lit (.bool (v2.1)), .lit (.bool (v3.1)), .lit (.bool (false)), .lit (.int .u8 (IntKind.wrap .u8 v4.1)), .lit (.int .u16 (IntKind.wrap .u16 v5.1)), .lit (.int .i64 (v6.1.Mode)), .lit (.int .u16 (v6.1.Short)), .lit (.int .u64 (v6.1.EUI)), .lit (.int .i64 (v7.1.Mode)), .lit (.int .u16 (v7.1.Short)), .lit (.int .u64 (v7.1.EUI)), .lit (.int .u32 (0)), .lit (.int .u8 (0)), .slc 1 28 (List.length v8.1) (List.map (ecI .u8) v8.1), .lit (.slice none 0 0)])]⟩) (by kernel_rfl) (by kernel_rfl) ?_
  refine TS_joinB ⟨[(4, []), (5, [])], [(1000000, (1000000, [])), (4, (4, [])), (5, (5, [0, 0, 0, 0, 0, 0, 0, 0, 0, 0, 0, 0, 0, 0, 0, 2])), (26, (26, []))]⟩ (fun (v9 : S_multihopmade_Tape × S_Frame) => []) (fun (v9 : S_multihopmade_Tape × S_Frame) => [(1000000, .box (S_multihopmade_Tape.cs v9.1)), (5, .box [.lit (.int .i64 (v9.2.Kind)), .lit (.bool (v9.2.AckRequest)), .lit (.bool (v9.2.Pending)), .lit (.bool (v9.2.Secure)), .lit (.int .u8 (v9.2.Seq)), .lit (.int .u16 (v9.2.Pan)), .lit (.int .i64 (v9.2.Dst.Mode)), .lit (.int .u16 (v9.2.Dst.Short)), .lit (.int .u64 (v9.2.Dst.EUI)), .lit (.int .i64 (v9.2.Src.Mode)), .lit (.int .u16 (v9.2.Src.Short)), .lit (.int .u64 (v9.2.Src.EUI)), .lit (.int .u32 (v9.2.Counter)), .lit (.int .u8 (v9.2.Key)), .slc 1 28 (List.length v9.2.Payload) (List.map (ecI .u8) v9.2.Payload), .slc 1 0 (List.length v9.2.MIC) (List.map (ecI .u8) v9.2.MIC)]), (26, .spare 5 1 (List.length v9.2.Payload))]) (F_made_Tape_Frame_j1) r ?_ ?_
  · clear h
    intro v9 h
    unfold F_made_Tape_Frame_j1 at h
    refine TS_go 5 ?_
    refine TS_fitU ⟨[(4, [])], [(26, (900014, [])), (1000000, (1000000, [])), (4, (4, []))]⟩ (by kernel_rfl) ?_
    refine TS_go 1 ?_
    have ret := Option.some.inj h
    subst ret
    exact TS_ret (by kernel_rfl) (by kernel_rfl) (by kernel_rfl)
  · refine TS_go 3 ?_
    replace h := bindO h
    obtain ⟨v10, hv10, h⟩ := h
    refine TS_con [] [] (some (1000000, 0)) (ok_made_Tape_Bool v8.2 5 v10 hv10) (by kernel_rfl) (by kernel_rfl) (by kernel_rfl) ?_
    refine TS_go 1 ?_
    replace h := condO h
    rcases h with ⟨hb11, h⟩ | ⟨hb11, h⟩
    · refine TS_know 29 (b := true) hb11 (by kernel_rfl) (by kernel_rfl) ?_
      refine TS_T (by kernel_rfl) rfl ?_
      refine TS_go 7 ?_
      exact TS_meet (v10.2, (S_Frame.mk (IntKind.wrap .i64 (1 + (IntKind.wrap .i64 (2 * v1.1)))) false v3.1 false (IntKind.wrap .u8 v4.1) (IntKind.wrap .u16 v5.1) (S_Addr.mk 2 65535 0) v7.1 0 0 v8.1 ([] : List Int))) ⟨[(4, []), (5, [])], [(1000000, (1000000, [])), (4, (4, [])), (5, (5, [0, 0, 0, 0, 0, 0, 0, 0, 0, 0, 0, 0, 0, 0, 0, 2])), (26, (26, []))]⟩ h (by kernel_rfl) (by kernel_rfl)
    · refine TS_know 29 (b := false) hb11 (by kernel_rfl) (by kernel_rfl) ?_
      refine TS_F (by kernel_rfl) rfl ?_
      refine TS_go 1 ?_
      exact TS_meet (v10.2, (S_Frame.mk (IntKind.wrap .i64 (1 + (IntKind.wrap .i64 (2 * v1.1)))) v2.1 v3.1 false (IntKind.wrap .u8 v4.1) (IntKind.wrap .u16 v5.1) v6.1 v7.1 0 0 v8.1 ([] : List Int))) ⟨[(4, []), (5, [])], [(1000000, (1000000, [])), (4, (4, [])), (5, (5, [0, 0, 0, 0, 0, 0, 0, 0, 0, 0, 0, 0, 0, 0, 0, 2])), (26, (26, []))]⟩ h (by kernel_rfl) (by kernel_rfl)
/-- multihop/multihopref06.key -/
noncomputable def F_ref06_key_l1 (a0 : S_Guard) (a1 : Int) (s1 : Int) : Option ((Int) ⊕ ((Unit) ⊕ ((List Int) × Bool))) :=
  bif (decide (s1 < (List.length a0.Keys : Int))) then
    (idx a0.Keys s1).bind fun e5 =>
    bif (e5.Index == a1) then
      (idx a0.Keys s1).bind fun e7 =>
      some (Sum.inr (Sum.inr (e7.Key, true)))
    else
      some (Sum.inl (IntKind.wrap .i64 (s1 + 1)))
  else
    some (Sum.inr (Sum.inl ()))
noncomputable def F_ref06_key (a0 : S_Guard) (a1 : Int) : Option ((List Int) × Bool) :=
  (loopO (F_ref06_key_l1 a0 a1) 0).bind (Sum.elim (fun b2 =>
    some (([0, 0, 0, 0, 0, 0, 0, 0, 0, 0, 0, 0, 0, 0, 0, 0], false))
  ) (fun w8 => some w8))
set_option maxRecDepth 100000 in
set_option maxHeartbeats 40000000 in
theorem ok_ref06_key (a0 : S_Guard) (a1 : Int) (r : (List Int) × Bool) (h : F_ref06_key a0 a1 = some r) : Con Try.prog 48 [.agg (S_Guard.cs a0), .c (.lit (.int .u8 (a1)))] [] (.tup [(true, arrS .u8 16 r.1), (false, [.lit (.bool (r.2))])]) [] := by
  unfold F_ref06_key at h
  refine con_of [] [] 29 Try.func48 rfl rfl (by kernel_rfl) (fun K => ?_)
  refine TS_go 12 ?_
  refine TS_cut ⟨[(1, []), (2, []), (4, []), (6, [])], [(2, (2, [])), (4, (4, []))]⟩ (.mk [.code (codeAt [1, 0, 1, 0] (bodyOf Try.f48)), .blk 0, .code (codeAt [1, 1] (bodyOf Try.f48))] .normal ⟨[(1, .c (.lit (.int .u8 (a1)))), (2, .c (.box 2 0)), (4, .c (.box 4 0)), (6, .c (.lit (.int .i64 (0))))], [(2, .box [.slc 17 0 (List.length a0.Keys) (List.map S_LinkKey.cs a0.Keys), .lit (.int .u32 (a0.Counter)), .lit (.int .u32 (a0.Reserved)), .lit (.int .u32 (a0.Nonce)), .slc 6 0 (List.length a0.Peers) (List.map S_Peer.cs a0.Peers)]), (4, .box [.lit (.int .u8 (0)), .lit (.int .u8 (0)), .lit (.int .u8 (0)), .lit (.int .u8 (0)), .lit (.int .u8 (0)), .lit (.int .u8 (0)), .lit (.int .u8 (0)), .lit (.int .u8 (0)), .lit (.int .u8 (0)), .lit (.int .u8 (0)), .lit (.int .u8 (0)), .lit (.int .u8 (0)), .lit (.int .u8 (0)), .lit (.int .u8 (0)), .lit (.int .u8 (0)), .lit (.int .u8 (0))])]⟩) (by kernel_rfl) (by kernel_rfl) ?_
  replace h := bindO h
  obtain ⟨y3, hl1, hK1⟩ := h
  refine TS_loopB (F_ref06_key_l1 a0 a1) ⟨[(1, []), (2, []), (4, []), (6, [])], [(2, (2, [])), (4, (4, []))]⟩ (fun (s1 : Int) => [(6, .c (.lit (.int .i64 (s1))))]) (fun (s1 : Int) => []) 0 y3 (.exit 0) (fun (b : Unit) => (Sum.inl b : (Unit) ⊕ ((List Int) × Bool))) ⟨[(4, [])], [(4, (4, []))]⟩ (fun (b2 : Unit) => []) (fun (b2 : Unit) => []) hl1 (by kernel_rfl) (by kernel_rfl) ?_ ?_
  · intro s1 x h hy1
    unfold F_ref06_key_l1 at h
    refine TS_go 9 ?_
    replace h := condO h
    rcases h with ⟨hb4, h⟩ | ⟨hb4, h⟩
    · refine TS_know 11 (b := true) hb4 (by kernel_rfl) (by kernel_rfl) ?_
      refine TS_T (by kernel_rfl) rfl ?_
      refine TS_go 8 ?_
      replace h := bindO h
      obtain ⟨_e5, he5, h⟩ := h
      refine TS_idx S_LinkKey.cs he5 (by kernel_rfl) (by kernel_rfl) ?_
      refine TS_go 5 ?_
      replace h := condO h
      rcases h with ⟨hb6, h⟩ | ⟨hb6, h⟩
      · refine TS_know 21 (b := true) hb6 (by kernel_rfl) (by kernel_rfl) ?_
        refine TS_T (by kernel_rfl) rfl ?_
        refine TS_go 5 ?_
        replace h := bindO h
        obtain ⟨_e7, he7, h⟩ := h
        refine TS_idx S_LinkKey.cs he7 (by kernel_rfl) (by kernel_rfl) ?_
        refine TS_go 8 ?_
        have ret := Option.some.inj h
        subst ret
        have hy1q := hy1 _ rfl
        subst hy1q
        replace h := (elimR hK1)
        refine TS_retB rfl (by kernel_rfl) ?_
        refine TS_go 2 ?_
        have ret := Option.some.inj h
        subst ret
        exact TS_ret (by kernel_rfl) (by kernel_rfl) (by kernel_rfl)
      · refine TS_know 21 (b := false) hb6 (by kernel_rfl) (by kernel_rfl) ?_
        refine TS_F (by kernel_rfl) rfl ?_
        refine TS_go 7 ?_
        have ret := Option.some.inj h
        subst ret
        exact TS_againB _ ⟨[(1, []), (2, []), (4, []), (6, [])], [(2, (2, [])), (4, (4, []))]⟩ rfl (by kernel_rfl) (by kernel_rfl)
    · refine TS_know 11 (b := false) hb4 (by kernel_rfl) (by kernel_rfl) ?_
      refine TS_F (by kernel_rfl) rfl ?_
      refine TS_go 2 ?_
      have ret := Option.some.inj h
      subst ret
      exact TS_brkB () ⟨[(4, [])], [(4, (4, []))]⟩ rfl (by kernel_rfl) (by kernel_rfl) (by kernel_rfl)
  · intro b2 hb
    subst y3
    have h := elimL hK1
    refine TS_go 8 ?_
    have ret := Option.some.inj h
    subst ret
    exact TS_ret (by kernel_rfl) (by kernel_rfl) (by kernel_rfl)

/-- multihop/multihopref04.Valid -/
noncomputable def F_ref04_Valid (a0 : S_Addr) : Option (Bool) :=
  bif (a0.Mode == 0) then
    bif (a0.Short == 0) then
      some ((a0.EUI == 0))
    else
      some (false)
  else
    bif (a0.Mode == 2) then
      some ((a0.EUI == 0))
    else
      bif (a0.Mode == 3) then
        some ((a0.Short == 0))
      else
        some (false)
set_option maxRecDepth 100000 in
set_option maxHeartbeats 40000000 in
theorem ok_ref04_Valid (a0 : S_Addr) (r : Bool) (h : F_ref04_Valid a0 = some r) : Con Try.prog 90 [.agg (S_Addr.cs a0)] [] (.c (.lit (.bool (r)))) [] := by
  unfold F_ref04_Valid at h
  refine con_of [] [] 25 Try.func90 rfl rfl (by kernel_rfl) (fun K => ?_)
  refine TS_go 17 ?_
  replace h := condO h
  rcases h with ⟨hb1, h⟩ | ⟨hb1, h⟩
  · refine TS_know 6 (b := true) hb1 (by kernel_rfl) (by kernel_rfl) ?_
    refine TS_know 5 (b := true) hb1 (by kernel_rfl) (by kernel_rfl) ?_
    refine TS_T (by kernel_rfl) rfl ?_
    refine TS_go 6 ?_
    replace h := condO h
    rcases h with ⟨hb2, h⟩ | ⟨hb2, h⟩
    · refine TS_know 9 (b := true) hb2 (by kernel_rfl) (by kernel_rfl) ?_
      refine TS_know 10 (b := true) hb2 (by kernel_rfl) (by kernel_rfl) ?_
      refine TS_go 9 ?_
      have ret := Option.some.inj h
      subst ret
      exact TS_ret (by kernel_rfl) (by kernel_rfl) (by kernel_rfl)
    · refine TS_know 9 (b := false) hb2 (by kernel_rfl) (by kernel_rfl) ?_
      refine TS_know 10 (b := false) hb2 (by kernel_rfl) (by kernel_rfl) ?_
      refine TS_go 9 ?_
      have ret := Option.some.inj h
      subst ret
      exact TS_ret (by kernel_rfl) (by kernel_rfl) (by kernel_rfl)
  · refine TS_know 6 (b := false) hb1 (by kernel_rfl) (by kernel_rfl) ?_
    refine TS_know 5 (b := false) hb1 (by kernel_rfl) (by kernel_rfl) ?_
    refine TS_F (by kernel_rfl) rfl ?_
    refine TS_go 5 ?_
    replace h := condO h
    rcases h with ⟨hb3, h⟩ | ⟨hb3, h⟩
    · refine TS_know 16 (b := true) hb3 (by kernel_rfl) (by kernel_rfl) ?_
      refine TS_know 15 (b := true) hb3 (by kernel_rfl) (by kernel_rfl) ?_
      refine TS_T (by kernel_rfl) rfl ?_
      refine TS_go 10 ?_
      have ret := Option.some.inj h
      subst ret
      exact TS_ret (by kernel_rfl) (by kernel_rfl) (by kernel_rfl)
    · refine TS_know 16 (b := false) hb3 (by kernel_rfl) (by kernel_rfl) ?_
      refine TS_know 15 (b := false) hb3 (by kernel_rfl) (by kernel_rfl) ?_
      refine TS_F (by kernel_rfl) rfl ?_
      refine TS_go 5 ?_
      replace h := condO h
      rcases h with ⟨hb4, h⟩ | ⟨hb4, h⟩
      · refine TS_know 21 (b := true) hb4 (by kernel_rfl) (by kernel_rfl) ?_
        refine TS_know 20 (b := true) hb4 (by kernel_rfl) (by kernel_rfl) ?_
        refine TS_T (by kernel_rfl) rfl ?_
        refine TS_go 10 ?_
        have ret := Option.some.inj h
        subst ret
        exact TS_ret (by kernel_rfl) (by kernel_rfl) (by kernel_rfl)
      · refine TS_know 21 (b := false) hb4 (by kernel_rfl) (by kernel_rfl) ?_
        refine TS_know 20 (b := false) hb4 (by kernel_rfl) (by kernel_rfl) ?_
        refine TS_F (by kernel_rfl) rfl ?_
        refine TS_go 7 ?_
        have ret := Option.some.inj h
        subst ret
        exact TS_ret (by kernel_rfl) (by kernel_rfl) (by kernel_rfl)

/-- multihop/multihopref04.Some -/
noncomputable def F_ref04_Some (a0 : S_Addr) : Option (Bool) :=
  (F_ref04_Valid a0).bind fun v1 =>
  bif v1 then
    some ((a0.Mode != 0))
  else
    some (false)
set_option maxRecDepth 100000 in
set_option maxHeartbeats 40000000 in
theorem ok_ref04_Some (a0 : S_Addr) (r : Bool) (h : F_ref04_Some a0 = some r) : Con Try.prog 76 [.agg (S_Addr.cs a0)] [] (.c (.lit (.bool (r)))) [] := by
  unfold F_ref04_Some at h
  refine con_of [] [] 10 Try.func76 rfl rfl (by kernel_rfl) (fun K => ?_)
  refine TS_go 8 ?_
  replace h := bindO h
  obtain ⟨v1, hv1, h⟩ := h
  refine TS_call [] (ok_ref04_Valid a0 v1 hv1) (by kernel_rfl) (by kernel_rfl) ?_
  refine TS_go 1 ?_
  replace h := condO h
  rcases h with ⟨hb2, h⟩ | ⟨hb2, h⟩
  · subst hb2
    refine TS_go 7 ?_
    have ret := Option.some.inj h
    subst ret
    exact TS_ret (by kernel_rfl) (by kernel_rfl) (by kernel_rfl)
  · subst hb2
    refine TS_go 7 ?_
    have ret := Option.some.inj h
    subst ret
    exact TS_ret (by kernel_rfl) (by kernel_rfl) (by kernel_rfl)

/-- multihop/multihopref04.IsBroadcast -/
noncomputable def F_ref04_IsBroadcast (a0 : S_Addr) : Option (Bool) :=
  (F_ref04_Valid a0).bind fun v1 =>
  bif v1 then
    bif (a0.Mode == 2) then
      some ((a0.Short == 65535))
    else
      some (false)
  else
    some (false)
set_option maxRecDepth 100000 in
set_option maxHeartbeats 40000000 in
theorem ok_ref04_IsBroadcast (a0 : S_Addr) (r : Bool) (h : F_ref04_IsBroadcast a0 = some r) : Con Try.prog 77 [.agg (S_Addr.cs a0)] [] (.c (.lit (.bool (r)))) [] := by
  unfold F_ref04_IsBroadcast at h
  refine con_of [] [] 15 Try.func77 rfl rfl (by kernel_rfl) (fun K => ?_)
  refine TS_go 8 ?_
  replace h := bindO h
  obtain ⟨v1, hv1, h⟩ := h
  refine TS_call [] (ok_ref04_Valid a0 v1 hv1) (by kernel_rfl) (by kernel_rfl) ?_
  refine TS_go 1 ?_
  replace h := condO h
  rcases h with ⟨hb2, h⟩ | ⟨hb2, h⟩
  · subst hb2
    refine TS_go 5 ?_
    replace h := condO h
    rcases h with ⟨hb3, h⟩ | ⟨hb3, h⟩
    · refine TS_know 8 (b := true) hb3 (by kernel_rfl) (by kernel_rfl) ?_
      refine TS_know 9 (b := true) hb3 (by kernel_rfl) (by kernel_rfl) ?_
      refine TS_know 10 (b := true) hb3 (by kernel_rfl) (by kernel_rfl) ?_
      refine TS_go 7 ?_
      have ret := Option.some.inj h
      subst ret
      exact TS_ret (by kernel_rfl) (by kernel_rfl) (by kernel_rfl)
    · refine TS_know 8 (b := false) hb3 (by kernel_rfl) (by kernel_rfl) ?_
      refine TS_know 9 (b := false) hb3 (by kernel_rfl) (by kernel_rfl) ?_
      refine TS_know 10 (b := false) hb3 (by kernel_rfl) (by kernel_rfl) ?_
      refine TS_go 7 ?_
      have ret := Option.some.inj h
      subst ret
      exact TS_ret (by kernel_rfl) (by kernel_rfl) (by kernel_rfl)
  · subst hb2
    refine TS_go 12 ?_
    have ret := Option.some.inj h
    subst ret
    exact TS_ret (by kernel_rfl) (by kernel_rfl) (by kernel_rfl)

/-- multihop/multihopref04.One -/
noncomputable def F_ref04_One (a0 : S_Addr) : Option (Bool) :=
  (F_ref04_Some a0).bind fun v1 =>
  bif v1 then
    (F_ref04_IsBroadcast a0).bind fun v3 =>
    some ((!v3))
  else
    some (false)
set_option maxRecDepth 100000 in
set_option maxHeartbeats 40000000 in
theorem ok_ref04_One (a0 : S_Addr) (r : Bool) (h : F_ref04_One a0 = some r) : Con Try.prog 75 [.agg (S_Addr.cs a0)] [] (.c (.lit (.bool (r)))) [] := by
  unfold F_ref04_One at h
  refine con_of [] [] 10 Try.func75 rfl rfl (by kernel_rfl) (fun K => ?_)
  refine TS_go 8 ?_
  replace h := bindO h
  obtain ⟨v1, hv1, h⟩ := h
  refine TS_call [] (ok_ref04_Some a0 v1 hv1) (by kernel_rfl) (by kernel_rfl) ?_
  refine TS_go 1 ?_
  replace h := condO h
  rcases h with ⟨hb2, h⟩ | ⟨hb2, h⟩
  · subst hb2
    refine TS_go 1 ?_
    replace h := bindO h
    obtain ⟨v3, hv3, h⟩ := h
    refine TS_call [] (ok_ref04_IsBroadcast a0 v3 hv3) (by kernel_rfl) (by kernel_rfl) ?_
    refine TS_go 5 ?_
    have ret := Option.some.inj h
    subst ret
    exact TS_ret (by kernel_rfl) (by kernel_rfl) (by kernel_rfl)
  · subst hb2
    refine TS_go 7 ?_
    have ret := Option.some.inj h
    subst ret
    exact TS_ret (by kernel_rfl) (by kernel_rfl) (by kernel_rfl)

/-- multihop/multihopref04.Compare -/
noncomputable def F_ref04_Compare_l1 (a0 : S_Addr) (a1 : S_Addr) (s1 : Int) : Option ((Int) ⊕ ((Unit) ⊕ (Int))) :=
  bif (decide (s1 < 3)) then
    bif decide ((0 : Int) ≤ s1 ∧ s1 < (3 : Int)) then
      bif decide ((0 : Int) ≤ s1 ∧ s1 < (3 : Int)) then
        bif (decide ((List.getD [ixor .u64 (IntKind.wrap .u64 a0.Mode) 9223372036854775808, IntKind.wrap .u64 a0.Short, a0.EUI] (Int.toNat s1) 0) < (List.getD [ixor .u64 (IntKind.wrap .u64 a1.Mode) 9223372036854775808, IntKind.wrap .u64 a1.Short, a1.EUI] (Int.toNat s1) 0))) then
          some (Sum.inr (Sum.inr (-1)))
        else
          bif decide ((0 : Int) ≤ s1 ∧ s1 < (3 : Int)) then
            bif decide ((0 : Int) ≤ s1 ∧ s1 < (3 : Int)) then
              bif (decide ((List.getD [ixor .u64 (IntKind.wrap .u64 a0.Mode) 9223372036854775808, IntKind.wrap .u64 a0.Short, a0.EUI] (Int.toNat s1) 0) > (List.getD [ixor .u64 (IntKind.wrap .u64 a1.Mode) 9223372036854775808, IntKind.wrap .u64 a1.Short, a1.EUI] (Int.toNat s1) 0))) then
                some (Sum.inr (Sum.inr 1))
              else
                some (Sum.inl (IntKind.wrap .i64 (s1 + 1)))
            else none
          else none
      else none
    else none
  else
    some (Sum.inr (Sum.inl ()))
noncomputable def F_ref04_Compare (a0 : S_Addr) (a1 : S_Addr) : Option (Int) :=
  (loopO (F_ref04_Compare_l1 a0 a1) 0).bind (Sum.elim (fun b2 =>
    some (0)
  ) (fun w11 => some w11))
set_option maxRecDepth 100000 in
set_option maxHeartbeats 40000000 in
theorem ok_ref04_Compare (a0 : S_Addr) (a1 : S_Addr) (r : Int) (h : F_ref04_Compare a0 a1 = some r) : Con Try.prog 79 [.agg (S_Addr.cs a0), .agg (S_Addr.cs a1)] [] (.c (.lit (.int .i64 (r)))) [] := by
  unfold F_ref04_Compare at h
  refine con_of [] [] 46 Try.func79 rfl rfl (by kernel_rfl) (fun K => ?_)
  refine TS_go 42 ?_
  refine TS_cut ⟨[(5, []), (6, []), (7, [])], [(5, (5, [])), (6, (6, []))]⟩ (.mk [.code (codeAt [1, 1, 1, 0, 1, 0] (bodyOf Try.f79)), .blk 0, .code (codeAt [1, 1, 1, 1] (bodyOf Try.f79))] .normal ⟨[(5, .c (.box 5 0)), (6, .c (.box 6 0)), (7, .c (.lit (.int .i64 (0))))], [(5, .box [.lit (.int .u64 (ixor .u64 (IntKind.wrap .u64 a0.Mode) 9223372036854775808)), .lit (.int .u64 (IntKind.wrap .u64 a0.Short)), .lit (.int .u64 (a0.EUI))]), (6, .box [.lit (.int .u64 (ixor .u64 (IntKind.wrap .u64 a1.Mode) 9223372036854775808)), .lit (.int .u64 (IntKind.wrap .u64 a1.Short)), .lit (.int .u64 (a1.EUI))])]⟩) (by kernel_rfl) (by kernel_rfl) ?_
  replace h := bindO h
  obtain ⟨y3, hl1, hK1⟩ := h
  refine TS_loopB (F_ref04_Compare_l1 a0 a1) ⟨[(5, []), (6, []), (7, [])], [(5, (5, [])), (6, (6, []))]⟩ (fun (s1 : Int) => [(7, .c (.lit (.int .i64 (s1))))]) (fun (s1 : Int) => []) 0 y3 (.exit 0) (fun (b : Unit) => (Sum.inl b : (Unit) ⊕ (Int))) ⟨[], []⟩ (fun (b2 : Unit) => []) (fun (b2 : Unit) => []) hl1 (by kernel_rfl) (by kernel_rfl) ?_ ?_
  · intro s1 x h hy1
    unfold F_ref04_Compare_l1 at h
    refine TS_go 6 ?_
    replace h := condO h
    rcases h with ⟨hb4, h⟩ | ⟨hb4, h⟩
    · refine TS_know 29 (b := true) hb4 (by kernel_rfl) (by kernel_rfl) ?_
      refine TS_T (by kernel_rfl) rfl ?_
      refine TS_go 5 ?_
      refine TS_draw (by kernel_rfl) ?_
      refine TD_go 1 ?_
      replace h := chkO h
      obtain ⟨hc5, h⟩ := h
      refine TD_idxA 5 0 3 (i := s1) hc5 (by kernel_rfl) (by kernel_rfl) ?_
      refine TD_ldA .u64 0 3 (i := s1) [ixor .u64 (IntKind.wrap .u64 a0.Mode) 9223372036854775808, IntKind.wrap .u64 a0.Short, a0.EUI] hc5 (by kernel_rfl) (by kernel_rfl) ?_
      refine TD_go 1 ?_
      replace h := chkO h
      obtain ⟨hc6, h⟩ := h
      refine TD_idxA 6 0 3 (i := s1) hc6 (by kernel_rfl) (by kernel_rfl) ?_
      refine TD_ldA .u64 0 3 (i := s1) [ixor .u64 (IntKind.wrap .u64 a1.Mode) 9223372036854775808, IntKind.wrap .u64 a1.Short, a1.EUI] hc6 (by kernel_rfl) (by kernel_rfl) ?_
      refine TD_go 1 ?_
      refine TD_end (by kernel_rfl) ?_
      replace h := condO h
      rcases h with ⟨hb7, h⟩ | ⟨hb7, h⟩
      · refine TS_know 38 (b := true) hb7 (by kernel_rfl) (by kernel_rfl) ?_
        refine TS_T (by kernel_rfl) rfl ?_
        refine TS_go 8 ?_
        have ret := Option.some.inj h
        subst ret
        have hy1q := hy1 _ rfl
        subst hy1q
        replace h := (elimR hK1)
        refine TS_retB rfl (by kernel_rfl) ?_
        refine TS_go 2 ?_
        have ret := Option.some.inj h
        subst ret
        exact TS_ret (by kernel_rfl) (by kernel_rfl) (by kernel_rfl)
      · refine TS_know 38 (b := false) hb7 (by kernel_rfl) (by kernel_rfl) ?_
        refine TS_F (by kernel_rfl) rfl ?_
        refine TS_go 2 ?_
        refine TS_draw (by kernel_rfl) ?_
        refine TD_go 1 ?_
        replace h := chkO h
        obtain ⟨hc8, h⟩ := h
        refine TD_idxA 5 0 3 (i := s1) hc8 (by kernel_rfl) (by kernel_rfl) ?_
        refine TD_ldA .u64 0 3 (i := s1) [ixor .u64 (IntKind.wrap .u64 a0.Mode) 9223372036854775808, IntKind.wrap .u64 a0.Short, a0.EUI] hc8 (by kernel_rfl) (by kernel_rfl) ?_
        refine TD_go 1 ?_
        replace h := chkO h
        obtain ⟨hc9, h⟩ := h
        refine TD_idxA 6 0 3 (i := s1) hc9 (by kernel_rfl) (by kernel_rfl) ?_
        refine TD_ldA .u64 0 3 (i := s1) [ixor .u64 (IntKind.wrap .u64 a1.Mode) 9223372036854775808, IntKind.wrap .u64 a1.Short, a1.EUI] hc9 (by kernel_rfl) (by kernel_rfl) ?_
        refine TD_go 1 ?_
        refine TD_end (by kernel_rfl) ?_
        replace h := condO h
        rcases h with ⟨hb10, h⟩ | ⟨hb10, h⟩
        · refine TS_know 45 (b := true) hb10 (by kernel_rfl) (by kernel_rfl) ?_
          refine TS_T (by kernel_rfl) rfl ?_
          refine TS_go 7 ?_
          have ret := Option.some.inj h
          subst ret
          have hy1q := hy1 _ rfl
          subst hy1q
          replace h := (elimR hK1)
          refine TS_retB rfl (by kernel_rfl) ?_
          refine TS_go 2 ?_
          have ret := Option.some.inj h
          subst ret
          exact TS_ret (by kernel_rfl) (by kernel_rfl) (by kernel_rfl)
        · refine TS_know 45 (b := false) hb10 (by kernel_rfl) (by kernel_rfl) ?_
          refine TS_F (by kernel_rfl) rfl ?_
          refine TS_go 7 ?_
          have ret := Option.some.inj h
          subst ret
          exact TS_againB _ ⟨[(5, []), (6, []), (7, [])], [(5, (5, [])), (6, (6, []))]⟩ rfl (by kernel_rfl) (by kernel_rfl)
    · refine TS_know 29 (b := false) hb4 (by kernel_rfl) (by kernel_rfl) ?_
      refine TS_F (by kernel_rfl) rfl ?_
      refine TS_go 2 ?_
      have ret := Option.some.inj h
      subst ret
      exact TS_brkB () ⟨[], []⟩ rfl (by kernel_rfl) (by kernel_rfl) (by kernel_rfl)
  · intro b2 hb
    subst y3
    have h := elimL hK1
    refine TS_go 6 ?_
    have ret := Option.some.inj h
    subst ret
    exact TS_ret (by kernel_rfl) (by kernel_rfl) (by kernel_rfl)

/-- multihop/multihopref06.before -/
noncomputable def F_ref06_before (a0 : S_Peer) (a1 : S_Addr) (a2 : Int) : Option (Bool) :=
  (F_ref04_Compare a0.Src a1).bind fun v1 =>
  bif (decide (v1 < 0)) then
    some (true)
  else
    bif (v1 == 0) then
      some ((decide (a0.Key < a2)))
    else
      some (false)
set_option maxRecDepth 100000 in
set_option maxHeartbeats 40000000 in
theorem ok_ref06_before (a0 : S_Peer) (a1 : S_Addr) (a2 : Int) (r : Bool) (h : F_ref06_before a0 a1 a2 = some r) : Con Try.prog 52 [.agg (S_Peer.cs a0), .agg (S_Addr.cs a1), .c (.lit (.int .u8 (a2)))] [] (.c (.lit (.bool (r)))) [] := by
  unfold F_ref06_before at h
  refine con_of [] [] 24 Try.func52 rfl rfl (by kernel_rfl) (fun K => ?_)
  refine TS_go 11 ?_
  replace h := bindO h
  obtain ⟨v1, hv1, h⟩ := h
  refine TS_call [] (ok_ref04_Compare a0.Src a1 v1 hv1) (by kernel_rfl) (by kernel_rfl) ?_
  refine TS_go 7 ?_
  replace h := condO h
  rcases h with ⟨hb2, h⟩ | ⟨hb2, h⟩
  · refine TS_know 13 (b := true) hb2 (by kernel_rfl) (by kernel_rfl) ?_
    refine TS_know 14 (b := true) hb2 (by kernel_rfl) (by kernel_rfl) ?_
    refine TS_go 12 ?_
    have ret := Option.some.inj h
    subst ret
    exact TS_ret (by kernel_rfl) (by kernel_rfl) (by kernel_rfl)
  · refine TS_know 13 (b := false) hb2 (by kernel_rfl) (by kernel_rfl) ?_
    refine TS_know 14 (b := false) hb2 (by kernel_rfl) (by kernel_rfl) ?_
    refine TS_go 3 ?_
    replace h := condO h
    rcases h with ⟨hb3, h⟩ | ⟨hb3, h⟩
    · refine TS_know 16 (b := true) hb3 (by kernel_rfl) (by kernel_rfl) ?_
      refine TS_know 17 (b := true) hb3 (by kernel_rfl) (by kernel_rfl) ?_
      refine TS_go 9 ?_
      have ret := Option.some.inj h
      subst ret
      exact TS_ret (by kernel_rfl) (by kernel_rfl) (by kernel_rfl)
    · refine TS_know 16 (b := false) hb3 (by kernel_rfl) (by kernel_rfl) ?_
      refine TS_know 17 (b := false) hb3 (by kernel_rfl) (by kernel_rfl) ?_
      refine TS_go 9 ?_
      have ret := Option.some.inj h
      subst ret
      exact TS_ret (by kernel_rfl) (by kernel_rfl) (by kernel_rfl)

/-- multihop/multihopref06.Valid -/
noncomputable def F_ref06_Valid_l1 (a0 : S_Guard) (s4 : Int) : Option ((Int) ⊕ ((Unit) ⊕ (Bool))) :=
  bif (decide (s4 < (List.length a0.Keys : Int))) then
    (idx a0.Keys s4).bind fun e8 =>
    (idx a0.Keys (IntKind.wrap .i64 (s4 - 1))).bind fun e9 =>
    bif (decide (e8.Index ≤ e9.Index)) then
      some (Sum.inr (Sum.inr false))
    else
      some (Sum.inl (IntKind.wrap .i64 (s4 + 1)))
  else
    some (Sum.inr (Sum.inl ()))
noncomputable def F_ref06_Valid_l2 (a0 : S_Guard) (s12 : Int) : Option ((Int) ⊕ ((Unit) ⊕ (Bool))) :=
  bif (decide (s12 < (List.length a0.Peers : Int))) then
    (idx a0.Peers s12).bind fun e16 =>
    (F_ref06_key a0 e16.Key).bind fun v17 =>
    bif v17.2 then
      (F_ref04_One e16.Src).bind fun v19 =>
      bif v19 then
        bif ((iand .u32 e16.Window 1) == 0) then
          some (Sum.inr (Sum.inr false))
        else
          bif (decide (s12 > 0)) then
            (idx a0.Peers (IntKind.wrap .i64 (s12 - 1))).bind fun e23 =>
            (F_ref06_before e23 e16.Src e16.Key).bind fun v24 =>
            bif v24 then
              some (Sum.inl (IntKind.wrap .i64 (s12 + 1)))
            else
              some (Sum.inr (Sum.inr false))
          else
            some (Sum.inl (IntKind.wrap .i64 (s12 + 1)))
      else
        some (Sum.inr (Sum.inr false))
    else
      some (Sum.inr (Sum.inr false))
  else
    some (Sum.inr (Sum.inl ()))
noncomputable def F_ref06_Valid (a0 : S_Guard) : Option (Bool) :=
  bif (decide ((List.length a0.Keys : Int) > 4)) then
    some (false)
  else
    bif (decide (a0.Counter > a0.Reserved)) then
      some (false)
    else
      bif (decide ((List.length a0.Peers : Int) > 16)) then
        some (false)
      else
        (loopO (F_ref06_Valid_l1 a0) 1).bind (Sum.elim (fun b5 =>
          (loopO (F_ref06_Valid_l2 a0) 0).bind (Sum.elim (fun b13 =>
            some (true)
          ) (fun w26 => some w26))
        ) (fun w11 => some w11))
set_option maxRecDepth 100000 in
set_option maxHeartbeats 40000000 in
theorem ok_ref06_Valid (a0 : S_Guard) (r : Bool) (h : F_ref06_Valid a0 = some r) : Con Try.prog 46 [.agg (S_Guard.cs a0)] [] (.c (.lit (.bool (r)))) [] := by
  unfold F_ref06_Valid at h
  refine con_of [] [] 97 Try.func46 rfl rfl (by kernel_rfl) (fun K => ?_)
  refine TS_go 13 ?_
  replace h := condO h
  rcases h with ⟨hb1, h⟩ | ⟨hb1, h⟩
  · refine TS_know 11 (b := true) hb1 (by kernel_rfl) (by kernel_rfl) ?_
    refine TS_know 12 (b := true) hb1 (by kernel_rfl) (by kernel_rfl) ?_
    refine TS_go 13 ?_
    refine TS_T (by kernel_rfl) rfl ?_
    refine TS_go 6 ?_
    have ret := Option.some.inj h
    subst ret
    exact TS_ret (by kernel_rfl) (by kernel_rfl) (by kernel_rfl)
  · refine TS_know 11 (b := false) hb1 (by kernel_rfl) (by kernel_rfl) ?_
    refine TS_know 12 (b := false) hb1 (by kernel_rfl) (by kernel_rfl) ?_
    refine TS_go 7 ?_
    replace h := condO h
    rcases h with ⟨hb2, h⟩ | ⟨hb2, h⟩
    · refine TS_know 17 (b := true) hb2 (by kernel_rfl) (by kernel_rfl) ?_
      refine TS_know 18 (b := true) hb2 (by kernel_rfl) (by kernel_rfl) ?_
      refine TS_know 19 (b := true) hb2 (by kernel_rfl) (by kernel_rfl) ?_
      refine TS_go 6 ?_
      refine TS_T (by kernel_rfl) rfl ?_
      refine TS_go 6 ?_
      have ret := Option.some.inj h
      subst ret
      exact TS_ret (by kernel_rfl) (by kernel_rfl) (by kernel_rfl)
    · refine TS_know 17 (b := false) hb2 (by kernel_rfl) (by kernel_rfl) ?_
      refine TS_know 18 (b := false) hb2 (by kernel_rfl) (by kernel_rfl) ?_
      refine TS_know 19 (b := false) hb2 (by kernel_rfl) (by kernel_rfl) ?_
      refine TS_go 6 ?_
      replace h := condO h
      rcases h with ⟨hb3, h⟩ | ⟨hb3, h⟩
      · refine TS_know 23 (b := true) hb3 (by kernel_rfl) (by kernel_rfl) ?_
        refine TS_know 24 (b := true) hb3 (by kernel_rfl) (by kernel_rfl) ?_
        refine TS_T (by kernel_rfl) rfl ?_
        refine TS_go 6 ?_
        have ret := Option.some.inj h
        subst ret
        exact TS_ret (by kernel_rfl) (by kernel_rfl) (by kernel_rfl)
      · refine TS_know 23 (b := false) hb3 (by kernel_rfl) (by kernel_rfl) ?_
        refine TS_know 24 (b := false) hb3 (by kernel_rfl) (by kernel_rfl) ?_
        refine TS_F (by kernel_rfl) rfl ?_
        refine TS_go 7 ?_
        refine TS_cut ⟨[(1, []), (3, [])], [(1, (1, []))]⟩ (.mk [.code (codeAt [1, 1, 0, 1, 0] (bodyOf Try.f46)), .blk 0, .code (codeAt [1, 1, 1] (bodyOf Try.f46))] .normal ⟨[(1, .c (.box 1 0)), (3, .c (.lit (.int .i64 (1))))], [(1, .box [.slc 17 0 (List.length a0.Keys) (List.map S_LinkKey.cs a0.Keys), .lit (.int .u32 (a0.Counter)), .lit (.int .u32 (a0.Reserved)), .lit (.int .u32 (a0.Nonce)), .slc 6 0 (List.length a0.Peers) (List.map S_Peer.cs a0.Peers)])]⟩) (by kernel_rfl) (by kernel_rfl) ?_
        replace h := bindO h
        obtain ⟨y6, hl1, hK1⟩ := h
        refine TS_loopB (F_ref06_Valid_l1 a0) ⟨[(1, []), (3, [])], [(1, (1, []))]⟩ (fun (s4 : Int) => [(3, .c (.lit (.int .i64 (s4))))]) (fun (s4 : Int) => []) 1 y6 (.exit 0) (fun (b : Unit) => (Sum.inl b : (Unit) ⊕ (Bool))) ⟨[(1, [])], [(1, (1, []))]⟩ (fun (b5 : Unit) => []) (fun (b5 : Unit) => []) hl1 (by kernel_rfl) (by kernel_rfl) ?_ ?_
        · intro s4 x h hy1
          unfold F_ref06_Valid_l1 at h
          refine TS_go 9 ?_
          replace h := condO h
          rcases h with ⟨hb7, h⟩ | ⟨hb7, h⟩
          · refine TS_know 29 (b := true) hb7 (by kernel_rfl) (by kernel_rfl) ?_
            refine TS_T (by kernel_rfl) rfl ?_
            refine TS_go 4 ?_
            refine TS_draw (by kernel_rfl) ?_
            refine TD_go 3 ?_
            replace h := bindO h
            obtain ⟨_e8, he8, h⟩ := h
            refine TD_idx S_LinkKey.cs he8 (by kernel_rfl) (by kernel_rfl) ?_
            refine TD_go 6 ?_
            replace h := bindO h
            obtain ⟨_e9, he9, h⟩ := h
            refine TD_idx S_LinkKey.cs he9 (by kernel_rfl) (by kernel_rfl) ?_
            refine TD_go 3 ?_
            refine TD_end (by kernel_rfl) ?_
            replace h := condO h
            rcases h with ⟨hb10, h⟩ | ⟨hb10, h⟩
            · refine TS_know 45 (b := true) hb10 (by kernel_rfl) (by kernel_rfl) ?_
              refine TS_T (by kernel_rfl) rfl ?_
              refine TS_go 7 ?_
              have ret := Option.some.inj h
              subst ret
              have hy1q := hy1 _ rfl
              subst hy1q
              replace h := (elimR hK1)
              refine TS_retB rfl (by kernel_rfl) ?_
              refine TS_go 2 ?_
              have ret := Option.some.inj h
              subst ret
              exact TS_ret (by kernel_rfl) (by kernel_rfl) (by kernel_rfl)
            · refine TS_know 45 (b := false) hb10 (by kernel_rfl) (by kernel_rfl) ?_
              refine TS_F (by kernel_rfl) rfl ?_
              refine TS_go 7 ?_
              have ret := Option.some.inj h
              subst ret
              exact TS_againB _ ⟨[(1, []), (3, [])], [(1, (1, []))]⟩ rfl (by kernel_rfl) (by kernel_rfl)
          · refine TS_know 29 (b := false) hb7 (by kernel_rfl) (by kernel_rfl) ?_
            refine TS_F (by kernel_rfl) rfl ?_
            refine TS_go 2 ?_
            have ret := Option.some.inj h
            subst ret
            exact TS_brkB () ⟨[(1, [])], [(1, (1, []))]⟩ rfl (by kernel_rfl) (by kernel_rfl) (by kernel_rfl)
        · intro b5 hb
          subst y6
          have h := elimL hK1
          refine TS_go 7 ?_
          refine TS_cut ⟨[(1, []), (4, [])], [(1, (1, []))]⟩ (.mk [.code (codeAt [1, 1, 1, 0, 1, 0] (bodyOf Try.f46)), .blk 2, .code (codeAt [1, 1, 1, 1] (bodyOf Try.f46))] .normal ⟨[(1, .c (.box 1 0)), (4, .c (.lit (.int .i64 (0))))], [(1, .box [.slc 17 0 (List.length a0.Keys) (List.map S_LinkKey.cs a0.Keys), .lit (.int .u32 (a0.Counter)), .lit (.int .u32 (a0.Reserved)), .lit (.int .u32 (a0.Nonce)), .slc 6 0 (List.length a0.Peers) (List.map S_Peer.cs a0.Peers)])]⟩) (by kernel_rfl) (by kernel_rfl) ?_
          replace h := bindO h
          obtain ⟨y14, hl2, hK2⟩ := h
          refine TS_loopB (F_ref06_Valid_l2 a0) ⟨[(1, []), (4, [])], [(1, (1, []))]⟩ (fun (s12 : Int) => [(4, .c (.lit (.int .i64 (s12))))]) (fun (s12 : Int) => []) 0 y14 (.exit 2) (fun (b : Unit) => (Sum.inl b : (Unit) ⊕ (Bool))) ⟨[], []⟩ (fun (b13 : Unit) => []) (fun (b13 : Unit) => []) hl2 (by kernel_rfl) (by kernel_rfl) ?_ ?_
          · intro s12 x h hy2
            unfold F_ref06_Valid_l2 at h
            refine TS_go 9 ?_
            replace h := condO h
            rcases h with ⟨hb15, h⟩ | ⟨hb15, h⟩
            · refine TS_know 50 (b := true) hb15 (by kernel_rfl) (by kernel_rfl) ?_
              refine TS_T (by kernel_rfl) rfl ?_
              refine TS_go 8 ?_
              replace h := bindO h
              obtain ⟨e16, he16, h⟩ := h
              refine TS_idx S_Peer.cs he16 (by kernel_rfl) (by kernel_rfl) ?_
              refine TS_go 9 ?_
              replace h := bindO h
              obtain ⟨v17, hv17, h⟩ := h
              refine TS_call [] (ok_ref06_key a0 e16.Key v17 hv17) (by kernel_rfl) (by kernel_rfl) ?_
              refine TS_go 8 ?_
              refine TS_draw (by kernel_rfl) ?_
              refine TD_go 2 ?_
              replace h := condO h
              rcases h with ⟨hb18, h⟩ | ⟨hb18, h⟩
              · refine TD_know 67 (b := false) (notF hb18) trivial (by kernel_rfl) (by kernel_rfl) ?_
                refine TD_go 2 ?_
                replace h := bindO h
                obtain ⟨v19, hv19, h⟩ := h
                refine TD_call [] (ok_ref04_One e16.Src v19 hv19) (by kernel_rfl) (by kernel_rfl) ?_
                refine TD_go 3 ?_
                replace h := condO h
                rcases h with ⟨hb20, h⟩ | ⟨hb20, h⟩
                · subst hb20
                  refine TD_go 5 ?_
                  replace h := condO h
                  rcases h with ⟨hb21, h⟩ | ⟨hb21, h⟩
                  · refine TD_know 79 (b := true) hb21 trivial (by kernel_rfl) (by kernel_rfl) ?_
                    refine TD_go 17 ?_
                    refine TD_end (by kernel_rfl) ?_
                    refine TS_T (by kernel_rfl) rfl ?_
                    refine TS_go 7 ?_
                    have ret := Option.some.inj h
                    subst ret
                    have hy2q := hy2 _ rfl
                    subst hy2q
                    replace h := (elimR hK2)
                    refine TS_retB rfl (by kernel_rfl) ?_
                    refine TS_go 2 ?_
                    have ret := Option.some.inj h
                    subst ret
                    exact TS_ret (by kernel_rfl) (by kernel_rfl) (by kernel_rfl)
                  · refine TD_know 79 (b := false) hb21 trivial (by kernel_rfl) (by kernel_rfl) ?_
                    refine TD_go 2 ?_
                    replace h := condO h
                    rcases h with ⟨hb22, h⟩ | ⟨hb22, h⟩
                    · refine TD_know 82 (b := true) hb22 trivial (by kernel_rfl) (by kernel_rfl) ?_
                      refine TD_go 4 ?_
                      replace h := bindO h
                      obtain ⟨e23, he23, h⟩ := h
                      refine TD_idx S_Peer.cs he23 (by kernel_rfl) (by kernel_rfl) ?_
                      refine TD_go 5 ?_
                      replace h := bindO h
                      obtain ⟨v24, hv24, h⟩ := h
                      refine TD_call [] (ok_ref06_before e23 e16.Src e16.Key v24 hv24) (by kernel_rfl) (by kernel_rfl) ?_
                      refine TD_go 3 ?_
                      refine TD_end (by kernel_rfl) ?_
                      replace h := condO h
                      rcases h with ⟨hb25, h⟩ | ⟨hb25, h⟩
                      · subst hb25
                        refine TS_F (by kernel_rfl) rfl ?_
                        refine TS_go 7 ?_
                        have ret := Option.some.inj h
                        subst ret
                        exact TS_againB _ ⟨[(1, []), (4, [])], [(1, (1, []))]⟩ rfl (by kernel_rfl) (by kernel_rfl)
                      · subst hb25
                        refine TS_T (by kernel_rfl) rfl ?_
                        refine TS_go 7 ?_
                        have ret := Option.some.inj h
                        subst ret
                        have hy2q := hy2 _ rfl
                        subst hy2q
                        replace h := (elimR hK2)
                        refine TS_retB rfl (by kernel_rfl) ?_
                        refine TS_go 2 ?_
                        have ret := Option.some.inj h
                        subst ret
                        exact TS_ret (by kernel_rfl) (by kernel_rfl) (by kernel_rfl)
                    · refine TD_know 82 (b := false) hb22 trivial (by kernel_rfl) (by kernel_rfl) ?_
                      refine TD_go 14 ?_
                      refine TD_end (by kernel_rfl) ?_
                      refine TS_F (by kernel_rfl) rfl ?_
                      refine TS_go 7 ?_
                      have ret := Option.some.inj h
                      subst ret
                      exact TS_againB _ ⟨[(1, []), (4, [])], [(1, (1, []))]⟩ rfl (by kernel_rfl) (by kernel_rfl)
                · subst hb20
                  refine TD_go 23 ?_
                  refine TD_end (by kernel_rfl) ?_
                  refine TS_T (by kernel_rfl) rfl ?_
                  refine TS_go 7 ?_
                  have ret := Option.some.inj h
                  subst ret
                  have hy2q := hy2 _ rfl
                  subst hy2q
                  replace h := (elimR hK2)
                  refine TS_retB rfl (by kernel_rfl) ?_
                  refine TS_go 2 ?_
                  have ret := Option.some.inj h
                  subst ret
                  exact TS_ret (by kernel_rfl) (by kernel_rfl) (by kernel_rfl)
              · refine TD_know 67 (b := true) (notT hb18) trivial (by kernel_rfl) (by kernel_rfl) ?_
                refine TD_go 29 ?_
                refine TD_end (by kernel_rfl) ?_
                refine TS_T (by kernel_rfl) rfl ?_
                refine TS_go 7 ?_
                have ret := Option.some.inj h
                subst ret
                have hy2q := hy2 _ rfl
                subst hy2q
                replace h := (elimR hK2)
                refine TS_retB rfl (by kernel_rfl) ?_
                refine TS_go 2 ?_
                have ret := Option.some.inj h
                subst ret
                exact TS_ret (by kernel_rfl) (by kernel_rfl) (by kernel_rfl)
            · refine TS_know 50 (b := false) hb15 (by kernel_rfl) (by kernel_rfl) ?_
              refine TS_F (by kernel_rfl) rfl ?_
              refine TS_go 2 ?_
              have ret := Option.some.inj h
              subst ret
              exact TS_brkB () ⟨[], []⟩ rfl (by kernel_rfl) (by kernel_rfl) (by kernel_rfl)
          · intro b13 hb
            subst y14
            have h := elimL hK2
            refine TS_go 6 ?_
            have ret := Option.some.inj h
            subst ret
            exact TS_ret (by kernel_rfl) (by kernel_rfl) (by kernel_rfl)

/-- multihop/multihopref01.Append -/
noncomputable def F_ref01_Append_l1 (a1 : Int) (s4 : (List Int) × Int) : Option (((List Int) × Int) ⊕ ((List Int))) :=
  bif (decide (s4.2 ≥ 0)) then
    bif decide (0 ≤ (IntKind.wrap .u64 (8 * (IntKind.wrap .u64 s4.2)))) then
      (appO 1 s4.1 (Cut.app .whole ([IntKind.wrap .u8 (ishr .u64 a1 (IntKind.wrap .u64 (8 * (IntKind.wrap .u64 s4.2))))] : List Int))).bind fun l9 =>
      some (Sum.inl (l9, IntKind.wrap .i64 (s4.2 - 1)))
    else none
  else
    some (Sum.inr s4.1)
noncomputable def F_ref01_Append (a0 : List Int) (a1 : Int) (a2 : Int) : Option ((List Int)) :=
  (appO 1 ([] : List Int) (Cut.app .whole a0)).bind fun l1 =>
  bif (decide (a2 < 0)) then
    some (l1)
  else
    bif (decide (a2 > 8)) then
      some (l1)
    else
      (loopO (F_ref01_Append_l1 a1) (l1, IntKind.wrap .i64 (a2 - 1))).bind fun b5 =>
      some (b5)
set_option maxRecDepth 100000 in
set_option maxHeartbeats 40000000 in
theorem okT_ref01_Append (a0 : List Int) (a1 : Int) (a2 : Int) (r : (List Int)) (h : F_ref01_Append a0 a1 a2 = some r) : Con Try.prog 80 [.c (eS 1 (ecI .u8) (a0)), .c (.lit (.int .u64 (a1))), .c (.lit (.int .i64 (a2)))] [] (.c (.slc 1 900002 (List.length r) (List.map (ecI .u8) r))) [(900000, .spare 5 1 (List.length r))] := by
  unfold F_ref01_Append at h
  refine con_of [] [(900000, [])] 35 Try.func80 rfl rfl (by kernel_rfl) (fun K => ?_)
  refine TS_go 6 ?_
  refine TS_litNT 9 5 1 (ecI .u8) [] ([] : List Int) (by kernel_rfl) (by kernel_rfl) ?_
  refine TS_go 1 ?_
  replace h := bindO h
  obtain ⟨l1, hl1, h⟩ := h
  refine TS_appT (d := 9) (e := 5) (sz := 1) (N := List.length ([] : List Int)) (ecI .u8) (fun _ => by kernel_rfl) (l1 := ([] : List Int)) (l2 := a0) (c := .whole) hl1 (by kernel_rfl) (by kernel_rfl) ?_
  refine TS_go 8 ?_
  replace h := condO h
  rcases h with ⟨hb2, h⟩ | ⟨hb2, h⟩
  · refine TS_know 13 (b := true) hb2 (by kernel_rfl) (by kernel_rfl) ?_
    refine TS_know 14 (b := true) hb2 (by kernel_rfl) (by kernel_rfl) ?_
    refine TS_go 4 ?_
    refine TS_T (by kernel_rfl) rfl ?_
    refine TS_go 5 ?_
    refine TS_fitU ⟨[(6, [])], [(9, (900000, []))]⟩ (by kernel_rfl) ?_
    refine TS_go 2 ?_
    have ret := Option.some.inj h
    subst ret
    exact TS_ret (by kernel_rfl) (by kernel_rfl) (by kernel_rfl)
  · refine TS_know 13 (b := false) hb2 (by kernel_rfl) (by kernel_rfl) ?_
    refine TS_know 14 (b := false) hb2 (by kernel_rfl) (by kernel_rfl) ?_
    refine TS_go 4 ?_
    replace h := condO h
    rcases h with ⟨hb3, h⟩ | ⟨hb3, h⟩
    · refine TS_know 16 (b := true) hb3 (by kernel_rfl) (by kernel_rfl) ?_
      refine TS_know 17 (b := true) hb3 (by kernel_rfl) (by kernel_rfl) ?_
      refine TS_T (by kernel_rfl) rfl ?_
      refine TS_go 5 ?_
      refine TS_fitU ⟨[(6, [])], [(9, (900000, []))]⟩ (by kernel_rfl) ?_
      refine TS_go 2 ?_
      have ret := Option.some.inj h
      subst ret
      exact TS_ret (by kernel_rfl) (by kernel_rfl) (by kernel_rfl)
    · refine TS_know 16 (b := false) hb3 (by kernel_rfl) (by kernel_rfl) ?_
      refine TS_know 17 (b := false) hb3 (by kernel_rfl) (by kernel_rfl) ?_
      refine TS_F (by kernel_rfl) rfl ?_
      refine TS_go 9 ?_
      refine TS_cut ⟨[(1, []), (7, []), (8, [])], [(9, (9, []))]⟩ (.mk [.code (codeAt [1, 1, 1, 0, 1, 0] (bodyOf Try.f80)), .blk 0, .code (codeAt [1, 1, 1, 1] (bodyOf Try.f80))] .normal ⟨[(1, .c (.lit (.int .u64 (a1)))), (7, .c (.slc 1 11 (List.length l1) (List.map (ecI .u8) l1))), (8, .c (.lit (.int .i64 (IntKind.wrap .i64 (a2 - 1)))))], [(9, .spare 5 1 (List.length l1))]⟩) (by kernel_rfl) (by kernel_rfl) ?_
      replace h := bindO h
      obtain ⟨y6, hl1, hK1⟩ := h
      refine TS_loopB (F_ref01_Append_l1 a1) ⟨[(1, []), (7, []), (8, [])], [(9, (9, []))]⟩ (fun (s4 : (List Int) × Int) => [(7, .c (.slc 1 11 (List.length s4.1) (List.map (ecI .u8) s4.1))), (8, .c (.lit (.int .i64 (s4.2))))]) (fun (s4 : (List Int) × Int) => [(9, .spare 5 1 (List.length s4.1))]) (l1, IntKind.wrap .i64 (a2 - 1)) y6 (.exit 0) (fun (b : (List Int)) => b) ⟨[(7, [])], [(9, (9, []))]⟩ (fun (b5 : (List Int)) => [(7, .c (.slc 1 11 (List.length b5) (List.map (ecI .u8) b5)))]) (fun (b5 : (List Int)) => [(9, .spare 5 1 (List.length b5))]) hl1 (by kernel_rfl) (by kernel_rfl) ?_ ?_
      · intro s4 x h hy1
        unfold F_ref01_Append_l1 at h
        refine TS_go 6 ?_
        replace h := condO h
        rcases h with ⟨hb7, h⟩ | ⟨hb7, h⟩
        · refine TS_know 22 (b := true) hb7 (by kernel_rfl) (by kernel_rfl) ?_
          refine TS_T (by kernel_rfl) rfl ?_
          refine TS_go 9 ?_
          replace h := chkO h
          obtain ⟨hc8, h⟩ := h
          refine TS_num (op := .shr) (k := .u64) (k' := .u64) (m := a1) (i := IntKind.wrap .u64 (8 * (IntKind.wrap .u64 s4.2))) (of_decide_eq_true hc8) rfl (by simp) (by kernel_rfl) (by kernel_rfl) ?_
          refine TS_go 1 ?_
          refine TS_litNT 32 5 1 (ecI .u8) [] ([IntKind.wrap .u8 (ishr .u64 a1 (IntKind.wrap .u64 (8 * (IntKind.wrap .u64 s4.2))))] : List Int) (by kernel_rfl) (by kernel_rfl) ?_
          replace h := bindO h
          obtain ⟨_l9, hl9, h⟩ := h
          refine TS_appT (d := 9) (e := 5) (sz := 1) (N := List.length s4.1) (ecI .u8) (fun _ => by kernel_rfl) (l1 := s4.1) (l2 := ([IntKind.wrap .u8 (ishr .u64 a1 (IntKind.wrap .u64 (8 * (IntKind.wrap .u64 s4.2))))] : List Int)) (c := .whole) hl9 (by kernel_rfl) (by kernel_rfl) ?_
          refine TS_go 8 ?_
          have ret := Option.some.inj h
          subst ret
          exact TS_againB _ ⟨[(1, []), (7, []), (8, [])], [(9, (9, []))]⟩ rfl (by kernel_rfl) (by kernel_rfl)
        · refine TS_know 22 (b := false) hb7 (by kernel_rfl) (by kernel_rfl) ?_
          refine TS_F (by kernel_rfl) rfl ?_
          refine TS_go 2 ?_
          have ret := Option.some.inj h
          subst ret
          exact TS_brkB s4.1 ⟨[(7, [])], [(9, (9, []))]⟩ rfl (by kernel_rfl) (by kernel_rfl) (by kernel_rfl)
      · intro b5 hb
        subst y6
        have h := hK1
        refine TS_go 6 ?_
        refine TS_fitU ⟨[(6, [])], [(9, (900000, []))]⟩ (by kernel_rfl) ?_
        refine TS_go 1 ?_
        have ret := Option.some.inj h
        subst ret
        exact TS_ret (by kernel_rfl) (by kernel_rfl) (by kernel_rfl)
/-- multihop/multihopref06.response -/
noncomputable def F_ref06_response (a0 : Int) (a1 : Int) : Option ((List Int)) :=
  (F_ref01_Append ([a0] : List Int) (IntKind.wrap .u64 a1) 4).bind fun v1 =>
  some (v1)
set_option maxRecDepth 100000 in
set_option maxHeartbeats 40000000 in
theorem okT_ref06_response (a0 : Int) (a1 : Int) (r : (List Int)) (h : F_ref06_response a0 a1 = some r) : Con Try.prog 54 [.c (.lit (.int .u8 (a0))), .c (.lit (.int .u32 (a1)))] [] (.c (.slc 1 900002 (List.length r) (List.map (ecI .u8) r))) [(900000, .spare 5 1 (List.length r))] := by
  unfold F_ref06_response at h
  refine con_of [] [(900000, [])] 10 Try.func54 rfl rfl (by kernel_rfl) (fun K => ?_)
  refine TS_go 7 ?_
  refine TS_litNT 6 5 1 (ecI .u8) [] ([a0] : List Int) (by kernel_rfl) (by kernel_rfl) ?_
  refine TS_go 2 ?_
  replace h := bindO h
  obtain ⟨v1, hv1, h⟩ := h
  refine TS_con [[2]] [(9, 900000)] none (okT_ref01_Append ([a0] : List Int) (IntKind.wrap .u64 a1) 4 v1 hv1) (by kernel_rfl) (by kernel_rfl) (by kernel_rfl) ?_
  refine TS_go 2 ?_
  refine TS_fitU ⟨[(4, [])], [(9, (900000, []))]⟩ (by kernel_rfl) ?_
  refine TS_go 1 ?_
  have ret := Option.some.inj h
  subst ret
  exact TS_ret (by kernel_rfl) (by kernel_rfl) (by kernel_rfl)
/-- multihop/multihopref06.Challenge -/
noncomputable def F_ref06_Challenge (a0 : S_Guard) : Option ((List Int)) :=
  (F_ref06_Valid a0).bind fun v1 =>
  bif v1 then
    (F_ref06_response 1 a0.Nonce).bind fun v3 =>
    some (v3)
  else
    some (([] : List Int))
set_option maxRecDepth 100000 in
set_option maxHeartbeats 40000000 in
theorem okT_ref06_Challenge (a0 : S_Guard) (r : (List Int)) (h : F_ref06_Challenge a0 = some r) : Con Try.prog 27 [.agg (S_Guard.cs a0)] [] (.c (.slc 1 900002 (List.length r) (List.map (ecI .u8) r))) [(900000, .spare 5 1 (List.length r))] := by
  unfold F_ref06_Challenge at h
  refine con_of [] [(900000, [])] 9 Try.func27 rfl rfl (by kernel_rfl) (fun K => ?_)
  refine TS_go 9 ?_
  replace h := bindO h
  obtain ⟨v1, hv1, h⟩ := h
  refine TS_call [] (ok_ref06_Valid a0 v1 hv1) (by kernel_rfl) (by kernel_rfl) ?_
  refine TS_go 2 ?_
  replace h := condO h
  rcases h with ⟨hb2, h⟩ | ⟨hb2, h⟩
  · subst hb2
    refine TS_F (by kernel_rfl) rfl ?_
    refine TS_go 5 ?_
    replace h := bindO h
    obtain ⟨v3, hv3, h⟩ := h
    refine TS_con [] [(8, 900000)] none (okT_ref06_response 1 a0.Nonce v3 hv3) (by kernel_rfl) (by kernel_rfl) (by kernel_rfl) ?_
    refine TS_go 2 ?_
    refine TS_fitU ⟨[(2, [])], [(8, (900000, []))]⟩ (by kernel_rfl) ?_
    refine TS_go 1 ?_
    have ret := Option.some.inj h
    subst ret
    exact TS_ret (by kernel_rfl) (by kernel_rfl) (by kernel_rfl)
  · subst hb2
    refine TS_T (by kernel_rfl) rfl ?_
    refine TS_go 4 ?_
    refine TS_nilT 2 600000 5 1 (by kernel_rfl) ?_
    refine TS_fitU ⟨[(2, [])], [(600000, (900000, []))]⟩ (by kernel_rfl) ?_
    refine TS_go 2 ?_
    have ret := Option.some.inj h
    subst ret
    exact TS_ret (by kernel_rfl) (by kernel_rfl) (by kernel_rfl)
/-- multihop/multihopref01.Uint -/
noncomputable def F_ref01_Uint_l1 (a2 : Int) (a0 : List Int) (a1 : Int) (s6 : Int × Int) : Option ((Int × Int) ⊕ (Int)) :=
  bif (decide (s6.2 < a2)) then
    (idx a0 (IntKind.wrap .i64 (a1 + s6.2))).bind fun e10 =>
    some (Sum.inl (IntKind.wrap .u64 ((ishl .u64 s6.1 8) + (IntKind.wrap .u64 e10)), IntKind.wrap .i64 (s6.2 + 1)))
  else
    some (Sum.inr s6.1)
noncomputable def F_ref01_Uint (a0 : List Int) (a1 : Int) (a2 : Int) : Option (Int × Bool) :=
  bif (decide (a2 < 1)) then
    some ((0, false))
  else
    bif (decide (a2 > 8)) then
      some ((0, false))
    else
      bif (decide (a1 < 0)) then
        some ((0, false))
      else
        bif (decide (a1 > (List.length a0 : Int))) then
          some ((0, false))
        else
          bif (decide (a2 > (IntKind.wrap .i64 ((List.length a0 : Int) - a1)))) then
            some ((0, false))
          else
            (loopO (F_ref01_Uint_l1 a2 a0 a1) (0, 0)).bind fun b7 =>
            some ((b7, true))
set_option maxRecDepth 100000 in
set_option maxHeartbeats 40000000 in
theorem ok_ref01_Uint (a0 : List Int) (a1 : Int) (a2 : Int) (r : Int × Bool) (h : F_ref01_Uint a0 a1 a2 = some r) : Con Try.prog 60 [.c (eS 1 (ecI .u8) (a0)), .c (.lit (.int .i64 (a1))), .c (.lit (.int .i64 (a2)))] [] (.tup [(false, [.lit (.int .u64 (r.1))]), (false, [.lit (.bool (r.2))])]) [] := by
  unfold F_ref01_Uint at h
  refine con_of [] [] 50 Try.func60 rfl rfl (by kernel_rfl) (fun K => ?_)
  refine TS_go 11 ?_
  replace h := condO h
  rcases h with ⟨hb1, h⟩ | ⟨hb1, h⟩
  · refine TS_know 11 (b := true) hb1 (by kernel_rfl) (by kernel_rfl) ?_
    refine TS_know 12 (b := true) hb1 (by kernel_rfl) (by kernel_rfl) ?_
    refine TS_go 22 ?_
    refine TS_T (by kernel_rfl) rfl ?_
    refine TS_go 7 ?_
    have ret := Option.some.inj h
    subst ret
    exact TS_ret (by kernel_rfl) (by kernel_rfl) (by kernel_rfl)
  · refine TS_know 11 (b := false) hb1 (by kernel_rfl) (by kernel_rfl) ?_
    refine TS_know 12 (b := false) hb1 (by kernel_rfl) (by kernel_rfl) ?_
    refine TS_go 4 ?_
    replace h := condO h
    rcases h with ⟨hb2, h⟩ | ⟨hb2, h⟩
    · refine TS_know 14 (b := true) hb2 (by kernel_rfl) (by kernel_rfl) ?_
      refine TS_know 15 (b := true) hb2 (by kernel_rfl) (by kernel_rfl) ?_
      refine TS_know 16 (b := true) hb2 (by kernel_rfl) (by kernel_rfl) ?_
      refine TS_go 18 ?_
      refine TS_T (by kernel_rfl) rfl ?_
      refine TS_go 7 ?_
      have ret := Option.some.inj h
      subst ret
      exact TS_ret (by kernel_rfl) (by kernel_rfl) (by kernel_rfl)
    · refine TS_know 14 (b := false) hb2 (by kernel_rfl) (by kernel_rfl) ?_
      refine TS_know 15 (b := false) hb2 (by kernel_rfl) (by kernel_rfl) ?_
      refine TS_know 16 (b := false) hb2 (by kernel_rfl) (by kernel_rfl) ?_
      refine TS_go 4 ?_
      replace h := condO h
      rcases h with ⟨hb3, h⟩ | ⟨hb3, h⟩
      · refine TS_know 18 (b := true) hb3 (by kernel_rfl) (by kernel_rfl) ?_
        refine TS_know 19 (b := true) hb3 (by kernel_rfl) (by kernel_rfl) ?_
        refine TS_know 20 (b := true) hb3 (by kernel_rfl) (by kernel_rfl) ?_
        refine TS_go 14 ?_
        refine TS_T (by kernel_rfl) rfl ?_
        refine TS_go 7 ?_
        have ret := Option.some.inj h
        subst ret
        exact TS_ret (by kernel_rfl) (by kernel_rfl) (by kernel_rfl)
      · refine TS_know 18 (b := false) hb3 (by kernel_rfl) (by kernel_rfl) ?_
        refine TS_know 19 (b := false) hb3 (by kernel_rfl) (by kernel_rfl) ?_
        refine TS_know 20 (b := false) hb3 (by kernel_rfl) (by kernel_rfl) ?_
        refine TS_go 6 ?_
        replace h := condO h
        rcases h with ⟨hb4, h⟩ | ⟨hb4, h⟩
        · refine TS_know 24 (b := true) hb4 (by kernel_rfl) (by kernel_rfl) ?_
          refine TS_know 25 (b := true) hb4 (by kernel_rfl) (by kernel_rfl) ?_
          refine TS_know 26 (b := true) hb4 (by kernel_rfl) (by kernel_rfl) ?_
          refine TS_go 8 ?_
          refine TS_T (by kernel_rfl) rfl ?_
          refine TS_go 7 ?_
          have ret := Option.some.inj h
          subst ret
          exact TS_ret (by kernel_rfl) (by kernel_rfl) (by kernel_rfl)
        · refine TS_know 24 (b := false) hb4 (by kernel_rfl) (by kernel_rfl) ?_
          refine TS_know 25 (b := false) hb4 (by kernel_rfl) (by kernel_rfl) ?_
          refine TS_know 26 (b := false) hb4 (by kernel_rfl) (by kernel_rfl) ?_
          refine TS_go 8 ?_
          replace h := condO h
          rcases h with ⟨hb5, h⟩ | ⟨hb5, h⟩
          · refine TS_know 32 (b := true) hb5 (by kernel_rfl) (by kernel_rfl) ?_
            refine TS_know 33 (b := true) hb5 (by kernel_rfl) (by kernel_rfl) ?_
            refine TS_T (by kernel_rfl) rfl ?_
            refine TS_go 7 ?_
            have ret := Option.some.inj h
            subst ret
            exact TS_ret (by kernel_rfl) (by kernel_rfl) (by kernel_rfl)
          · refine TS_know 32 (b := false) hb5 (by kernel_rfl) (by kernel_rfl) ?_
            refine TS_know 33 (b := false) hb5 (by kernel_rfl) (by kernel_rfl) ?_
            refine TS_F (by kernel_rfl) rfl ?_
            refine TS_go 11 ?_
            refine TS_cut ⟨[(0, []), (1, []), (2, []), (8, []), (9, [])], []⟩ (.mk [.code (codeAt [1, 1, 1, 0, 1, 0] (bodyOf Try.f60)), .blk 0, .code (codeAt [1, 1, 1, 1] (bodyOf Try.f60))] .normal ⟨[(0, .c (.slc 1 0 (List.length a0) (List.map (ecI .u8) a0))), (1, .c (.lit (.int .i64 (a1)))), (2, .c (.lit (.int .i64 (a2)))), (8, .c (.lit (.int .u64 (0)))), (9, .c (.lit (.int .i64 (0))))], []⟩) (by kernel_rfl) (by kernel_rfl) ?_
            replace h := bindO h
            obtain ⟨y8, hl1, hK1⟩ := h
            refine TS_loopB (F_ref01_Uint_l1 a2 a0 a1) ⟨[(0, []), (1, []), (2, []), (8, []), (9, [])], []⟩ (fun (s6 : Int × Int) => [(8, .c (.lit (.int .u64 (s6.1)))), (9, .c (.lit (.int .i64 (s6.2))))]) (fun (s6 : Int × Int) => []) (0, 0) y8 (.exit 0) (fun (b : Int) => b) ⟨[(8, [])], []⟩ (fun (b7 : Int) => [(8, .c (.lit (.int .u64 (b7))))]) (fun (b7 : Int) => []) hl1 (by kernel_rfl) (by kernel_rfl) ?_ ?_
            · intro s6 x h hy1
              unfold F_ref01_Uint_l1 at h
              refine TS_go 7 ?_
              replace h := condO h
              rcases h with ⟨hb9, h⟩ | ⟨hb9, h⟩
              · refine TS_know 36 (b := true) hb9 (by kernel_rfl) (by kernel_rfl) ?_
                refine TS_T (by kernel_rfl) rfl ?_
                refine TS_go 10 ?_
                replace h := bindO h
                obtain ⟨_e10, he10, h⟩ := h
                refine TS_idx (ecI .u8) he10 (by kernel_rfl) (by kernel_rfl) ?_
                refine TS_go 11 ?_
                have ret := Option.some.inj h
                subst ret
                exact TS_againB _ ⟨[(0, []), (1, []), (2, []), (8, []), (9, [])], []⟩ rfl (by kernel_rfl) (by kernel_rfl)
              · refine TS_know 36 (b := false) hb9 (by kernel_rfl) (by kernel_rfl) ?_
                refine TS_F (by kernel_rfl) rfl ?_
                refine TS_go 2 ?_
                have ret := Option.some.inj h
                subst ret
                exact TS_brkB s6.1 ⟨[(8, [])], []⟩ rfl (by kernel_rfl) (by kernel_rfl) (by kernel_rfl)
            · intro b7 hb
              subst y8
              have h := hK1
              refine TS_go 8 ?_
              have ret := Option.some.inj h
              subst ret
              exact TS_ret (by kernel_rfl) (by kernel_rfl) (by kernel_rfl)

/-- multihop/multihopref06.Respond -/
noncomputable def F_ref06_Respond (a0 : List Int) : Option ((List Int) × Bool) :=
  bif ((List.length a0 : Int) != 5) then
    some ((([] : List Int), false))
  else
    (idx a0 0).bind fun e2 =>
    bif (e2 != 1) then
      some ((([] : List Int), false))
    else
      (F_ref01_Uint a0 1 4).bind fun v4 =>
      (F_ref06_response 2 (IntKind.wrap .u32 v4.1)).bind fun v5 =>
      some ((v5, true))
set_option maxRecDepth 100000 in
set_option maxHeartbeats 40000000 in
theorem okT_ref06_Respond (a0 : List Int) (r : (List Int) × Bool) (h : F_ref06_Respond a0 = some r) : Con Try.prog 25 [.c (eS 1 (ecI .u8) (a0))] [] (.tup [(false, [.slc 1 900002 (List.length r.1) (List.map (ecI .u8) r.1)]), (false, [.lit (.bool (r.2))])]) [(900000, .spare 5 1 (List.length r.1))] := by
  unfold F_ref06_Respond at h
  refine con_of [] [(900000, [])] 23 Try.func25 rfl rfl (by kernel_rfl) (fun K => ?_)
  refine TS_go 12 ?_
  replace h := condO h
  rcases h with ⟨hb1, h⟩ | ⟨hb1, h⟩
  · refine TS_know 8 (b := true) hb1 (by kernel_rfl) (by kernel_rfl) ?_
    refine TS_know 9 (b := true) hb1 (by kernel_rfl) (by kernel_rfl) ?_
    refine TS_go 6 ?_
    refine TS_T (by kernel_rfl) rfl ?_
    refine TS_go 5 ?_
    refine TS_nilT 2 600000 5 1 (by kernel_rfl) ?_
    refine TS_fitU ⟨[(2, []), (3, [])], [(600000, (900000, []))]⟩ (by kernel_rfl) ?_
    refine TS_go 2 ?_
    have ret := Option.some.inj h
    subst ret
    exact TS_ret (by kernel_rfl) (by kernel_rfl) (by kernel_rfl)
  · refine TS_know 8 (b := false) hb1 (by kernel_rfl) (by kernel_rfl) ?_
    refine TS_know 9 (b := false) hb1 (by kernel_rfl) (by kernel_rfl) ?_
    refine TS_go 1 ?_
    replace h := bindO h
    obtain ⟨_e2, he2, h⟩ := h
    refine TS_idx (ecI .u8) he2 (by kernel_rfl) (by kernel_rfl) ?_
    refine TS_go 4 ?_
    replace h := condO h
    rcases h with ⟨hb3, h⟩ | ⟨hb3, h⟩
    · refine TS_know 13 (b := true) hb3 (by kernel_rfl) (by kernel_rfl) ?_
      refine TS_know 14 (b := true) hb3 (by kernel_rfl) (by kernel_rfl) ?_
      refine TS_T (by kernel_rfl) rfl ?_
      refine TS_go 5 ?_
      refine TS_nilT 2 600000 5 1 (by kernel_rfl) ?_
      refine TS_fitU ⟨[(2, []), (3, [])], [(600000, (900000, []))]⟩ (by kernel_rfl) ?_
      refine TS_go 2 ?_
      have ret := Option.some.inj h
      subst ret
      exact TS_ret (by kernel_rfl) (by kernel_rfl) (by kernel_rfl)
    · refine TS_know 13 (b := false) hb3 (by kernel_rfl) (by kernel_rfl) ?_
      refine TS_know 14 (b := false) hb3 (by kernel_rfl) (by kernel_rfl) ?_
      refine TS_F (by kernel_rfl) rfl ?_
      refine TS_go 4 ?_
      replace h := bindO h
      obtain ⟨v4, hv4, h⟩ := h
      refine TS_call [] (ok_ref01_Uint a0 1 4 v4 hv4) (by kernel_rfl) (by kernel_rfl) ?_
      refine TS_go 10 ?_
      replace h := bindO h
      obtain ⟨v5, hv5, h⟩ := h
      refine TS_con [] [(22, 900000)] none (okT_ref06_response 2 (IntKind.wrap .u32 v4.1) v5 hv5) (by kernel_rfl) (by kernel_rfl) (by kernel_rfl) ?_
      refine TS_go 3 ?_
      refine TS_fitU ⟨[(2, []), (3, [])], [(22, (900000, []))]⟩ (by kernel_rfl) ?_
      refine TS_go 1 ?_
      have ret := Option.some.inj h
      subst ret
      exact TS_ret (by kernel_rfl) (by kernel_rfl) (by kernel_rfl)
/-- multihop/multihopref05.flag -/
noncomputable def F_ref05_flag (a0 : Bool) (a1 : Int) : Option (Int) :=
  bif a0 then
    some (a1)
  else
    some (0)
set_option maxRecDepth 100000 in
set_option maxHeartbeats 40000000 in
theorem ok_ref05_flag (a0 : Bool) (a1 : Int) (r : Int) (h : F_ref05_flag a0 a1 = some r) : Con Try.prog 91 [.c (.lit (.bool (a0))), .c (.lit (.int .i64 (a1)))] [] (.c (.lit (.int .i64 (r)))) [] := by
  unfold F_ref05_flag at h
  refine con_of [] [] 7 Try.func91 rfl rfl (by kernel_rfl) (fun K => ?_)
  refine TS_go 9 ?_
  replace h := condO h
  rcases h with ⟨hb1, h⟩ | ⟨hb1, h⟩
  · subst hb1
    refine TS_T (by kernel_rfl) rfl ?_
    refine TS_go 7 ?_
    have ret := Option.some.inj h
    subst ret
    exact TS_ret (by kernel_rfl) (by kernel_rfl) (by kernel_rfl)
  · subst hb1
    refine TS_F (by kernel_rfl) rfl ?_
    refine TS_go 6 ?_
    have ret := Option.some.inj h
    subst ret
    exact TS_ret (by kernel_rfl) (by kernel_rfl) (by kernel_rfl)

/-- multihop/multihopref05.addr -/
noncomputable def F_ref05_addr_G0 (a0 : List Int) (a1 : S_Addr) : Option ((List Int)) :=
  bif (a1.Mode == 2) then
    (F_ref01_Append a0 (IntKind.wrap .u64 a1.Short) 2).bind fun v2 =>
    bif decide (List.length a0 < List.length v2) then
      some (v2)
    else none
  else
    bif (a1.Mode == 3) then
      (F_ref01_Append a0 a1.EUI 8).bind fun v5 =>
      bif decide (List.length a0 < List.length v5) then
        some (v5)
      else none
    else
      some (a0)
set_option maxRecDepth 100000 in
set_option maxHeartbeats 40000000 in
theorem ok_ref05_addr_G0 (a0 : List Int) (a1 : S_Addr) (r : (List Int)) (h : F_ref05_addr_G0 a0 a1 = some r) : ConG Try.prog 92 [.c (.slc 1 1000003 (List.length a0) (List.map (ecI .u8) a0)), .agg (S_Addr.cs a1)] 5 1 (List.length a0) (.c (.slc 1 1000003 (List.length r) (List.map (ecI .u8) r))) (List.length r) := by
  unfold F_ref05_addr_G0 at h
  refine con_ofG [] 21 0 Try.func92 rfl rfl (by kernel_rfl) rfl (fun K => ?_)
  refine TS_go 17 ?_
  replace h := condO h
  rcases h with ⟨hb1, h⟩ | ⟨hb1, h⟩
  · refine TS_know 8 (b := true) hb1 (by kernel_rfl) (by kernel_rfl) ?_
    refine TS_know 7 (b := true) hb1 (by kernel_rfl) (by kernel_rfl) ?_
    refine TS_T (by kernel_rfl) rfl ?_
    refine TS_go 6 ?_
    replace h := bindO h
    obtain ⟨v2, hv2, h⟩ := h
    refine TS_con [[2]] [(13, 900000)] none (okT_ref01_Append a0 (IntKind.wrap .u64 a1.Short) 2 v2 hv2) (by kernel_rfl) (by kernel_rfl) (by kernel_rfl) ?_
    refine TS_go 2 ?_
    replace h := chkO h
    obtain ⟨hc3, h⟩ := h
    refine TS_ghost (sz := 1) (xs := List.map (ecI .u8) a0) 13 hc3 (by kernel_rfl) (by kernel_rfl) ?_
    refine TS_fitU ⟨[(2000000, []), (4, [])], [(13, (1000001, []))]⟩ (by kernel_rfl) ?_
    refine TS_go 3 ?_
    have ret := Option.some.inj h
    subst ret
    exact TS_retG (sz1 := 1) (xs1 := List.map (ecI .u8) a0) (by kernel_rfl) (by kernel_rfl) (by kernel_rfl) (by kernel_rfl)
  · refine TS_know 8 (b := false) hb1 (by kernel_rfl) (by kernel_rfl) ?_
    refine TS_know 7 (b := false) hb1 (by kernel_rfl) (by kernel_rfl) ?_
    refine TS_F (by kernel_rfl) rfl ?_
    refine TS_go 5 ?_
    replace h := condO h
    rcases h with ⟨hb4, h⟩ | ⟨hb4, h⟩
    · refine TS_know 15 (b := true) hb4 (by kernel_rfl) (by kernel_rfl) ?_
      refine TS_know 14 (b := true) hb4 (by kernel_rfl) (by kernel_rfl) ?_
      refine TS_T (by kernel_rfl) rfl ?_
      refine TS_go 5 ?_
      replace h := bindO h
      obtain ⟨v5, hv5, h⟩ := h
      refine TS_con [[2]] [(19, 900000)] none (okT_ref01_Append a0 a1.EUI 8 v5 hv5) (by kernel_rfl) (by kernel_rfl) (by kernel_rfl) ?_
      refine TS_go 2 ?_
      replace h := chkO h
      obtain ⟨hc6, h⟩ := h
      refine TS_ghost (sz := 1) (xs := List.map (ecI .u8) a0) 19 hc6 (by kernel_rfl) (by kernel_rfl) ?_
      refine TS_fitU ⟨[(2000000, []), (4, [])], [(19, (1000001, []))]⟩ (by kernel_rfl) ?_
      refine TS_go 3 ?_
      have ret := Option.some.inj h
      subst ret
      exact TS_retG (sz1 := 1) (xs1 := List.map (ecI .u8) a0) (by kernel_rfl) (by kernel_rfl) (by kernel_rfl) (by kernel_rfl)
    · refine TS_know 15 (b := false) hb4 (by kernel_rfl) (by kernel_rfl) ?_
      refine TS_know 14 (b := false) hb4 (by kernel_rfl) (by kernel_rfl) ?_
      refine TS_F (by kernel_rfl) rfl ?_
      refine TS_go 8 ?_
      have ret := Option.some.inj h
      subst ret
      exact TS_retG (sz1 := 1) (xs1 := List.map (ecI .u8) a0) (by kernel_rfl) (by kernel_rfl) (by kernel_rfl) (by kernel_rfl)

/-- multihop/multihopref05.header -/
noncomputable def F_ref05_header_j2 (a0 : S_Frame) (v5 : (List Int)) : Option ((List Int)) :=
  (appO 1 v5 (Cut.app .whole a0.Payload)).bind fun l6 =>
  some (l6)
noncomputable def F_ref05_header_j1 (a0 : S_Frame) (v4 : (List Int)) : Option ((List Int)) :=
  bif a0.Secure then
    (F_ref01_Append v4 (IntKind.wrap .u64 a0.Counter) 4).bind fun v8 =>
    (appO 1 v8 (Cut.app .whole ([a0.Key] : List Int))).bind fun l9 =>
    (F_ref05_header_j2 a0) l9
  else
    (F_ref05_header_j2 a0) v4
noncomputable def F_ref05_header (a0 : S_Frame) : Option ((List Int)) :=
  (F_ref05_flag a0.AckRequest 32).bind fun v1 =>
  (F_ref05_flag a0.Pending 16).bind fun v2 =>
  (F_ref05_flag a0.Secure 8).bind fun v3 =>
  bif (a0.Kind != 2) then
    (F_ref01_Append ([IntKind.wrap .u8 (IntKind.wrap .i64 ((IntKind.wrap .i64 ((IntKind.wrap .i64 ((IntKind.wrap .i64 (64 * a0.Kind)) + v1)) + v2)) + v3)), IntKind.wrap .u8 (IntKind.wrap .i64 ((IntKind.wrap .i64 (64 * a0.Dst.Mode)) + (IntKind.wrap .i64 (16 * a0.Src.Mode)))), a0.Seq] : List Int) (IntKind.wrap .u64 a0.Pan) 2).bind fun v11 =>
    (F_ref05_addr_G0 v11 a0.Dst).bind fun v12 =>
    (F_ref05_addr_G0 v12 a0.Src).bind fun v13 =>
    (F_ref05_header_j1 a0) v13
  else
    (F_ref05_header_j1 a0) ([IntKind.wrap .u8 (IntKind.wrap .i64 ((IntKind.wrap .i64 ((IntKind.wrap .i64 ((IntKind.wrap .i64 (64 * a0.Kind)) + v1)) + v2)) + v3)), IntKind.wrap .u8 (IntKind.wrap .i64 ((IntKind.wrap .i64 (64 * a0.Dst.Mode)) + (IntKind.wrap .i64 (16 * a0.Src.Mode)))), a0.Seq] : List Int)
set_option maxRecDepth 100000 in
set_option maxHeartbeats 40000000 in
theorem okT_ref05_header (a0 : S_Frame) (r : (List Int)) (h : F_ref05_header a0 = some r) : Con Try.prog 78 [.agg (S_Frame.cs a0)] [] (.c (.slc 1 900002 (List.length r) (List.map (ecI .u8) r))) [(900000, .spare 5 1 (List.length r))] := by
  unfold F_ref05_header at h
  refine con_of [] [(900000, [])] 65 Try.func78 rfl rfl (by kernel_rfl) (fun K => ?_)
  refine TS_go 6 ?_
  refine TS_draw (by kernel_rfl) ?_
  refine TD_go 5 ?_
  replace h := bindO h
  obtain ⟨v1, hv1, h⟩ := h
  refine TD_call [] (ok_ref05_flag a0.AckRequest 32 v1 hv1) (by kernel_rfl) (by kernel_rfl) ?_
  refine TD_go 3 ?_
  replace h := bindO h
  obtain ⟨v2, hv2, h⟩ := h
  refine TD_call [] (ok_ref05_flag a0.Pending 16 v2 hv2) (by kernel_rfl) (by kernel_rfl) ?_
  refine TD_go 3 ?_
  replace h := bindO h
  obtain ⟨v3, hv3, h⟩ := h
  refine TD_call [] (ok_ref05_flag a0.Secure 8 v3 hv3) (by kernel_rfl) (by kernel_rfl) ?_
  refine TD_go 2 ?_
  refine TD_end (by kernel_rfl) ?_
  refine TS_go 16 ?_
  refine TS_litNT 34 5 1 (ecI .u8) [] ([IntKind.wrap .u8 (IntKind.wrap .i64 ((IntKind.wrap .i64 ((IntKind.wrap .i64 ((IntKind.wrap .i64 (64 * a0.Kind)) + v1)) + v2)) + v3)), IntKind.wrap .u8 (IntKind.wrap .i64 ((IntKind.wrap .i64 (64 * a0.Dst.Mode)) + (IntKind.wrap .i64 (16 * a0.Src.Mode)))), a0.Seq] : List Int) (by kernel_rfl) (by kernel_rfl) ?_
  refine TS_go 2 ?_
  refine TS_cut ⟨[(1, []), (4, [])], [(1, (1, [])), (34, (34, []))]⟩ (.mk [.code (codeAt [1, 1, 1] (bodyOf Try.f78))] .normal ⟨[(1, .c (.box 1 0)), (4, .c (.slc 1 36 (List.length ([IntKind.wrap .u8 (IntKind.wrap .i64 ((IntKind.wrap .i64 ((IntKind.wrap .i64 ((IntKind.wrap .i64 (64 * a0.Kind)) + v1)) + v2)) + v3)), IntKind.wrap .u8 (IntKind.wrap .i64 ((IntKind.wrap .i64 (64 * a0.Dst.Mode)) + (IntKind.wrap .i64 (16 * a0.Src.Mode)))), a0.Seq] : List Int)) (List.map (ecI .u8) ([IntKind.wrap .u8 (IntKind.wrap .i64 ((IntKind.wrap .i64 ((IntKind.wrap .i64 ((IntKind.wrap .i64 (64 * a0.Kind)) + v1)) + v2)) + v3)), IntKind.wrap .u8 (IntKind.wrap .i64 ((IntKind.wrap .i64 (64 * a0.Dst.Mode)) + (IntKind.wrap .i64 (16 * a0.Src.Mode)))), a0.Seq] : List Int))))], [(1, .box [.lit (.int .i64 (a0.Kind)), .lit (.bool (a0.AckRequest)), .lit (.bool (a0.Pending)), .lit (.bool (a0.Secure)), .lit (.int .u8 (a0.Seq)), .lit (.int .u16 (a0.Pan)), .lit (.int .i64 (a0.Dst.Mode)), .lit (.int .u16 (a0.Dst.Short)), .lit (.int .u64 (a0.Dst.EUI)), .lit (.int .i64 (a0.Src.Mode)), .lit (.int .u16 (a0.Src.Short)), .lit (.int .u64 (a0.Src.EUI)), .lit (.int .u32 (a0.Counter)), .lit (.int .u8 (a0.Key)), .slc 1 0 (List.length a0.Payload) (List.map (ecI .u8) a0.Payload), .slc 1 0 (List.length a0.MIC) (List.map (ecI .u8) a0.MIC)]), (34, .spare 5 1 (List.length ([IntKind.wrap .u8 (IntKind.wrap .i64 ((IntKind.wrap .i64 ((IntKind.wrap .i64 ((IntKind.wrap .i64 (64 * a0.Kind)) + v1)) + v2)) + v3)), IntKind.wrap .u8 (IntKind.wrap .i64 ((IntKind.wrap .i64 (64 * a0.Dst.Mode)) + (IntKind.wrap .i64 (16 * a0.Src.Mode)))), a0.Seq] : List Int)))]⟩) (by kernel_rfl) (by kernel_rfl) ?_
  refine TS_joinB ⟨[(1, []), (4, [])], [(1, (1, [])), (34, (34, []))]⟩ (fun (v4 : (List Int)) => [(4, .c (.slc 1 36 (List.length v4) (List.map (ecI .u8) v4)))]) (fun (v4 : (List Int)) => [(34, .spare 5 1 (List.length v4))]) (F_ref05_header_j1 a0) r ?_ ?_
  · clear h
    intro v4 h
    unfold F_ref05_header_j1 at h
    refine TS_cut ⟨[(1, []), (4, [])], [(1, (1, [])), (34, (34, []))]⟩ (.mk [.code (codeAt [1, 1, 1, 1] (bodyOf Try.f78))] .normal ⟨[(1, .c (.box 1 0)), (4, .c (.slc 1 36 (List.length v4) (List.map (ecI .u8) v4)))], [(1, .box [.lit (.int .i64 (a0.Kind)), .lit (.bool (a0.AckRequest)), .lit (.bool (a0.Pending)), .lit (.bool (a0.Secure)), .lit (.int .u8 (a0.Seq)), .lit (.int .u16 (a0.Pan)), .lit (.int .i64 (a0.Dst.Mode)), .lit (.int .u16 (a0.Dst.Short)), .lit (.int .u64 (a0.Dst.EUI)), .lit (.int .i64 (a0.Src.Mode)), .lit (.int .u16 (a0.Src.Short)), .lit (.int .u64 (a0.Src.EUI)), .lit (.int .u32 (a0.Counter)), .lit (.int .u8 (a0.Key)), .slc 1 0 (List.length a0.Payload) (List.map (ecI .u8) a0.Payload), .slc 1 0 (List.length a0.MIC) (List.map (ecI .u8) a0.MIC)]), (34, .spare 5 1 (List.length v4))]⟩) (by kernel_rfl) (by kernel_rfl) ?_
    refine TS_joinB ⟨[(1, []), (4, [])], [(1, (1, [])), (34, (34, []))]⟩ (fun (v5 : (List Int)) => [(4, .c (.slc 1 36 (List.length v5) (List.map (ecI .u8) v5)))]) (fun (v5 : (List Int)) => [(34, .spare 5 1 (List.length v5))]) (F_ref05_header_j2 a0) r ?_ ?_
    · clear h
      intro v5 h
      unfold F_ref05_header_j2 at h
      refine TS_go 5 ?_
      replace h := bindO h
      obtain ⟨_l6, hl6, h⟩ := h
      refine TS_appT (d := 34) (e := 5) (sz := 1) (N := List.length v5) (ecI .u8) (fun _ => by kernel_rfl) (l1 := v5) (l2 := a0.Payload) (c := .whole) hl6 (by kernel_rfl) (by kernel_rfl) ?_
      refine TS_go 2 ?_
      refine TS_fitU ⟨[(2, [])], [(34, (900000, []))]⟩ (by kernel_rfl) ?_
      refine TS_go 1 ?_
      have ret := Option.some.inj h
      subst ret
      exact TS_ret (by kernel_rfl) (by kernel_rfl) (by kernel_rfl)
    · refine TS_go 5 ?_
      replace h := condO h
      rcases h with ⟨hb7, h⟩ | ⟨hb7, h⟩
      · refine TS_know 51 (b := true) hb7 (by kernel_rfl) (by kernel_rfl) ?_
        refine TS_T (by kernel_rfl) rfl ?_
        refine TS_draw (by kernel_rfl) ?_
        refine TD_go 4 ?_
        replace h := bindO h
        obtain ⟨v8, hv8, h⟩ := h
        refine TD_conX (d := 56) (e := 900000) [[2]] (okT_ref01_Append v4 (IntKind.wrap .u64 a0.Counter) 4 v8 hv8) (by kernel_rfl) (by kernel_rfl) ?_
        refine TD_go 2 ?_
        refine TD_litNT 59 5 1 (ecI .u8) [] ([a0.Key] : List Int) (by kernel_rfl) (by kernel_rfl) ?_
        replace h := bindO h
        obtain ⟨l9, hl9, h⟩ := h
        refine TD_appT (d := 56) (e := 5) (sz := 1) (N := List.length v8) (ecI .u8) (fun _ => by kernel_rfl) (l1 := v8) (l2 := ([a0.Key] : List Int)) (c := .whole) hl9 (by kernel_rfl) (by kernel_rfl) ?_
        refine TD_go 1 ?_
        refine TD_end (by kernel_rfl) ?_
        exact TS_meet l9 ⟨[(1, []), (4, [])], [(1, (1, [])), (56, (34, []))]⟩ h (by kernel_rfl) (by kernel_rfl)
      · refine TS_know 51 (b := false) hb7 (by kernel_rfl) (by kernel_rfl) ?_
        refine TS_F (by kernel_rfl) rfl ?_
        refine TS_go 1 ?_
        exact TS_meet v4 ⟨[(1, []), (4, [])], [(1, (1, [])), (34, (34, []))]⟩ h (by kernel_rfl) (by kernel_rfl)
  · refine TS_go 6 ?_
    replace h := condO h
    rcases h with ⟨hb10, h⟩ | ⟨hb10, h⟩
    · refine TS_know 37 (b := true) hb10 (by kernel_rfl) (by kernel_rfl) ?_
      refine TS_T (by kernel_rfl) rfl ?_
      refine TS_go 6 ?_
      replace h := bindO h
      obtain ⟨v11, hv11, h⟩ := h
      refine TS_con [[2]] [(42, 900000)] none (okT_ref01_Append ([IntKind.wrap .u8 (IntKind.wrap .i64 ((IntKind.wrap .i64 ((IntKind.wrap .i64 ((IntKind.wrap .i64 (64 * a0.Kind)) + v1)) + v2)) + v3)), IntKind.wrap .u8 (IntKind.wrap .i64 ((IntKind.wrap .i64 (64 * a0.Dst.Mode)) + (IntKind.wrap .i64 (16 * a0.Src.Mode)))), a0.Seq] : List Int) (IntKind.wrap .u64 a0.Pan) 2 v11 hv11) (by kernel_rfl) (by kernel_rfl) (by kernel_rfl) ?_
      refine TS_go 2 ?_
      refine TS_draw (by kernel_rfl) ?_
      refine TD_go 3 ?_
      replace h := bindO h
      obtain ⟨v12, hv12, h⟩ := h
      refine TD_conG 42 [] (ok_ref05_addr_G0 v11 a0.Dst v12 hv12) (by kernel_rfl) (by kernel_rfl) (by kernel_rfl) ?_
      refine TD_go 2 ?_
      replace h := bindO h
      obtain ⟨v13, hv13, h⟩ := h
      refine TD_conG 42 [] (ok_ref05_addr_G0 v12 a0.Src v13 hv13) (by kernel_rfl) (by kernel_rfl) (by kernel_rfl) ?_
      refine TD_go 1 ?_
      refine TD_end (by kernel_rfl) ?_
      exact TS_meet v13 ⟨[(1, []), (4, [])], [(1, (1, [])), (42, (34, []))]⟩ h (by kernel_rfl) (by kernel_rfl)
    · refine TS_know 37 (b := false) hb10 (by kernel_rfl) (by kernel_rfl) ?_
      refine TS_F (by kernel_rfl) rfl ?_
      refine TS_go 1 ?_
      exact TS_meet ([IntKind.wrap .u8 (IntKind.wrap .i64 ((IntKind.wrap .i64 ((IntKind.wrap .i64 ((IntKind.wrap .i64 (64 * a0.Kind)) + v1)) + v2)) + v3)), IntKind.wrap .u8 (IntKind.wrap .i64 ((IntKind.wrap .i64 (64 * a0.Dst.Mode)) + (IntKind.wrap .i64 (16 * a0.Src.Mode)))), a0.Seq] : List Int) ⟨[(1, []), (4, [])], [(1, (1, [])), (34, (34, []))]⟩ h (by kernel_rfl) (by kernel_rfl)
end
end Go.Proofs.Ytpngoffbogingaa
