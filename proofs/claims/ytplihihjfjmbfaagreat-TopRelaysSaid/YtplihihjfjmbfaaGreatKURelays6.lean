/-
  Proves that a packet whose fragments are sealed anew at each hop and relayed without putting it together is the same behind several hops, for all tapes and numbers of hops, with no further condition.
-/
import Derived.Test.YtplihihjfjmbfaaGreatKURelays5
namespace Go.Proofs.YtplihihjfjmbfaaGreat
section
open Go.RowKit
attribute [local irreducible] TS go TD goD
set_option maxRecDepth 100000
set_option maxHeartbeats 40000000

/-- multihop/multihoptop.TopRelays -/
noncomputable def b3 : Code := bodyOf Tryz.f3
noncomputable def F_top_TopRelays_l6 (v18 : Int) (s24 : Int × (List S_Guard) × (List S_Guard)) : Option ((Int × (List S_Guard) × (List S_Guard)) ⊕ ((List S_Guard) × (List S_Guard))) := bif (decide (s24.1 ≤ (IntKind.wrap .i64 (1 + v18)))) then (F_top_pair s24.1 (IntKind.wrap .i64 (s24.1 + 1))).bind fun v28 => bif v28.2.2 then (idx (Cut.app .whole s24.2.1) s24.1).bind fun _e30 => (s24.2.1[(0 + Int.toNat s24.1)]?).bind fun _e31 => (idx (Cut.app .whole s24.2.2) s24.1).bind fun _e32 => (s24.2.2[(0 + Int.toNat s24.1)]?).bind fun _e33 => some (Sum.inl (IntKind.wrap .i64 (s24.1 + 1),(List.set s24.2.1 (0 + Int.toNat s24.1) v28.1),(List.set s24.2.2 (0 + Int.toNat s24.1) v28.2.1))) else none else some (Sum.inr (s24.2.1,s24.2.2))
noncomputable def F_top_TopRelays_j9 (s40 : (List S_Buffer) × Bool × Int × (List S_Guard) × (List S_Guard) × (List (List S_Switch)) × S_Fragment) (v44 : (List S_Buffer) × Bool × (List S_Guard) × (List S_Guard) × (List (List S_Switch)) × S_Fragment) : Option (((List S_Buffer) × Bool × Int × (List S_Guard) × (List S_Guard) × (List (List S_Switch)) × S_Fragment) ⊕ ((List S_Buffer) × Bool × (List S_Guard) × (List S_Guard) × (List (List S_Switch)))) := some (Sum.inl (v44.1,v44.2.1,IntKind.wrap .i64 (s40.2.2.1 + 1),v44.2.2.1,v44.2.2.2.1,v44.2.2.2.2.1,v44.2.2.2.2.2))
noncomputable def F_top_TopRelays_l8 (v18 : Int) (s35 : (List S_Buffer) × Bool × Int × (List S_Guard) × (List S_Guard) × (List (List S_Switch))) (v17 : (List S_Fragment) × Int) (v15 : S_Packet) (s40 : (List S_Buffer) × Bool × Int × (List S_Guard) × (List S_Guard) × (List (List S_Switch)) × S_Fragment) : Option (((List S_Buffer) × Bool × Int × (List S_Guard) × (List S_Guard) × (List (List S_Switch)) × S_Fragment) ⊕ ((List S_Buffer) × Bool × (List S_Guard) × (List S_Guard) × (List (List S_Switch)))) := bif (decide (s40.2.2.1 ≤ (IntKind.wrap .i64 (1 + v18)))) then (F_fragment_Encode s40.2.2.2.2.2.2).bind fun v45 => (idx (Cut.app .whole s40.2.2.2.1) s40.2.2.1).bind fun _e46 => (s40.2.2.2.1[(0 + Int.toNat s40.2.2.1)]?).bind fun e47 => (F_top_sealed e47 s40.2.2.1 (IntKind.wrap .i64 (s40.2.2.1 + 1)) ([v45.1] : List (List Int))).bind fun v48 => bif (v45.2 != 0) then none else bif v48.2.2 then (idx (Cut.app .whole s40.2.2.2.2.1) s40.2.2.1).bind fun _e51 => (s40.2.2.2.2.1[(0 + Int.toNat s40.2.2.1)]?).bind fun e52 => (idx v48.2.1 0).bind fun e53 => (F_top_opened e52 e53).bind fun v54 => (F_fragment_Decode v54.2.1).bind fun v55 => bif v54.2.2 then bif (v55.2 != 0) then none else (idx (Cut.app .whole s40.2.2.2.1) s40.2.2.1).bind fun _e58 => (s40.2.2.2.1[(0 + Int.toNat s40.2.2.1)]?).bind fun _e59 => (idx (Cut.app .whole s40.2.2.2.2.1) s40.2.2.1).bind fun _e60 => (s40.2.2.2.2.1[(0 + Int.toNat s40.2.2.1)]?).bind fun _e61 => bif (s40.2.2.1 == (IntKind.wrap .i64 (1 + v18))) then (F_top_device s40.2.2.1).bind fun v63 => (F_top_device (IntKind.wrap .i64 (s40.2.2.1 + 1))).bind fun v64 => (F_reassembly_Add s40.1 v63 v64 v55.1 5).bind fun v65 => (F_compress_Decode v65.2.1 (S_Addr.mk 0 0 0) (S_Addr.mk 0 0 0) ([] : List S_Context) 5).bind fun v66 => bif (v65.2.2 != 0) then none else bif ((decide ((List.length v65.2.1 : Int) > 0)) == ((IntKind.wrap .i64 (s35.2.2.1 + 1)) == (List.length v17.1 : Int))) then bif (decide ((List.length v65.2.1 : Int) > 0)) then bif (v66.2 != 0) then none else (F_ref13_Same v15 v66.1).bind fun v71 => bif v71 then (F_top_TopRelays_j9 s40) (v65.1,true,(List.set s40.2.2.2.1 (0 + Int.toNat s40.2.2.1) v48.1),(List.set s40.2.2.2.2.1 (0 + Int.toNat s40.2.2.1) v54.1),s40.2.2.2.2.2.1,s40.2.2.2.2.2.2) else none else (F_top_TopRelays_j9 s40) (v65.1,false,(List.set s40.2.2.2.1 (0 + Int.toNat s40.2.2.1) v48.1),(List.set s40.2.2.2.2.1 (0 + Int.toNat s40.2.2.1) v54.1),s40.2.2.2.2.2.1,s40.2.2.2.2.2.2) else none else (idx (Cut.app .whole s40.2.2.2.2.2.1) s40.2.2.1).bind fun _e73 => (s40.2.2.2.2.2.1[(0 + Int.toNat s40.2.2.1)]?).bind fun e74 => (F_top_device s40.2.2.1).bind fun v75 => (F_top_device (IntKind.wrap .i64 (s40.2.2.1 + 2))).bind fun v76 => (F_relay_Forward e74 v75 v55.1 v76 (IntKind.wrap .u16 (IntKind.wrap .i64 ((IntKind.wrap .i64 (10 * s40.2.2.1)) + 1))) 5).bind fun v77 => bif (v77.2.2.2 != 0) then none else (F_top_device (IntKind.wrap .i64 (s40.2.2.1 + 2))).bind fun v79 => bif (S_Addr.eqb v77.2.2.1 v79) then (idx (Cut.app .whole s40.2.2.2.2.2.1) s40.2.2.1).bind fun _e81 => (s40.2.2.2.2.2.1[(0 + Int.toNat s40.2.2.1)]?).bind fun _e82 => (F_top_TopRelays_j9 s40) (s40.1,s40.2.1,(List.set s40.2.2.2.1 (0 + Int.toNat s40.2.2.1) v48.1),(List.set s40.2.2.2.2.1 (0 + Int.toNat s40.2.2.1) v54.1),(List.set s40.2.2.2.2.2.1 (0 + Int.toNat s40.2.2.1) v77.1),v77.2.1) else none else none else none else some (Sum.inr (s40.1,s40.2.1,s40.2.2.2.1,s40.2.2.2.2.1,s40.2.2.2.2.2.1))
noncomputable def F_top_TopRelays_l7 (v17 : (List S_Fragment) × Int) (v18 : Int) (v15 : S_Packet) (s35 : (List S_Buffer) × Bool × Int × (List S_Guard) × (List S_Guard) × (List (List S_Switch))) : Option (((List S_Buffer) × Bool × Int × (List S_Guard) × (List S_Guard) × (List (List S_Switch))) ⊕ ((List S_Buffer) × Bool × (List (List S_Switch)))) := bif (decide (s35.2.2.1 < (List.length v17.1 : Int))) then (idx v17.1 s35.2.2.1).bind fun e39 => (loopO (F_top_TopRelays_l8 v18 s35 v17 v15) (s35.1,s35.2.1,0,s35.2.2.2.1,s35.2.2.2.2.1,s35.2.2.2.2.2,e39)).bind fun b41 => some (Sum.inl (b41.1,b41.2.1,IntKind.wrap .i64 (s35.2.2.1 + 1),b41.2.2.1,b41.2.2.2.1,b41.2.2.2.2)) else some (Sum.inr (s35.1,s35.2.1,s35.2.2.2.2.2))
noncomputable def F_top_TopRelays_l10 (v18 : Int) (b36 : (List S_Buffer) × Bool × (List (List S_Switch))) (s85 : Bool × Int) : Option ((Bool × Int) ⊕ (Bool)) := bif (decide (s85.2 < (IntKind.wrap .i64 (1 + v18)))) then bif s85.1 then (idx (Cut.app .whole b36.2.2) s85.2).bind fun _e90 => (b36.2.2[(0 + Int.toNat s85.2)]?).bind fun e91 => some (Sum.inl (((List.length e91 : Int) == 0),IntKind.wrap .i64 (s85.2 + 1))) else none else some (Sum.inr s85.1)
noncomputable def F_top_TopRelays_j5 (a1 : Int) (v15 : S_Packet) : Option (Bool) := (F_compress_Plain v15).bind fun v16 => (F_fragment_Split v16.1 7 90).bind fun v17 => (F_made_Mod a1 4).bind fun v18 => bif (v16.2 != 0) then none else bif (v17.2 != 0) then none else (mkO 64 (IntKind.wrap .i64 ((IntKind.wrap .i64 (1 + v18)) + 1)) (IntKind.wrap .i64 ((IntKind.wrap .i64 (1 + v18)) + 1))).bind fun n21 => (mkO 64 (IntKind.wrap .i64 ((IntKind.wrap .i64 (1 + v18)) + 1)) (IntKind.wrap .i64 ((IntKind.wrap .i64 (1 + v18)) + 1))).bind fun n22 => (mkO 24 (IntKind.wrap .i64 ((IntKind.wrap .i64 (1 + v18)) + 1)) (IntKind.wrap .i64 ((IntKind.wrap .i64 (1 + v18)) + 1))).bind fun n23 => (loopO (F_top_TopRelays_l6 v18) (0,(List.replicate n21 ((S_Guard.mk ([] : List S_LinkKey) 0 0 0 ([] : List S_Peer)) : S_Guard)),(List.replicate n22 ((S_Guard.mk ([] : List S_LinkKey) 0 0 0 ([] : List S_Peer)) : S_Guard)))).bind fun b25 => (loopO (F_top_TopRelays_l7 v17 v18 v15) (([] : List S_Buffer),false,0,b25.1,b25.2,(List.replicate n23 (([] : List S_Switch) : List S_Switch)))).bind fun b36 => (loopO (F_top_TopRelays_l10 v18 b36) (b36.2.1,0)).bind fun b86 => (F_top_sane ).bind fun v93 => bif v93 then bif b86 then some (((List.length b36.1 : Int) == 0)) else none else none
noncomputable def F_top_TopRelays_l11 (v98 : Int) (v99 : Int × S_multihopmade_Tape) (v100 : Int × S_multihopmade_Tape) (v101 : Int × S_multihopmade_Tape) (v102 : Int × S_multihopmade_Tape) (s104 : Int × (List Int)) : Option ((Int × (List Int)) ⊕ ((List Int))) := bif (decide (s104.1 < (IntKind.wrap .i64 ((IntKind.wrap .i64 (1280 - v98)) - v99.1)))) then bif decide ((0 : Int) ≤ (Int.tmod s104.1 5) ∧ (Int.tmod s104.1 5) < (5 : Int)) then (idx (Cut.app .whole s104.2) s104.1).bind fun _e109 => (s104.2[(0 + Int.toNat s104.1)]?).bind fun _e110 => some (Sum.inl (IntKind.wrap .i64 (s104.1 + 1),(List.set s104.2 (0 + Int.toNat s104.1) (IntKind.wrap .u8 ((List.getD [IntKind.wrap .u8 v100.1,IntKind.wrap .u8 v101.1,0,IntKind.wrap .u8 v102.1,7] (Int.toNat (Int.tmod s104.1 5)) 0) + (IntKind.wrap .u8 (iquo .i64 s104.1 5))))))) else none else some (Sum.inr s104.2)
noncomputable def F_top_TopRelays_j4 (a1 : Int) (v14 : S_multihopmade_Tape × S_Packet) : Option (Bool) := (F_made_Tape_Next v14.1 12).bind fun v96 => bif (v96.1 == (IntKind.wrap .i64 (12 - 1))) then (F_ref13_Size (S_Packet.mk 0 0 v14.2.Next 0 [0,0,0,0,0,0,0,0,0,0,0,0,0,0,0,0] [0,0,0,0,0,0,0,0,0,0,0,0,0,0,0,0] 0 0 ([] : List Int))).bind fun v98 => (F_made_Tape_Next v96.2 2).bind fun v99 => (F_made_Tape_Next v99.2 256).bind fun v100 => (F_made_Tape_Next v100.2 256).bind fun v101 => (F_made_Tape_Next v101.2 256).bind fun v102 => (mkO 1 (IntKind.wrap .i64 ((IntKind.wrap .i64 (1280 - v98)) - v99.1)) (IntKind.wrap .i64 ((IntKind.wrap .i64 (1280 - v98)) - v99.1))).bind fun n103 => (loopO (F_top_TopRelays_l11 v98 v99 v100 v101 v102) (0,(List.replicate n103 (0 : Int)))).bind fun b105 => (F_top_TopRelays_j5 a1) (S_Packet.mk v14.2.Class v14.2.Flow v14.2.Next v14.2.Hops v14.2.Src v14.2.Dst v14.2.SrcPort v14.2.DstPort b105) else (F_top_TopRelays_j5 a1) v14.2
noncomputable def F_top_TopRelays_j13 (a1 : Int) (v13 : S_Packet) (v115 : Int × S_multihopmade_Tape) (v116 : Int × S_multihopmade_Tape) : Option (Bool) := (F_top_TopRelays_j4 a1) (v116.2,(S_Packet.mk v13.Class v13.Flow v13.Next v13.Hops v13.Src v13.Dst v115.1 v116.1 v13.Payload))
noncomputable def F_top_TopRelays_j12 (a1 : Int) (v13 : S_Packet) (v115 : Int × S_multihopmade_Tape) : Option (Bool) := (F_made_Tape_Next v115.2 65536).bind fun v117 => (F_made_Tape_Next v117.2 3).bind fun v118 => bif (v118.1 == 0) then (F_top_TopRelays_j13 a1 v13 v115) (IntKind.wrap .u16 (61616 + (Int.tmod (IntKind.wrap .u16 v117.1) 16)),v118.2) else bif (v118.1 == 1) then (F_top_TopRelays_j13 a1 v13 v115) (IntKind.wrap .u16 (61440 + (Int.tmod (IntKind.wrap .u16 v117.1) 256)),v118.2) else (F_top_TopRelays_j13 a1 v13 v115) (IntKind.wrap .u16 v117.1,v118.2)
noncomputable def F_top_TopRelays_j3 (v12 : S_multihopmade_Tape × S_Packet) (a1 : Int) (v13 : S_Packet) : Option (Bool) := bif (v13.Next == 17) then (F_made_Tape_Next v12.1 65536).bind fun v122 => (F_made_Tape_Next v122.2 3).bind fun v123 => bif (v123.1 == 0) then (F_top_TopRelays_j12 a1 v13) (IntKind.wrap .u16 (61616 + (Int.tmod (IntKind.wrap .u16 v122.1) 16)),v123.2) else bif (v123.1 == 1) then (F_top_TopRelays_j12 a1 v13) (IntKind.wrap .u16 (61440 + (Int.tmod (IntKind.wrap .u16 v122.1) 256)),v123.2) else (F_top_TopRelays_j12 a1 v13) (IntKind.wrap .u16 v122.1,v123.2) else (F_top_TopRelays_j4 a1) (v12.1,v13)
noncomputable def F_top_TopRelays_j2 (a1 : Int) (v12 : S_multihopmade_Tape × S_Packet) : Option (Bool) := (F_ref04_IsMulticast v12.2.Src).bind fun v127 => bif v127 then (F_top_TopRelays_j3 v12 a1) (S_Packet.mk v12.2.Class v12.2.Flow v12.2.Next v12.2.Hops [32,(v12.2.Src.getD 1 0),(v12.2.Src.getD 2 0),(v12.2.Src.getD 3 0),(v12.2.Src.getD 4 0),(v12.2.Src.getD 5 0),(v12.2.Src.getD 6 0),(v12.2.Src.getD 7 0),(v12.2.Src.getD 8 0),(v12.2.Src.getD 9 0),(v12.2.Src.getD 10 0),(v12.2.Src.getD 11 0),(v12.2.Src.getD 12 0),(v12.2.Src.getD 13 0),(v12.2.Src.getD 14 0),(v12.2.Src.getD 15 0)] v12.2.Dst v12.2.SrcPort v12.2.DstPort v12.2.Payload) else (F_top_TopRelays_j3 v12 a1) v12.2
noncomputable def F_top_TopRelays_j1 (a1 : Int) (v11 : S_multihopmade_Tape × S_Packet) : Option (Bool) := (F_made_Tape_Next v11.1 3).bind fun v129 => bif (v129.1 == (IntKind.wrap .i64 (3 - 1))) then (F_made_Tape_Next v129.2 1048576).bind fun v131 => (F_top_TopRelays_j2 a1) (v131.2,(S_Packet.mk v11.2.Class (IntKind.wrap .u32 v131.1) v11.2.Next v11.2.Hops v11.2.Src v11.2.Dst v11.2.SrcPort v11.2.DstPort v11.2.Payload)) else (F_top_TopRelays_j2 a1) (v129.2,v11.2)
noncomputable def F_top_TopRelays (a0 : List Int) (a1 : Int) : Option (Bool) := (F_made_New a0).bind fun v1 => (F_top_device 0).bind fun v2 => (F_top_device 1).bind fun v3 => (F_made_Tape_Next v1 5).bind fun v4 => (idx ([17,17,58,59,0] : List Int) v4.1).bind fun e5 => (F_made_Tape_Next v4.2 5).bind fun v6 => (idx ([1,64,255,0,63] : List Int) v6.1).bind fun e7 => (F_made_Tape_IP v6.2 v2).bind fun v8 => (F_made_Tape_IP v8.2 v3).bind fun v9 => (F_made_Tape_Bytes v9.2 12).bind fun v10 => (F_made_Tape_Next v10.2 3).bind fun v133 => bif (v133.1 == (IntKind.wrap .i64 (3 - 1))) then (F_made_Tape_Next v133.2 256).bind fun v135 => (F_top_TopRelays_j1 a1) (v135.2,(S_Packet.mk (IntKind.wrap .u8 v135.1) 0 e5 e7 v8.1 v9.1 0 0 v10.1)) else (F_top_TopRelays_j1 a1) (v133.2,(S_Packet.mk 0 0 e5 e7 v8.1 v9.1 0 0 v10.1))
theorem ok_top_TopRelays (a0 : List Int) (a1 : Int) (r : Bool) (h : F_top_TopRelays a0 a1 = some r) : Con Tryz.prog 3 [.c (eS 1 (ecI .i64) (a0)),.c (I6 a1)] [] (.c (BL r)) [] := by
  unfold F_top_TopRelays at h; refine con_of [] [] 282 Tryz.func3 rfl rfl kr (fun K => ?_); refine TS_go 7 ?_; replace h := bindO h; obtain ⟨v1,hv1,h⟩ := h; refine TS_con [] [(44,10)] none (ok_made_New a0 v1 hv1) kr kr kr ?_; refine TS_go 5 ?_; replace h := bindO h; obtain ⟨v2,hv2,h⟩ := h; refine TS_call [] (ok_top_device 0 v2 hv2) kr kr ?_; replace h := bindO h; obtain ⟨v3,hv3,h⟩ := h; refine TS_call [] (ok_top_device 1 v3 hv3) kr kr ?_; refine TS_cut (fI [1,45,46,47] [44]) (.mk [oA 11 b3 3,cA 15 b3] .normal ⟨[(1,.c (I6 a1)),(45,bx 44),(46,.agg [I6 v2.Mode,U1 v2.Short,U6 v2.EUI]),(47,.agg [I6 v3.Mode,U1 v3.Short,U6 v3.EUI])],[(44,.box [.slc 1 0 (List.length v1.l) (List.map (ecI .i64) v1.l),I6 v1.at_])]⟩) kr kr ?_; refine TS_bump 2000 kr ?_; refine TS_inl 67 Tryz.func7 rfl rfl kr (fun K137 => ?_); refine TS_go 7 ?_; refine TS_draw kr ?_; refine TD_litNT 8 5 1 (ecI .u8) [] ([17,17,58,59,0] : List Int) kr kr ?_; refine TD_go 1 ?_; replace h := bindO h; obtain ⟨v4,hv4,h⟩ := h; refine TD_con (_h := []) (_h' := []) [] 2044 0 [.slc 1 0 (List.length v1.l) (List.map (ecI .i64) v1.l),I6 v1.at_] _ _ (ok_made_Tape_Next v1 5 v4 hv4) kr kr kr kr ?_; replace h := bindO h; obtain ⟨e5,he5,h⟩ := h; refine TD_idx (ecI .u8) he5 kr kr ?_; refine TD_go 1 ?_; refine TD_litNT 13 5 1 (ecI .u8) [] ([1,64,255,0,63] : List Int) kr kr ?_; refine TD_go 1 ?_; replace h := bindO h; obtain ⟨v6,hv6,h⟩ := h; refine TD_con (_h := []) (_h' := []) [] 2044 0 [.slc 1 0 (List.length v4.2.l) (List.map (ecI .i64) v4.2.l),I6 v4.2.at_] _ _ (ok_made_Tape_Next v4.2 5 v6 hv6) kr kr kr kr ?_; replace h := bindO h; obtain ⟨e7,he7,h⟩ := h; refine TD_idx (ecI .u8) he7 kr kr ?_; refine TD_go 3 ?_; replace h := bindO h; obtain ⟨v8,hv8,h⟩ := h; refine TD_con (_h := []) (_h' := []) [] 2044 0 [.slc 1 0 (List.length v6.2.l) (List.map (ecI .i64) v6.2.l),I6 v6.2.at_] _ _ (ok_made_Tape_IP v6.2 v2 v8 hv8) kr kr kr kr ?_; refine TD_go 2 ?_; replace h := bindO h; obtain ⟨v9,hv9,h⟩ := h; refine TD_con (_h := []) (_h' := []) [] 2044 0 [.slc 1 0 (List.length v8.2.l) (List.map (ecI .i64) v8.2.l),I6 v8.2.at_] _ _ (ok_made_Tape_IP v8.2 v3 v9 hv9) kr kr kr kr ?_; refine TD_go 1 ?_; replace h := bindO h; obtain ⟨v10,hv10,h⟩ := h; refine TD_con (_h := []) (_h' := []) [] 2044 0 [.slc 1 0 (List.length v9.2.l) (List.map (ecI .i64) v9.2.l),I6 v9.2.at_] _ _ (ok_made_Tape_Bytes v9.2 12 v10 hv10) kr kr kr kr ?_; refine TD_go 3 ?_; refine TD_end kr ?_; refine TS_cut (fI [0,2000001,6,7] [2044,6,7]) (.mk [cA 7 b7] .normal ⟨[(0,bx 2044),(2000001,.c (I6 a1)),(6,bx 6),(7,bx 7)],[(2044,.box [.slc 1 0 (List.length v10.2.l) (List.map (ecI .i64) v10.2.l),I6 v10.2.at_]),(6,.box ([U8 0,U3 0] ++ List.replicate 34 (U8 0) ++ [U1 0,U1 0,.lit (.slice none 0 0)])),(7,.box ([U8 0,U3 0,U8 e5,U8 e7] ++ getsL .u8 v8.1 0 16 ++ getsL .u8 v9.1 0 16 ++ [U1 0,U1 0,.slc 1 0 (List.length v10.1) (List.map (ecI .u8) v10.1)]))]⟩) kr kr ?_; refine TS_joinB (fI [0,6,7,2000001] [2044,6,7]) (fun (v11 : S_multihopmade_Tape × S_Packet) => [(0,bx 2044),(6,bx 6),(7,bx 7),(2000001,.c (I6 a1))]) (fun (v11 : S_multihopmade_Tape × S_Packet) => [(2044,.box (S_multihopmade_Tape.cs v11.1)),(6,.box ([U8 0,U3 0] ++ List.replicate 34 (U8 0) ++ [U1 0,U1 0,.lit (.slice none 0 0)])),(7,.box (S_Packet.cs v11.2))]) (F_top_TopRelays_j1 a1) r ?_ ?_
  · clear h; intro v11 h; unfold F_top_TopRelays_j1 at h; refine TS_cut (fI [0,6,7,2000001] [2044,6,7]) (.mk [cA 15 b7] .normal ⟨[(0,bx 2044),(6,bx 6),(7,bx 7),(2000001,.c (I6 a1))],[(2044,.box [.slc 1 0 (List.length v11.1.l) (List.map (ecI .i64) v11.1.l),I6 v11.1.at_]),(6,.box ([U8 0,U3 0] ++ List.replicate 34 (U8 0) ++ [U1 0,U1 0,.lit (.slice none 0 0)])),(7,.box ([U8 v11.2.Class,U3 v11.2.Flow,U8 v11.2.Next,U8 v11.2.Hops] ++ getsL .u8 v11.2.Src 0 16 ++ getsL .u8 v11.2.Dst 0 16 ++ [U1 v11.2.SrcPort,U1 v11.2.DstPort,.slc 1 0 (List.length v11.2.Payload) (List.map (ecI .u8) v11.2.Payload)]))]⟩) kr kr ?_; refine TS_joinB (fI [0,6,7,2000001] [2044,6,7]) (fun (v12 : S_multihopmade_Tape × S_Packet) => [(0,bx 2044),(6,bx 6),(7,bx 7),(2000001,.c (I6 a1))]) (fun (v12 : S_multihopmade_Tape × S_Packet) => [(2044,.box (S_multihopmade_Tape.cs v12.1)),(6,.box ([U8 0,U3 0] ++ List.replicate 34 (U8 0) ++ [U1 0,U1 0,.lit (.slice none 0 0)])),(7,.box (S_Packet.cs v12.2))]) (F_top_TopRelays_j2 a1) r ?_ ?_
    · clear h; intro v12 h; unfold F_top_TopRelays_j2 at h; refine TS_cut (fI [0,6,7,2000001] [2044,6,7]) (.mk [cA 31 b7] .normal ⟨[(0,bx 2044),(6,bx 6),(7,bx 7),(2000001,.c (I6 a1))],[(2044,.box [.slc 1 0 (List.length v12.1.l) (List.map (ecI .i64) v12.1.l),I6 v12.1.at_]),(6,.box ([U8 0,U3 0] ++ List.replicate 34 (U8 0) ++ [U1 0,U1 0,.lit (.slice none 0 0)])),(7,.box ([U8 v12.2.Class,U3 v12.2.Flow,U8 v12.2.Next,U8 v12.2.Hops] ++ getsL .u8 v12.2.Src 0 16 ++ getsL .u8 v12.2.Dst 0 16 ++ [U1 v12.2.SrcPort,U1 v12.2.DstPort,.slc 1 0 (List.length v12.2.Payload) (List.map (ecI .u8) v12.2.Payload)]))]⟩) kr kr ?_; refine TS_joinB (fI [0,6,7,2000001] [2044,6,7]) (fun (v13 : S_Packet) => [(0,bx 2044),(6,bx 6),(7,bx 7),(2000001,.c (I6 a1))]) (fun (v13 : S_Packet) => [(2044,.box [.slc 1 0 (List.length v12.1.l) (List.map (ecI .i64) v12.1.l),I6 v12.1.at_]),(6,.box ([U8 0,U3 0] ++ List.replicate 34 (U8 0) ++ [U1 0,U1 0,.lit (.slice none 0 0)])),(7,.box (S_Packet.cs v13))]) (F_top_TopRelays_j3 v12 a1) r ?_ ?_
      · clear h; intro v13 h; unfold F_top_TopRelays_j3 at h; refine TS_cut (fI [0,6,7,2000001] [2044,6,7]) (.mk [cA 63 b7] .normal ⟨[(0,bx 2044),(6,bx 6),(7,bx 7),(2000001,.c (I6 a1))],[(2044,.box [.slc 1 0 (List.length v12.1.l) (List.map (ecI .i64) v12.1.l),I6 v12.1.at_]),(6,.box ([U8 0,U3 0] ++ List.replicate 34 (U8 0) ++ [U1 0,U1 0,.lit (.slice none 0 0)])),(7,.box ([U8 v13.Class,U3 v13.Flow,U8 v13.Next,U8 v13.Hops] ++ getsL .u8 v13.Src 0 16 ++ getsL .u8 v13.Dst 0 16 ++ [U1 v13.SrcPort,U1 v13.DstPort,.slc 1 0 (List.length v13.Payload) (List.map (ecI .u8) v13.Payload)]))]⟩) kr kr ?_; refine TS_joinB (fI [0,6,7,2000001] [2044,6,7]) (fun (v14 : S_multihopmade_Tape × S_Packet) => [(0,bx 2044),(6,bx 6),(7,bx 7),(2000001,.c (I6 a1))]) (fun (v14 : S_multihopmade_Tape × S_Packet) => [(2044,.box (S_multihopmade_Tape.cs v14.1)),(6,.box ([U8 0,U3 0] ++ List.replicate 34 (U8 0) ++ [U1 0,U1 0,.lit (.slice none 0 0)])),(7,.box (S_Packet.cs v14.2))]) (F_top_TopRelays_j4 a1) r ?_ ?_
        · clear h; intro v14 h; unfold F_top_TopRelays_j4 at h; refine TS_cut (fI [0,6,7,2000001] [2044,6,7]) (.mk [cA 127 b7] .normal ⟨[(0,bx 2044),(6,bx 6),(7,bx 7),(2000001,.c (I6 a1))],[(2044,.box [.slc 1 0 (List.length v14.1.l) (List.map (ecI .i64) v14.1.l),I6 v14.1.at_]),(6,.box ([U8 0,U3 0] ++ List.replicate 34 (U8 0) ++ [U1 0,U1 0,.lit (.slice none 0 0)])),(7,.box ([U8 v14.2.Class,U3 v14.2.Flow,U8 v14.2.Next,U8 v14.2.Hops] ++ getsL .u8 v14.2.Src 0 16 ++ getsL .u8 v14.2.Dst 0 16 ++ [U1 v14.2.SrcPort,U1 v14.2.DstPort,.slc 1 0 (List.length v14.2.Payload) (List.map (ecI .u8) v14.2.Payload)]))]⟩) kr kr ?_; refine TS_joinB (fI [6,7,2000001] [6,7]) (fun (v15 : S_Packet) => [(6,bx 6),(7,bx 7),(2000001,.c (I6 a1))]) (fun (v15 : S_Packet) => [(6,.box ([U8 0,U3 0] ++ List.replicate 34 (U8 0) ++ [U1 0,U1 0,.lit (.slice none 0 0)])),(7,.box (S_Packet.cs v15))]) (F_top_TopRelays_j5 a1) r ?_ ?_
          · clear h; intro v15 h; unfold F_top_TopRelays_j5 at h; refine TS_go 6 ?_; refine TS_inlR kr kr ?_; refine TS_bump 2000 kr ?_; refine TS_go 6 ?_; replace h := bindO h; obtain ⟨v16,hv16,h⟩ := h; refine TS_con [] [(51,900000)] none (okT_compress_Plain v15 v16 hv16) kr kr kr ?_; refine TS_go 9 ?_; replace h := bindO h; obtain ⟨v17,hv17,h⟩ := h; refine TS_con [[2]] [(56,900000)] none (okT_fragment_Split v16.1 7 90 v17 hv17) kr kr kr ?_; refine TS_go 9 ?_; replace h := bindO h; obtain ⟨v18,hv18,h⟩ := h; refine TS_call [] (ok_made_Mod a1 4 v18 hv18) kr kr ?_; refine TS_go 9 ?_; replace h := condF h; obtain ⟨hb19,h⟩ := h; refine TS_know 63 (b := false) hb19 kr kr ?_; refine TS_know 64 (b := false) hb19 kr kr ?_; refine TS_go 4 ?_; replace h := condF h; obtain ⟨hb20,h⟩ := h; refine TS_know 66 (b := false) hb20 kr kr ?_; refine TS_know 67 (b := false) hb20 kr kr ?_; refine TS_F kr rfl ?_; refine TS_go 5 ?_; replace h := bindO h; obtain ⟨n21,hn21,h⟩ := h; refine TS_makeR 70 51 5 S_Guard.cs ((S_Guard.mk ([] : List S_LinkKey) 0 0 0 ([] : List S_Peer)) : S_Guard) [18,0,0,0,7] (cs := [.lit (.slice none 0 0),U3 0,U3 0,U3 0,.lit (.slice none 0 0)]) (l := IntKind.wrap .i64 ((IntKind.wrap .i64 (1 + v18)) + 1)) (c := IntKind.wrap .i64 ((IntKind.wrap .i64 (1 + v18)) + 1)) hn21 kr kr kr ?_; refine TS_go 6 ?_; replace h := bindO h; obtain ⟨n22,hn22,h⟩ := h; refine TS_makeR 73 51 5 S_Guard.cs ((S_Guard.mk ([] : List S_LinkKey) 0 0 0 ([] : List S_Peer)) : S_Guard) [18,0,0,0,7] (cs := [.lit (.slice none 0 0),U3 0,U3 0,U3 0,.lit (.slice none 0 0)]) (l := IntKind.wrap .i64 ((IntKind.wrap .i64 (1 + v18)) + 1)) (c := IntKind.wrap .i64 ((IntKind.wrap .i64 (1 + v18)) + 1)) hn22 kr kr kr ?_; refine TS_go 6 ?_; replace h := bindO h; obtain ⟨n23,hn23,h⟩ := h; refine TS_makeR 76 70 1 (ecS 11 S_Switch.cs) (([] : List S_Switch) : List S_Switch) [12] (cs := [.lit (.slice none 0 0)]) (l := IntKind.wrap .i64 ((IntKind.wrap .i64 (1 + v18)) + 1)) (c := IntKind.wrap .i64 ((IntKind.wrap .i64 (1 + v18)) + 1)) hn23 kr kr kr ?_; refine TS_go 8 ?_; refine TS_cut (fI [1,6,9,11,12,13,14] [6,56,70,73,76]) (.mk [cA 11263 b3,.blk 0,cA 4095 b3] .normal ⟨[(1,.c (I6 (IntKind.wrap .i64 (1 + v18)))),(6,bx 6),(9,.c (.slc 4 58 (List.length v17.1) (List.map S_Fragment.cs v17.1))),(11,.c (.own 70)),(12,.c (.own 73)),(13,.c (.own 76)),(14,.c (I6 0))],[(6,.box ([U8 v15.Class,U3 v15.Flow,U8 v15.Next,U8 v15.Hops] ++ getsL .u8 v15.Src 0 16 ++ getsL .u8 v15.Dst 0 16 ++ [U1 v15.SrcPort,U1 v15.DstPort,.slc 1 0 (List.length v15.Payload) (List.map (ecI .u8) v15.Payload)])),(56,.spare 56 4 (List.length v17.1)),(70,.row 51 5 (List.length (List.replicate n21 ((S_Guard.mk ([] : List S_LinkKey) 0 0 0 ([] : List S_Peer)) : S_Guard))) (List.map S_Guard.cs (List.replicate n21 ((S_Guard.mk ([] : List S_LinkKey) 0 0 0 ([] : List S_Peer)) : S_Guard)))),(73,.row 51 5 (List.length (List.replicate n22 ((S_Guard.mk ([] : List S_LinkKey) 0 0 0 ([] : List S_Peer)) : S_Guard))) (List.map S_Guard.cs (List.replicate n22 ((S_Guard.mk ([] : List S_LinkKey) 0 0 0 ([] : List S_Peer)) : S_Guard)))),(76,.row 70 1 (List.length (List.replicate n23 (([] : List S_Switch) : List S_Switch))) (List.map (ecS 11 S_Switch.cs) (List.replicate n23 (([] : List S_Switch) : List S_Switch))))]⟩) kr kr ?_; replace h := bindO h; obtain ⟨y26,hl6,hK6⟩ := h; refine TS_loopB (F_top_TopRelays_l6 v18) (fI [1,6,9,11,12,13,14] [6,56,70,73,76]) (fun (s24 : Int × (List S_Guard) × (List S_Guard)) => [(1,.c (I6 (IntKind.wrap .i64 (1 + v18)))),(6,bx 6),(9,.c (.slc 4 58 (List.length v17.1) (List.map S_Fragment.cs v17.1))),(11,.c (.own 70)),(12,.c (.own 73)),(13,.c (.own 76)),(14,.c (I6 s24.1))]) (fun (s24 : Int × (List S_Guard) × (List S_Guard)) => [(6,.box ([U8 v15.Class,U3 v15.Flow,U8 v15.Next,U8 v15.Hops] ++ getsL .u8 v15.Src 0 16 ++ getsL .u8 v15.Dst 0 16 ++ [U1 v15.SrcPort,U1 v15.DstPort,.slc 1 0 (List.length v15.Payload) (List.map (ecI .u8) v15.Payload)])),(70,.row 51 5 (List.length s24.2.1) (List.map S_Guard.cs s24.2.1)),(73,.row 51 5 (List.length s24.2.2) (List.map S_Guard.cs s24.2.2)),(76,.row 70 1 (List.length (List.replicate n23 (([] : List S_Switch) : List S_Switch))) (List.map (ecS 11 S_Switch.cs) (List.replicate n23 (([] : List S_Switch) : List S_Switch)))),(56,.spare 56 4 (List.length v17.1))]) (0,(List.replicate n21 ((S_Guard.mk ([] : List S_LinkKey) 0 0 0 ([] : List S_Peer)) : S_Guard)),(List.replicate n22 ((S_Guard.mk ([] : List S_LinkKey) 0 0 0 ([] : List S_Peer)) : S_Guard))) y26 (.exit 0) (fun (b : (List S_Guard) × (List S_Guard)) => b) (fI [1,6,9,11,12,13] [6,56,70,73,76]) (fun (b25 : (List S_Guard) × (List S_Guard)) => [(1,.c (I6 (IntKind.wrap .i64 (1 + v18)))),(6,bx 6),(9,.c (.slc 4 58 (List.length v17.1) (List.map S_Fragment.cs v17.1))),(11,.c (.own 70)),(12,.c (.own 73)),(13,.c (.own 76))]) (fun (b25 : (List S_Guard) × (List S_Guard)) => [(6,.box ([U8 v15.Class,U3 v15.Flow,U8 v15.Next,U8 v15.Hops] ++ getsL .u8 v15.Src 0 16 ++ getsL .u8 v15.Dst 0 16 ++ [U1 v15.SrcPort,U1 v15.DstPort,.slc 1 0 (List.length v15.Payload) (List.map (ecI .u8) v15.Payload)])),(70,.row 51 5 (List.length b25.1) (List.map S_Guard.cs b25.1)),(73,.row 51 5 (List.length b25.2) (List.map S_Guard.cs b25.2)),(76,.row 70 1 (List.length (List.replicate n23 (([] : List S_Switch) : List S_Switch))) (List.map (ecS 11 S_Switch.cs) (List.replicate n23 (([] : List S_Switch) : List S_Switch)))),(56,.spare 56 4 (List.length v17.1))]) hl6 kr kr ?_ ?_
            · intro s24 x h hy6; unfold F_top_TopRelays_l6 at h; refine TS_go 7 ?_; replace h := condO h; rcases h with ⟨hb27,h⟩ | ⟨hb27,h⟩
              · refine TS_know 79 (b := true) hb27 kr kr ?_; refine TS_T kr rfl ?_; refine TS_go 8 ?_; replace h := bindO h; obtain ⟨v28,hv28,h⟩ := h; refine TS_con [] [(86,900064),(600000,900068)] none (okT_top_pair s24.1 (IntKind.wrap .i64 (s24.1 + 1)) v28 hv28) kr kr kr ?_; refine TS_go 16 ?_; replace h := condT h; obtain ⟨hb29,h⟩ := h; refine TS_know 89 (b := true) hb29 kr kr ?_; refine TS_know 17 (b := true) hb29 kr kr ?_; refine TS_know 90 (b := true) hb29 kr kr ?_; refine TS_know 91 (b := false) (notF hb29) kr kr ?_; refine TS_F kr rfl ?_; refine TS_go 1 ?_; refine TS_draw kr ?_; refine TD_go 6 ?_; replace h := bindO h; obtain ⟨_e30,he30,h⟩ := h; refine TD_idxR 70 5 0 S_Guard.cs .whole he30 kr kr ?_; replace h := bindO h; obtain ⟨_e31,he31,h⟩ := h; refine TD_stE 70 51 5 (List.length s24.2.1) (0 + Int.toNat s24.1) 0 S_Guard.cs (ds := [.slc 17 0 (List.length v28.1.Keys) (List.map S_LinkKey.cs v28.1.Keys),U3 v28.1.Counter,U3 v28.1.Reserved,U3 v28.1.Nonce,.slc 6 0 (List.length v28.1.Peers) (List.map S_Peer.cs v28.1.Peers)]) v28.1 he31 kr kr kr kr ?_; replace h := bindO h; obtain ⟨_e32,he32,h⟩ := h; refine TD_idxR 73 5 0 S_Guard.cs .whole he32 kr kr ?_; replace h := bindO h; obtain ⟨_e33,he33,h⟩ := h; refine TD_stE 73 51 5 (List.length s24.2.2) (0 + Int.toNat s24.1) 0 S_Guard.cs (ds := [.slc 17 0 (List.length v28.2.1.Keys) (List.map S_LinkKey.cs v28.2.1.Keys),U3 v28.2.1.Counter,U3 v28.2.1.Reserved,U3 v28.2.1.Nonce,.slc 6 0 (List.length v28.2.1.Peers) (List.map S_Peer.cs v28.2.1.Peers)]) v28.2.1 he33 kr kr kr kr ?_; refine TD_end kr ?_; refine TS_go 6 ?_; have ret := Option.some.inj h; subst ret; exact TS_againB _ (fI [1,6,9,11,12,13,14] [6,56,70,73,76]) rfl kr kr
              refine TS_know 79 (b := false) hb27 kr kr ?_; refine TS_F kr rfl ?_; refine TS_go 2 ?_; have ret := Option.some.inj h; subst ret; exact TS_brkB (s24.2.1,s24.2.2) (fI [1,6,9,11,12,13] [6,56,70,73,76]) rfl kr kr kr
            intro b25 hb; subst y26; have h := hK6; refine TS_go 15 ?_; refine TS_cut (fI [1,6,9,11,12,13,18,19,20] [6,56,70,73,76]) (.mk [cA 90111 b3,.blk 2,cA 32767 b3] .normal ⟨[(1,.c (I6 (IntKind.wrap .i64 (1 + v18)))),(6,bx 6),(9,.c (.slc 4 58 (List.length v17.1) (List.map S_Fragment.cs v17.1))),(11,.c (.own 70)),(12,.c (.own 73)),(13,.c (.own 76)),(18,.c (.lit (.slice none 0 0))),(19,.c (BL false)),(20,.c (I6 0))],[(6,.box ([U8 v15.Class,U3 v15.Flow,U8 v15.Next,U8 v15.Hops] ++ getsL .u8 v15.Src 0 16 ++ getsL .u8 v15.Dst 0 16 ++ [U1 v15.SrcPort,U1 v15.DstPort,.slc 1 0 (List.length v15.Payload) (List.map (ecI .u8) v15.Payload)])),(56,.spare 56 4 (List.length v17.1)),(70,.row 51 5 (List.length b25.1) (List.map S_Guard.cs b25.1)),(73,.row 51 5 (List.length b25.2) (List.map S_Guard.cs b25.2)),(76,.row 70 1 (List.length (List.replicate n23 (([] : List S_Switch) : List S_Switch))) (List.map (ecS 11 S_Switch.cs) (List.replicate n23 (([] : List S_Switch) : List S_Switch))))]⟩) kr kr ?_; replace h := bindO h; obtain ⟨y37,hl7,hK7⟩ := h; refine TS_loopB (F_top_TopRelays_l7 v17 v18 v15) ⟨[(1,[]),(6,[]),(9,[]),(11,[]),(12,[]),(13,[]),(18,[11]),(19,[]),(20,[])],[(6,(6,[])),(56,(56,[])),(70,(70,[])),(73,(73,[])),(76,(76,[]))]⟩ (fun (s35 : (List S_Buffer) × Bool × Int × (List S_Guard) × (List S_Guard) × (List (List S_Switch))) => [(1,.c (I6 (IntKind.wrap .i64 (1 + v18)))),(6,bx 6),(9,.c (.slc 4 58 (List.length v17.1) (List.map S_Fragment.cs v17.1))),(11,.c (.own 70)),(12,.c (.own 73)),(13,.c (.own 76)),(18,.c (eS 10 S_Buffer.cs (s35.1))),(19,.c (BL s35.2.1)),(20,.c (I6 s35.2.2.1))]) (fun (s35 : (List S_Buffer) × Bool × Int × (List S_Guard) × (List S_Guard) × (List (List S_Switch))) => [(6,.box ([U8 v15.Class,U3 v15.Flow,U8 v15.Next,U8 v15.Hops] ++ getsL .u8 v15.Src 0 16 ++ getsL .u8 v15.Dst 0 16 ++ [U1 v15.SrcPort,U1 v15.DstPort,.slc 1 0 (List.length v15.Payload) (List.map (ecI .u8) v15.Payload)])),(70,.row 51 5 (List.length s35.2.2.2.1) (List.map S_Guard.cs s35.2.2.2.1)),(73,.row 51 5 (List.length s35.2.2.2.2.1) (List.map S_Guard.cs s35.2.2.2.2.1)),(76,.row 70 1 (List.length s35.2.2.2.2.2) (List.map (ecS 11 S_Switch.cs) s35.2.2.2.2.2)),(56,.spare 56 4 (List.length v17.1))]) (([] : List S_Buffer),false,0,b25.1,b25.2,(List.replicate n23 (([] : List S_Switch) : List S_Switch))) y37 (.exit 2) (fun (b : (List S_Buffer) × Bool × (List (List S_Switch))) => b) ⟨[(1,[]),(13,[]),(18,[11]),(19,[])],[(76,(76,[]))]⟩ (fun (b36 : (List S_Buffer) × Bool × (List (List S_Switch))) => [(1,.c (I6 (IntKind.wrap .i64 (1 + v18)))),(13,.c (.own 76)),(18,.c (eS 10 S_Buffer.cs (b36.1))),(19,.c (BL b36.2.1))]) (fun (b36 : (List S_Buffer) × Bool × (List (List S_Switch))) => [(76,.row 70 1 (List.length b36.2.2) (List.map (ecS 11 S_Switch.cs) b36.2.2))]) hl7 kr kr ?_ ?_
            · intro s35 x h hy7; unfold F_top_TopRelays_l7 at h; refine TS_go 8 ?_; replace h := condO h; rcases h with ⟨hb38,h⟩ | ⟨hb38,h⟩
              · refine TS_know 103 (b := true) hb38 kr kr ?_; refine TS_T kr rfl ?_; refine TS_go 7 ?_; replace h := bindO h; obtain ⟨e39,he39,h⟩ := h; refine TS_idx S_Fragment.cs he39 kr kr ?_; refine TS_go 9 ?_; refine TS_cut (fI [1,6,9,11,12,13,18,19,20,21,22] [6,56,70,73,76,21]) (.mk [cA 11689983 b3,.blk 4,.blk 3,cA 942079 b3] .normal ⟨[(1,.c (I6 (IntKind.wrap .i64 (1 + v18)))),(6,bx 6),(9,.c (.slc 4 58 (List.length v17.1) (List.map S_Fragment.cs v17.1))),(11,.c (.own 70)),(12,.c (.own 73)),(13,.c (.own 76)),(18,.c (.slc 10 0 (List.length s35.1) (List.map S_Buffer.cs s35.1))),(19,.c (BL s35.2.1)),(20,.c (I6 s35.2.2.1)),(21,bx 21),(22,.c (I6 0))],[(6,.box ([U8 v15.Class,U3 v15.Flow,U8 v15.Next,U8 v15.Hops] ++ getsL .u8 v15.Src 0 16 ++ getsL .u8 v15.Dst 0 16 ++ [U1 v15.SrcPort,U1 v15.DstPort,.slc 1 0 (List.length v15.Payload) (List.map (ecI .u8) v15.Payload)])),(56,.spare 56 4 (List.length v17.1)),(70,.row 51 5 (List.length s35.2.2.2.1) (List.map S_Guard.cs s35.2.2.2.1)),(73,.row 51 5 (List.length s35.2.2.2.2.1) (List.map S_Guard.cs s35.2.2.2.2.1)),(76,.row 70 1 (List.length s35.2.2.2.2.2) (List.map (ecS 11 S_Switch.cs) s35.2.2.2.2.2)),(21,.box [I6 e39.Size,U1 e39.Tag,I6 e39.Offset,.slc 1 0 (List.length e39.Data) (List.map (ecI .u8) e39.Data)])]⟩) kr kr ?_; replace h := bindO h; obtain ⟨y42,hl8,hK8⟩ := h; refine TS_loopB (F_top_TopRelays_l8 v18 s35 v17 v15) (fI [1,6,9,11,12,13,18,19,20,21,22] [6,56,70,73,76,21]) (fun (s40 : (List S_Buffer) × Bool × Int × (List S_Guard) × (List S_Guard) × (List (List S_Switch)) × S_Fragment) => [(1,.c (I6 (IntKind.wrap .i64 (1 + v18)))),(6,bx 6),(9,.c (.slc 4 58 (List.length v17.1) (List.map S_Fragment.cs v17.1))),(11,.c (.own 70)),(12,.c (.own 73)),(13,.c (.own 76)),(18,.c (eS 10 S_Buffer.cs (s40.1))),(19,.c (BL s40.2.1)),(20,.c (I6 s35.2.2.1)),(21,bx 21),(22,.c (I6 s40.2.2.1))]) (fun (s40 : (List S_Buffer) × Bool × Int × (List S_Guard) × (List S_Guard) × (List (List S_Switch)) × S_Fragment) => [(6,.box ([U8 v15.Class,U3 v15.Flow,U8 v15.Next,U8 v15.Hops] ++ getsL .u8 v15.Src 0 16 ++ getsL .u8 v15.Dst 0 16 ++ [U1 v15.SrcPort,U1 v15.DstPort,.slc 1 0 (List.length v15.Payload) (List.map (ecI .u8) v15.Payload)])),(70,.row 51 5 (List.length s40.2.2.2.1) (List.map S_Guard.cs s40.2.2.2.1)),(73,.row 51 5 (List.length s40.2.2.2.2.1) (List.map S_Guard.cs s40.2.2.2.2.1)),(76,.row 70 1 (List.length s40.2.2.2.2.2.1) (List.map (ecS 11 S_Switch.cs) s40.2.2.2.2.2.1)),(21,.box (S_Fragment.cs s40.2.2.2.2.2.2)),(56,.spare 56 4 (List.length v17.1))]) (s35.1,s35.2.1,0,s35.2.2.2.1,s35.2.2.2.2.1,s35.2.2.2.2.2,e39) y42 (.exit 4) (fun (b : (List S_Buffer) × Bool × (List S_Guard) × (List S_Guard) × (List (List S_Switch))) => b) (fI [1,6,9,11,12,13,18,19,20] [6,56,70,73,76]) (fun (b41 : (List S_Buffer) × Bool × (List S_Guard) × (List S_Guard) × (List (List S_Switch))) => [(1,.c (I6 (IntKind.wrap .i64 (1 + v18)))),(6,bx 6),(9,.c (.slc 4 58 (List.length v17.1) (List.map S_Fragment.cs v17.1))),(11,.c (.own 70)),(12,.c (.own 73)),(13,.c (.own 76)),(18,.c (eS 10 S_Buffer.cs (b41.1))),(19,.c (BL b41.2.1)),(20,.c (I6 s35.2.2.1))]) (fun (b41 : (List S_Buffer) × Bool × (List S_Guard) × (List S_Guard) × (List (List S_Switch))) => [(6,.box ([U8 v15.Class,U3 v15.Flow,U8 v15.Next,U8 v15.Hops] ++ getsL .u8 v15.Src 0 16 ++ getsL .u8 v15.Dst 0 16 ++ [U1 v15.SrcPort,U1 v15.DstPort,.slc 1 0 (List.length v15.Payload) (List.map (ecI .u8) v15.Payload)])),(70,.row 51 5 (List.length b41.2.2.1) (List.map S_Guard.cs b41.2.2.1)),(73,.row 51 5 (List.length b41.2.2.2.1) (List.map S_Guard.cs b41.2.2.2.1)),(76,.row 70 1 (List.length b41.2.2.2.2) (List.map (ecS 11 S_Switch.cs) b41.2.2.2.2)),(56,.spare 56 4 (List.length v17.1))]) hl8 kr kr ?_ ?_
                · intro s40 x h hy8; unfold F_top_TopRelays_l8 at h; refine TS_go 7 ?_; replace h := condO h; rcases h with ⟨hb43,h⟩ | ⟨hb43,h⟩
                  · refine TS_know 112 (b := true) hb43 kr kr ?_; refine TS_T kr rfl ?_; refine TS_go 1 ?_; refine TS_cut (fI [1,6,9,11,12,13,18,19,20,21,22] [6,56,70,73,76,21]) (.mk [cA 53633023 b3] .normal ⟨[(1,.c (I6 (IntKind.wrap .i64 (1 + v18)))),(6,bx 6),(9,.c (.slc 4 58 (List.length v17.1) (List.map S_Fragment.cs v17.1))),(11,.c (.own 70)),(12,.c (.own 73)),(13,.c (.own 76)),(18,.c (.slc 10 0 (List.length s40.1) (List.map S_Buffer.cs s40.1))),(19,.c (BL s40.2.1)),(20,.c (I6 s35.2.2.1)),(21,bx 21),(22,.c (I6 s40.2.2.1))],[(6,.box ([U8 v15.Class,U3 v15.Flow,U8 v15.Next,U8 v15.Hops] ++ getsL .u8 v15.Src 0 16 ++ getsL .u8 v15.Dst 0 16 ++ [U1 v15.SrcPort,U1 v15.DstPort,.slc 1 0 (List.length v15.Payload) (List.map (ecI .u8) v15.Payload)])),(56,.spare 56 4 (List.length v17.1)),(70,.row 51 5 (List.length s40.2.2.2.1) (List.map S_Guard.cs s40.2.2.2.1)),(73,.row 51 5 (List.length s40.2.2.2.2.1) (List.map S_Guard.cs s40.2.2.2.2.1)),(76,.row 70 1 (List.length s40.2.2.2.2.2.1) (List.map (ecS 11 S_Switch.cs) s40.2.2.2.2.2.1)),(21,.box [I6 s40.2.2.2.2.2.2.Size,U1 s40.2.2.2.2.2.2.Tag,I6 s40.2.2.2.2.2.2.Offset,.slc 1 0 (List.length s40.2.2.2.2.2.2.Data) (List.map (ecI .u8) s40.2.2.2.2.2.2.Data)])]⟩) kr kr ?_; refine TS_joinB (fI [1,6,9,11,12,13,18,19,20,21,22] [6,56,70,73,76,21]) (fun (v44 : (List S_Buffer) × Bool × (List S_Guard) × (List S_Guard) × (List (List S_Switch)) × S_Fragment) => [(1,.c (I6 (IntKind.wrap .i64 (1 + v18)))),(6,bx 6),(9,.c (.slc 4 58 (List.length v17.1) (List.map S_Fragment.cs v17.1))),(11,.c (.own 70)),(12,.c (.own 73)),(13,.c (.own 76)),(18,.c (eS 10 S_Buffer.cs (v44.1))),(19,.c (BL v44.2.1)),(20,.c (I6 s35.2.2.1)),(21,bx 21),(22,.c (I6 s40.2.2.1))]) (fun (v44 : (List S_Buffer) × Bool × (List S_Guard) × (List S_Guard) × (List (List S_Switch)) × S_Fragment) => [(6,.box ([U8 v15.Class,U3 v15.Flow,U8 v15.Next,U8 v15.Hops] ++ getsL .u8 v15.Src 0 16 ++ getsL .u8 v15.Dst 0 16 ++ [U1 v15.SrcPort,U1 v15.DstPort,.slc 1 0 (List.length v15.Payload) (List.map (ecI .u8) v15.Payload)])),(70,.row 51 5 (List.length v44.2.2.1) (List.map S_Guard.cs v44.2.2.1)),(73,.row 51 5 (List.length v44.2.2.2.1) (List.map S_Guard.cs v44.2.2.2.1)),(76,.row 70 1 (List.length v44.2.2.2.2.1) (List.map (ecS 11 S_Switch.cs) v44.2.2.2.2.1)),(21,.box (S_Fragment.cs v44.2.2.2.2.2)),(56,.spare 56 4 (List.length v17.1))]) (F_top_TopRelays_j9 s40) x ?_ ?_
                    · clear h; intro v44 h; unfold F_top_TopRelays_j9 at h; refine TS_go 5 ?_; have ret := Option.some.inj h; subst ret; exact TS_againB _ (fI [1,6,9,11,12,13,18,19,20,21,22] [6,56,70,73,76,21]) rfl kr kr
                    refine TS_go 4 ?_; replace h := bindO h; obtain ⟨v45,hv45,h⟩ := h; refine TS_con [] [(117,900000)] none (okT_fragment_Encode s40.2.2.2.2.2.2 v45 hv45) kr kr kr ?_; refine TS_go 10 ?_; replace h := bindO h; obtain ⟨_e46,he46,h⟩ := h; refine TS_idxR 70 5 0 S_Guard.cs .whole he46 kr kr ?_; replace h := bindO h; obtain ⟨e47,he47,h⟩ := h; refine TS_ldE 51 (0 + Int.toNat s40.2.2.1) 0 S_Guard.cs (v := .agg [.slc 17 0 (List.length e47.Keys) (List.map S_LinkKey.cs e47.Keys),U3 e47.Counter,U3 e47.Reserved,U3 e47.Nonce,.slc 6 0 (List.length e47.Peers) (List.map S_Peer.cs e47.Peers)]) he47 kr kr kr ?_; refine TS_go 4 ?_; refine TS_litNT 129 29 1 (ecS 1 (ecI .u8)) [2] ([v45.1] : List (List Int)) kr kr ?_; replace h := bindO h; obtain ⟨v48,hv48,h⟩ := h; refine TS_con [[],[],[],[2]] [(130,900064)] none (okT_top_sealed e47 s40.2.2.1 (IntKind.wrap .i64 (s40.2.2.1 + 1)) ([v45.1] : List (List Int)) v48 hv48) kr kr kr ?_; refine TS_go 15 ?_; replace h := condF h; obtain ⟨hb49,h⟩ := h; refine TS_know 135 (b := false) hb49 kr kr ?_; refine TS_know 136 (b := false) hb49 kr kr ?_; refine TS_go 4 ?_; replace h := condT h; obtain ⟨hb50,h⟩ := h; refine TS_know 133 (b := true) hb50 kr kr ?_; refine TS_know 27 (b := true) hb50 kr kr ?_; refine TS_know 137 (b := true) hb50 kr kr ?_; refine TS_know 138 (b := false) (notF hb50) kr kr ?_; refine TS_know 139 (b := false) (notF hb50) kr kr ?_; refine TS_F kr rfl ?_; refine TS_go 2 ?_; refine TS_draw kr ?_; refine TD_go 2 ?_; replace h := bindO h; obtain ⟨_e51,he51,h⟩ := h; refine TD_idxR 73 5 0 S_Guard.cs .whole he51 kr kr ?_; replace h := bindO h; obtain ⟨e52,he52,h⟩ := h; refine TD_ldE 51 (0 + Int.toNat s40.2.2.1) 0 S_Guard.cs (v := .agg [.slc 17 0 (List.length e52.Keys) (List.map S_LinkKey.cs e52.Keys),U3 e52.Counter,U3 e52.Reserved,U3 e52.Nonce,.slc 6 0 (List.length e52.Peers) (List.map S_Peer.cs e52.Peers)]) he52 kr kr kr ?_; refine TD_go 1 ?_; replace h := bindO h; obtain ⟨e53,he53,h⟩ := h; refine TD_idx (ecS 1 (ecI .u8)) he53 kr kr ?_; refine TD_go 1 ?_; replace h := bindO h; obtain ⟨v54,hv54,h⟩ := h; refine TD_call [] (ok_top_opened e52 e53 v54 hv54) kr kr ?_; refine TD_go 8 ?_; refine TD_end kr ?_; refine TS_go 3 ?_; replace h := bindO h; obtain ⟨v55,hv55,h⟩ := h; refine TS_con [] [(154,900003)] none (okT_fragment_Decode v54.2.1 v55 hv55) kr kr kr ?_; refine TS_go 13 ?_; replace h := condT h; obtain ⟨hb56,h⟩ := h; refine TS_know 151 (b := true) hb56 kr kr ?_; refine TS_know 30 (b := true) hb56 kr kr ?_; refine TS_know 157 (b := true) hb56 kr kr ?_; refine TS_know 158 (b := false) (notF hb56) kr kr ?_; refine TS_know 159 (b := false) (notF hb56) kr kr ?_; refine TS_go 4 ?_; replace h := condF h; obtain ⟨hb57,h⟩ := h; refine TS_know 161 (b := false) hb57 kr kr ?_; refine TS_know 162 (b := false) hb57 kr kr ?_; refine TS_F kr rfl ?_; refine TS_go 2 ?_; refine TS_draw kr ?_; refine TD_go 6 ?_; replace h := bindO h; obtain ⟨_e58,he58,h⟩ := h; refine TD_idxR 70 5 0 S_Guard.cs .whole he58 kr kr ?_; replace h := bindO h; obtain ⟨_e59,he59,h⟩ := h; refine TD_stE 70 51 5 (List.length s40.2.2.2.1) (0 + Int.toNat s40.2.2.1) 0 S_Guard.cs (ds := [.slc 17 0 (List.length v48.1.Keys) (List.map S_LinkKey.cs v48.1.Keys),U3 v48.1.Counter,U3 v48.1.Reserved,U3 v48.1.Nonce,.slc 6 0 (List.length v48.1.Peers) (List.map S_Peer.cs v48.1.Peers)]) v48.1 he59 kr kr kr kr ?_; replace h := bindO h; obtain ⟨_e60,he60,h⟩ := h; refine TD_idxR 73 5 0 S_Guard.cs .whole he60 kr kr ?_; replace h := bindO h; obtain ⟨_e61,he61,h⟩ := h; refine TD_stE 73 51 5 (List.length s40.2.2.2.2.1) (0 + Int.toNat s40.2.2.1) 0 S_Guard.cs (ds := [.slc 17 0 (List.length v54.1.Keys) (List.map S_LinkKey.cs v54.1.Keys),U3 v54.1.Counter,U3 v54.1.Reserved,U3 v54.1.Nonce,.slc 6 0 (List.length v54.1.Peers) (List.map S_Peer.cs v54.1.Peers)]) v54.1 he61 kr kr kr kr ?_; refine TD_end kr ?_; refine TS_go 7 ?_; replace h := condO h; rcases h with ⟨hb62,h⟩ | ⟨hb62,h⟩
                    · refine TS_know 173 (b := true) hb62 kr kr ?_; refine TS_T kr rfl ?_; refine TS_go 1 ?_; refine TS_draw kr ?_; refine TD_go 2 ?_; replace h := bindO h; obtain ⟨v63,hv63,h⟩ := h; refine TD_call [] (ok_top_device s40.2.2.1 v63 hv63) kr kr ?_; refine TD_go 2 ?_; replace h := bindO h; obtain ⟨v64,hv64,h⟩ := h; refine TD_call [] (ok_top_device (IntKind.wrap .i64 (s40.2.2.1 + 1)) v64 hv64) kr kr ?_; refine TD_go 1 ?_; replace h := bindO h; obtain ⟨v65,hv65,h⟩ := h; refine TD_call [[],[],[],[0,0,0,2]] (ok_reassembly_Add s40.1 v63 v64 v55.1 5 v65 hv65) kr kr ?_; refine TD_go 7 ?_; refine TD_end kr ?_; refine TS_go 5 ?_; replace h := bindO h; obtain ⟨v66,hv66,h⟩ := h; refine TS_con [[],[],[],[21]] [(190,900038)] none (okT_compress_Decode v65.2.1 (S_Addr.mk 0 0 0) (S_Addr.mk 0 0 0) ([] : List S_Context) 5 v66 hv66) kr kr kr ?_; refine TS_go 13 ?_; replace h := condF h; obtain ⟨hb67,h⟩ := h; refine TS_know 194 (b := false) hb67 kr kr ?_; refine TS_know 195 (b := false) hb67 kr kr ?_; refine TS_go 11 ?_; replace h := condT h; obtain ⟨hb68,h⟩ := h; refine TS_know 204 (b := false) (notF hb68) kr kr ?_; refine TS_know 205 (b := false) (notF hb68) kr kr ?_; refine TS_know 206 (b := false) (notF hb68) kr kr ?_; refine TS_go 4 ?_; replace h := condO h; rcases h with ⟨hb69,h⟩ | ⟨hb69,h⟩
                      · refine TS_know 198 (b := true) hb69 kr kr ?_; refine TS_know 209 (b := true) hb69 kr kr ?_; refine TS_know 210 (b := true) hb69 kr kr ?_; refine TS_go 3 ?_; replace h := condF h; obtain ⟨hb70,h⟩ := h; refine TS_know 212 (b := false) hb70 kr kr ?_; refine TS_know 213 (b := false) hb70 kr kr ?_; refine TS_go 2 ?_; replace h := bindO h; obtain ⟨v71,hv71,h⟩ := h; refine TS_call [[],[0,0,0,0,0,0,0,0,0,0,0,0,0,0,0,0,0,0,0,0,0,0,0,0,0,0,0,0,0,0,0,0,0,0,0,0,0,0,2]] (ok_ref13_Same v15 v66.1 v71 hv71) kr kr ?_; refine TS_go 5 ?_; replace h := condT h; obtain ⟨hb72,h⟩ := h; subst hb72; refine TS_F kr rfl ?_; refine TS_go 7 ?_; refine TS_know 224 (b := true) hb69 kr kr ?_; refine TS_go 6 ?_; exact TS_meet (v65.1,true,(List.set s40.2.2.2.1 (0 + Int.toNat s40.2.2.1) v48.1),(List.set s40.2.2.2.2.1 (0 + Int.toNat s40.2.2.1) v54.1),s40.2.2.2.2.2.1,s40.2.2.2.2.2.2) (fI [1,6,9,11,12,13,18,19,20,21,22] [6,56,70,73,76,21]) h kr kr
                      refine TS_know 198 (b := false) hb69 kr kr ?_; refine TS_know 209 (b := false) hb69 kr kr ?_; refine TS_know 210 (b := false) hb69 kr kr ?_; refine TS_go 11 ?_; refine TS_F kr rfl ?_; refine TS_go 7 ?_; refine TS_know 224 (b := false) hb69 kr kr ?_; refine TS_go 6 ?_; exact TS_meet (v65.1,false,(List.set s40.2.2.2.1 (0 + Int.toNat s40.2.2.1) v48.1),(List.set s40.2.2.2.2.1 (0 + Int.toNat s40.2.2.1) v54.1),s40.2.2.2.2.2.1,s40.2.2.2.2.2.2) (fI [1,6,9,11,12,13,18,19,20,21,22] [6,56,70,73,76,21]) h kr kr
                    refine TS_know 173 (b := false) hb62 kr kr ?_; refine TS_F kr rfl ?_; refine TS_go 2 ?_; refine TS_draw kr ?_; refine TD_go 2 ?_; replace h := bindO h; obtain ⟨_e73,he73,h⟩ := h; refine TD_idxR 76 1 0 (ecS 11 S_Switch.cs) .whole he73 kr kr ?_; replace h := bindO h; obtain ⟨e74,he74,h⟩ := h; refine TD_ldE 70 (0 + Int.toNat s40.2.2.1) 0 (ecS 11 S_Switch.cs) (v := .c (.slc 11 0 (List.length e74) (List.map S_Switch.cs e74))) he74 kr kr kr ?_; refine TD_go 1 ?_; replace h := bindO h; obtain ⟨v75,hv75,h⟩ := h; refine TD_call [] (ok_top_device s40.2.2.1 v75 hv75) kr kr ?_; refine TD_go 3 ?_; replace h := bindO h; obtain ⟨v76,hv76,h⟩ := h; refine TD_call [] (ok_top_device (IntKind.wrap .i64 (s40.2.2.1 + 2)) v76 hv76) kr kr ?_; refine TD_go 4 ?_; replace h := bindO h; obtain ⟨v77,hv77,h⟩ := h; refine TD_call [[],[],[0,0,0,2]] (ok_relay_Forward e74 v75 v55.1 v76 (IntKind.wrap .u16 (IntKind.wrap .i64 ((IntKind.wrap .i64 (10 * s40.2.2.1)) + 1))) 5 v77 hv77) kr kr ?_; refine TD_go 11 ?_; refine TD_end kr ?_; refine TS_go 2 ?_; refine TS_draw kr ?_; refine TD_go 2 ?_; replace h := condF h; obtain ⟨hb78,h⟩ := h; refine TD_know 247 (b := false) hb78 trivial kr kr ?_; refine TD_go 3 ?_; replace h := bindO h; obtain ⟨v79,hv79,h⟩ := h; refine TD_call [] (ok_top_device (IntKind.wrap .i64 (s40.2.2.1 + 2)) v79 hv79) kr kr ?_; refine TD_go 2 ?_; refine TD_end kr ?_; replace h := condT h; obtain ⟨hb80,h⟩ := h; refine TS_know 246 (b := false) hb78 kr kr ?_; refine TS_know 252 (b := false) (notF hb80) kr kr ?_; refine TS_know 253 (b := false) (notF hb80) kr kr ?_; refine TS_F kr rfl ?_; refine TS_go 1 ?_; refine TS_draw kr ?_; refine TD_go 4 ?_; replace h := bindO h; obtain ⟨_e81,he81,h⟩ := h; refine TD_idxR 76 1 0 (ecS 11 S_Switch.cs) .whole he81 kr kr ?_; replace h := bindO h; obtain ⟨_e82,he82,h⟩ := h; refine TD_stE 76 70 1 (List.length s40.2.2.2.2.2.1) (0 + Int.toNat s40.2.2.1) 0 (ecS 11 S_Switch.cs) (ds := [.slc 11 0 (List.length v77.1) (List.map S_Switch.cs v77.1)]) v77.1 he82 kr kr kr kr ?_; refine TD_go 1 ?_; refine TD_end kr ?_; refine TS_go 1 ?_; exact TS_meet (s40.1,s40.2.1,(List.set s40.2.2.2.1 (0 + Int.toNat s40.2.2.1) v48.1),(List.set s40.2.2.2.2.1 (0 + Int.toNat s40.2.2.1) v54.1),(List.set s40.2.2.2.2.2.1 (0 + Int.toNat s40.2.2.1) v77.1),v77.2.1) (fI [1,6,9,11,12,13,18,19,20,21,22] [6,56,70,73,76,21]) h kr kr
                  refine TS_know 112 (b := false) hb43 kr kr ?_; refine TS_F kr rfl ?_; refine TS_go 2 ?_; have ret := Option.some.inj h; subst ret; exact TS_brkB (s40.1,s40.2.1,s40.2.2.2.1,s40.2.2.2.2.1,s40.2.2.2.2.2.1) (fI [1,6,9,11,12,13,18,19,20] [6,56,70,73,76]) rfl kr kr kr
                intro b41 hb; subst y42; have h := hK8; refine TS_go 7 ?_; have ret := Option.some.inj h; subst ret; exact TS_againB _ (fI [1,6,9,11,12,13,18,19,20] [6,56,70,73,76]) rfl kr kr
              refine TS_know 103 (b := false) hb38 kr kr ?_; refine TS_F kr rfl ?_; refine TS_go 2 ?_; have ret := Option.some.inj h; subst ret; exact TS_brkB (s35.1,s35.2.1,s35.2.2.2.2.2) (fI [1,13,18,19] [76]) rfl kr kr kr
            intro b36 hb; subst y37; have h := hK7; refine TS_go 7 ?_; refine TS_cut (fI [1,13,18,19,42] [76]) (.mk [cA 180223 b3,.blk 6,cA 65535 b3] .normal ⟨[(1,.c (I6 (IntKind.wrap .i64 (1 + v18)))),(13,.c (.own 76)),(18,.c (.slc 10 0 (List.length b36.1) (List.map S_Buffer.cs b36.1))),(19,.c (BL b36.2.1)),(42,.c (I6 0))],[(76,.row 70 1 (List.length b36.2.2) (List.map (ecS 11 S_Switch.cs) b36.2.2))]⟩) kr kr ?_; replace h := bindO h; obtain ⟨y87,hl10,hK10⟩ := h; refine TS_loopB (F_top_TopRelays_l10 v18 b36) (fI [1,13,18,19,42] [76]) (fun (s85 : Bool × Int) => [(1,.c (I6 (IntKind.wrap .i64 (1 + v18)))),(13,.c (.own 76)),(18,.c (.slc 10 0 (List.length b36.1) (List.map S_Buffer.cs b36.1))),(19,.c (BL s85.1)),(42,.c (I6 s85.2))]) (fun (s85 : Bool × Int) => [(76,.row 70 1 (List.length b36.2.2) (List.map (ecS 11 S_Switch.cs) b36.2.2))]) (b36.2.1,0) y87 (.exit 6) (fun (b : Bool) => b) (fI [18,19] []) (fun (b86 : Bool) => [(18,.c (.slc 10 0 (List.length b36.1) (List.map S_Buffer.cs b36.1))),(19,.c (BL b86))]) (fun (b86 : Bool) => []) hl10 kr kr ?_ ?_
            · intro s85 x h hy10; unfold F_top_TopRelays_l10 at h; refine TS_go 7 ?_; replace h := condO h; rcases h with ⟨hb88,h⟩ | ⟨hb88,h⟩
              · refine TS_know 261 (b := true) hb88 kr kr ?_; refine TS_T kr rfl ?_; refine TS_go 6 ?_; replace h := condT h; obtain ⟨hb89,h⟩ := h; refine TS_know 19 (b := true) hb89 kr kr ?_; refine TS_know 264 (b := true) hb89 kr kr ?_; refine TS_know 265 (b := true) hb89 kr kr ?_; refine TS_go 2 ?_; replace h := bindO h; obtain ⟨_e90,he90,h⟩ := h; refine TS_idxR 76 1 0 (ecS 11 S_Switch.cs) .whole he90 kr kr ?_; replace h := bindO h; obtain ⟨e91,he91,h⟩ := h; refine TS_ldE 70 (0 + Int.toNat s85.2) 0 (ecS 11 S_Switch.cs) (v := .c (.slc 11 0 (List.length e91) (List.map S_Switch.cs e91))) he91 kr kr kr ?_; refine TS_go 11 ?_; have ret := Option.some.inj h; subst ret; exact TS_againB _ (fI [1,13,18,19,42] [76]) rfl kr kr
              refine TS_know 261 (b := false) hb88 kr kr ?_; refine TS_F kr rfl ?_; refine TS_go 2 ?_; have ret := Option.some.inj h; subst ret; exact TS_brkB s85.1 (fI [18,19] []) rfl kr kr kr
            intro b86 hb; subst y87; have h := hK10; refine TS_go 3 ?_; replace h := bindO h; obtain ⟨v93,hv93,h⟩ := h; refine TS_call [] (ok_top_sane  v93 hv93) kr kr ?_; refine TS_go 1 ?_; replace h := condT h; obtain ⟨hb94,h⟩ := h; subst hb94; refine TS_go 3 ?_; replace h := condT h; obtain ⟨hb95,h⟩ := h; subst hb95; refine TS_go 7 ?_; have ret := Option.some.inj h; subst ret; exact TS_ret kr kr kr
          refine TS_go 3 ?_; refine TS_cut (fI [0,6,7,2000001,53] [2044,6,7]) (.mk [oA 319 b7 1,cA 447 b7] .normal ⟨[(0,bx 2044),(6,bx 6),(7,bx 7),(2000001,.c (I6 a1)),(53,bx 2044)],[(2044,.box [.slc 1 0 (List.length v14.1.l) (List.map (ecI .i64) v14.1.l),I6 v14.1.at_]),(6,.box ([U8 0,U3 0] ++ List.replicate 34 (U8 0) ++ [U1 0,U1 0,.lit (.slice none 0 0)])),(7,.box ([U8 v14.2.Class,U3 v14.2.Flow,U8 v14.2.Next,U8 v14.2.Hops] ++ getsL .u8 v14.2.Src 0 16 ++ getsL .u8 v14.2.Dst 0 16 ++ [U1 v14.2.SrcPort,U1 v14.2.DstPort,.slc 1 0 (List.length v14.2.Payload) (List.map (ecI .u8) v14.2.Payload)]))]⟩) kr kr ?_; refine TS_bump 2000 kr ?_; refine TS_inl 11 Tryz.func37 rfl rfl kr (fun K113 => ?_); refine TS_go 8 ?_; replace h := bindO h; obtain ⟨v96,hv96,h⟩ := h; refine TS_con [] [] (some (4044,0)) (ok_made_Tape_Next v14.1 12 v96 hv96) kr kr kr ?_; refine TS_go 6 ?_; refine TS_inlR kr kr ?_; refine TS_go 1 ?_; replace h := condO h; rcases h with ⟨hb97,h⟩ | ⟨hb97,h⟩
          · refine TS_know 54 (b := true) hb97 kr kr ?_; refine TS_T kr rfl ?_; refine TS_pad ?_; refine TS_go 5 ?_; replace h := bindO h; obtain ⟨v98,hv98,h⟩ := h; refine TS_call [[0,0,0,0,0,0,0,0,0,0,0,0,0,0,0,0,0,0,0,0,0,0,0,0,0,0,0,0,0,0,0,0,0,0,0,0,0,0,2]] (ok_ref13_Size (S_Packet.mk 0 0 v14.2.Next 0 [0,0,0,0,0,0,0,0,0,0,0,0,0,0,0,0] [0,0,0,0,0,0,0,0,0,0,0,0,0,0,0,0] 0 0 ([] : List Int)) v98 hv98) kr kr ?_; refine TS_go 2 ?_; replace h := bindO h; obtain ⟨v99,hv99,h⟩ := h; refine TS_con [] [] (some (4044,0)) (ok_made_Tape_Next v96.2 2 v99 hv99) kr kr kr ?_; refine TS_go 1 ?_; refine TS_cut (fI [6,7,2000001,55,63] [4044,2006,2007]) (.mk [oA 703 b7 9,.ops #[] []] .normal ⟨[(6,bx 2006),(7,bx 2007),(2000001,.c (I6 a1)),(55,bx 4044),(63,.c (I6 (IntKind.wrap .i64 ((IntKind.wrap .i64 (1280 - v98)) - v99.1))))],[(4044,.box [.slc 1 0 (List.length v99.2.l) (List.map (ecI .i64) v99.2.l),I6 v99.2.at_]),(2006,.box ([U8 0,U3 0] ++ List.replicate 34 (U8 0) ++ [U1 0,U1 0,.lit (.slice none 0 0)])),(2007,.box ([U8 v14.2.Class,U3 v14.2.Flow,U8 v14.2.Next,U8 v14.2.Hops] ++ getsL .u8 v14.2.Src 0 16 ++ getsL .u8 v14.2.Dst 0 16 ++ [U1 v14.2.SrcPort,U1 v14.2.DstPort,.slc 1 0 (List.length v14.2.Payload) (List.map (ecI .u8) v14.2.Payload)]))]⟩) kr kr ?_; refine TS_bump 2000 kr ?_; refine TS_inl 37 Tryz.func40 rfl rfl kr (fun K112 => ?_); refine TS_go 7 ?_; replace h := bindO h; obtain ⟨v100,hv100,h⟩ := h; refine TS_con [] [] (some (6044,0)) (ok_made_Tape_Next v99.2 256 v100 hv100) kr kr kr ?_; refine TS_go 2 ?_; replace h := bindO h; obtain ⟨v101,hv101,h⟩ := h; refine TS_con [] [] (some (6044,0)) (ok_made_Tape_Next v100.2 256 v101 hv101) kr kr kr ?_; refine TS_go 2 ?_; replace h := bindO h; obtain ⟨v102,hv102,h⟩ := h; refine TS_con [] [] (some (6044,0)) (ok_made_Tape_Next v101.2 256 v102 hv102) kr kr kr ?_; refine TS_go 8 ?_; replace h := bindO h; obtain ⟨n103,hn103,h⟩ := h; refine TS_makeR 19 5 1 (ecI .u8) (0 : Int) [] (cs := [U8 0]) (l := IntKind.wrap .i64 ((IntKind.wrap .i64 (1280 - v98)) - v99.1)) (c := IntKind.wrap .i64 ((IntKind.wrap .i64 (1280 - v98)) - v99.1)) hn103 kr kr kr ?_; refine TS_go 8 ?_; refine TS_cut (fI [1,2000006,2000007,4000001,5,6,7] [4006,4007,5,19]) (.mk [cA 87 b40,.blk 0,cA 31 b40] .normal ⟨[(1,.c (I6 (IntKind.wrap .i64 ((IntKind.wrap .i64 (1280 - v98)) - v99.1)))),(2000006,bx 4006),(2000007,bx 4007),(4000001,.c (I6 a1)),(5,bx 5),(6,.c (.own 19)),(7,.c (I6 0))],[(4006,.box ([U8 0,U3 0] ++ List.replicate 34 (U8 0) ++ [U1 0,U1 0,.lit (.slice none 0 0)])),(4007,.box ([U8 v14.2.Class,U3 v14.2.Flow,U8 v14.2.Next,U8 v14.2.Hops] ++ getsL .u8 v14.2.Src 0 16 ++ getsL .u8 v14.2.Dst 0 16 ++ [U1 v14.2.SrcPort,U1 v14.2.DstPort,.slc 1 0 (List.length v14.2.Payload) (List.map (ecI .u8) v14.2.Payload)])),(5,.box [U8 (IntKind.wrap .u8 v100.1),U8 (IntKind.wrap .u8 v101.1),U8 0,U8 (IntKind.wrap .u8 v102.1),U8 7]),(19,.row 5 1 (List.length (List.replicate n103 (0 : Int))) (List.map (ecI .u8) (List.replicate n103 (0 : Int))))]⟩) kr kr ?_; replace h := bindO h; obtain ⟨y106,hl11,hK11⟩ := h; refine TS_loopB (F_top_TopRelays_l11 v98 v99 v100 v101 v102) (fI [1,5,6,7,2000006,2000007,4000001] [5,19,4006,4007]) (fun (s104 : Int × (List Int)) => [(1,.c (I6 (IntKind.wrap .i64 ((IntKind.wrap .i64 (1280 - v98)) - v99.1)))),(5,bx 5),(6,.c (.own 19)),(7,.c (I6 s104.1)),(2000006,bx 4006),(2000007,bx 4007),(4000001,.c (I6 a1))]) (fun (s104 : Int × (List Int)) => [(5,.box [U8 (IntKind.wrap .u8 v100.1),U8 (IntKind.wrap .u8 v101.1),U8 0,U8 (IntKind.wrap .u8 v102.1),U8 7]),(19,.row 5 1 (List.length s104.2) (List.map (ecI .u8) s104.2)),(4006,.box ([U8 0,U3 0] ++ List.replicate 34 (U8 0) ++ [U1 0,U1 0,.lit (.slice none 0 0)])),(4007,.box ([U8 v14.2.Class,U3 v14.2.Flow,U8 v14.2.Next,U8 v14.2.Hops] ++ getsL .u8 v14.2.Src 0 16 ++ getsL .u8 v14.2.Dst 0 16 ++ [U1 v14.2.SrcPort,U1 v14.2.DstPort,.slc 1 0 (List.length v14.2.Payload) (List.map (ecI .u8) v14.2.Payload)]))]) (0,(List.replicate n103 (0 : Int))) y106 (.exit 0) (fun (b : (List Int)) => b) (fI [6,2000006,2000007,4000001] [19,4006,4007]) (fun (b105 : (List Int)) => [(6,.c (.own 19)),(2000006,bx 4006),(2000007,bx 4007),(4000001,.c (I6 a1))]) (fun (b105 : (List Int)) => [(19,.row 5 1 (List.length b105) (List.map (ecI .u8) b105)),(4006,.box ([U8 0,U3 0] ++ List.replicate 34 (U8 0) ++ [U1 0,U1 0,.lit (.slice none 0 0)])),(4007,.box ([U8 v14.2.Class,U3 v14.2.Flow,U8 v14.2.Next,U8 v14.2.Hops] ++ getsL .u8 v14.2.Src 0 16 ++ getsL .u8 v14.2.Dst 0 16 ++ [U1 v14.2.SrcPort,U1 v14.2.DstPort,.slc 1 0 (List.length v14.2.Payload) (List.map (ecI .u8) v14.2.Payload)]))]) hl11 kr kr ?_ ?_
            · intro s104 x h hy11; unfold F_top_TopRelays_l11 at h; refine TS_go 7 ?_; replace h := condO h; rcases h with ⟨hb107,h⟩ | ⟨hb107,h⟩
              · refine TS_know 22 (b := true) hb107 kr kr ?_; refine TS_T kr rfl ?_; refine TS_go 8 ?_; replace h := chkO h; obtain ⟨hc108,h⟩ := h; refine TS_idxA 5 0 5 (i := Int.tmod s104.1 5) hc108 kr kr ?_; refine TS_ldA .u8 0 5 (i := Int.tmod s104.1 5) [IntKind.wrap .u8 v100.1,IntKind.wrap .u8 v101.1,0,IntKind.wrap .u8 v102.1,7] hc108 kr kr ?_; refine TS_go 4 ?_; replace h := bindO h; obtain ⟨_e109,he109,h⟩ := h; refine TS_idxR 19 1 0 (ecI .u8) .whole he109 kr kr ?_; replace h := bindO h; obtain ⟨_e110,he110,h⟩ := h; refine TS_stE 19 5 1 (List.length s104.2) (0 + Int.toNat s104.1) 0 (ecI .u8) (ds := [U8 (IntKind.wrap .u8 ((List.getD [IntKind.wrap .u8 v100.1,IntKind.wrap .u8 v101.1,0,IntKind.wrap .u8 v102.1,7] (Int.toNat (Int.tmod s104.1 5)) 0) + (IntKind.wrap .u8 (iquo .i64 s104.1 5))))]) (IntKind.wrap .u8 ((List.getD [IntKind.wrap .u8 v100.1,IntKind.wrap .u8 v101.1,0,IntKind.wrap .u8 v102.1,7] (Int.toNat (Int.tmod s104.1 5)) 0) + (IntKind.wrap .u8 (iquo .i64 s104.1 5)))) he110 kr kr kr kr ?_; refine TS_go 7 ?_; have ret := Option.some.inj h; subst ret; exact TS_againB _ (fI [1,5,6,7,2000006,2000007,4000001] [5,19,4006,4007]) rfl kr kr
              refine TS_know 22 (b := false) hb107 kr kr ?_; refine TS_F kr rfl ?_; refine TS_go 2 ?_; have ret := Option.some.inj h; subst ret; exact TS_brkB s104.2 (fI [6,2000006,2000007,4000001] [19,4006,4007]) rfl kr kr kr
            intro b105 hb; subst y106; have h := hK11; refine TS_go 7 ?_; refine TS_inlR kr kr ?_; refine TS_go 3 ?_; refine TS_settle 19 kr ?_; refine TS_go 1 ?_; exact TS_meet (S_Packet.mk v14.2.Class v14.2.Flow v14.2.Next v14.2.Hops v14.2.Src v14.2.Dst v14.2.SrcPort v14.2.DstPort b105) ⟨[(6,[]),(7,[]),(2000001,[])],[(4006,(6,[])),(4007,(7,[0,0,0,0,0,0,0,0,0,0,0,0,0,0,0,0,0,0,0,0,0,0,0,0,0,0,0,0,0,0,0,0,0,0,0,0,0,0,2]))]⟩ h kr kr
          refine TS_know 54 (b := false) hb97 kr kr ?_; refine TS_F kr rfl ?_; refine TS_go 1 ?_; exact TS_meet v14.2 (fJ [6,7,2000001] [(2006,6),(2007,7)]) h kr kr
        refine TS_go 6 ?_; replace h := condO h; rcases h with ⟨hb114,h⟩ | ⟨hb114,h⟩
        · refine TS_know 46 (b := true) hb114 kr kr ?_; refine TS_T kr rfl ?_; refine TS_go 2 ?_; refine TS_cut (fI [0,6,7,2000001,47] [2044,6,7]) (.mk [oA 351 b7 1] .normal ⟨[(0,bx 2044),(6,bx 6),(7,bx 7),(2000001,.c (I6 a1)),(47,bx 2044)],[(2044,.box [.slc 1 0 (List.length v12.1.l) (List.map (ecI .i64) v12.1.l),I6 v12.1.at_]),(6,.box ([U8 0,U3 0] ++ List.replicate 34 (U8 0) ++ [U1 0,U1 0,.lit (.slice none 0 0)])),(7,.box ([U8 v13.Class,U3 v13.Flow,U8 v13.Next,U8 v13.Hops] ++ getsL .u8 v13.Src 0 16 ++ getsL .u8 v13.Dst 0 16 ++ [U1 v13.SrcPort,U1 v13.DstPort,.slc 1 0 (List.length v13.Payload) (List.map (ecI .u8) v13.Payload)]))]⟩) kr kr ?_; refine TS_bump 2000 kr ?_; refine TS_inlJ 20 Tryz.func39 rfl rfl (fI [0,6,7,2000001] [4044,2006,2007]) (fun (v115 : Int × S_multihopmade_Tape) => [(0,bx 4044),(6,bx 2006),(7,bx 2007),(2000001,.c (I6 a1)),(48,.c (U1 v115.1))]) (fun (v115 : Int × S_multihopmade_Tape) => [(4044,.box (S_multihopmade_Tape.cs v115.2)),(2006,.box ([U8 0,U3 0] ++ List.replicate 34 (U8 0) ++ [U1 0,U1 0,.lit (.slice none 0 0)])),(2007,.box ([U8 v13.Class,U3 v13.Flow,U8 v13.Next,U8 v13.Hops] ++ getsL .u8 v13.Src 0 16 ++ getsL .u8 v13.Dst 0 16 ++ [U1 v13.SrcPort,U1 v13.DstPort,.slc 1 0 (List.length v13.Payload) (List.map (ecI .u8) v13.Payload)]))]) (F_top_TopRelays_j12 a1 v13) r kr ?_ (fun K126 => ?_)
          · clear h; intro v115 h; unfold F_top_TopRelays_j12 at h; refine TS_go 1 ?_; refine TS_cut (fI [0,6,7,2000001,48,49] [4044,2006,2007]) (.mk [oA 351 b7 3] .normal ⟨[(0,bx 4044),(6,bx 2006),(7,bx 2007),(2000001,.c (I6 a1)),(48,.c (U1 v115.1)),(49,bx 4044)],[(4044,.box [.slc 1 0 (List.length v115.2.l) (List.map (ecI .i64) v115.2.l),I6 v115.2.at_]),(2006,.box ([U8 0,U3 0] ++ List.replicate 34 (U8 0) ++ [U1 0,U1 0,.lit (.slice none 0 0)])),(2007,.box ([U8 v13.Class,U3 v13.Flow,U8 v13.Next,U8 v13.Hops] ++ getsL .u8 v13.Src 0 16 ++ getsL .u8 v13.Dst 0 16 ++ [U1 v13.SrcPort,U1 v13.DstPort,.slc 1 0 (List.length v13.Payload) (List.map (ecI .u8) v13.Payload)]))]⟩) kr kr ?_; refine TS_bump 2000 kr ?_; refine TS_inlJ 20 Tryz.func39 rfl rfl (fI [0,6,7,48,2000001] [6044,4006,4007]) (fun (v116 : Int × S_multihopmade_Tape) => [(0,bx 6044),(6,bx 4006),(7,bx 4007),(48,.c (U1 v115.1)),(2000001,.c (I6 a1)),(50,.c (U1 v116.1))]) (fun (v116 : Int × S_multihopmade_Tape) => [(6044,.box (S_multihopmade_Tape.cs v116.2)),(4006,.box ([U8 0,U3 0] ++ List.replicate 34 (U8 0) ++ [U1 0,U1 0,.lit (.slice none 0 0)])),(4007,.box ([U8 v13.Class,U3 v13.Flow,U8 v13.Next,U8 v13.Hops] ++ getsL .u8 v13.Src 0 16 ++ getsL .u8 v13.Dst 0 16 ++ [U1 v13.SrcPort,U1 v13.DstPort,.slc 1 0 (List.length v13.Payload) (List.map (ecI .u8) v13.Payload)]))]) (F_top_TopRelays_j13 a1 v13 v115) r kr ?_ (fun K121 => ?_)
            · clear h; intro v116 h; unfold F_top_TopRelays_j13 at h; refine TS_go 5 ?_; exact TS_meet (v116.2,(S_Packet.mk v13.Class v13.Flow v13.Next v13.Hops v13.Src v13.Dst v115.1 v116.1 v13.Payload)) (fJ [0,6,7,2000001] [(6044,2044),(4006,6),(4007,7)]) h kr kr
            refine TS_go 7 ?_; replace h := bindO h; obtain ⟨v117,hv117,h⟩ := h; refine TS_con [] [] (some (6044,0)) (ok_made_Tape_Next v115.2 65536 v117 hv117) kr kr kr ?_; refine TS_go 7 ?_; replace h := bindO h; obtain ⟨v118,hv118,h⟩ := h; refine TS_con [] [] (some (6044,0)) (ok_made_Tape_Next v117.2 3 v118 hv118) kr kr kr ?_; refine TS_go 7 ?_; replace h := condO h; rcases h with ⟨hb119,h⟩ | ⟨hb119,h⟩
            · refine TS_know 10 (b := true) hb119 kr kr ?_; refine TS_know 9 (b := true) hb119 kr kr ?_; refine TS_T kr rfl ?_; refine TS_go 10 ?_; exact TS_inlM (IntKind.wrap .u16 (61616 + (Int.tmod (IntKind.wrap .u16 v117.1) 16)),v118.2) (fI [0,6,7,48,2000001,50] [6044,4006,4007]) h kr kr kr
            refine TS_know 10 (b := false) hb119 kr kr ?_; refine TS_know 9 (b := false) hb119 kr kr ?_; refine TS_F kr rfl ?_; refine TS_go 5 ?_; replace h := condO h; rcases h with ⟨hb120,h⟩ | ⟨hb120,h⟩
            · refine TS_know 15 (b := true) hb120 kr kr ?_; refine TS_know 14 (b := true) hb120 kr kr ?_; refine TS_T kr rfl ?_; refine TS_go 10 ?_; exact TS_inlM (IntKind.wrap .u16 (61440 + (Int.tmod (IntKind.wrap .u16 v117.1) 256)),v118.2) (fI [0,6,7,48,2000001,50] [6044,4006,4007]) h kr kr kr
            refine TS_know 15 (b := false) hb120 kr kr ?_; refine TS_know 14 (b := false) hb120 kr kr ?_; refine TS_F kr rfl ?_; refine TS_go 8 ?_; exact TS_inlM (IntKind.wrap .u16 v117.1,v118.2) (fI [0,6,7,48,2000001,50] [6044,4006,4007]) h kr kr kr
          refine TS_go 7 ?_; replace h := bindO h; obtain ⟨v122,hv122,h⟩ := h; refine TS_con [] [] (some (4044,0)) (ok_made_Tape_Next v12.1 65536 v122 hv122) kr kr kr ?_; refine TS_go 7 ?_; replace h := bindO h; obtain ⟨v123,hv123,h⟩ := h; refine TS_con [] [] (some (4044,0)) (ok_made_Tape_Next v122.2 3 v123 hv123) kr kr kr ?_; refine TS_go 7 ?_; replace h := condO h; rcases h with ⟨hb124,h⟩ | ⟨hb124,h⟩
          · refine TS_know 10 (b := true) hb124 kr kr ?_; refine TS_know 9 (b := true) hb124 kr kr ?_; refine TS_T kr rfl ?_; refine TS_go 10 ?_; exact TS_inlM (IntKind.wrap .u16 (61616 + (Int.tmod (IntKind.wrap .u16 v122.1) 16)),v123.2) (fI [0,6,7,2000001,48] [4044,2006,2007]) h kr kr kr
          refine TS_know 10 (b := false) hb124 kr kr ?_; refine TS_know 9 (b := false) hb124 kr kr ?_; refine TS_F kr rfl ?_; refine TS_go 5 ?_; replace h := condO h; rcases h with ⟨hb125,h⟩ | ⟨hb125,h⟩
          · refine TS_know 15 (b := true) hb125 kr kr ?_; refine TS_know 14 (b := true) hb125 kr kr ?_; refine TS_T kr rfl ?_; refine TS_go 10 ?_; exact TS_inlM (IntKind.wrap .u16 (61440 + (Int.tmod (IntKind.wrap .u16 v122.1) 256)),v123.2) (fI [0,6,7,2000001,48] [4044,2006,2007]) h kr kr kr
          refine TS_know 15 (b := false) hb125 kr kr ?_; refine TS_know 14 (b := false) hb125 kr kr ?_; refine TS_F kr rfl ?_; refine TS_go 8 ?_; exact TS_inlM (IntKind.wrap .u16 v122.1,v123.2) (fI [0,6,7,2000001,48] [4044,2006,2007]) h kr kr kr
        refine TS_know 46 (b := false) hb114 kr kr ?_; refine TS_F kr rfl ?_; refine TS_go 1 ?_; exact TS_meet (v12.1,v13) (fI [0,6,7,2000001] [2044,6,7]) h kr kr
      refine TS_go 4 ?_; replace h := bindO h; obtain ⟨v127,hv127,h⟩ := h; refine TS_call [] (ok_ref04_IsMulticast v12.2.Src v127 hv127) kr kr ?_; refine TS_go 1 ?_; replace h := condO h; rcases h with ⟨hb128,h⟩ | ⟨hb128,h⟩
      · subst hb128; refine TS_T kr rfl ?_; refine TS_go 5 ?_; exact TS_meet (S_Packet.mk v12.2.Class v12.2.Flow v12.2.Next v12.2.Hops [32,(v12.2.Src.getD 1 0),(v12.2.Src.getD 2 0),(v12.2.Src.getD 3 0),(v12.2.Src.getD 4 0),(v12.2.Src.getD 5 0),(v12.2.Src.getD 6 0),(v12.2.Src.getD 7 0),(v12.2.Src.getD 8 0),(v12.2.Src.getD 9 0),(v12.2.Src.getD 10 0),(v12.2.Src.getD 11 0),(v12.2.Src.getD 12 0),(v12.2.Src.getD 13 0),(v12.2.Src.getD 14 0),(v12.2.Src.getD 15 0)] v12.2.Dst v12.2.SrcPort v12.2.DstPort v12.2.Payload) (fI [0,6,7,2000001] [2044,6,7]) h kr kr
      subst hb128; refine TS_F kr rfl ?_; refine TS_go 1 ?_; exact TS_meet v12.2 (fI [0,6,7,2000001] [2044,6,7]) h kr kr
    refine TS_go 3 ?_; refine TS_cut (fI [0,6,7,2000001,33] [2044,6,7]) (.mk [oA 39 b7 1,cA 55 b7] .normal ⟨[(0,bx 2044),(6,bx 6),(7,bx 7),(2000001,.c (I6 a1)),(33,bx 2044)],[(2044,.box [.slc 1 0 (List.length v11.1.l) (List.map (ecI .i64) v11.1.l),I6 v11.1.at_]),(6,.box ([U8 0,U3 0] ++ List.replicate 34 (U8 0) ++ [U1 0,U1 0,.lit (.slice none 0 0)])),(7,.box ([U8 v11.2.Class,U3 v11.2.Flow,U8 v11.2.Next,U8 v11.2.Hops] ++ getsL .u8 v11.2.Src 0 16 ++ getsL .u8 v11.2.Dst 0 16 ++ [U1 v11.2.SrcPort,U1 v11.2.DstPort,.slc 1 0 (List.length v11.2.Payload) (List.map (ecI .u8) v11.2.Payload)]))]⟩) kr kr ?_; refine TS_bump 2000 kr ?_; refine TS_inl 11 Tryz.func37 rfl rfl kr (fun K132 => ?_); refine TS_go 8 ?_; replace h := bindO h; obtain ⟨v129,hv129,h⟩ := h; refine TS_con [] [] (some (4044,0)) (ok_made_Tape_Next v11.1 3 v129 hv129) kr kr kr ?_; refine TS_go 6 ?_; refine TS_inlR kr kr ?_; refine TS_go 1 ?_; replace h := condO h; rcases h with ⟨hb130,h⟩ | ⟨hb130,h⟩
    · refine TS_know 34 (b := true) hb130 kr kr ?_; refine TS_T kr rfl ?_; refine TS_go 2 ?_; replace h := bindO h; obtain ⟨v131,hv131,h⟩ := h; refine TS_con [] [] (some (4044,0)) (ok_made_Tape_Next v129.2 1048576 v131 hv131) kr kr kr ?_; refine TS_go 4 ?_; exact TS_meet (v131.2,(S_Packet.mk v11.2.Class (IntKind.wrap .u32 v131.1) v11.2.Next v11.2.Hops v11.2.Src v11.2.Dst v11.2.SrcPort v11.2.DstPort v11.2.Payload)) (fJ [0,6,7,2000001] [(4044,2044),(2006,6),(2007,7)]) h kr kr
    refine TS_know 34 (b := false) hb130 kr kr ?_; refine TS_F kr rfl ?_; refine TS_go 1 ?_; exact TS_meet (v129.2,v11.2) (fJ [0,6,7,2000001] [(4044,2044),(2006,6),(2007,7)]) h kr kr
  refine TS_go 3 ?_; refine TS_cut (fI [0,2000001,6,7,27] [2044,6,7]) (.mk [oA 19 b7 1,cA 27 b7] .normal ⟨[(0,bx 2044),(2000001,.c (I6 a1)),(6,bx 6),(7,bx 7),(27,bx 2044)],[(2044,.box [.slc 1 0 (List.length v10.2.l) (List.map (ecI .i64) v10.2.l),I6 v10.2.at_]),(6,.box ([U8 0,U3 0] ++ List.replicate 34 (U8 0) ++ [U1 0,U1 0,.lit (.slice none 0 0)])),(7,.box ([U8 0,U3 0,U8 e5,U8 e7] ++ getsL .u8 v8.1 0 16 ++ getsL .u8 v9.1 0 16 ++ [U1 0,U1 0,.slc 1 0 (List.length v10.1) (List.map (ecI .u8) v10.1)]))]⟩) kr kr ?_; refine TS_bump 2000 kr ?_; refine TS_inl 11 Tryz.func37 rfl rfl kr (fun K136 => ?_); refine TS_go 8 ?_; replace h := bindO h; obtain ⟨v133,hv133,h⟩ := h; refine TS_con [] [] (some (4044,0)) (ok_made_Tape_Next v10.2 3 v133 hv133) kr kr kr ?_; refine TS_go 6 ?_; refine TS_inlR kr kr ?_; refine TS_go 1 ?_; replace h := condO h; rcases h with ⟨hb134,h⟩ | ⟨hb134,h⟩
  · refine TS_know 28 (b := true) hb134 kr kr ?_; refine TS_T kr rfl ?_; refine TS_go 2 ?_; replace h := bindO h; obtain ⟨v135,hv135,h⟩ := h; refine TS_con [] [] (some (4044,0)) (ok_made_Tape_Next v133.2 256 v135 hv135) kr kr kr ?_; refine TS_go 4 ?_; exact TS_meet (v135.2,(S_Packet.mk (IntKind.wrap .u8 v135.1) 0 e5 e7 v8.1 v9.1 0 0 v10.1)) (fJ [0,6,7,2000001] [(4044,2044),(2006,6),(2007,7)]) h kr kr
  refine TS_know 28 (b := false) hb134 kr kr ?_; refine TS_F kr rfl ?_; refine TS_go 1 ?_; exact TS_meet (v133.2,(S_Packet.mk 0 0 e5 e7 v8.1 v9.1 0 0 v10.1)) (fJ [0,6,7,2000001] [(4044,2044),(2006,6),(2007,7)]) h kr kr
end
section
open Go.RowKit

theorem beqF {α : Type} [BEq α] [LawfulBEq α] {a b : α} (h : ¬ a = b) : (a == b) = false := by simpa using h
theorem decT {p : Prop} [Decidable p] (h : p) : decide p = true := by simpa using h
theorem decF {p : Prop} [Decidable p] (h : ¬ p) : decide p = false := by simpa using h
theorem wi {x : Int} (h0 : -9223372036854775808 ≤ x) (h1 : x ≤ 9223372036854775807) : IntKind.wrap .i64 x = x := by
  simp [IntKind.wrap, IntKind.bits, IntKind.signed]
  omega
theorem wu {x : Int} (h0 : 0 ≤ x) (h1 : x < 18446744073709551616) : IntKind.wrap .u64 x = x := by
  simp [IntKind.wrap, IntKind.bits, IntKind.signed]
  omega
theorem wu32 {x : Int} (h0 : 0 ≤ x) (h1 : x < 4294967296) : IntKind.wrap .u32 x = x := by
  simp [IntKind.wrap, IntKind.bits, IntKind.signed]
  omega
theorem wu16 {x : Int} (h0 : 0 ≤ x) (h1 : x < 65536) : IntKind.wrap .u16 x = x := by
  simp [IntKind.wrap, IntKind.bits, IntKind.signed]
  omega
theorem wk (k : Nat) (h : k < 9223372036854775807) : IntKind.wrap .i64 ((k : Int) + 1) = ((k + 1 : Nat) : Int) := by
  rw [wi (by omega) (by omega)]; rfl
theorem wrap8 (x : Int) : IntKind.wrap .u8 x = x % 256 := by
  simp [IntKind.wrap, IntKind.bits, IntKind.signed]
theorem wrap16 (x : Int) : IntKind.wrap .u16 x = x % 65536 := by
  simp [IntKind.wrap, IntKind.bits, IntKind.signed]
theorem wrap64 (x : Int) : IntKind.wrap .u64 x = x % 18446744073709551616 := by
  simp [IntKind.wrap, IntKind.bits, IntKind.signed]
theorem wrap8_bd (x : Int) : 0 ≤ IntKind.wrap .u8 x ∧ IntKind.wrap .u8 x ≤ 255 := by rw [wrap8]; omega

section
variable {σ ρ : Type} {step : σ → Option (σ ⊕ ρ)}
theorem loop_done {s : σ} {r : ρ} (h : step s = some (.inr r)) : loopO step s = some r := by rw [loopO_eq, h]
theorem loop_next {s s' : σ} (h : step s = some (.inl s')) : loopO step s = loopO step s' := by rw [loopO_eq, h]
/-- a loop that keeps I and ends with Q -/
theorem loop_inv (I : σ → Prop) (Q : ρ → Prop) (m : σ → Nat) (hs : ∀ s, I s → (∃ s', step s = some (.inl s') ∧ I s' ∧ m s' < m s) ∨ (∃ r, step s = some (.inr r) ∧ Q r)) (s : σ) (h : I s) : ∃ r, loopO step s = some r ∧ Q r := by
  induction hn : m s using Nat.strongRecOn generalizing s with
  | ind n ih =>
    subst hn
    rcases hs s h with ⟨s', h1, h2, h3⟩ | ⟨r, h1, h2⟩
    · obtain ⟨r, hr, hq⟩ := ih (m s') h3 s' h2 rfl
      exact ⟨r, by rw [loop_next h1]; exact hr, hq⟩
    · exact ⟨r, loop_done h1, h2⟩
/-- a loop whose states are known -/
theorem loop_to (S : Nat → σ) (n : Nat) (h : ∀ k, k < n → step (S k) = some (.inl (S (k + 1)))) : loopO step (S 0) = loopO step (S n) := by
  induction n with
  | zero => rfl
  | succ n ih => rw [ih (fun k hk => h k (by omega)), loop_next (h n (by omega))]
theorem loop_run (S : Nat → σ) (n : Nat) {r : ρ} (h : ∀ k, k < n → step (S k) = some (.inl (S (k + 1)))) (he : step (S n) = some (.inr r)) : loopO step (S 0) = some r := by
  rw [loop_to S n h, loop_done he]
end
theorem idx_nat {α : Type} (l : List α) (k : Nat) : idx l (k : Int) = l[k]? := by simp [idx]
theorem idx_lt {α : Type} {l : List α} {k : Nat} (h : k < l.length) : idx l (k : Int) = some l[k] := by rw [idx_nat]; exact List.getElem?_eq_getElem h
theorem idx_int {α : Type} {l : List α} {i : Int} (h0 : 0 ≤ i) (h1 : i < l.length) : idx l i = some (l[i.toNat]'(by omega)) := by
  unfold idx; rw [if_pos h0]; exact List.getElem?_eq_getElem _
theorem appO_some {α : Type} {by_ : Nat} {l1 l2 : List α} (h : (l1.length + l2.length) * by_ ≤ 140737488355328) (h' : l1.length + l2.length ≤ 140737488355328) : appO by_ l1 l2 = some (l1 ++ l2) := by
  unfold appO; rw [if_pos ⟨h, h'⟩]
theorem subO_some {α : Type} {l : List α} {a b : Int} (h0 : 0 ≤ a) (h1 : a ≤ b) (h2 : b ≤ l.length) : subO l a b = some ((l.take b.toNat).drop a.toNat) := by
  unfold subO; rw [if_pos ⟨h0, h1, h2⟩]

theorem arrL_id {n : Nat} {l : List Int} (h : l.length = n) : arrL n l = l := by
  apply List.ext_getElem?
  intro i
  unfold arrL
  rcases Nat.lt_or_ge i n with hi | hi
  · rw [List.getElem?_map, List.getElem?_range hi, List.getElem?_eq_getElem (by omega)]
    simp [List.getD_eq_getElem?_getD, List.getElem?_eq_getElem (show i < l.length by omega)]
  · rw [List.getElem?_eq_none (by simpa using hi), List.getElem?_eq_none (by omega)]
theorem arrEq_iff {n : Nat} {a b : List Int} : arrEq n a b = true ↔ ∀ i, i < n → a.getD i 0 = b.getD i 0 := by
  unfold arrEq
  have : ∀ l : List Nat, (l.foldr (fun i r => (a.getD i 0 == b.getD i 0) && r) true) = true ↔ ∀ i ∈ l, a.getD i 0 = b.getD i 0 := by
    intro l
    induction l with
    | nil => simp
    | cons x l ih => simp only [List.foldr_cons, Bool.and_eq_true, beq_iff_eq, ih, List.mem_cons, forall_eq_or_imp]
  rw [this]
  simp
theorem setA_set {n : Nat} {l : List Int} {i : Nat} {v : Int} (h : l.length = n) : setA n l i v = l.set i v := by
  apply List.ext_getElem?
  intro j
  unfold setA
  rcases Nat.lt_or_ge j n with hj | hj
  · rw [List.getElem?_map, List.getElem?_range hj, List.getElem?_set]
    by_cases hij : i = j
    · subst hij; simp; omega
    · simp [hij, Ne.symm hij, List.getD_eq_getElem?_getD, List.getElem?_eq_getElem (show j < l.length by omega)]
  · rw [List.getElem?_eq_none (by simpa using hj), List.getElem?_eq_none (by simp; omega)]
theorem setA_len (n : Nat) (l : List Int) (i : Nat) (v : Int) : (setA n l i v).length = n := by simp [setA]

theorem getD_get {l : List Int} {i : Nat} (h : i < l.length) : l.getD i 0 = l[i] := by simp [List.getD_eq_getElem?_getD, List.getElem?_eq_getElem h]
theorem getD_mem {p : Int → Prop} {l : List Int} (h : ∀ z ∈ l, p z) (h0 : p 0) (i : Nat) : p (l.getD i 0) := by
  rcases Nat.lt_or_ge i l.length with hi | hi
  · rw [getD_get hi]; exact h _ (List.getElem_mem hi)
  · rw [List.getD_eq_getElem?_getD, List.getElem?_eq_none hi]; exact h0
end
section
open Go.ChangeShapes Go.WideShapes Go.ChangeAt Go.RowKit

theorem own : ownKnob Tryz.prog.godebug = none := by kernel_rfl
theorem laidOut : laidOutB Tryz.prog = true := by kernel_rfl

/-- the arguments read as before -/
theorem trodAll_below {H : Type} {enc : TypeId × Value → H} {P : Program} (hl : laidOutB P = true) {W W' : World} (hb : Below W.heap.size W W') :
    ∀ {ts : List TypeId} {vs : List Value} {ds : List (DataW H)} {ps : List MemPlace}, ts.all (fun t => P.readableRec t && decide (t < P.types.size)) = true →
      DataW.TrodAll enc P W 0 (fun _ => true) true ts vs ds ps → DataW.TrodAll enc P W' 0 (fun b => decide (b < W.heap.size)) true ts vs ds ps
  | [], _, _, _, _, h => by
    obtain ⟨rfl, rfl, rfl⟩ := trodAll_nil h
    exact trodAll_mk0
  | t :: ts, vs, ds, ps, hr, h => by
    obtain ⟨v, vs', d, ds', p, q, rfl, rfl, rfl, h1, h2⟩ := trodAll_cons h
    simp only [List.all_cons, Bool.and_eq_true, decide_eq_true_eq] at hr
    have lt : ∀ x ∈ p, x.block < W.heap.size := by obtain ⟨m, hm⟩ := h1; exact DataW.trod_lt m _ _ _ hm
    exact trodAll_cons_mk (Below.trod hl hr.1.1 hr.1.2 h1 hb lt) (trodAll_below hl hb hr.2 h2)

/-- the reader that sees all -/
def rdAll (w : World) : Rd := fun b o => w.cell? ⟨b, o, none⟩
def env0 : Env := ⟨fun _ => (0, 0), fun _ => (.slice none 0 0, .slice none 0 0)⟩
theorem vrel_lit (rd : Rd) (g : Env) (v : Value) : VRel rd g v (.c (.lit v)) := IRel.lit v
def ArgsOk (rd : Rd) (g : Env) : List Value → List SV → Prop
  | [], [] => True
  | u :: us, x :: xs => VRel rd g u x ∧ ArgsOk rd g us xs
  | _, _ => False
theorem ArgsOk.get {rd : Rd} {g : Env} : ∀ {us : List Value} {xs : List SV}, ArgsOk rd g us xs → us.length = xs.length ∧ ∀ (i : Nat) (x : SV), xs[i]? = some x → ∃ u, us[i]? = some u ∧ VRel rd g u x
  | [], [], _ => ⟨rfl, fun i x h => by simp at h⟩
  | u :: us, y :: xs, h => by
    obtain ⟨h1, h2⟩ := h
    obtain ⟨k1, k2⟩ := h2.get
    refine ⟨by simp [k1], fun i x hx => ?_⟩
    rcases i with _ | i
    · cases hx; exact ⟨u, rfl, h1⟩
    · exact k2 i x (by simpa using hx)
/-- a law that is true -/
theorem con_true {P : Program} {f : FuncId} {args : List SV} (h : Con P f args [] (.c (.lit (.bool true))) []) {W : World} {us : List Value} (ha : ArgsOk (rdAll W) env0 us args) :
    Calls P f us.toArray W fun e w' => e = .returned (.bool true) ∧ Ext W w' := by
  obtain ⟨h1, h2⟩ := ha.get
  have nol : ∀ d (x : Res), look ([] : Hp) d = some x → False := fun d x hx => by simp [look] at hx
  have noin : ∀ g b o, ¬ InFoot g ([] : Hp) b o := by rintro g b o ⟨d, r, hd, _⟩; exact nol _ _ hd
  refine (h (rdAll W) env0 W us.toArray (fun b o v hv => hv) (by simpa using h1) (fun i x hx => by simpa using h2 i x hx) (fun d x hx => (nol d x hx).elim) (fun d d' r r' b o _ hd => (nol _ _ hd).elim) (fun b o hx => (noin _ _ _ hx).elim)).mono ?_
  rintro e w' ⟨u, g', rfl, hk, _, _, _, _, hu⟩
  have hE : Ext W w' := (hk.weak (fun b o x => noin _ _ _ x)).ext
  refine ⟨?_, hE⟩
  have := (hu (rdAll w') (by
    intro b o v hv
    obtain ⟨g, rfl⟩ := hE
    have hb := World.block_lt_of_cell? _ _ hv
    unfold rdAll
    rw [cell_plus _ _ _ _ _ hb]
    exact hv) (fun b o u _ _ hc => hc)).1
  cases this
  rfl
def wfI (k : IntKind) (n : Int) : Prop := (Lit.int k n).wf = true
def Seg (rd : Rd) (cs : List Value) (off n : Nat) (l : List SC) : Prop := l.length = n ∧ ∀ (j : Nat) (y : SC), l[j]? = some y → ∃ u, cs[off + j]? = some u ∧ IRel rd u y
theorem Seg.append {rd : Rd} {cs : List Value} {off n m : Nat} {l l' : List SC} (h : Seg rd cs off n l) (k : Seg rd cs (off + n) m l') : Seg rd cs off (n + m) (l ++ l') := by
  refine ⟨by rw [List.length_append, h.1, k.1], fun j y hy => ?_⟩
  by_cases hj : j < l.length
  · rw [List.getElem?_append_left hj] at hy
    exact h.2 j y hy
  · rw [List.getElem?_append_right (by omega)] at hy
    obtain ⟨u, h1, h2⟩ := k.2 _ y hy
    have h3 := h.1
    refine ⟨u, ?_, h2⟩
    rw [← h1]
    congr 1
    omega

/-- a value of the type t is the shadow of an α -/
def Opens (P : Program) (t : TypeId) {α : Type} (f : α → List SC) (wf : α → Prop) : Prop :=
  ∀ (H : Type) (enc : TypeId × Value → H) (W : World) (fuel : Nat) (cs : List Value) (x : DataW H × List MemPlace), DataW.trod enc P W 0 (fun _ => true) true fuel t cs = some x → ∃ a : α, Seg (rdAll W) cs 0 cs.length (f a) ∧ wf a

theorem opens_int {P : Program} {t : TypeId} {k : IntKind} (ht : P.underlying t = some (.int k)) : Opens P t (ecI k) (wfI k) := by
  intro H enc W fuel cs x h
  obtain ⟨n, rfl, _, hw⟩ := DataW.trod_int ht h
  refine ⟨n, ⟨rfl, fun j y hy => ?_⟩, hw⟩
  rcases j with _ | j
  · simp only [ecI, List.getElem?_cons_zero, Option.some.injEq] at hy
    subst hy
    exact ⟨_, rfl, .lit _⟩
  · simp [ecI] at hy
end
section
open Go.RowKit

def okB (l : List Int) : Prop := ∀ z ∈ l, 0 ≤ z ∧ z ≤ 255
theorem okB_nil : okB [] := fun z h => by simp at h
theorem okB.append {a b : List Int} (ha : okB a) (hb : okB b) : okB (a ++ b) := fun z h => (List.mem_append.1 h).elim (ha z) (hb z)
theorem okB.get {l : List Int} (h : okB l) {i : Nat} (hi : i < l.length) : 0 ≤ l[i] ∧ l[i] ≤ 255 := h _ (List.getElem_mem hi)
theorem okB.take {l : List Int} (h : okB l) (n : Nat) : okB (l.take n) := fun z hz => h z (List.mem_of_mem_take hz)
theorem okB.drop {l : List Int} (h : okB l) (n : Nat) : okB (l.drop n) := fun z hz => h z (List.mem_of_mem_drop hz)
theorem okB.set {l : List Int} (h : okB l) (n : Nat) {v : Int} (hv : 0 ≤ v ∧ v ≤ 255) : okB (l.set n v) := fun z hz => (List.mem_or_eq_of_mem_set hz).elim (h z) (fun e => e ▸ hv)
theorem okB.getD {l : List Int} (h : okB l) (n : Nat) : 0 ≤ l.getD n 0 ∧ l.getD n 0 ≤ 255 := getD_mem (p := fun z => 0 ≤ z ∧ z ≤ 255) h (by omega) n
theorem okB_one {v : Int} (h : 0 ≤ v ∧ v ≤ 255) : okB [v] := fun z hz => by rw [List.mem_singleton.1 hz]; exact h
theorem okB_cons {v : Int} {l : List Int} (h : 0 ≤ v ∧ v ≤ 255) (k : okB l) : okB (v :: l) := fun z hz => (List.mem_cons.1 hz).elim (fun e => e ▸ h) (k z)
theorem ishr_eq {x y : Int} (h0 : 0 ≤ y) (h1 : y < 64) : ishr .u64 x y = x / 2 ^ y.toNat := by
  unfold ishr
  rw [show min y.toNat IntKind.u64.bits = y.toNat by simp [IntKind.bits]; omega]
  exact Int.fdiv_eq_ediv_of_nonneg _ (Int.pow_nonneg (by omega))
theorem ishl_eq {x y : Int} (h0 : 0 ≤ y) (h1 : y < 64) : ishl .u64 x y = (x * 2 ^ y.toNat) % 18446744073709551616 := by
  unfold ishl
  rw [show min y.toNat IntKind.u64.bits = y.toNat by simp [IntKind.bits]; omega, wrap64]
theorem byte_eq {v : Int} {j : Int} (h0 : 0 ≤ j) (h1 : j < 64) : IntKind.wrap .u8 (ishr .u64 v j) = v / 2 ^ j.toNat % 256 := by
  rw [ishr_eq h0 h1, wrap8]
theorem ior_add {x y : Int} (i : Nat) (h0 : 0 ≤ x) (h1 : x < 2 ^ i) (h2 : 0 ≤ y) (h3 : x + y * 2 ^ i < 18446744073709551616) : ior .u64 x (y * 2 ^ i) = x + y * 2 ^ i := by
  obtain ⟨a, rfl⟩ := Int.eq_ofNat_of_zero_le h0
  obtain ⟨b, rfl⟩ := Int.eq_ofNat_of_zero_le h2
  have hp : ((b : Int) * 2 ^ i) = ((b * 2 ^ i : Nat) : Int) := by rw [Int.natCast_mul, Int.natCast_pow]; rfl
  have ha : a < 2 ^ i := by
    have e : ((2 : Int) ^ i) = ((2 ^ i : Nat) : Int) := by rw [Int.natCast_pow]; rfl
    rw [e] at h1
    omega
  rw [hp] at h3 ⊢
  have h3' : a + b * 2 ^ i < 18446744073709551616 := by omega
  unfold ior
  have e1 : (BitVec.ofInt IntKind.u64.bits (a : Int)).toNat = a := by
    rw [BitVec.toNat_ofInt]
    simp only [IntKind.bits]
    omega
  have e2 : (BitVec.ofInt IntKind.u64.bits ((b * 2 ^ i : Nat) : Int)).toNat = b * 2 ^ i := by
    rw [BitVec.toNat_ofInt]
    simp only [IntKind.bits]
    omega
  rw [BitVec.toNat_or, e1, e2, Nat.or_comm, show b * 2 ^ i ||| a = 2 ^ i * b + a by rw [Nat.two_pow_add_eq_or_of_lt ha, Nat.mul_comm]]
  rw [wrap64, Nat.mul_comm]
  omega

def beB (v : Int) (n : Nat) : List Int := (List.range n).map fun i => v / 2 ^ (8 * (n - 1 - i)) % 256
theorem beB_len (v : Int) (n : Nat) : (beB v n).length = n := by simp [beB]
theorem beB_ok (v : Int) (n : Nat) : okB (beB v n) := fun z hz => by
  obtain ⟨i, _, rfl⟩ := List.mem_map.1 hz
  omega
theorem beB_get {v : Int} {n i : Nat} (h : i < n) : (beB v n)[i]? = some (v / 2 ^ (8 * (n - 1 - i)) % 256) := by
  unfold beB
  rw [List.getElem?_map, List.getElem?_range h]; rfl
theorem take_snoc {α : Type} {l : List α} {k : Nat} {x : α} (h : l[k]? = some x) : l.take (k + 1) = l.take k ++ [x] := by
  rw [List.take_add_one, h]; rfl
theorem set_mid {α : Type} (a b : List α) (x y : α) {k : Nat} (h : k = a.length) : (a ++ x :: b).set k y = a ++ y :: b := by
  subst h
  rw [List.set_append_right _ _ (Nat.le_refl _), Nat.sub_self]
  rfl

/-- the number of bytes, the greatest first -/
def beN : List Int → Int := fun l => l.foldl (fun v c => v * 256 + c) 0
theorem beN_snoc (l : List Int) (x : Int) : beN (l ++ [x]) = beN l * 256 + x := by simp [beN]
theorem beN_aux : ∀ (l : List Int) (v : Int), okB l → 0 ≤ v → 0 ≤ l.foldl (fun v c => v * 256 + c) v ∧ l.foldl (fun v c => v * 256 + c) v < (v + 1) * 256 ^ l.length
  | [], v, _, h => by simp; omega
  | x :: l, v, h, hv => by
    have h1 := h x (by simp)
    obtain ⟨a, b⟩ := beN_aux l (v * 256 + x) (fun z hz => h z (by simp [hz])) (by omega)
    refine ⟨a, Int.lt_of_lt_of_le b ?_⟩
    have e : (v + 1) * (256 : Int) ^ (x :: l).length = (v + 1) * 256 * 256 ^ l.length := by
      rw [List.length_cons, Int.pow_succ, Int.mul_comm ((256 : Int) ^ l.length) 256, Int.mul_assoc]
    rw [e]
    exact Int.mul_le_mul_of_nonneg_right (by omega) (Int.pow_nonneg (by omega))
theorem beN_bd {l : List Int} (h : okB l) : 0 ≤ beN l ∧ beN l < 256 ^ l.length := by
  have := beN_aux l 0 h (by omega)
  simpa [beN] using this
end
section
open Go.RowKit

theorem octets_append (a : List Int) (v : Int) (n : Nat) (hn : n ≤ 8) (ha : a.length ≤ 140737488355320) : F_octets_Append a v n = some (a ++ beB v n) := by
  unfold F_octets_Append
  rw [decF (show ¬ (n : Int) < 0 by omega), decF (show ¬ (n : Int) > 8 by omega)]
  simp only [cond_false]
  have e1 : IntKind.wrap .i64 ((a.length : Int) + (n : Int)) = ((a.length + n : Nat) : Int) := by rw [wi (by omega) (by omega)]; rfl
  rw [e1]
  have e2 : mkO 1 ((a.length + n : Nat) : Int) ((a.length + n : Nat) : Int) = some (a.length + n) := by
    unfold mkO
    rw [if_pos ⟨by omega, by omega, by omega, by omega⟩, Int.toNat_natCast]
  rw [e2, Option.bind_some]
  have e3 : cpL (List.replicate (a.length + n) (0 : Int)) 0 (List.length (Cut.app .whole (List.replicate (a.length + n) (0 : Int)))) (Cut.app .whole a) = a ++ (beB v n).take 0 ++ List.replicate (n - 0) 0 := by
    unfold cpL
    simp only [Cut.app, List.length_replicate, List.take_zero, List.nil_append, List.append_nil, Nat.zero_add, Nat.sub_zero]
    rw [show min a.length (a.length + n) = a.length by omega, List.take_length, List.drop_replicate, show a.length + n - a.length = n by omega]
  rw [e3]
  have hl := loop_run (step := F_octets_Append_l1 n a v) (S := fun k => ((k : Int), a ++ (beB v n).take k ++ List.replicate (n - k) 0)) n (r := a ++ beB v n) (fun k hk => by
    unfold F_octets_Append_l1
    dsimp only
    have w1 : IntKind.wrap .i64 ((n : Int) - 1) = (n : Int) - 1 := wi (by omega) (by omega)
    have w2 : IntKind.wrap .i64 ((n : Int) - 1 - (k : Int)) = ((n - 1 - k : Nat) : Int) := by rw [wi (by omega) (by omega)]; omega
    have w3 : IntKind.wrap .i64 (8 * ((n - 1 - k : Nat) : Int)) = ((8 * (n - 1 - k) : Nat) : Int) := by rw [wi (by omega) (by omega)]; omega
    have w4 : IntKind.wrap .i64 ((a.length : Int) + (k : Int)) = ((a.length + k : Nat) : Int) := by rw [wi (by omega) (by omega)]; rfl
    have hlen : (a ++ (beB v n).take k ++ List.replicate (n - k) (0 : Int)).length = a.length + n := by
      simp only [List.length_append, List.length_take, beB_len, List.length_replicate]; omega
    rw [decT (show (k : Int) < (n : Int) by omega), w1, w2, w3, w4, decT (show (0 : Int) ≤ ((8 * (n - 1 - k) : Nat) : Int) by omega)]
    simp only [cond_true, Cut.app, Nat.zero_add, Int.toNat_natCast]
    rw [idx_lt (by omega), Option.bind_some, List.getElem?_eq_getElem (by omega), Option.bind_some, wk k (by omega), byte_eq (by omega) (by omega), Int.toNat_natCast]
    congr 3
    obtain ⟨m, hm⟩ : ∃ m, n - k = m + 1 := ⟨n - k - 1, by omega⟩
    rw [hm, List.replicate_succ, set_mid _ _ _ _ (by simp only [List.length_append, List.length_take, beB_len]; omega), take_snoc (beB_get hk), show n - (k + 1) = m by omega]
    simp) (by
    unfold F_octets_Append_l1
    dsimp only
    rw [decF (show ¬ (n : Int) < (n : Int) by omega)]
    simp only [cond_false]
    rw [List.take_of_length_le (by rw [beB_len]; exact Nat.le_refl _), Nat.sub_self]
    simp)
  simp only [Int.natCast_zero] at hl
  rw [hl]
  rfl
end
section
open Go.RowKit

theorem ior_comm (x y : Int) : ior .u64 x y = ior .u64 y x := by unfold ior; rw [BitVec.or_comm]
theorem be_step {v c : Int} (h0 : 0 ≤ v) (h1 : v < 72057594037927936) (c0 : 0 ≤ c) (c1 : c ≤ 255) : ior .u64 (ishl .u64 v 8) (IntKind.wrap .u64 c) = v * 256 + c := by
  have e : (2 : Int) ^ (8 : Int).toNat = 2 ^ 8 := rfl
  have e2 : (256 : Int) = 2 ^ 8 := rfl
  rw [ishl_eq (by omega) (by omega), wu c0 (by omega), e, Int.emod_eq_of_lt (Int.mul_nonneg h0 (by decide)) (by rw [← e2]; omega), ior_comm, ior_add 8 c0 (by omega) h0 (by rw [← e2]; omega)]
  omega
theorem be_fold (l : List Int) (h : okB l) (h8 : l.length ≤ 8) (k : Nat) (hk : k < l.length) : ior .u64 (ishl .u64 (beN (l.take k)) 8) (IntKind.wrap .u64 l[k]) = beN (l.take (k + 1)) := by
  have hb := beN_bd (h.take k)
  have hl : (l.take k).length = k := by rw [List.length_take]; omega
  have hp : (256 : Int) ^ k ≤ 72057594037927936 := by
    have : k ≤ 7 := by omega
    rcases k with _ | _ | _ | _ | _ | _ | _ | _ | k
    all_goals first | decide | omega
  rw [hl] at hb
  have hx := h.get hk
  rw [be_step hb.1 (by omega) hx.1 hx.2, take_snoc (List.getElem?_eq_getElem hk), beN_snoc]
theorem beN_beB (v : Int) (n : Nat) : beN (beB v n) = v % 256 ^ n := by
  induction n generalizing v with
  | zero => simp [beB, beN, Int.emod_one]
  | succ n ih =>
    have e : beB v (n + 1) = beB (v / 256) n ++ [v % 256] := by
      apply List.ext_getElem?
      intro i
      rcases Nat.lt_trichotomy i n with hi | hi | hi
      · rw [beB_get (by omega), List.getElem?_append_left (by rw [beB_len]; exact hi), beB_get hi]
        congr 2
        rw [show n + 1 - 1 - i = (n - 1 - i) + 1 by omega, Nat.mul_add, Int.pow_add]
        rw [Int.mul_comm, ← Int.ediv_ediv_of_nonneg (by decide)]
        rfl
      · subst hi
        rw [beB_get (by omega), List.getElem?_append_right (by rw [beB_len]; exact Nat.le_refl _), beB_len]
        simp
      · rw [List.getElem?_eq_none (by rw [beB_len]; omega), List.getElem?_eq_none (by simp [beB_len]; omega)]
    rw [e, beN_snoc, ih, Int.pow_succ]
    have h1 := Int.emod_add_mul_ediv v 256
    have h2 := Int.emod_add_mul_ediv (v / 256) (256 ^ n)
    have hp : (0 : Int) < 256 ^ n := Int.pow_pos (by decide)
    have h3 := Int.emod_nonneg (v / 256) (Int.ne_of_gt hp)
    have h4 := Int.emod_lt_of_pos (v / 256) hp
    have h5 := Int.emod_nonneg v (show (256 : Int) ≠ 0 by decide)
    have h6 := Int.emod_lt_of_pos v (show (0 : Int) < 256 by decide)
    have h7 : v = (v / 256 % 256 ^ n * 256 + v % 256) + (256 ^ n * 256) * (v / 256 / 256 ^ n) := by
      have : 256 * (256 ^ n * (v / 256 / 256 ^ n)) = (256 ^ n * 256) * (v / 256 / 256 ^ n) := by
        rw [← Int.mul_assoc, Int.mul_comm (256 : Int) (256 ^ n)]
      omega
    have h8 : (0 : Int) ≤ v / 256 % 256 ^ n * 256 + v % 256 := by omega
    have h9 : v / 256 % 256 ^ n * 256 + v % 256 < 256 ^ n * 256 := by omega
    conv => rhs; rw [h7]
    rw [Int.add_mul_emod_self_left, Int.emod_eq_of_lt h8 h9]
theorem uint_loop {l : List Int} (h : okB l) (h8 : l.length ≤ 8) : loopO (F_octets_Uint_l1 l) (0, 0) = some (beN l) := by
  have hl := loop_run (step := F_octets_Uint_l1 l) (S := fun k => (beN (l.take k), (k : Int))) l.length (r := beN l) (fun k hk => by
    unfold F_octets_Uint_l1
    dsimp only
    rw [decT (show (k : Int) < (l.length : Int) by omega), idx_lt hk]
    simp only [cond_true, Option.bind_some]
    rw [be_fold l h h8 k hk, wk k (by omega)]) (by
    unfold F_octets_Uint_l1
    dsimp only
    rw [decF (show ¬ (l.length : Int) < (l.length : Int) by omega)]
    simp only [cond_false, List.take_length])
  exact hl
/-- octets.Uint within the list -/
theorem uint_some {b : List Int} (h : okB b) (hb : b.length ≤ 1000000000000) (i n : Nat) (h1 : 1 ≤ n) (h8 : n ≤ 8) (hi : i + n ≤ b.length) : F_octets_Uint b i n = some (beN ((b.drop i).take n), true) := by
  unfold F_octets_Uint
  rw [decF (show ¬ (n : Int) < 1 by omega), decF (show ¬ (n : Int) > 8 by omega), decF (show ¬ (i : Int) < 0 by omega), wi (by omega) (by omega), decF (show ¬ (i : Int) > (b.length : Int) - (n : Int) by omega), wi (by omega) (by omega), subO_some (by omega) (by omega) (by omega)]
  simp only [cond_false, Option.bind_some]
  rw [show (b.take ((i : Int) + (n : Int)).toNat).drop (i : Int).toNat = (b.drop i).take n by rw [show ((i : Int) + (n : Int)).toNat = i + n by omega, Int.toNat_natCast, List.drop_take, Nat.add_sub_cancel_left]]
  rw [uint_loop ((h.drop i).take n) (by rw [List.length_take]; omega)]
  rfl
end
section
open Go.RowKit

theorem bind_of {α β : Type} {x : Option α} {v : α} {f : α → Option β} {r : β} (h : x = some v) (hr : f v = some r) : x.bind f = some r := by rw [h]; exact hr
theorem bifT {α : Type} {b : Bool} {x y r : α} (h : b = true) (hr : x = r) : (bif b then x else y) = r := by rw [h]; exact hr
theorem bifF {α : Type} {b : Bool} {x y r : α} (h : b = false) (hr : y = r) : (bif b then x else y) = r := by rw [h]; exact hr
theorem bytes_refl (l : List Int) : F_bytes_Equal l l = some true := by
  unfold F_bytes_Equal
  simp
def key1 : List Int := [17, 18, 19, 20, 21, 22, 23, 24, 25, 26, 27, 28, 29, 30, 31, 32]
theorem crc_in (c : Int) : ∃ r, loopO F_checksum_Extend_l2 (c, 0) = some r := by
  obtain ⟨r, h, _⟩ := loop_inv (step := F_checksum_Extend_l2) (fun s => 0 ≤ s.2 ∧ s.2 ≤ 8) (fun _ => True) (fun s => (8 - s.2).toNat) (by
    rintro ⟨a, j⟩ ⟨j0, j1⟩
    dsimp only at j0 j1
    unfold F_checksum_Extend_l2 F_checksum_Extend_j3
    dsimp only
    by_cases hj : j < 8
    · left
      rw [decT hj, cond_true, wi (show -9223372036854775808 ≤ j + 1 by omega) (by omega)]
      cases (iand .u16 a 1 == 1)
      · exact ⟨_, rfl, ⟨by dsimp only; omega, by dsimp only; omega⟩, by dsimp only; omega⟩
      · exact ⟨_, rfl, ⟨by dsimp only; omega, by dsimp only; omega⟩, by dsimp only; omega⟩
    · right
      rw [decF hj]
      exact ⟨_, rfl, trivial⟩) (c, 0) ⟨by show (0 : Int) ≤ 0; omega, by show (0 : Int) ≤ 8; omega⟩
  exact ⟨r, h⟩
theorem crc_ex {l : List Int} (hl : l.length ≤ 1000) : ∃ v, F_checksum_CRC l = some v := by
  obtain ⟨r, h, _⟩ := loop_inv (step := F_checksum_Extend_l1 l) (fun s => 0 ≤ s.2 ∧ s.2 ≤ l.length) (fun _ => True) (fun s => ((l.length : Int) - s.2).toNat) (by
    rintro ⟨a, j⟩ ⟨j0, j1⟩
    dsimp only at j0 j1
    unfold F_checksum_Extend_l1
    dsimp only
    by_cases hj : j < (l.length : Int)
    · left
      obtain ⟨r, hr⟩ := crc_in (ixor .u16 a (IntKind.wrap .u16 (l[j.toNat]'(by omega))))
      rw [decT hj, cond_true, idx_int j0 hj, wi (show -9223372036854775808 ≤ j + 1 by omega) (by omega)]
      refine ⟨(r, j + 1), bind_of rfl (bind_of hr rfl), ⟨by dsimp only; omega, by dsimp only; omega⟩, by dsimp only; omega⟩
    · right
      rw [decF hj]
      exact ⟨_, rfl, trivial⟩) (0, 0) ⟨by show (0 : Int) ≤ 0; omega, by show (0 : Int) ≤ l.length; omega⟩
  exact ⟨r, bind_of (bind_of h rfl) rfl⟩
theorem little_ex {l : List Int} (hl : l.length ≤ 1000) : ∃ v, F_siphash_little l = some v := by
  obtain ⟨r, h, _⟩ := loop_inv (step := F_siphash_little_l1 l) (fun s => 0 ≤ s.2 ∧ s.2 ≤ l.length) (fun _ => True) (fun s => ((l.length : Int) - s.2).toNat) (by
    rintro ⟨a, j⟩ ⟨j0, j1⟩
    dsimp only at j0 j1
    unfold F_siphash_little_l1
    dsimp only
    by_cases hj : j < (l.length : Int)
    · left
      rw [decT hj, cond_true, idx_int j0 hj, wi (show -9223372036854775808 ≤ j + 1 by omega) (by omega), wi (show -9223372036854775808 ≤ 8 * j by omega) (by omega)]
      refine ⟨(_, j + 1), bind_of rfl (bifT (decT (by omega)) rfl), ⟨by dsimp only; omega, by dsimp only; omega⟩, by dsimp only; omega⟩
    · right
      rw [decF hj]
      exact ⟨_, rfl, trivial⟩) (0, 0) ⟨by show (0 : Int) ≤ 0; omega, by show (0 : Int) ≤ l.length; omega⟩
  exact ⟨r, bind_of h rfl⟩
theorem rot_ex (x k : Int) (h1 : 0 ≤ iand .u64 (IntKind.wrap .u64 k) 63) (h2 : 0 ≤ IntKind.wrap .u64 (64 - iand .u64 (IntKind.wrap .u64 k) 63)) : ∃ v, F_math_bits_RotateLeft64 x k = some v := by
  unfold F_math_bits_RotateLeft64
  rw [decT h1, decT h2]
  exact ⟨_, rfl⟩
theorem rounds_ex (a : List Int) (n : Int) (h0 : 0 ≤ n) (hn : n ≤ 10) : ∃ v, F_siphash_state_rounds a n = some v := by
  obtain ⟨r, h, _⟩ := loop_inv (step := F_siphash_state_rounds_l1 n) (fun s => 0 ≤ s.1 ∧ s.1 ≤ n) (fun _ => True) (fun s => (n - s.1).toNat) (by
    rintro ⟨j, s⟩ ⟨j0, j1⟩
    dsimp only at j0 j1
    unfold F_siphash_state_rounds_l1
    dsimp only
    by_cases hj : j < n
    · left
      rw [decT hj, cond_true, wi (show -9223372036854775808 ≤ j + 1 by omega) (by omega)]
      obtain ⟨a1, e1⟩ := rot_ex (s.getD 1 0) 13 (by decide +kernel) (by decide +kernel)
      rw [e1]; simp only [Option.bind_some]
      obtain ⟨a2, e2⟩ := rot_ex (IntKind.wrap .u64 (s.getD 0 0 + s.getD 1 0)) 32 (by decide +kernel) (by decide +kernel)
      rw [e2]; simp only [Option.bind_some]
      obtain ⟨a3, e3⟩ := rot_ex (s.getD 3 0) 16 (by decide +kernel) (by decide +kernel)
      rw [e3]; simp only [Option.bind_some]
      obtain ⟨a4, e4⟩ := rot_ex (ixor .u64 a3 (IntKind.wrap .u64 (s.getD 2 0 + s.getD 3 0))) 21 (by decide +kernel) (by decide +kernel)
      rw [e4]; simp only [Option.bind_some]
      obtain ⟨a5, e5⟩ := rot_ex (ixor .u64 a1 (IntKind.wrap .u64 (s.getD 0 0 + s.getD 1 0))) 17 (by decide +kernel) (by decide +kernel)
      rw [e5]; simp only [Option.bind_some]
      obtain ⟨a6, e6⟩ := rot_ex (IntKind.wrap .u64 (IntKind.wrap .u64 (s.getD 2 0 + s.getD 3 0) + ixor .u64 a1 (IntKind.wrap .u64 (s.getD 0 0 + s.getD 1 0)))) 32 (by decide +kernel) (by decide +kernel)
      rw [e6]
      exact ⟨_, rfl, ⟨by dsimp only; omega, by dsimp only; omega⟩, by dsimp only; omega⟩
    · right
      rw [decF hj]
      exact ⟨_, rfl, trivial⟩) (0, a) ⟨by show (0 : Int) ≤ 0; omega, by show (0 : Int) ≤ n; omega⟩
  exact ⟨r, bind_of h rfl⟩
theorem mix_ex (a : List Int) (x : Int) : ∃ v, F_siphash_state_mix a x = some v := by
  obtain ⟨r, h⟩ := rounds_ex [(a.getD 0 0), (a.getD 1 0), (a.getD 2 0), ixor .u64 (a.getD 3 0) x] 2 (by omega) (by omega)
  exact ⟨_, bind_of h rfl⟩
theorem sum_ex {k l : List Int} (_hk : k.length = 16) (hl : l.length ≤ 1000) : ∃ v, F_siphash_Sum k l = some v := by
  obtain ⟨v1, e1⟩ := little_ex (l := arrL 8 k) (by simp [arrL])
  obtain ⟨v2, e2⟩ := little_ex (l := [(k.getD 8 0), (k.getD 9 0), (k.getD 10 0), (k.getD 11 0), (k.getD 12 0), (k.getD 13 0), (k.getD 14 0), (k.getD 15 0)]) (by show (8 : Nat) ≤ 1000; omega)
  have eq : iquo .i64 (l.length : Int) 8 = (l.length : Int) / 8 := by
    unfold iquo
    rw [Int.tdiv_eq_ediv_of_nonneg (by omega)]
    exact wi (by omega) (by omega)
  obtain ⟨r, h, _⟩ := loop_inv (step := F_siphash_Sum_l1 l) (fun s => 0 ≤ s.1 ∧ s.1 ≤ (l.length : Int) / 8) (fun _ => True) (fun s => ((l.length : Int) / 8 - s.1).toNat) (by
    rintro ⟨j, s⟩ ⟨j0, j1⟩
    dsimp only at j0 j1
    unfold F_siphash_Sum_l1
    dsimp only
    rw [eq]
    by_cases hj : j < (l.length : Int) / 8
    · left
      rw [decT hj, cond_true, wi (show -9223372036854775808 ≤ j + 1 by omega) (by omega), wi (show -9223372036854775808 ≤ 8 * j by omega) (by omega), wi (show -9223372036854775808 ≤ 8 * j + 8 by omega) (by omega), subO_some (by omega) (by omega) (by omega)]
      simp only [Option.bind_some]
      obtain ⟨w, ew⟩ := little_ex (l := (l.take (8 * j + 8).toNat).drop (8 * j).toNat) (by rw [List.length_drop, List.length_take]; omega)
      obtain ⟨m, em⟩ := mix_ex s w
      exact ⟨(j + 1, m), bind_of ew (bind_of em rfl), ⟨by dsimp only; omega, by dsimp only; omega⟩, by dsimp only; omega⟩
    · right
      rw [decF hj]
      exact ⟨_, rfl, trivial⟩) (0, [ixor .u64 v1 8317987319222330741, ixor .u64 v2 7237128888997146477, ixor .u64 v1 7816392313619706465, ixor .u64 v2 8387220255154660723]) ⟨by show (0 : Int) ≤ 0; omega, by show (0 : Int) ≤ _; omega⟩
  have ew : IntKind.wrap .i64 (8 * ((l.length : Int) / 8)) = 8 * ((l.length : Int) / 8) := wi (by omega) (by omega)
  obtain ⟨v3, e3⟩ := little_ex (l := (l.take ((l.length : Int)).toNat).drop (8 * ((l.length : Int) / 8)).toNat) (by rw [List.length_drop, List.length_take]; omega)
  obtain ⟨m, em⟩ := mix_ex r (ior .u64 v3 (ishl .u64 (IntKind.wrap .u64 (l.length : Int)) 56))
  obtain ⟨f, ef⟩ := rounds_ex [(m.getD 0 0), (m.getD 1 0), ixor .u64 (m.getD 2 0) 255, (m.getD 3 0)] 4 (by omega) (by omega)
  refine ⟨ixor .u64 (ixor .u64 (ixor .u64 (f.getD 0 0) (f.getD 1 0)) (f.getD 2 0)) (f.getD 3 0), ?_⟩
  unfold F_siphash_Sum
  refine bind_of e1 (bind_of e2 (bind_of h ?_))
  rw [eq, ew]
  exact bind_of (subO_some (by omega) (by omega) (by omega)) (bind_of e3 (bind_of em (bind_of ef rfl)))
theorem tag_ex {l : List Int} (hl : l.length ≤ 1000) : ∃ t0 t1 t2 t3, F_siphash_Tag key1 l 4 = some ([t0, t1, t2, t3], true) := by
  obtain ⟨v, hv⟩ := sum_ex (k := key1) rfl hl
  refine ⟨IntKind.wrap .u8 (ishr .u64 v (IntKind.wrap .i64 (8 * 0))), IntKind.wrap .u8 (ishr .u64 v (IntKind.wrap .i64 (8 * 1))), IntKind.wrap .u8 (ishr .u64 v (IntKind.wrap .i64 (8 * 2))), IntKind.wrap .u8 (ishr .u64 v (IntKind.wrap .i64 (8 * 3))), ?_⟩
  unfold F_siphash_Tag
  refine bifF rfl (bifF rfl (bind_of hv (bind_of (v := 4) rfl ?_)))
  exact bind_of (v := [IntKind.wrap .u8 (ishr .u64 v (IntKind.wrap .i64 (8 * 0))), IntKind.wrap .u8 (ishr .u64 v (IntKind.wrap .i64 (8 * 1))), IntKind.wrap .u8 (ishr .u64 v (IntKind.wrap .i64 (8 * 2))), IntKind.wrap .u8 (ishr .u64 v (IntKind.wrap .i64 (8 * 3)))]) (by kernel_rfl) rfl

theorem app_le {α : Type} {by_ : Nat} (l1 l2 : List α) (hb : by_ ≤ 1000) (h : l1.length + l2.length ≤ 100000) : appO by_ l1 l2 = some (l1 ++ l2) := by
  refine appO_some ?_ (by omega)
  calc (l1.length + l2.length) * by_ ≤ 100000 * 1000 := Nat.mul_le_mul h hb
    _ ≤ 140737488355328 := by decide
theorem sub_pre (a b : List Int) (n : Nat) (hn : a.length = n) : subO (a ++ b) (n : Int) ((a ++ b).length : Int) = some b := by
  subst hn
  have hl : (a ++ b).length = a.length + b.length := List.length_append
  rw [subO_some (by omega) (by omega) (by omega), Int.toNat_natCast, Int.toNat_natCast, List.take_length]
  simp
theorem sub_first (a b : List Int) (n : Nat) (hn : a.length = n) : subO (a ++ b) 0 (n : Int) = some a := by
  subst hn
  have hl : (a ++ b).length = a.length + b.length := List.length_append
  rw [subO_some (by omega) (by omega) (by omega)]
  simp
theorem uint_pre (a b : List Int) (n : Nat) (hn : a.length = n) (ha : okB a) (h1 : 1 ≤ n) (h8 : n ≤ 8) (hl : (a ++ b).length ≤ 1000000000000) : F_octets_Uint (a ++ b) 0 (n : Int) = some (beN a, true) := by
  subst hn
  have hab : (a ++ b).length = a.length + b.length := List.length_append
  unfold F_octets_Uint
  rw [decF (show ¬ (a.length : Int) < 1 by omega), decF (show ¬ (a.length : Int) > 8 by omega), decF (show ¬ (0 : Int) < 0 by omega), wi (show -9223372036854775808 ≤ ((a ++ b).length : Int) - (a.length : Int) by omega) (by omega), decF (show ¬ (0 : Int) > ((a ++ b).length : Int) - (a.length : Int) by omega), wi (show -9223372036854775808 ≤ 0 + (a.length : Int) by omega) (by omega)]
  simp only [cond_false, Int.zero_add]
  rw [sub_first a b _ rfl, Option.bind_some, uint_loop ha h8]
  rfl
end
section
open Go.RowKit

theorem okB_lit {l : List Int} (h : l.all (fun z => decide (0 ≤ z ∧ z ≤ 255)) = true) : okB l := fun z hz => by simpa using List.all_eq_true.1 h z hz
theorem beN_one (v : Int) (n : Nat) (h0 : 0 ≤ v) (h1 : v < 256 ^ n) : beN (beB v n) = v := by
  rw [beN_beB, Int.emod_eq_of_lt h0 h1]
def devN (n : Nat) : S_Addr := S_Addr.mk 3 0 (144115188075855872 + n + 1)
theorem dev_s (h : Nat) (hh : h ≤ 1000) : F_top_device (h : Int) = some (devN h) := by
  unfold F_top_device devN
  rw [wi (show -9223372036854775808 ≤ 144115188075855872 + (h : Int) by omega) (by omega), wi (by omega) (by omega), wu (by omega) (by omega)]
theorem addr_refl (a : S_Addr) : S_Addr.eqb a a = true := by unfold S_Addr.eqb; simp
def adB (h : Nat) : List Int := [2, 0, 0, 0, 0, 0, 0, (h : Int) + 1]
theorem adB_eq (h : Nat) (hh : h ≤ 6) : beB (144115188075855872 + h + 1) 8 = adB h := by
  rcases h with _ | _ | _ | _ | _ | _ | _ | h
  all_goals first | (exfalso; omega) | kernel_rfl
theorem adB_N (h : Nat) (hh : h ≤ 6) : beN (adB h) = 144115188075855872 + h + 1 := by
  rw [← adB_eq h hh, beN_one _ _ (by omega) (by omega)]
theorem adB_ok (h : Nat) (hh : h ≤ 6) : okB (adB h) := by
  rw [← adB_eq h hh]
  exact beB_ok _ _
def gX (c : Nat) : S_Guard := S_Guard.mk [S_LinkKey.mk 1 key1] (1 + (c : Int)) 1048576 0 []
def gY (h c : Nat) : S_Guard := S_Guard.mk [S_LinkKey.mk 1 key1] 0 1048576 9 [S_Peer.mk (devN h) 1 (c : Int) 4294967295]
theorem pair_s (h : Nat) (hh : h ≤ 4) : F_top_pair (h : Int) (((h + 1 : Nat) : Int)) = some (gX 0, gY h 0, true) := by
  rcases h with _ | _ | _ | _ | _ | h
  all_goals first | (exfalso; omega) | kernel_rfl
def fr (h : Nat) (p : List Int) : S_Frame := S_Frame.mk 1 true false false 0 1 (devN (h + 1)) (devN h) 0 0 p []
def fs (h c : Nat) (p t : List Int) : S_Frame := S_Frame.mk 1 true false true 0 1 (devN (h + 1)) (devN h) (1 + (c : Int)) 1 p t
theorem gX_valid (c : Nat) (hc : c ≤ 1000) : F_guard_Valid (gX c) = some true := by
  unfold F_guard_Valid
  refine bifF rfl (bind_of (v := true) (by kernel_rfl) (bifT rfl (bifF (decF (show ¬ (1 + (c : Int)) > 1048576 by omega)) (bifF rfl ?_))))
  exact bind_of (v := true) (by kernel_rfl) (bifT rfl (bind_of (v := ()) (by kernel_rfl) rfl))
theorem gY_valid (h c : Nat) : F_guard_Valid (gY h c) = some true := by kernel_rfl
theorem flen_s (n : Nat) (hn : n ≤ 90) : IntKind.wrap .i64 ((IntKind.wrap .i64 ((IntKind.wrap .i64 ((IntKind.wrap .i64 (3 + (n : Int))) + 2)) + (IntKind.wrap .i64 ((IntKind.wrap .i64 (2 + 8)) + 8)))) + (IntKind.wrap .i64 (5 + 4))) = 32 + (n : Int) := by
  rw [wi (show -9223372036854775808 ≤ 3 + (n : Int) by omega) (by omega), wi (show -9223372036854775808 ≤ (2 : Int) + 8 by omega) (by omega), wi (show -9223372036854775808 ≤ (2 : Int) + 8 + 8 by omega) (by omega), wi (show -9223372036854775808 ≤ (5 : Int) + 4 by omega) (by omega), wi (show -9223372036854775808 ≤ 3 + (n : Int) + 2 by omega) (by omega), wi (show -9223372036854775808 ≤ 3 + (n : Int) + 2 + (2 + 8 + 8) by omega) (by omega), wi (by omega) (by omega)]
  omega
theorem flen_0 (n : Nat) (hn : n ≤ 90) : IntKind.wrap .i64 ((IntKind.wrap .i64 ((IntKind.wrap .i64 (3 + (n : Int))) + 2)) + (IntKind.wrap .i64 ((IntKind.wrap .i64 (2 + 8)) + 8))) = 23 + (n : Int) := by
  rw [wi (show -9223372036854775808 ≤ 3 + (n : Int) by omega) (by omega), wi (show -9223372036854775808 ≤ (2 : Int) + 8 by omega) (by omega), wi (show -9223372036854775808 ≤ (2 : Int) + 8 + 8 by omega) (by omega), wi (show -9223372036854775808 ≤ 3 + (n : Int) + 2 by omega) (by omega), wi (by omega) (by omega)]
  omega
theorem fs_len (h c : Nat) (p : List Int) (t0 t1 t2 t3 : Int) (hp : p.length ≤ 90) : F_frame_length (fs h c p [t0, t1, t2, t3]) = some (32 + (p.length : Int)) := by
  unfold F_frame_length F_frame_length_j1
  refine bifT rfl (bind_of (v := 8) rfl (bind_of (v := 8) rfl (bifT rfl ?_)))
  exact congrArg some (flen_s p.length hp)
theorem fs_valid (h c : Nat) (p : List Int) (t0 t1 t2 t3 : Int) (hp : p.length ≤ 90) : F_frame_Valid (fs h c p [t0, t1, t2, t3]) = some true := by
  unfold F_frame_Valid F_frame_Valid_j1 F_frame_validData
  refine bifF rfl (bifT rfl (bifT rfl (bind_of (v := true) ?_ rfl)))
  refine bind_of (v := true) rfl (bifT rfl (bifF rfl (bind_of (v := true) rfl (bifT rfl (bifF rfl ?_)))))
  refine bind_of (v := false) rfl (bifF rfl (bifT rfl ?_))
  refine bind_of (v := false) rfl (bifF rfl (bifT rfl (bifF rfl ?_)))
  exact bind_of (fs_len h c p t0 t1 t2 t3 hp) (congrArg some (decT (by omega)))
theorem fr_valid (h : Nat) (p : List Int) (hp : p.length ≤ 90) : F_frame_Valid (fr h p) = some true := by
  unfold F_frame_Valid F_frame_Valid_j1 F_frame_validData
  refine bifF rfl (bifT rfl (bifT rfl (bind_of (v := true) ?_ rfl)))
  refine bind_of (v := true) rfl (bifT rfl (bifF rfl (bind_of (v := true) rfl (bifT rfl (bifF rfl ?_)))))
  refine bind_of (v := false) rfl (bifF rfl (bifT rfl ?_))
  refine bind_of (v := false) rfl (bifF rfl (bifF rfl (bifF rfl (bifF rfl (bifF rfl ?_)))))
  refine bind_of (v := 23 + (p.length : Int)) ?_ (congrArg some (decT (by omega)))
  unfold F_frame_length F_frame_length_j1
  refine bifT rfl (bind_of (v := 8) rfl (bind_of (v := 8) rfl (bifF rfl ?_)))
  exact congrArg some (flen_0 p.length hp)
/-- the bytes in front of the payload, and those in front of the tag -/
def hd (h c : Nat) : List Int := [104] ++ ([240] ++ ([0] ++ ([0, 1] ++ (adB (h + 1) ++ (adB h ++ (beB (1 + (c : Int)) 4 ++ [1]))))))
def hz (h c : Nat) (p : List Int) : List Int := hd h c ++ p
theorem hd_len (h c : Nat) : (hd h c).length = 26 := by simp [hd, adB, beB_len]
theorem append_s (a : List Int) (h : Nat) (hh : h ≤ 6) (ha : a.length ≤ 100) : F_frame_appendAddr a (devN h) = some (a ++ adB h) := by
  unfold F_frame_appendAddr
  refine bifF rfl (bind_of (v := a ++ adB h) ?_ rfl)
  rw [← adB_eq h hh]
  exact octets_append a (144115188075855872 + h + 1) 8 (by omega) (by omega)
theorem header_j (h c : Nat) (hh : h ≤ 5) (hc : c ≤ 1000) (p t : List Int) (hp : p.length ≤ 90) : F_frame_Header_j1 (fs h c p t) = some (hz h c p) := by
  unfold F_frame_Header_j1
  refine bind_of (v := 32) rfl (bind_of (v := 0) rfl (bind_of (v := 8) rfl (bifT rfl ?_)))
  refine bind_of (v := [104, 240, 0, 0, 1]) (by kernel_rfl) ?_
  refine bind_of (append_s _ (h + 1) (by omega) (by simp)) (bind_of (append_s _ h (by omega) (by simp [adB])) (bifT rfl ?_))
  refine bind_of (v := [104, 240, 0, 0, 1] ++ adB (h + 1) ++ adB h ++ beB (1 + (c : Int)) 4) ?_ ?_
  · rw [show IntKind.wrap .u64 (fs h c p t).Counter = 1 + (c : Int) from wu (show 0 ≤ 1 + (c : Int) by omega) (show 1 + (c : Int) < _ by omega)]
    exact octets_append _ _ 4 (by omega) (by simp [adB])
  refine bind_of (v := [104, 240, 0, 0, 1] ++ adB (h + 1) ++ adB h ++ beB (1 + (c : Int)) 4 ++ [1]) (app_le _ _ (by omega) (by simp [adB, beB_len, Cut.app])) ?_
  refine bind_of (v := hz h c p) ?_ rfl
  refine (app_le _ _ (by omega) ?_).trans ?_
  · show (_ : List Int).length + p.length ≤ _
    simp [adB, beB_len]
    omega
  · show some (_ ++ p) = some (hd h c ++ p)
    simp [hd]
theorem header_s (h c : Nat) (hh : h ≤ 5) (hc : c ≤ 1000) (p : List Int) (hp : p.length ≤ 90) (t0 t1 t2 t3 : Int) : F_frame_Header (fs h c p [t0, t1, t2, t3]) = some (hz h c p) := by
  unfold F_frame_Header
  exact bind_of (fs_valid h c p t0 t1 t2 t3 hp) (bifT rfl (header_j h c hh hc p _ hp))
theorem header_0 (h c : Nat) (hh : h ≤ 5) (hc : c ≤ 1000) (p : List Int) (hp : p.length ≤ 90) : F_frame_Header (fs h c p []) = some (hz h c p) := by
  unfold F_frame_Header
  refine bind_of (v := false) (by kernel_rfl) (bifF rfl (bind_of (v := 4) rfl ?_))
  exact bind_of (fs_valid h c p 0 0 0 0 hp) (bifT rfl (header_j h c hh hc p _ hp))
theorem hz_len (h c : Nat) (p : List Int) : (hz h c p).length = 26 + p.length := by simp [hz, hd_len]
/-- Seal -/
theorem seal_s (h c : Nat) (hh : h ≤ 5) (hc : c ≤ 1000) (p : List Int) (hp : p.length ≤ 90) : ∃ t0 t1 t2 t3, F_siphash_Tag key1 (hz h c p) 4 = some ([t0, t1, t2, t3], true) ∧ F_guard_Seal (gX c) (fr h p) 1 = some (gX (c + 1), fs h c p [t0, t1, t2, t3], 0) := by
  obtain ⟨t0, t1, t2, t3, ht⟩ := tag_ex (l := hz h c p) (by rw [hz_len]; omega)
  refine ⟨t0, t1, t2, t3, ht, ?_⟩
  unfold F_guard_Seal
  refine bind_of (gX_valid c (by omega)) (bifT rfl ?_)
  refine bind_of (fr_valid h p hp) (bifT rfl (bifF rfl (bifF rfl ?_)))
  refine bind_of (v := (key1, true)) (by kernel_rfl) (bifT rfl (bifF ?_ ?_))
  · show ((1 + (c : Int)) == 1048576) = false
    exact beqF (by omega)
  refine bind_of (header_0 h c hh hc p hp) (bind_of ht ?_)
  refine bind_of (fs_valid h c p t0 t1 t2 t3 hp) (bifT rfl ?_)
  refine bind_of (v := p) ?_ ?_
  · unfold F_guard_clone_byte
    exact bind_of (app_le [] p (by omega) (by simp; omega)) rfl
  refine bind_of (v := gX c) (by kernel_rfl) ?_
  show some (S_Guard.mk [S_LinkKey.mk 1 key1] (IntKind.wrap .u32 (1 + (c : Int) + 1)) 1048576 0 [], _, _) = _
  rw [wu32 (by omega) (by omega), show 1 + (c : Int) + 1 = 1 + ((c + 1 : Nat) : Int) by omega]
  rfl
/-- what is sent -/
def bs (h c : Nat) (p : List Int) (t0 t1 t2 t3 v : Int) : List Int := hz h c p ++ [t0, t1, t2, t3] ++ [IntKind.wrap .u8 v, IntKind.wrap .u8 (ishr .u16 v 8)]
theorem bs_len (h c : Nat) (p : List Int) (t0 t1 t2 t3 v : Int) : (bs h c p t0 t1 t2 t3 v).length = 32 + p.length := by simp [bs, hz_len]; omega
theorem fenc (h c : Nat) (hh : h ≤ 5) (hc : c ≤ 1000) (p : List Int) (hp : p.length ≤ 90) (t0 t1 t2 t3 : Int) {v : Int} (hv : F_checksum_CRC (hz h c p ++ [t0, t1, t2, t3]) = some v) : F_frame_Encode (fs h c p [t0, t1, t2, t3]) = some (bs h c p t0 t1 t2 t3 v, 0) := by
  have hl := hz_len h c p
  unfold F_frame_Encode
  refine bind_of (fs_valid h c p t0 t1 t2 t3 hp) (bifT rfl ?_)
  refine bind_of (header_s h c hh hc p hp t0 t1 t2 t3) ?_
  refine bind_of (v := hz h c p ++ [t0, t1, t2, t3]) (app_le _ _ (by omega) (by show (hz h c p).length + 4 ≤ _; omega)) ?_
  refine bind_of (v := bs h c p t0 t1 t2 t3 v) ?_ rfl
  unfold F_checksum_Append
  refine bind_of hv ?_
  have hlen : ((hz h c p ++ [t0, t1, t2, t3]).length : Int) = 30 + (p.length : Int) := by simp [hl]; omega
  rw [hlen, wi (show -9223372036854775808 ≤ 30 + (p.length : Int) + 2 by omega) (by omega)]
  refine bind_of (v := 0) ?_ ?_
  · unfold mkO
    rw [if_pos ⟨by omega, by omega, by omega, by omega⟩]
    rfl
  refine bind_of (v := hz h c p ++ [t0, t1, t2, t3]) (app_le [] _ (by omega) (by simp [hl, Cut.app]; omega)) ?_
  exact bind_of (v := bs h c p t0 t1 t2 t3 v) (app_le _ _ (by omega) (by simp [hl, Cut.app]; omega)) rfl
theorem fparse (h c : Nat) (hh : h ≤ 5) (hc : c ≤ 1000) (p : List Int) (hp : p.length ≤ 90) (t0 t1 t2 t3 : Int) : F_frame_parse (hz h c p ++ [t0, t1, t2, t3]) = some (fs h c p [t0, t1, t2, t3], true) := by
  have e : hz h c p ++ [t0, t1, t2, t3] = [104] ++ ([240] ++ ([0] ++ ([0, 1] ++ (adB (h + 1) ++ (adB h ++ (beB (1 + (c : Int)) 4 ++ ([1] ++ (p ++ [t0, t1, t2, t3])))))))) := by
    simp only [hz, hd, List.append_assoc]
  rw [e]
  have hpt : (p ++ [t0, t1, t2, t3]).length = p.length + 4 := by simp
  unfold F_frame_parse
  refine bind_of (uint_pre [104] _ 1 rfl (okB_lit rfl) (by omega) (by omega) (by simp [adB, beB_len]; omega)) (bifT rfl (bind_of (sub_pre [104] _ 1 rfl) ?_))
  refine bind_of (uint_pre [240] _ 1 rfl (okB_lit rfl) (by omega) (by omega) (by simp [adB, beB_len]; omega)) (bifT rfl (bind_of (sub_pre [240] _ 1 rfl) ?_))
  refine bind_of (uint_pre [0] _ 1 rfl (okB_lit rfl) (by omega) (by omega) (by simp [adB, beB_len]; omega)) (bifT rfl (bind_of (sub_pre [0] _ 1 rfl) (bifT (by kernel_rfl) ?_)))
  refine bind_of (uint_pre [0, 1] _ 2 rfl (okB_lit rfl) (by omega) (by omega) (by simp [adB, beB_len]; omega)) (bifT rfl (bind_of (sub_pre [0, 1] _ 2 rfl) (bifF (by kernel_rfl) (bifT (by kernel_rfl) ?_))))
  refine bind_of (uint_pre (adB (h + 1)) _ 8 rfl (adB_ok _ (by omega)) (by omega) (by omega) (by simp [adB, beB_len]; omega)) (bifT rfl (bind_of (sub_pre (adB (h + 1)) _ 8 rfl) (bifF (by kernel_rfl) (bifT (by kernel_rfl) ?_))))
  refine bind_of (uint_pre (adB h) _ 8 rfl (adB_ok _ (by omega)) (by omega) (by omega) (by simp [adB, beB_len]; omega)) (bifT rfl (bind_of (sub_pre (adB h) _ 8 rfl) (bifT (by kernel_rfl) ?_)))
  refine bind_of (uint_pre (beB (1 + (c : Int)) 4) _ 4 (beB_len _ _) (beB_ok _ _) (by omega) (by omega) (by simp [beB_len]; omega)) (bifT rfl (bind_of (sub_pre (beB (1 + (c : Int)) 4) _ 4 (beB_len _ _)) ?_))
  refine bind_of (uint_pre [1] _ 1 rfl (okB_lit rfl) (by omega) (by omega) (by simp; omega)) (bifT rfl (bind_of (sub_pre [1] _ 1 rfl) ?_))
  have ew : IntKind.wrap .i64 (((p ++ [t0, t1, t2, t3]).length : Int) - 4) = (p.length : Int) := by rw [hpt, wi (by omega) (by omega)]; omega
  rw [ew]
  refine bifF (decF (by omega)) (bind_of (sub_first p _ _ rfl) (bind_of (app_le [] p (by omega) (by simp; omega)) ?_))
  refine bind_of (sub_pre p _ _ rfl) (bind_of (app_le [] [t0, t1, t2, t3] (by omega) (by simp)) ?_)
  have c1 : IntKind.wrap .u32 (beN (beB (1 + (c : Int)) 4)) = 1 + (c : Int) := by
    rw [beN_one _ _ (by omega) (by omega), wu32 (by omega) (by omega)]
  show some (S_Frame.mk _ _ _ _ _ _ (S_Addr.mk _ 0 (beN (adB (h + 1)))) (S_Addr.mk _ 0 (beN (adB h))) (IntKind.wrap .u32 (beN (beB (1 + (c : Int)) 4))) _ ([] ++ p) ([] ++ [t0, t1, t2, t3]), true) = _
  rw [c1, adB_N _ (by omega), adB_N _ (by omega), List.nil_append, List.nil_append]
  rfl
theorem fdec (h c : Nat) (hh : h ≤ 5) (hc : c ≤ 1000) (p : List Int) (hp : p.length ≤ 90) (t0 t1 t2 t3 : Int) {v : Int} (hv : F_checksum_CRC (hz h c p ++ [t0, t1, t2, t3]) = some v) : F_frame_Decode (bs h c p t0 t1 t2 t3 v) = some (fs h c p [t0, t1, t2, t3], 0) := by
  have hl := bs_len h c p t0 t1 t2 t3 v
  have hzl := hz_len h c p
  unfold F_frame_Decode
  refine bifF (decF (by rw [hl]; omega)) (bifF (decF (by rw [hl]; omega)) ?_)
  have ew : IntKind.wrap .i64 (((bs h c p t0 t1 t2 t3 v).length : Int) - 2) = ((hz h c p ++ [t0, t1, t2, t3]).length : Int) := by
    rw [wi (by rw [hl]; omega) (by rw [hl]; omega), hl]
    simp [hzl]
    omega
  have hsub : subO (bs h c p t0 t1 t2 t3 v) 0 ((hz h c p ++ [t0, t1, t2, t3]).length : Int) = some (hz h c p ++ [t0, t1, t2, t3]) := sub_first (hz h c p ++ [t0, t1, t2, t3]) _ _ rfl
  have hzt : (hz h c p ++ [t0, t1, t2, t3]).length = 30 + p.length := by simp [hzl]; omega
  refine bind_of (v := true) ?_ (bifT rfl ?_)
  · unfold F_checksum_Check
    rw [ew]
    refine bifF (decF (by omega)) (bind_of hsub (bind_of hv ?_))
    refine bind_of (v := IntKind.wrap .u8 v) ?_ (bifT (by simp) ?_)
    · rw [idx_nat]
      unfold bs
      rw [List.getElem?_append_right (Nat.le_refl _), Nat.sub_self]
      rfl
    refine bind_of (v := IntKind.wrap .u8 (ishr .u16 v 8)) ?_ (by simp)
    rw [wk _ (by omega), idx_nat]
    unfold bs
    rw [List.getElem?_append_right (by omega), Nat.add_sub_cancel_left]
    rfl
  rw [ew]
  refine bind_of hsub ?_
  refine bind_of (fparse h c hh hc p hp t0 t1 t2 t3) (bifT rfl ?_)
  refine bind_of (fenc h c hh hc p hp t0 t1 t2 t3 hv) (bifF rfl ?_)
  exact bind_of (bytes_refl _) rfl
/-- Open -/
theorem open_s (h c : Nat) (hh : h ≤ 5) (hc : c ≤ 1000) (p : List Int) (hp : p.length ≤ 90) (t0 t1 t2 t3 : Int) (ht : F_siphash_Tag key1 (hz h c p) 4 = some ([t0, t1, t2, t3], true)) : F_guard_Open (gY h c) (fs h c p [t0, t1, t2, t3]) = some (gY h (c + 1), 0) := by
  unfold F_guard_Open
  refine bind_of (gY_valid h c) (bifT rfl ?_)
  refine bind_of (fs_valid h c p t0 t1 t2 t3 hp) (bifT rfl (bifT rfl ?_))
  refine bind_of (v := (key1, true)) (by kernel_rfl) (bifT rfl ?_)
  refine bind_of (header_s h c hh hc p hp t0 t1 t2 t3) ?_
  refine bind_of (v := true) ?_ (bifT rfl ?_)
  · unfold F_siphash_Verify
    exact bind_of ht (bifT rfl (bind_of (bytes_refl _) rfl))
  refine bind_of (v := ()) ?_ ?_
  · refine loop_done ?_
    unfold F_guard_Open_l1
    refine bifT rfl (bind_of (v := S_Peer.mk (devN h) 1 (c : Int) 4294967295) rfl (bind_of (v := 0) ?_ (bifF rfl rfl)))
    rcases h with _ | _ | _ | _ | _ | _ | h
    all_goals first | (exfalso; omega) | kernel_rfl
  refine bind_of (v := gY h c) (by kernel_rfl) ?_
  refine bifT rfl (bind_of (v := S_Peer.mk (devN h) 1 (c : Int) 4294967295) rfl (bifT (addr_refl _) ?_))
  refine bind_of (v := S_Peer.mk (devN h) 1 (c : Int) 4294967295) rfl (bifT rfl ?_)
  refine bind_of (v := S_Peer.mk (devN h) 1 (c : Int) 4294967295) rfl ?_
  refine bind_of (v := (S_Peer.mk (devN h) 1 (1 + (c : Int)) 4294967295, 0)) ?_ (bifF rfl ?_)
  · unfold F_guard_accept
    refine bifT (decT (show 1 + (c : Int) > (c : Int) by omega)) ?_
    show (bif decide (0 ≤ IntKind.wrap .u32 (1 + (c : Int) - (c : Int))) then some (S_Peer.mk (devN h) 1 (1 + (c : Int)) (ior .u32 (ishl .u32 4294967295 (IntKind.wrap .u32 (1 + (c : Int) - (c : Int)))) 1), (0 : Int)) else none) = _
    rw [show 1 + (c : Int) - (c : Int) = 1 by omega]
    kernel_rfl
  refine bind_of (v := S_Peer.mk (devN h) 1 (c : Int) 4294967295) rfl (bind_of (v := S_Peer.mk (devN h) 1 (c : Int) 4294967295) rfl ?_)
  show some (S_Guard.mk _ _ _ _ [S_Peer.mk (devN h) 1 (1 + (c : Int)) 4294967295], (0 : Int)) = some (S_Guard.mk _ _ _ _ [S_Peer.mk (devN h) 1 ((c + 1 : Nat) : Int) 4294967295], (0 : Int))
  rw [show ((c + 1 : Nat) : Int) = 1 + (c : Int) by omega]
  rfl
/-- sealed and opened -/
theorem hop (h c : Nat) (hh : h ≤ 4) (hc : c ≤ 1000) (p : List Int) (hp : p.length ≤ 90) : ∃ b, F_top_sealed (gX c) (h : Int) (((h + 1 : Nat) : Int)) [p] = some (gX (c + 1), [b], true) ∧ F_top_opened (gY h c) b = some (gY h (c + 1), p, true) := by
  obtain ⟨t0, t1, t2, t3, ht, hs⟩ := seal_s h c (by omega) hc p hp
  obtain ⟨v, hv⟩ := crc_ex (l := hz h c p ++ [t0, t1, t2, t3]) (by simp [hz_len]; omega)
  refine ⟨bs h c p t0 t1 t2 t3 v, ?_, ?_⟩
  · unfold F_top_sealed
    refine bind_of (v := ([bs h c p t0 t1 t2 t3 v], gX (c + 1))) ?_ rfl
    rw [loop_next (step := F_top_sealed_l1 [p] ((h + 1 : Nat) : Int) (h : Int)) (s' := ([bs h c p t0 t1 t2 t3 v], 1, gX (c + 1))) (by
      unfold F_top_sealed_l1
      refine bifT rfl (bind_of (dev_s (h + 1) (by omega)) (bind_of (dev_s h (by omega)) (bind_of (v := p) rfl ?_)))
      refine bind_of (show F_guard_Seal (gX c) (fr h p) 1 = _ from hs) ?_
      exact bind_of (fenc h c (by omega) hc p hp t0 t1 t2 t3 hv) (bifF rfl (bifF rfl (bind_of (v := [bs h c p t0 t1 t2 t3 v]) (app_le [] _ (by omega) (by simp [Cut.app])) rfl))))]
    exact loop_done rfl
  · unfold F_top_opened
    exact bind_of (fdec h c (by omega) hc p hp t0 t1 t2 t3 hv) (bifF rfl (bind_of (open_s h c (by omega) hc p hp t0 t1 t2 t3 ht) (bifF rfl rfl)))
end
section
open Go.RowKit

theorem cpL_all (x : List Int) (n : Nat) (h : x.length = n) : cpL (List.replicate n (0 : Int)) 0 (List.length (Cut.app .whole (List.replicate n (0 : Int)))) (Cut.app .whole x) = x := by
  subst h
  unfold cpL
  simp only [Cut.app, List.length_replicate, List.take_zero, List.nil_append, Nat.zero_add, Nat.min_self, List.take_length]
  rw [List.drop_eq_nil_of_le (by simp), List.append_nil]
theorem mkO_len (n : Nat) (h : n ≤ 100000) : mkO 1 (n : Int) (n : Int) = some n := by
  unfold mkO
  rw [if_pos ⟨by omega, by omega, by omega, by omega⟩, Int.toNat_natCast]
/-- a datagram and the number of its pieces -/
structure Dg where
  c : List Int
  M : Nat
structure DgOk (d : Dg) : Prop where
  ok : okB d.c
  m1 : 1 ≤ d.M
  m16 : d.M ≤ 16
  lo : 80 * (d.M - 1) < d.c.length
  hi : d.c.length ≤ 80 * (d.M - 1) + 86
  hi2 : d.M = 1 ∨ d.c.length ≤ 80 * (d.M - 1) + 85
  big : ∀ k, k + 1 < d.M → d.c.length > 80 * k + 86 ∨ (1 ≤ k ∧ d.c.length > 80 * k + 85)
def dlen (d : Dg) (k : Nat) : Nat := if k + 1 < d.M then 80 else d.c.length - 80 * k
def dat (d : Dg) (k : Nat) : List Int := (d.c.drop (80 * k)).take (dlen d k)
def fg (d : Dg) (tag : Int) (k : Nat) : S_Fragment := S_Fragment.mk (d.c.length : Int) tag (80 * (k : Int)) (dat d k)
section
variable {d : Dg} (h : DgOk d)
include h
theorem DgOk.small : d.c.length ≤ 1286 := by
  have := h.m16; have := h.hi; omega
theorem DgOk.at (k : Nat) (hk : k < d.M) : 80 * k < d.c.length := by
  have := h.lo; omega
theorem dlen_le (k : Nat) (hk : k < d.M) : 1 ≤ dlen d k ∧ dlen d k ≤ 86 ∧ (1 ≤ k → dlen d k ≤ 85) ∧ 80 * k + dlen d k ≤ d.c.length := by
  have h1 := h.lo; have h2 := h.hi; have h3 := h.hi2
  unfold dlen
  split
  · omega
  · have : k = d.M - 1 := by omega
    subst this
    omega
theorem dat_len (k : Nat) (hk : k < d.M) : (dat d k).length = dlen d k := by
  have := dlen_le h k hk
  unfold dat
  rw [List.length_take, List.length_drop]
  omega
theorem dat_ok (k : Nat) : okB (dat d k) := (h.ok.drop _).take _
theorem fvalid (tag : Int) (k : Nat) (hk : k < d.M) : F_fragment_Valid (fg d tag k) = some true := by
  have hs := h.small
  have ha := h.at k hk
  have hl := dlen_le h k hk
  have hd := dat_len h k hk
  unfold F_fragment_Valid
  refine bifF (decF (show ¬ (d.c.length : Int) < 1 by omega)) (bifF (decF (show ¬ (d.c.length : Int) > 2047 by omega)) ?_)
  refine bifF (decF (show ¬ 80 * (k : Int) < 0 by omega)) (bifF (decF (show ¬ 80 * (k : Int) ≥ (d.c.length : Int) by omega)) ?_)
  refine bifF ?_ (bifF ?_ ?_)
  · show (Int.tmod (80 * (k : Int)) 8 != 0) = false
    rw [Int.tmod_eq_emod_of_nonneg (by omega), show 80 * (k : Int) % 8 = 0 by omega]
    rfl
  · show (((dat d k).length : Int) == 0) = false
    exact beqF (by rw [hd]; omega)
  have ew : IntKind.wrap .i64 ((fg d tag k).Size - (fg d tag k).Offset) = (d.c.length : Int) - 80 * (k : Int) := wi (show -9223372036854775808 ≤ (d.c.length : Int) - 80 * (k : Int) by omega) (show (d.c.length : Int) - 80 * (k : Int) ≤ _ by omega)
  rw [ew]
  refine bifF (decF (show ¬ ((dat d k).length : Int) > (d.c.length : Int) - 80 * (k : Int) by rw [hd]; omega)) ?_
  show (bif (((dat d k).length : Int) == (d.c.length : Int) - 80 * (k : Int)) then some true else some (Int.tmod ((dat d k).length : Int) 8 == 0)) = some true
  rw [hd]
  by_cases hk2 : k + 1 < d.M
  · have e : dlen d k = 80 := by unfold dlen; rw [if_pos hk2]
    rw [e]
    cases (((80 : Nat) : Int) == (d.c.length : Int) - 80 * (k : Int)) <;> rfl
  · have e : dlen d k = d.c.length - 80 * k := by unfold dlen; rw [if_neg hk2]
    refine bifT ?_ rfl
    rw [e]
    have : ((d.c.length - 80 * k : Nat) : Int) = (d.c.length : Int) - 80 * (k : Int) := by omega
    rw [this]
    simp
end
theorem mask_a : ∀ n : Nat, n < 1300 → iand .u64 (49152 + (n : Int)) 2047 = (n : Int) ∧ iandNot .u64 (49152 + (n : Int)) 2047 = 49152 := by decide +kernel
theorem mask_b : ∀ n : Nat, n < 1300 → iand .u64 (57344 + (n : Int)) 2047 = (n : Int) ∧ iandNot .u64 (57344 + (n : Int)) 2047 = 57344 := by decide +kernel
def mark (k : Nat) : Int := if k = 0 then 49152 else 57344
def offB (k : Nat) : List Int := if k = 0 then [] else [10 * (k : Int)]
def fe (d : Dg) (tag : Int) (k : Nat) : List Int := beB (mark k + (d.c.length : Int)) 2 ++ (beB tag 2 ++ (offB k ++ dat d k))
section
variable {d : Dg} (h : DgOk d)
include h
theorem fe_len (tag : Int) (k : Nat) (hk : k < d.M) : (fe d tag k).length ≤ 90 := by
  have := dlen_le h k hk
  simp only [fe, List.length_append, beB_len, dat_len h k hk, offB]
  split <;> simp <;> omega
theorem fragenc {tag : Int} (t0 : 0 ≤ tag) (t1 : tag ≤ 65535) (k : Nat) (hk : k < d.M) : F_fragment_Encode (fg d tag k) = some (fe d tag k, 0) := by
  have hs := h.small
  have hl := dlen_le h k hk
  have hd := dat_len h k hk
  have hm := h.m16
  unfold F_fragment_Encode
  refine bind_of (fvalid h tag k hk) (bifT rfl ?_)
  have key : ∀ m : Int, m = mark k → F_fragment_Encode_j1 (fg d tag k) m = some (fe d tag k, 0) := by
    rintro m rfl
    have hmk : mark k = 49152 ∨ mark k = 57344 := by unfold mark; split <;> simp
    unfold F_fragment_Encode_j1
    have e1 : IntKind.wrap .u64 (IntKind.wrap .i64 (mark k + (fg d tag k).Size)) = mark k + (d.c.length : Int) := by
      show IntKind.wrap .u64 (IntKind.wrap .i64 (mark k + (d.c.length : Int))) = _
      rw [wi (by omega) (by omega), wu (by omega) (by omega)]
    have e2 : IntKind.wrap .u64 (fg d tag k).Tag = tag := wu t0 (show tag < _ by omega)
    rw [e1, e2]
    refine bind_of (octets_append [] _ 2 (by omega) (by simp)) (bind_of (octets_append _ _ 2 (by omega) (by simp [beB_len])) ?_)
    by_cases hk0 : k = 0
    · subst hk0
      refine bifF (decF (show ¬ 80 * (((0 : Nat)) : Int) > 0 by omega)) ?_
      unfold F_fragment_Encode_j2
      refine bind_of (app_le _ _ (by omega) (by show (_ : List Int).length + (dat d 0).length ≤ _; rw [hd]; simp [beB_len]; omega)) ?_
      show some (([] ++ beB _ 2 ++ beB _ 2) ++ dat d 0, (0 : Int)) = _
      simp [fe, offB]
    · refine bifT (decT (show 80 * (k : Int) > 0 by omega)) ?_
      have e3 : IntKind.wrap .u64 (iquo .i64 (fg d tag k).Offset 8) = 10 * (k : Int) := by
        show IntKind.wrap .u64 (iquo .i64 (80 * (k : Int)) 8) = _
        unfold iquo
        rw [Int.tdiv_eq_ediv_of_nonneg (by omega), show 80 * (k : Int) / 8 = 10 * (k : Int) by omega, wi (by omega) (by omega), wu (by omega) (by omega)]
      rw [e3]
      refine bind_of (octets_append _ _ 1 (by omega) (by simp [beB_len])) ?_
      unfold F_fragment_Encode_j2
      refine bind_of (app_le _ _ (by omega) (by show (_ : List Int).length + (dat d k).length ≤ _; rw [hd]; simp [beB_len]; omega)) ?_
      have e4 : beB (10 * (k : Int)) 1 = [10 * (k : Int)] := by
        simp only [beB, List.range_one, List.map_cons, List.map_nil]
        rw [show (10 * (k : Int)) / 2 ^ (8 * (1 - 1 - 0)) % 256 = 10 * (k : Int) by simp; omega]
      show some (([] ++ beB _ 2 ++ beB _ 2 ++ beB (10 * (k : Int)) 1) ++ dat d k, (0 : Int)) = _
      rw [e4]
      simp [fe, offB, hk0]
  by_cases hk0 : k = 0
  · subst hk0
    exact bifF (decF (show ¬ 80 * (((0 : Nat)) : Int) > 0 by omega)) (key _ rfl)
  · exact bifT (decT (show 80 * (k : Int) > 0 by omega)) (key _ (by unfold mark; rw [if_neg hk0]))
theorem fragdec {tag : Int} (t0 : 0 ≤ tag) (t1 : tag ≤ 65535) (k : Nat) (hk : k < d.M) : F_fragment_Decode (fe d tag k) = some (fg d tag k, 0) := by
  have hs := h.small
  have hl := dlen_le h k hk
  have hd := dat_len h k hk
  have hm := h.m16
  have hmk : mark k = 49152 ∨ mark k = 57344 := by unfold mark; split <;> simp
  have ok1 : okB (fe d tag k) := (beB_ok _ _).append ((beB_ok _ _).append (okB.append (by
    unfold offB
    split
    · exact okB_nil
    · exact okB_one (by omega)) (dat_ok h k)))
  have hfl := fe_len h tag k hk
  have hlen4 : 4 ≤ (fe d tag k).length := by simp only [fe, List.length_append, beB_len]; omega
  unfold F_fragment_Decode
  refine bifF (decF (by omega)) ?_
  refine bind_of (uint_pre (beB (mark k + (d.c.length : Int)) 2) _ 2 (beB_len _ _) (beB_ok _ _) (by omega) (by omega) (by show (fe d tag k).length ≤ _; omega)) ?_
  refine bind_of (v := (tag, true)) ?_ ?_
  · refine (uint_some ok1 (by omega) 2 2 (by omega) (by omega) (by omega)).trans ?_
    have e : ((fe d tag k).drop 2).take 2 = beB tag 2 := by
      unfold fe
      rw [List.drop_append_of_le_length (by rw [beB_len]; omega), List.drop_eq_nil_of_le (by rw [beB_len]; omega), List.nil_append, List.take_append_of_le_length (by rw [beB_len]; omega), List.take_of_length_le (by rw [beB_len]; omega)]
    rw [e, beN_one _ _ t0 (by omega)]
  refine bind_of (v := offB k ++ dat d k) ?_ ?_
  · have e : fe d tag k = (beB (mark k + (d.c.length : Int)) 2 ++ beB tag 2) ++ (offB k ++ dat d k) := by simp [fe]
    rw [e]
    exact sub_pre _ _ 4 (by simp [beB_len])
  have en : beN (beB (mark k + (d.c.length : Int)) 2) = mark k + (d.c.length : Int) := beN_one _ _ (by omega) (by omega)
  have key : F_fragment_Decode_j1 (dat d k, S_Fragment.mk (IntKind.wrap .i64 (d.c.length : Int)) (IntKind.wrap .u16 tag) (80 * (k : Int)) []) = some (fg d tag k, 0) := by
    rw [wi (by omega) (by omega), wu16 t0 (by omega)]
    unfold F_fragment_Decode_j1
    refine bind_of (fvalid h tag k hk) (bifT rfl (bind_of (mkO_len _ (by rw [hd]; omega)) ?_))
    exact congrArg (fun x => some (S_Fragment.mk (d.c.length : Int) tag (80 * (k : Int)) x, (0 : Int))) (cpL_all (dat d k) _ rfl)
  have wt : ((beN (beB (mark k + (d.c.length : Int)) 2), true) : Int × Bool).1 = mark k + (d.c.length : Int) := en
  simp only [en]
  by_cases hk0 : k = 0
  · subst hk0
    have hmk0 : mark 0 = 49152 := rfl
    rw [hmk0, (mask_a d.c.length (by omega)).1, (mask_a d.c.length (by omega)).2]
    refine bifT rfl ?_
    exact key
  · have hmk0 : mark k = 57344 := by unfold mark; rw [if_neg hk0]
    have hoff : offB k = [10 * (k : Int)] := by unfold offB; rw [if_neg hk0]
    rw [hmk0, (mask_b d.c.length (by omega)).1, (mask_b d.c.length (by omega)).2, hoff]
    refine bifF rfl (bifT rfl (bifF (beqF (by simp; omega)) ?_))
    refine bind_of (v := 10 * (k : Int)) rfl (bifF (beqF (by omega)) (bind_of (v := 10 * (k : Int)) rfl ?_))
    refine bind_of (sub_pre [10 * (k : Int)] (dat d k) 1 rfl) ?_
    have e5 : IntKind.wrap .i64 (IntKind.wrap .i64 (10 * (k : Int)) * 8) = 80 * (k : Int) := by
      rw [wi (show -9223372036854775808 ≤ 10 * (k : Int) by omega) (by omega), wi (by omega) (by omega)]
      omega
    rw [e5]
    exact key
end
end
section
open Go.RowKit

theorem cpL_take (x : List Int) (n : Nat) (h : n ≤ x.length) : cpL (List.replicate n (0 : Int)) 0 (List.length (Cut.app .whole (List.replicate n (0 : Int)))) (Cut.app .whole x) = x.take n := by
  unfold cpL
  simp only [Cut.app, List.length_replicate, List.take_zero, List.nil_append, Nat.zero_add]
  rw [Nat.min_eq_right h, List.drop_eq_nil_of_le (by simp), List.append_nil]
def mkDg (c : List Int) : Dg := ⟨c, if c.length ≤ 86 then 1 else (c.length - 6) / 80 + 1⟩
theorem mkDg_ok {c : List Int} (hc : okB c) (h1 : 1 ≤ c.length) (h2 : c.length ≤ 1285) : DgOk (mkDg c) := by
  unfold mkDg
  constructor <;> dsimp only
  · exact hc
  · split <;> omega
  · split <;> omega
  · split <;> omega
  · split <;> omega
  · split <;> omega
  · intro k
    split <;> omega
section
variable {d : Dg} (h : DgOk d)
include h
theorem split_loop : loopO (F_fragment_Split_l1 d.c 7 90) ([], 86, 0) = some ((List.range d.M).map (fg d 7)) := by
  have hs := h.small
  have hm := h.m16
  have hm1 := h.m1
  have hat : ∀ k, k < d.M → 80 * k < d.c.length := h.at
  have hl := loop_run (step := F_fragment_Split_l1 d.c 7 90) (S := fun k => ((List.range k).map (fg d 7), (if k = 0 then (86 : Int) else 85), (if k < d.M then 80 * (k : Int) else (d.c.length : Int)))) d.M (r := (List.range d.M).map (fg d 7)) (fun k hk => by
    have ha := hat k hk
    have hl := dlen_le h k hk
    unfold F_fragment_Split_l1
    dsimp only
    rw [if_pos hk, wi (show -9223372036854775808 ≤ (d.c.length : Int) - 80 * (k : Int) by omega) (by omega)]
    refine bifT (decT (show 80 * (k : Int) < (d.c.length : Int) by omega)) ?_
    have key : ∀ v : Int, v = (dlen d k : Int) → F_fragment_Split_j2 d.c ((List.range k).map (fg d 7), (if k = 0 then (86 : Int) else 85), 80 * (k : Int)) 7 90 v = some (Sum.inl ((List.range (k + 1)).map (fg d 7), (if k + 1 = 0 then (86 : Int) else 85), (if k + 1 < d.M then 80 * (((k + 1 : Nat)) : Int) else (d.c.length : Int)))) := by
      rintro v rfl
      unfold F_fragment_Split_j2
      dsimp only
      refine bind_of (mkO_len _ (by omega)) ?_
      refine bind_of (subO_some (by omega) (by omega) (by omega)) ?_
      rw [Int.toNat_natCast, List.take_length, show (80 * (k : Int)).toNat = 80 * k by omega, cpL_take _ _ (by rw [List.length_drop]; omega)]
      refine bind_of (app_le _ _ (by omega) (by simp [Cut.app]; omega)) ?_
      have e1 : IntKind.wrap .i64 (90 - 5) = 85 := wi (by omega) (by omega)
      have e2 : IntKind.wrap .i64 (80 * (k : Int) + (dlen d k : Int)) = if k + 1 < d.M then 80 * (((k + 1 : Nat)) : Int) else (d.c.length : Int) := by
        rw [wi (by omega) (by omega)]
        unfold dlen
        split <;> omega
      rw [e1, e2, if_neg (show ¬ k + 1 = 0 by omega), List.range_succ, List.map_append]
      rfl
    by_cases hk2 : k + 1 < d.M
    · have hb := h.big k hk2
      have e : dlen d k = 80 := by unfold dlen; rw [if_pos hk2]
      by_cases hk0 : k = 0
      · subst hk0
        rw [if_pos rfl] at key ⊢
        refine bifT (decT (by omega)) (key _ ?_)
        rw [e]
        kernel_rfl
      · rw [if_neg hk0] at key ⊢
        refine bifT (decT (by omega)) (key _ ?_)
        rw [e]
        kernel_rfl
    · have e : dlen d k = d.c.length - 80 * k := by unfold dlen; rw [if_neg hk2]
      have h2 := h.hi
      have h3 := h.hi2
      have hkM : k = d.M - 1 := by omega
      refine bifF (decF ?_) (key _ (by rw [e]; omega))
      split <;> omega) (by
    unfold F_fragment_Split_l1
    dsimp only
    rw [if_neg (Nat.lt_irrefl _), decF (show ¬ (d.c.length : Int) < (d.c.length : Int) by omega)]
    rfl)
  have e0 : ((List.range 0).map (fg d 7), (if (0 : Nat) = 0 then (86 : Int) else 85), (if 0 < d.M then 80 * (((0 : Nat)) : Int) else (d.c.length : Int))) = (([] : List S_Fragment), (86 : Int), (0 : Int)) := by
    rw [if_pos rfl, if_pos (by omega)]
    rfl
  rw [e0] at hl
  exact hl
theorem split_s : F_fragment_Split d.c 7 90 = some ((List.range d.M).map (fg d 7), 0) := by
  have hs := h.small
  have h0 := h.at 0 h.m1
  unfold F_fragment_Split
  refine bifF (decF (by omega)) (bifF (decF (by omega)) (bifF rfl ?_))
  rw [show IntKind.wrap .i64 (90 - 4) = 86 from wi (by omega) (by omega)]
  exact bind_of (split_loop h) rfl
end
end
section
open Go.RowKit

theorem label_refl (a : S_relay_label) : S_relay_label.eqb a a = true := by unfold S_relay_label.eqb; simp [addr_refl]
def tagI (h : Nat) : Int := if h = 0 then 7 else 10 * ((h : Int) - 1) + 1
theorem tagI_succ (h : Nat) : tagI (h + 1) = 10 * (h : Int) + 1 := by
  unfold tagI
  rw [if_neg (by omega)]
  omega
theorem tagI_bd (h : Nat) (hh : h ≤ 10) : 0 ≤ tagI h ∧ tagI h ≤ 65535 := by
  unfold tagI
  split <;> omega
def sw (d : Dg) (h : Nat) (l : Int) : S_Switch := S_Switch.mk (devN h) (tagI h) (devN (h + 2)) (tagI (h + 1)) (d.c.length : Int) l 17
def tab (d : Dg) (h k : Nat) : List S_Switch := if k = 0 ∨ d.M ≤ k then [] else [sw d h ((d.c.length : Int) - 80 * (k : Int))]
theorem place_s (h : Nat) : F_relay_place (devN h) = some true := by kernel_rfl
section
variable {d : Dg} (h : DgOk d)
include h
theorem rvalid_s (n k : Nat) (k0 : 1 ≤ k) (hk : k < d.M) : F_relay_Valid [sw d n ((d.c.length : Int) - 80 * (k : Int))] = some true := by
  have hs := h.small
  have ha := h.at k hk
  unfold F_relay_Valid
  refine bifF rfl ?_
  rw [loop_next (step := F_relay_Valid_l1 [sw d n ((d.c.length : Int) - 80 * (k : Int))]) (s' := (1, [(S_relay_label.mk (devN n) (tagI n), true)], [(S_relay_label.mk (devN (n + 2)) (tagI (n + 1)), true)])) (by
    unfold F_relay_Valid_l1
    refine bifT rfl (bind_of (v := sw d n ((d.c.length : Int) - 80 * (k : Int))) rfl ?_)
    refine bind_of (place_s n) (bifT rfl (bind_of (place_s (n + 2)) (bifT rfl ?_)))
    refine bind_of (v := none) (by kernel_rfl) (bifF rfl (bind_of (v := none) (by kernel_rfl) (bifF rfl ?_)))
    refine bifF (decF (show ¬ (d.c.length : Int) < 1 by omega)) (bifF (decF (show ¬ (d.c.length : Int) > 2047 by omega)) ?_)
    refine bifF (decF (show ¬ (d.c.length : Int) - 80 * (k : Int) < 1 by omega)) (bifF (decF (show ¬ (d.c.length : Int) - 80 * (k : Int) > (d.c.length : Int) by omega)) ?_)
    refine bind_of (v := true) (by kernel_rfl) (bifT rfl (bifT (by kernel_rfl) (bifT (by kernel_rfl) ?_)))
    kernel_rfl)]
  exact bind_of (v := ()) (loop_done (by kernel_rfl)) rfl
theorem rexp_s (n k : Nat) (k0 : 1 ≤ k) (hk : k < d.M) : F_relay_Expire_R [sw d n ((d.c.length : Int) - 80 * (k : Int))] 5 = some ([sw d n ((d.c.length : Int) - 80 * (k : Int))], 0) := by
  unfold F_relay_Expire_R
  refine bind_of (rvalid_s h n k k0 hk) (bifT rfl (bind_of (v := true) (by kernel_rfl) (bifT rfl ?_)))
  refine bind_of (v := [sw d n ((d.c.length : Int) - 80 * (k : Int))]) ?_ rfl
  rw [loop_next (step := F_relay_Expire_R_l1 [sw d n ((d.c.length : Int) - 80 * (k : Int))] 5) (s' := (1, [sw d n ((d.c.length : Int) - 80 * (k : Int))])) (by kernel_rfl)]
  exact loop_done (by kernel_rfl)
/-- what is left behind a piece -/
theorem left_s (k : Nat) (hk : k < d.M) : IntKind.wrap .i64 ((d.c.length : Int) - 80 * (k : Int) - ((dat d k).length : Int)) = if k + 1 < d.M then (d.c.length : Int) - 80 * ((k + 1 : Nat) : Int) else 0 := by
  have hs := h.small
  have ha := h.at k hk
  have hl := dlen_le h k hk
  rw [dat_len h k hk, wi (by omega) (by omega)]
  unfold dlen
  split <;> omega
theorem fwd_first (n : Nat) : F_relay_Forward [] (devN n) (fg d (tagI n) 0) (devN (n + 2)) (tagI (n + 1)) 5 = some (tab d n 1, fg d (tagI (n + 1)) 0, devN (n + 2), 0) := by
  have hs := h.small
  have hk := h.m1
  have hl := dlen_le h 0 hk
  have hd := dat_len h 0 hk
  unfold F_relay_Forward
  refine bind_of (v := true) (by kernel_rfl) (bifT rfl (bind_of (place_s n) (bifT rfl ?_)))
  refine bind_of (fvalid h (tagI n) 0 hk) (bifT rfl (bifT rfl ?_))
  refine bind_of (place_s (n + 2)) (bifT rfl (bind_of (v := ([], 0)) (by kernel_rfl) (bifF rfl ?_)))
  refine bind_of (v := Sum.inl ()) (loop_done rfl) ?_
  show F_relay_Forward_j1 ([], 0) (devN (n + 2)) (tagI (n + 1)) (devN n) (fg d (tagI n) 0) 5 (-1) = _
  unfold F_relay_Forward_j1
  refine bifF rfl (bind_of (v := Sum.inl ()) (loop_done rfl) ?_)
  show F_relay_Forward_j2 ([], 0) (devN n) (fg d (tagI n) 0) (devN (n + 2)) (tagI (n + 1)) 5 (-1) = _
  unfold F_relay_Forward_j2
  refine bifF rfl (bifF rfl ?_)
  refine bind_of (v := [sw d n (d.c.length : Int)]) (by kernel_rfl) ?_
  refine bind_of (v := sw d n (d.c.length : Int)) rfl (bind_of (v := sw d n (d.c.length : Int)) rfl (bind_of (v := sw d n (d.c.length : Int)) rfl ?_))
  refine bind_of (mkO_len (dat d 0).length (by omega)) ?_
  refine bind_of (v := sw d n (d.c.length : Int)) rfl (bind_of (v := sw d n (d.c.length : Int)) rfl ?_)
  have e := left_s h 0 hk
  have e' : IntKind.wrap .i64 ((d.c.length : Int) - ((dat d 0).length : Int)) = if 0 + 1 < d.M then (d.c.length : Int) - 80 * ((0 + 1 : Nat) : Int) else 0 := by
    rw [← e]
    congr 2
  refine bind_of (v := [sw d n (IntKind.wrap .i64 ((d.c.length : Int) - ((dat d 0).length : Int)))]) rfl (bind_of (v := sw d n (IntKind.wrap .i64 ((d.c.length : Int) - ((dat d 0).length : Int)))) rfl ?_)
  have fin : S_Fragment.mk (d.c.length : Int) (tagI (n + 1)) (80 * ((0 : Nat) : Int)) (cpL (List.replicate (dat d 0).length (0 : Int)) 0 (List.length (Cut.app .whole (List.replicate (dat d 0).length (0 : Int)))) (Cut.app .whole (dat d 0))) = fg d (tagI (n + 1)) 0 := by
    rw [cpL_all _ _ rfl]; rfl
  by_cases hM : 0 + 1 < d.M
  · have ht : tab d n 1 = [sw d n (IntKind.wrap .i64 ((d.c.length : Int) - ((dat d 0).length : Int)))] := by
      unfold tab
      rw [if_neg (by omega), e', if_pos hM]
    have hat := h.at 1 (by omega)
    refine bifF (decF ?_) ?_
    · show ¬ IntKind.wrap .i64 ((d.c.length : Int) - ((dat d 0).length : Int)) ≤ 0
      rw [e', if_pos hM]
      omega
    rw [ht, ← fin]
    rfl
  · have ht : tab d n 1 = [] := by
      unfold tab
      rw [if_pos (by omega)]
    refine bifT (decT ?_) ?_
    · show IntKind.wrap .i64 ((d.c.length : Int) - ((dat d 0).length : Int)) ≤ 0
      rw [e', if_neg hM]
      omega
    rw [ht, ← fin]
    refine bifT (by kernel_rfl) (bifF (by kernel_rfl) (bifT (by kernel_rfl) (bifT (by kernel_rfl) (bifT (by kernel_rfl) (bind_of (v := 0) (by kernel_rfl) (bind_of (v := [sw d n (IntKind.wrap .i64 ((d.c.length : Int) - ((dat d 0).length : Int)))]) (by kernel_rfl) (bifT (by kernel_rfl) ?_)))))))
    kernel_rfl
theorem fwd_next (n k : Nat) (k0 : 1 ≤ k) (hk : k < d.M) : F_relay_Forward [sw d n ((d.c.length : Int) - 80 * (k : Int))] (devN n) (fg d (tagI n) k) (devN (n + 2)) (tagI (n + 1)) 5 = some (tab d n (k + 1), fg d (tagI (n + 1)) k, devN (n + 2), 0) := by
  have hs := h.small
  have hl := dlen_le h k hk
  have hd := dat_len h k hk
  unfold F_relay_Forward
  refine bind_of (rvalid_s h n k k0 hk) (bifT rfl (bind_of (place_s n) (bifT rfl ?_)))
  refine bind_of (fvalid h (tagI n) k hk) (bifT rfl (bifF (beqF (show ¬ 80 * (k : Int) = 0 by omega)) ?_))
  refine bind_of (rexp_s h n k k0 hk) (bifF rfl ?_)
  generalize hs0 : sw d n ((d.c.length : Int) - 80 * (k : Int)) = s0
  have hsz : s0.Size = (d.c.length : Int) := by rw [← hs0]; rfl
  refine bind_of (v := Sum.inr 0) (loop_done (by
    unfold F_relay_Forward_l8
    refine bifT rfl (bind_of (v := s0) rfl (bind_of (v := s0) rfl (bifT ?_ rfl)))
    rw [← hs0]
    exact label_refl _)) ?_
  show F_relay_Forward_j6 ([s0], 0) (fg d (tagI n) k) 0 = _
  unfold F_relay_Forward_j6
  refine bifF rfl (bind_of (v := s0) rfl (bind_of (v := s0) rfl (bifF ?_ ?_)))
  · show (s0.Size != (d.c.length : Int)) = false
    rw [hsz]
    simp
  refine bind_of (v := s0) rfl (bind_of (v := s0) rfl (bind_of (v := s0) rfl ?_))
  refine bind_of (mkO_len (dat d k).length (by omega)) ?_
  refine bind_of (v := s0) rfl (bind_of (v := s0) rfl ?_)
  have e := left_s h k hk
  subst hs0
  refine bind_of (v := [sw d n (IntKind.wrap .i64 ((d.c.length : Int) - 80 * (k : Int) - ((dat d k).length : Int)))]) rfl (bind_of (v := sw d n (IntKind.wrap .i64 ((d.c.length : Int) - 80 * (k : Int) - ((dat d k).length : Int)))) rfl ?_)
  have fin : S_Fragment.mk (d.c.length : Int) (tagI (n + 1)) (80 * (k : Int)) (cpL (List.replicate (dat d k).length (0 : Int)) 0 (List.length (Cut.app .whole (List.replicate (dat d k).length (0 : Int)))) (Cut.app .whole (dat d k))) = fg d (tagI (n + 1)) k := by
    rw [cpL_all _ _ rfl]; rfl
  by_cases hM : k + 1 < d.M
  · have ht : tab d n (k + 1) = [sw d n (IntKind.wrap .i64 ((d.c.length : Int) - 80 * (k : Int) - ((dat d k).length : Int)))] := by
      unfold tab
      rw [if_neg (by omega), e, if_pos hM]
    have hat := h.at (k + 1) (by omega)
    refine bifF (decF ?_) ?_
    · show ¬ IntKind.wrap .i64 ((d.c.length : Int) - 80 * (k : Int) - ((dat d k).length : Int)) ≤ 0
      rw [e, if_pos hM]
      omega
    rw [ht, ← fin]
    rfl
  · have ht : tab d n (k + 1) = [] := by
      unfold tab
      rw [if_pos (by omega)]
    refine bifT (decT ?_) ?_
    · show IntKind.wrap .i64 ((d.c.length : Int) - 80 * (k : Int) - ((dat d k).length : Int)) ≤ 0
      rw [e, if_neg hM]
      omega
    rw [ht, ← fin]
    refine bifT (by kernel_rfl) (bifF (by kernel_rfl) (bifT (by kernel_rfl) (bifT (by kernel_rfl) (bifT (by kernel_rfl) (bind_of (v := 0) (by kernel_rfl) (bind_of (v := [sw d n (IntKind.wrap .i64 ((d.c.length : Int) - 80 * (k : Int) - ((dat d k).length : Int)))]) (by kernel_rfl) (bifT (by kernel_rfl) ?_)))))))
    kernel_rfl
/-- a piece is relayed -/
theorem fwd (n k : Nat) (hk : k < d.M) : F_relay_Forward (tab d n k) (devN n) (fg d (tagI n) k) (devN (n + 2)) (tagI (n + 1)) 5 = some (tab d n (k + 1), fg d (tagI (n + 1)) k, devN (n + 2), 0) := by
  by_cases k0 : k = 0
  · subst k0
    exact fwd_first h n
  · have e : tab d n k = [sw d n ((d.c.length : Int) - 80 * (k : Int))] := by
      unfold tab
      rw [if_neg (by omega)]
    rw [e]
    exact fwd_next h n k (by omega) hk
end
end
section
open Go.RowKit

def cov (d : Dg) (i : Nat) : Nat := if i < d.M then 80 * i else d.c.length
def fgs (d : Dg) (tag : Int) (k : Nat) : List S_Fragment := (List.range k).map (fg d tag)
theorem fgs_len (d : Dg) (tag : Int) (k : Nat) : (fgs d tag k).length = k := by simp [fgs]
theorem fgs_get (d : Dg) (tag : Int) {k i : Nat} (hi : i < k) : idx (fgs d tag k) (i : Int) = some (fg d tag i) := by
  rw [idx_lt (by rw [fgs_len]; exact hi)]
  simp [fgs]
theorem cov_at {d : Dg} (i : Nat) (hi : i < d.M) : cov d i = 80 * i := by unfold cov; rw [if_pos hi]
section
variable {d : Dg} (h : DgOk d)
include h
theorem cov_succ (i : Nat) (hi : i < d.M) : cov d (i + 1) = 80 * i + dlen d i := by
  have ha := h.at i hi
  unfold cov dlen
  split <;> omega
theorem join_mark (tag : Int) (i : Nat) (hi : i < d.M) : loopO (F_fragment_Join_l2 (fg d tag i)) (0, List.replicate (80 * i) true ++ List.replicate (d.c.length - 80 * i) false) = some (List.replicate (cov d (i + 1)) true ++ List.replicate (d.c.length - cov d (i + 1)) false) := by
  have hs := h.small
  have hl := dlen_le h i hi
  have hd := dat_len h i hi
  rw [cov_succ h i hi]
  have hr := loop_run (step := F_fragment_Join_l2 (fg d tag i)) (S := fun j => ((j : Int), List.replicate (80 * i + j) true ++ List.replicate (d.c.length - (80 * i + j)) false)) (dlen d i) (r := List.replicate (80 * i + dlen d i) true ++ List.replicate (d.c.length - (80 * i + dlen d i)) false) (fun j hj => by
    unfold F_fragment_Join_l2
    dsimp only
    have e1 : IntKind.wrap .i64 ((fg d tag i).Offset + (j : Int)) = ((80 * i + j : Nat) : Int) := by
      show IntKind.wrap .i64 (80 * (i : Int) + (j : Int)) = _
      rw [wi (by omega) (by omega)]
      omega
    obtain ⟨m, hm⟩ : ∃ m, d.c.length - (80 * i + j) = m + 1 := ⟨d.c.length - (80 * i + j) - 1, by omega⟩
    have hg : (List.replicate (80 * i + j) true ++ List.replicate (d.c.length - (80 * i + j)) false)[80 * i + j]? = some false := by
      rw [List.getElem?_append_right (by simp), hm]
      simp
    refine bifT (decT (show (j : Int) < ((dat d i).length : Int) by rw [hd]; omega)) ?_
    rw [e1]
    simp only [Cut.app, Nat.zero_add, Int.toNat_natCast]
    rw [idx_nat, hg]
    simp only [Option.bind_some, cond_false]
    rw [wk j (by omega), hm, List.replicate_succ, set_mid _ _ _ _ (by simp), show d.c.length - (80 * i + (j + 1)) = m by omega]
    have e2 : List.replicate (80 * i + j) true ++ true :: List.replicate m false = List.replicate (80 * i + (j + 1)) true ++ List.replicate m false := by
      rw [show 80 * i + (j + 1) = (80 * i + j) + 1 by omega, List.replicate_succ']
      simp
    rw [e2]) (by
    unfold F_fragment_Join_l2
    dsimp only
    exact bifF (decF (show ¬ (dlen d i : Int) < ((dat d i).length : Int) by rw [hd]; omega)) rfl)
  exact hr
theorem join_copy (i : Nat) (hi : i < d.M) : cpL (d.c.take (80 * i) ++ List.replicate (d.c.length - 80 * i) (0 : Int)) (80 * i) (d.c.length - 80 * i) (dat d i) = d.c.take (cov d (i + 1)) ++ List.replicate (d.c.length - cov d (i + 1)) 0 := by
  have hl := dlen_le h i hi
  have hd := dat_len h i hi
  have ht : (d.c.take (80 * i)).length = 80 * i := by rw [List.length_take]; omega
  have e : d.c.take (80 * i) ++ dat d i = d.c.take (80 * i + dlen d i) := by
    unfold dat
    rw [List.take_add]
  generalize hA : d.c.take (80 * i) = A at *
  generalize hB : dat d i = B at *
  unfold cpL
  rw [hd, Nat.min_eq_left (by omega), List.take_append_of_le_length (by omega), List.take_of_length_le (by omega), List.take_of_length_le (l := B) (by omega), List.drop_append, ht, List.drop_eq_nil_of_le (by omega), List.nil_append, List.drop_replicate, cov_succ h i hi, e]
  congr 2
  omega
theorem join_loop (tag : Int) (k : Nat) (hk : k ≤ d.M) (k1 : 1 ≤ k) : loopO (F_fragment_Join_l1 (fgs d tag k) (fg d tag 0) (fg d tag 0)) (0, 0, List.replicate d.c.length (0 : Int), List.replicate d.c.length false) = some ((cov d k : Int), d.c.take (cov d k) ++ List.replicate (d.c.length - cov d k) 0) := by
  have hs := h.small
  have hm := h.m16
  have hr := loop_run (step := F_fragment_Join_l1 (fgs d tag k) (fg d tag 0) (fg d tag 0)) (S := fun i => ((cov d i : Int), (i : Int), d.c.take (cov d i) ++ List.replicate (d.c.length - cov d i) (0 : Int), List.replicate (cov d i) true ++ List.replicate (d.c.length - cov d i) false)) k (r := ((cov d k : Int), d.c.take (cov d k) ++ List.replicate (d.c.length - cov d k) 0)) (fun i hi => by
    have hi2 : i < d.M := by omega
    have hl := dlen_le h i hi2
    have hd := dat_len h i hi2
    have hci := cov_at i hi2
    have hcs := cov_succ h i hi2
    have hbl : (d.c.take (80 * i) ++ List.replicate (d.c.length - 80 * i) (0 : Int)).length = d.c.length := by
      rw [List.length_append, List.length_take, List.length_replicate]; omega
    unfold F_fragment_Join_l1
    dsimp only
    rw [fgs_len, hci]
    refine bifT (decT (by omega)) (bind_of (fgs_get d tag hi) (bind_of (fvalid h tag i hi2) (bifT rfl (bifF (by show ((d.c.length : Int) != (d.c.length : Int)) = false; simp) (bifF (by show (tag != tag) = false; simp) ?_)))))
    refine bind_of (join_mark h tag i hi2) ?_
    rw [hbl]
    have eo : ((fg d tag i).Offset).toNat = 80 * i := by show (80 * (i : Int)).toNat = _; omega
    refine bifT (decT ⟨show (0 : Int) ≤ 80 * (i : Int) by omega, show 80 * (i : Int) ≤ (d.c.length : Int) by omega, by omega⟩) ?_
    rw [eo, Int.toNat_natCast]
    have ec : List.length (Cut.app (.part (80 * i) (d.c.length - 80 * i)) (d.c.take (80 * i) ++ List.replicate (d.c.length - 80 * i) (0 : Int))) = d.c.length - 80 * i := by
      simp only [Cut.app, List.length_take, List.length_drop, hbl]
      omega
    rw [ec]
    show some (Sum.inl (IntKind.wrap .i64 (((80 * i : Nat) : Int) + ((min (dat d i).length (d.c.length - 80 * i) : Nat) : Int)), IntKind.wrap .i64 ((i : Int) + 1), cpL (d.c.take (80 * i) ++ List.replicate (d.c.length - 80 * i) (0 : Int)) (80 * i) (d.c.length - 80 * i) (dat d i), _)) = _
    rw [join_copy h i hi2, wk i (by omega), hd, Nat.min_eq_left (by omega), wi (by omega) (by omega), hcs]
    congr 3) (by
    unfold F_fragment_Join_l1
    dsimp only
    rw [fgs_len]
    exact bifF (decF (by omega)) rfl)
  have e0 : (cov d 0 : Int) = 0 := by
    have := cov_at (d := d) 0 h.m1
    omega
  have e1 : cov d 0 = 0 := by omega
  rw [e1] at hr
  simpa using hr
theorem join_part (tag : Int) (k : Nat) (hk : k < d.M) (k1 : 1 ≤ k) : F_fragment_Join (fgs d tag k) = some ([], false) := by
  have hs := h.small
  unfold F_fragment_Join
  refine bifF (beqF (by rw [fgs_len]; omega)) (bind_of (fgs_get d tag (i := 0) (by omega)) (bind_of (fvalid h tag 0 h.m1) (bifT rfl ?_)))
  refine bind_of (fgs_get d tag (i := 0) (by omega)) (bind_of (fgs_get d tag (i := 0) (by omega)) ?_)
  refine bind_of (mkO_len d.c.length (by omega)) (bind_of (mkO_len d.c.length (by omega)) (bind_of (join_loop h tag k (by omega) k1) ?_))
  refine bifT ?_ rfl
  show (((cov d k : Int)) != (d.c.length : Int)) = true
  have := h.at k hk
  rw [cov_at k hk, bne_iff_ne]
  omega
theorem join_all (tag : Int) : F_fragment_Join (fgs d tag d.M) = some (d.c, true) := by
  have hs := h.small
  have k1 := h.m1
  have e : cov d d.M = d.c.length := by unfold cov; rw [if_neg (by omega)]
  unfold F_fragment_Join
  refine bifF (beqF (by rw [fgs_len]; omega)) (bind_of (fgs_get d tag (i := 0) (by omega)) (bind_of (fvalid h tag 0 h.m1) (bifT rfl ?_)))
  refine bind_of (fgs_get d tag (i := 0) (by omega)) (bind_of (fgs_get d tag (i := 0) (by omega)) ?_)
  refine bind_of (mkO_len d.c.length (by omega)) (bind_of (mkO_len d.c.length (by omega)) (bind_of (join_loop h tag d.M (Nat.le_refl _) k1) ?_))
  rw [e, List.take_length, Nat.sub_self]
  refine bifF (by show ((d.c.length : Int) != (d.c.length : Int)) = false; simp) ?_
  simp
end
end
section
open Go.RowKit

def buf (d : Dg) (n k : Nat) : S_Buffer := S_Buffer.mk (devN n) (devN (n + 1)) (tagI n) (d.c.length : Int) (fgs d (tagI n) k) 17
def bufs (d : Dg) (n k : Nat) : List S_Buffer := if k = 0 ∨ d.M ≤ k then [] else [buf d n k]
theorem aplace_s (h : Nat) : F_reassembly_place (devN h) = some true := by kernel_rfl
theorem amatch_s (d : Dg) (n k : Nat) : F_slices_IndexFunc_api_Buffer_api_Buffer_C59_37_37_561 [buf d n k] (devN n, devN (n + 1), fg d (tagI n) k) = some 0 := by
  unfold F_slices_IndexFunc_api_Buffer_api_Buffer_C59_37_37_561
  refine bind_of (v := Sum.inr 0) (loop_done ?_) rfl
  unfold F_slices_IndexFunc_api_Buffer_api_Buffer_C59_37_37_561_l1
  refine bifT rfl (bind_of (v := buf d n k) rfl (bind_of (v := true) ?_ rfl))
  unfold F_reassembly_Add_2_R371_R372_R563
  refine bind_of (v := true) ?_ rfl
  unfold F_reassembly_matches
  refine bifT (addr_refl _) (bifT (addr_refl _) (bifT (by show (tagI n == tagI n) = true; simp) ?_))
  show some ((d.c.length : Int) == (d.c.length : Int)) = _
  simp
section
variable {d : Dg} (h : DgOk d)
include h
theorem clone_s (tag : Int) (k : Nat) (hk : k < d.M) : F_reassembly_cloned (fg d tag k) = some (fg d tag k) := by
  have hl := dlen_le h k hk
  have hd := dat_len h k hk
  unfold F_reassembly_cloned
  refine bind_of (mkO_len (dat d k).length (by omega)) ?_
  exact congrArg (fun x => some (S_Fragment.mk (d.c.length : Int) tag (80 * (k : Int)) x)) (cpL_all (dat d k) _ rfl)
theorem vbuf_s (n k : Nat) (k0 : 1 ≤ k) (hk : k < d.M) : F_reassembly_validBuffer (buf d n k) = some true := by
  have hs := h.small
  have ha := h.at k hk
  unfold F_reassembly_validBuffer
  refine bind_of (aplace_s n) (bifT rfl (bind_of (aplace_s (n + 1)) (bifT rfl (bind_of (v := true) (by kernel_rfl) (bifT rfl ?_)))))
  refine bifF (beqF (show ¬ ((fgs d (tagI n) k).length : Int) = 0 by rw [fgs_len]; omega)) ?_
  have hr := loop_run (step := F_reassembly_validBuffer_l1 (buf d n k)) (S := fun i => (80 * (i : Int), 80 * (i : Int), (i : Int))) k (r := 80 * (k : Int)) (fun i hi => by
    have hd := dat_len h i (by omega)
    have e : dlen d i = 80 := by unfold dlen; rw [if_pos (by omega)]
    unfold F_reassembly_validBuffer_l1
    dsimp only
    refine bifT (decT (show (i : Int) < ((fgs d (tagI n) k).length : Int) by rw [fgs_len]; omega)) (bind_of (fgs_get d (tagI n) hi) (bind_of (fvalid h (tagI n) i (by omega)) (bifT rfl ?_)))
    refine bifF (by show ((d.c.length : Int) != (d.c.length : Int)) = false; simp) (bifF (by show (tagI n != tagI n) = false; simp) (bifF (decF (show ¬ 80 * (i : Int) < 80 * (i : Int) by omega)) ?_))
    refine bind_of (v := 80 * (i : Int) + 80) ?_ ?_
    · unfold F_reassembly_end
      show some (IntKind.wrap .i64 (80 * (i : Int) + ((dat d i).length : Int))) = _
      rw [hd, e, wi (by omega) (by omega)]
      rfl
    show some (Sum.inl (IntKind.wrap .i64 (80 * (i : Int) + ((dat d i).length : Int)), 80 * (i : Int) + 80, IntKind.wrap .i64 ((i : Int) + 1))) = _
    rw [hd, e, wi (by omega) (by omega), wk i (by omega), show 80 * (i : Int) + ((80 : Nat) : Int) = 80 * ((i + 1 : Nat) : Int) by omega, show 80 * (i : Int) + 80 = 80 * ((i + 1 : Nat) : Int) by omega]) (by
    unfold F_reassembly_validBuffer_l1
    dsimp only
    exact bifF (decF (show ¬ (k : Int) < ((fgs d (tagI n) k).length : Int) by rw [fgs_len]; omega)) rfl)
  refine bind_of (v := 80 * (k : Int)) hr (congrArg some (decT (show 80 * (k : Int) < (d.c.length : Int) by omega)))
theorem avalid_s (n k : Nat) (k0 : 1 ≤ k) (hk : k < d.M) : F_reassembly_Valid [buf d n k] = some true := by
  unfold F_reassembly_Valid
  refine bifF rfl (bind_of (v := ()) ?_ rfl)
  rw [loop_next (step := F_reassembly_Valid_l1 [buf d n k]) (s' := 1) (by
    unfold F_reassembly_Valid_l1
    refine bifT rfl (bind_of (v := buf d n k) rfl (bind_of (vbuf_s h n k k0 hk) (bifT rfl (bind_of (v := []) rfl (bind_of (v := Sum.inl ()) (loop_done rfl) rfl)))))) ]
  exact loop_done rfl
theorem aexp_s (n k : Nat) (k0 : 1 ≤ k) (hk : k < d.M) : F_reassembly_Expire_R [buf d n k] 5 = some ([buf d n k], 0) := by
  have hm := h.m16
  unfold F_reassembly_Expire_R
  refine bind_of (avalid_s h n k k0 hk) (bifT rfl (bind_of (v := true) (by kernel_rfl) (bifT rfl (bind_of (v := [buf d n k]) ?_ rfl))))
  rw [loop_next (step := F_reassembly_Expire_R_l1 [buf d n k] 5) (s' := (1, [buf d n k])) (by
    unfold F_reassembly_Expire_R_l1
    refine bifT rfl (bind_of (v := buf d n k) rfl (bifF rfl ?_))
    have e1 : mkO 48 ((fgs d (tagI n) k).length : Int) ((fgs d (tagI n) k).length : Int) = some k := by
      rw [fgs_len]
      unfold mkO
      rw [if_pos ⟨by omega, by omega, by omega, by omega⟩, Int.toNat_natCast]
    refine bind_of e1 (bind_of (v := fgs d (tagI n) k) ?_ ?_)
    · have hr := loop_run (step := F_reassembly_Expire_R_l2 (buf d n k)) (S := fun i => ((i : Int), fgs d (tagI n) i ++ List.replicate (k - i) (S_Fragment.mk 0 0 0 ([] : List Int)))) k (r := fgs d (tagI n) k) (fun i hi => by
        obtain ⟨m, hm⟩ : ∃ m, k - i = m + 1 := ⟨k - i - 1, by omega⟩
        unfold F_reassembly_Expire_R_l2
        dsimp only
        have hg : (fgs d (tagI n) i ++ List.replicate (k - i) (S_Fragment.mk 0 0 0 ([] : List Int)))[i]? = some (S_Fragment.mk 0 0 0 []) := by
          rw [List.getElem?_append_right (by rw [fgs_len]; exact Nat.le_refl _), fgs_len, Nat.sub_self, hm]
          rfl
        refine bifT (decT (show (i : Int) < ((fgs d (tagI n) k).length : Int) by rw [fgs_len]; omega)) (bind_of (fgs_get d (tagI n) hi) (bind_of (clone_s h (tagI n) i (by omega)) ?_))
        simp only [Cut.app, Nat.zero_add, Int.toNat_natCast]
        rw [idx_nat, hg]
        simp only [Option.bind_some]
        rw [wk i (by omega), hm, List.replicate_succ, set_mid _ _ _ _ (by rw [fgs_len]), show k - (i + 1) = m by omega]
        have e2 : fgs d (tagI n) i ++ fg d (tagI n) i :: List.replicate m (S_Fragment.mk 0 0 0 ([] : List Int)) = fgs d (tagI n) (i + 1) ++ List.replicate m (S_Fragment.mk 0 0 0 ([] : List Int)) := by
          simp [fgs, List.range_succ]
        rw [e2]) (by
        unfold F_reassembly_Expire_R_l2
        dsimp only
        refine bifF (decF (show ¬ (k : Int) < ((fgs d (tagI n) k).length : Int) by rw [fgs_len]; omega)) ?_
        rw [Nat.sub_self]
        simp)
      simpa [fgs] using hr
    exact bind_of (v := [buf d n k]) (by kernel_rfl) rfl)]
  exact loop_done rfl
theorem ainsert_s (n k : Nat) (hk : k < d.M) : F_reassembly_insert_X0 (fgs d (tagI n) k) (fg d (tagI n) k) = some (fgs d (tagI n) (k + 1), true, false) := by
  have hs := h.small
  have hm := h.m16
  have hlk := dlen_le h k hk
  have hdk := dat_len h k hk
  unfold F_reassembly_insert_X0
  refine bind_of (v := (k : Int)) ?_ (bind_of (clone_s h (tagI n) k hk) (bind_of (v := fgs d (tagI n) (k + 1)) ?_ rfl))
  · have hr := loop_run (step := F_reassembly_insert_X0_l1 (fgs d (tagI n) k) (fg d (tagI n) k)) (S := fun i => ((i : Int), (i : Int))) k (r := (k : Int)) (fun i hi => by
      have hd := dat_len h i (by omega)
      have e : dlen d i = 80 := by unfold dlen; rw [if_pos (by omega)]
      unfold F_reassembly_insert_X0_l1
      dsimp only
      refine bifT (decT (show (i : Int) < ((fgs d (tagI n) k).length : Int) by rw [fgs_len]; omega)) (bind_of (fgs_get d (tagI n) hi) ?_)
      refine bind_of (v := 80 * (k : Int) + (dlen d k : Int)) ?_ (bifT (decT (show 80 * (i : Int) < 80 * (k : Int) + (dlen d k : Int) by omega)) ?_)
      · unfold F_reassembly_end
        show some (IntKind.wrap .i64 (80 * (k : Int) + ((dat d k).length : Int))) = _
        rw [hdk, wi (by omega) (by omega)]
      refine bind_of (v := 80 * (i : Int) + 80) ?_ (bifF (decF (show ¬ 80 * (k : Int) < 80 * (i : Int) + 80 by omega)) (bifT (decT (show 80 * (i : Int) < 80 * (k : Int) by omega)) ?_))
      · unfold F_reassembly_end
        show some (IntKind.wrap .i64 (80 * (i : Int) + ((dat d i).length : Int))) = _
        rw [hd, e, wi (by omega) (by omega)]
        rfl
      rw [wk i (by omega)]) (by
      unfold F_reassembly_insert_X0_l1
      dsimp only
      exact bifF (decF (show ¬ (k : Int) < ((fgs d (tagI n) k).length : Int) by rw [fgs_len]; omega)) rfl)
    exact hr
  · unfold F_slices_Insert_api_Fragment_api_Fragment_X0
    rw [fgs_len]
    refine bind_of (subO_some (by omega) (Int.le_refl _) (by rw [fgs_len]; exact Int.le_refl _)) (bifF rfl (bifT (by simp) ?_))
    refine bind_of (app_le _ _ (by omega) (by rw [fgs_len]; simp; omega)) ?_
    simp [fgs, List.range_succ]
theorem adone_s (n k : Nat) (hk : k < d.M) : F_reassembly_Add_j1 (0, [buf d n (k + 1)]) = some (bufs d n (k + 1), if k + 1 < d.M then [] else d.c, 0) := by
  unfold F_reassembly_Add_j1
  refine bind_of (v := buf d n (k + 1)) rfl (bind_of (v := buf d n (k + 1)) rfl ?_)
  by_cases hM : k + 1 < d.M
  · refine bind_of (join_part h (tagI n) (k + 1) hM (by omega)) (bifF rfl ?_)
    rw [if_pos hM]
    unfold bufs
    rw [if_neg (by omega)]
  · have hkM : k + 1 = d.M := by omega
    refine bind_of (v := (d.c, true)) ?_ (bifT rfl ?_)
    · rw [hkM]
      exact join_all h (tagI n)
    rw [if_neg hM]
    have hb : bufs d n (k + 1) = [] := by
      unfold bufs
      rw [if_pos (by omega)]
    rw [hb]
    refine bifT (by kernel_rfl) (bifF (by kernel_rfl) (bifT (by kernel_rfl) (bifT (by kernel_rfl) (bifT (by kernel_rfl) (bind_of (v := 0) (by kernel_rfl) (bind_of (v := [buf d n (k + 1)]) (by kernel_rfl) (bifT (by kernel_rfl) ?_)))))))
    kernel_rfl
/-- a piece comes in -/
theorem add (n k : Nat) (hk : k < d.M) : F_reassembly_Add (bufs d n k) (devN n) (devN (n + 1)) (fg d (tagI n) k) 5 = some (bufs d n (k + 1), if k + 1 < d.M then [] else d.c, 0) := by
  unfold F_reassembly_Add
  by_cases k0 : k = 0
  · subst k0
    have hb : bufs d n 0 = [] := rfl
    rw [hb]
    refine bind_of (v := true) (by kernel_rfl) (bifT rfl (bind_of (aplace_s n) (bifT rfl (bind_of (aplace_s (n + 1)) (bifT rfl ?_)))))
    refine bind_of (fvalid h (tagI n) 0 hk) (bifT rfl (bind_of (v := ([], 0)) (by kernel_rfl) (bifF rfl ?_)))
    refine bind_of (v := -1) ?_ (bifT rfl (bifF rfl ?_))
    · unfold F_slices_IndexFunc_api_Buffer_api_Buffer_C59_37_37_561
      exact bind_of (v := Sum.inl ()) (loop_done rfl) rfl
    refine bind_of (v := buf d n 1) ?_ (bind_of (v := [buf d n 1]) (by kernel_rfl) ?_)
    · unfold F_reassembly_Add_1_R30_R561_R372_R373
      exact bind_of (clone_s h (tagI n) 0 hk) (by kernel_rfl)
    exact adone_s h n 0 hk
  · have hb : bufs d n k = [buf d n k] := by
      unfold bufs
      rw [if_neg (by omega)]
    rw [hb]
    refine bind_of (avalid_s h n k (by omega) hk) (bifT rfl (bind_of (aplace_s n) (bifT rfl (bind_of (aplace_s (n + 1)) (bifT rfl ?_)))))
    refine bind_of (fvalid h (tagI n) k hk) (bifT rfl (bind_of (aexp_s h n k (by omega) hk) (bifF rfl ?_)))
    refine bind_of (amatch_s d n k) (bifF rfl (bind_of (v := buf d n k) rfl (bind_of (v := buf d n k) rfl ?_)))
    refine bind_of (ainsert_s h n k hk) (bifF rfl (bifT rfl (bind_of (v := buf d n k) rfl (bind_of (v := buf d n k) rfl ?_))))
    exact adone_s h n k hk
end
end
section
open Go.RowKit

structure TapeOk (t : S_multihopmade_Tape) : Prop where
  at0 : 0 ≤ t.at_
  at1 : t.at_ ≤ t.l.length
  len : t.l.length ≤ 400
theorem new_spec (l : List Int) : ∃ t, F_made_New l = some t ∧ TapeOk t := by
  unfold F_made_New F_made_New_j1
  by_cases h : (l.length : Int) > 400
  · rw [decT h, subO_some (by omega) (by omega) (by omega)]
    exact ⟨_, rfl, by simp, by simp, by simp; omega⟩
  · rw [decF h]
    exact ⟨_, rfl, by simp, by simp, by simp; omega⟩
theorem rem_spec (x n : Int) (h1 : 1 ≤ n) (h2 : n ≤ 4611686018427387904) : -4611686018427387904 < Int.tmod x n ∧ Int.tmod x n < n ∧ -n < Int.tmod x n := by
  have a := Int.tmod_lt_of_pos x (show 0 < n by omega)
  have b := Int.lt_tmod_of_pos x (show 0 < n by omega)
  omega
theorem next_spec {t : S_multihopmade_Tape} (h : TapeOk t) (n : Int) (h1 : 1 ≤ n) (h2 : n ≤ 4611686018427387904) : ∃ v t', F_made_Tape_Next t n = some (v, t') ∧ 0 ≤ v ∧ v < n ∧ TapeOk t' := by
  unfold F_made_Tape_Next F_made_Tape_Next_j1
  have a0 := h.at0
  have a1 := h.at1
  have a2 := h.len
  by_cases hc : t.at_ ≥ (t.l.length : Int)
  · rw [decT hc]
    exact ⟨0, t, rfl, by omega, by omega, h⟩
  · rw [decF hc, idx_int a0 (by omega)]
    simp only [cond_false, Option.bind_some, show decide (n ≠ 0) = true by simp; omega, cond_true]
    obtain ⟨r1, r2, r3⟩ := rem_spec (t.l[t.at_.toNat]'(by omega)) n h1 h2
    generalize Int.tmod (t.l[t.at_.toNat]'(by omega)) n = q at *
    have ew : IntKind.wrap .i64 (t.at_ + 1) = t.at_ + 1 := wi (by omega) (by omega)
    have hok : TapeOk ⟨t.l, t.at_ + 1⟩ := ⟨by dsimp only; omega, by dsimp only; omega, h.len⟩
    rw [ew]
    by_cases hq : q < 0
    · rw [decT hq, wi (by omega) (by omega)]
      exact ⟨q + n, _, rfl, by omega, by omega, hok⟩
    · rw [decF hq]
      exact ⟨q, _, rfl, by omega, by omega, hok⟩
end
section
open Go.RowKit
theorem mod_spec (x n : Int) (h1 : 1 ≤ n) (h2 : n ≤ 4611686018427387904) : ∃ v, F_made_Mod x n = some v ∧ 0 ≤ v ∧ v < n := by
  unfold F_made_Mod F_made_Mod_j1
  obtain ⟨r1, r2, r3⟩ := rem_spec x n h1 h2
  generalize Int.tmod x n = q at *
  rw [show decide (n ≠ 0) = true by simp; omega]
  by_cases hq : q < 0
  · rw [decT hq, wi (by omega) (by omega)]
    exact ⟨q + n, rfl, by omega, by omega⟩
  · rw [decF hq]
    exact ⟨q, rfl, by omega, by omega⟩
end
section
open Go.RowKit
set_option maxRecDepth 100000 in
theorem sane_true : F_top_sane = some true := by kernel_rfl
end
section
open Go.RowKit

/-- a list whose first j places are new -/
def tl {α : Type} (n j : Nat) (A B : Nat → α) : List α := (List.range n).map fun i => if i < j then A i else B i
section
variable {α : Type} {n j : Nat} {A B : Nat → α}
theorem tl_len : (tl n j A B).length = n := by simp [tl]
theorem tl_get {i : Nat} (hi : i < n) : (tl n j A B)[i]? = some (if i < j then A i else B i) := by
  unfold tl
  rw [List.getElem?_map, List.getElem?_range hi]
  rfl
theorem tl_at (hj : j < n) : (tl n j A B)[j]? = some (B j) := by rw [tl_get hj, if_neg (Nat.lt_irrefl _)]
theorem tl_set (hj : j < n) {x : α} (hx : x = A j) : (tl n j A B).set j x = tl n (j + 1) A B := by
  subst hx
  apply List.ext_getElem?
  intro i
  rcases Nat.lt_or_ge i n with hi | hi
  · rw [List.getElem?_set, tl_len, tl_get hi, tl_get hi]
    by_cases hij : j = i
    · subst hij
      simp [hj]
    · rw [if_neg hij]
      by_cases h2 : i < j
      · rw [if_pos h2, if_pos (by omega)]
      · rw [if_neg h2, if_neg (by omega)]
  · rw [List.getElem?_eq_none (by simp [tl_len]; exact hi), List.getElem?_eq_none (by rw [tl_len]; exact hi)]
theorem tl_zero : tl n 0 A B = (List.range n).map B := by simp [tl]
theorem tl_full : tl n n A B = (List.range n).map A := by
  unfold tl
  apply List.map_congr_left
  intro i hi
  rw [if_pos (List.mem_range.1 hi)]
theorem rep_map (x : α) : List.replicate n x = (List.range n).map fun _ => x := by
  apply List.ext_getElem?
  intro i
  rcases Nat.lt_or_ge i n with hi | hi
  · rw [List.getElem?_map, List.getElem?_range hi, List.getElem?_replicate, if_pos hi]; rfl
  · rw [List.getElem?_eq_none (by simpa using hi), List.getElem?_eq_none (by simpa using hi)]
end
theorem idx_c {α : Type} {l : List α} {j : Nat} {x : α} (h : l[j]? = some x) : idx (Cut.app .whole l) (j : Int) = some x := by
  rw [idx_nat]; exact h
theorem get_c {α : Type} {l : List α} {j : Nat} {x : α} (h : l[j]? = some x) : l[(0 + Int.toNat (j : Int))]? = some x := by
  rw [Nat.zero_add, Int.toNat_natCast]; exact h
theorem set_c {α : Type} (l : List α) (j : Nat) (x : α) : List.set l (0 + Int.toNat (j : Int)) x = l.set j x := by
  rw [Nat.zero_add, Int.toNat_natCast]
def zG : S_Guard := S_Guard.mk ([] : List S_LinkKey) 0 0 0 ([] : List S_Peer)
def gs (H k h : Nat) : List S_Guard := tl (H + 1) h (fun _ => gX (k + 1)) (fun _ => gX k)
def hs (H k h : Nat) : List S_Guard := tl (H + 1) h (fun i => gY i (k + 1)) (fun i => gY i k)
def tb (d : Dg) (H k i : Nat) : List S_Switch := if i < H then tab d i k else []
def tbs (d : Dg) (H k h : Nat) : List (List S_Switch) := tl (H + 1) h (tb d H (k + 1)) (tb d H k)
theorem pairs_s (m H : Nat) (hm : H = m + 1) (hH : H ≤ 4) : loopO (F_top_TopRelays_l6 (m : Int)) (0, List.replicate (H + 1) zG, List.replicate (H + 1) zG) = some (gs H 0 0, hs H 0 0) := by
  have hr := loop_run (step := F_top_TopRelays_l6 (m : Int)) (S := fun j => ((j : Int), tl (H + 1) j (fun _ => gX 0) (fun _ => zG), tl (H + 1) j (fun i => gY i 0) (fun _ => zG))) (H + 1) (r := (gs H 0 0, hs H 0 0)) (fun j hj => by
    unfold F_top_TopRelays_l6
    dsimp only
    rw [wi (show -9223372036854775808 ≤ 1 + (m : Int) by omega) (by omega), wk j (by omega)]
    refine bifT (decT (by omega)) (bind_of (pair_s j (by omega)) (bifT rfl ?_))
    refine bind_of (idx_c (tl_at hj)) (bind_of (get_c (tl_at hj)) (bind_of (idx_c (tl_at hj)) (bind_of (get_c (tl_at hj)) ?_)))
    rw [set_c, set_c, tl_set hj rfl, tl_set hj rfl]) (by
    unfold F_top_TopRelays_l6
    dsimp only
    rw [wi (show -9223372036854775808 ≤ 1 + (m : Int) by omega) (by omega)]
    refine bifF (decF (by omega)) ?_
    rw [tl_full, tl_full]
    unfold gs hs
    rw [tl_zero, tl_zero])
  rw [tl_zero, tl_zero, ← rep_map] at hr
  exact hr
theorem ends_s (d : Dg) {m H : Nat} (hm : H = m + 1) (hH : H ≤ 4) (x : List S_Buffer) (y : Bool) : loopO (F_top_TopRelays_l10 (m : Int) (x, y, tbs d H d.M 0)) (true, 0) = some true := by
  have hr := loop_run (step := F_top_TopRelays_l10 (m : Int) (x, y, tbs d H d.M 0)) (S := fun j => (true, (j : Int))) H (r := true) (fun j hj => by
    have e1 : IntKind.wrap .i64 (1 + (m : Int)) = (H : Int) := by rw [wi (by omega) (by omega)]; omega
    have ht : (tbs d H d.M 0)[j]? = some [] := by
      unfold tbs
      rw [tl_get (by omega), if_neg (by omega)]
      unfold tb tab
      rw [if_pos hj, if_pos (.inr (Nat.le_refl _))]
    unfold F_top_TopRelays_l10
    dsimp only
    rw [e1]
    refine bifT (decT (by omega)) (bifT rfl (bind_of (idx_c ht) (bind_of (get_c ht) ?_)))
    rw [wk j (by omega)]
    rfl) (by
    have e1 : IntKind.wrap .i64 (1 + (m : Int)) = (H : Int) := by rw [wi (by omega) (by omega)]; omega
    unfold F_top_TopRelays_l10
    dsimp only
    rw [e1]
    exact bifF (decF (by omega)) rfl)
  exact hr
section
variable {d : Dg} (h : DgOk d)
include h
theorem hop_round {p : S_Packet} {m H : Nat} (hm : H = m + 1) (hH : H ≤ 4) (k : Nat) (hk : k < d.M) (g0 : Bool) (x1 x2 x3 : List S_Guard) (x4 : List (List S_Switch)) (e : Int)
    (hdec : F_compress_Decode d.c (S_Addr.mk 0 0 0) (S_Addr.mk 0 0 0) [] 5 = some (p, 0)) (hsame : F_ref13_Same p p = some true) :
    loopO (F_top_TopRelays_l8 (m : Int) (bufs d H k, g0, (k : Int), x1, x2, x4) (fgs d 7 d.M, e) p) (bufs d H k, g0, 0, gs H k 0, hs H k 0, tbs d H k 0, fg d 7 k) = some (bufs d H (k + 1), decide (d.M ≤ k + 1), gs H k (H + 1), hs H k (H + 1), tbs d H k (H + 1)) := by
  have hm16 := h.m16
  have hsm := h.small
  have hat := h.at k hk
  have hr := loop_run (step := F_top_TopRelays_l8 (m : Int) (bufs d H k, g0, (k : Int), x1, x2, x4) (fgs d 7 d.M, e) p) (S := fun j => ((if j ≤ H then bufs d H k else bufs d H (k + 1)), (if j ≤ H then g0 else decide (d.M ≤ k + 1)), (j : Int), gs H k j, hs H k j, tbs d H k j, fg d (tagI (min j H)) k)) (H + 1) (r := (bufs d H (k + 1), decide (d.M ≤ k + 1), gs H k (H + 1), hs H k (H + 1), tbs d H k (H + 1))) (fun j hj => by
    have hjH : j ≤ H := by omega
    obtain ⟨t0, t1⟩ := tagI_bd j (by omega)
    obtain ⟨b, hse, hop'⟩ := hop j k (by omega) (by omega) (fe d (tagI j) k) (fe_len h (tagI j) k hk)
    have e1 : IntKind.wrap .i64 (1 + (m : Int)) = (H : Int) := by rw [wi (by omega) (by omega)]; omega
    have e2 : IntKind.wrap .i64 ((j : Int) + 1) = ((j + 1 : Nat) : Int) := wk j (by omega)
    have e3 : IntKind.wrap .i64 ((j : Int) + 2) = ((j + 2 : Nat) : Int) := by rw [wi (by omega) (by omega)]; rfl
    have hmin : min j H = j := by omega
    unfold F_top_TopRelays_l8 F_top_TopRelays_j9
    dsimp only
    rw [e1, e2, e3, if_pos hjH, if_pos hjH, hmin]
    refine bifT (decT (by omega)) (bind_of (fragenc h t0 t1 k hk) ?_)
    have hg : (gs H k j)[j]? = some (gX k) := tl_at hj
    have hh : (hs H k j)[j]? = some (gY j k) := tl_at hj
    have ht : (tbs d H k j)[j]? = some (tb d H k j) := tl_at hj
    refine bind_of (idx_c hg) (bind_of (get_c hg) (bind_of hse (bifF rfl (bifT rfl ?_))))
    refine bind_of (idx_c hh) (bind_of (get_c hh) (bind_of (v := b) rfl (bind_of hop' (bind_of (fragdec h t0 t1 k hk) (bifT rfl (bifF rfl ?_))))))
    refine bind_of (idx_c hg) (bind_of (get_c hg) (bind_of (idx_c hh) (bind_of (get_c hh) ?_)))
    rw [set_c, set_c]
    have sg : (gs H k j).set j (gX (k + 1)) = gs H k (j + 1) := tl_set hj rfl
    have sh : (hs H k j).set j (gY j (k + 1)) = hs H k (j + 1) := tl_set hj rfl
    rw [sg, sh]
    by_cases hjl : j = H
    · subst hjl
      refine bifT (by simp) (bind_of (dev_s j (by omega)) (bind_of (dev_s (j + 1) (by omega)) ?_))
      refine bind_of (add h j k hk) ?_
      have et : tbs d j k (j + 1) = tbs d j k j := by
        have := tl_set (A := tb d j (k + 1)) (B := tb d j k) (n := j + 1) (j := j) hj (x := tb d j k j) (by unfold tb; rw [if_neg (Nat.lt_irrefl _), if_neg (Nat.lt_irrefl _)])
        unfold tbs
        rw [← this]
        apply List.ext_getElem?
        intro i
        rw [List.getElem?_set, tl_len]
        split
        · rename_i hij; subst hij; rw [tl_at hj]
        · rfl
      have ew : IntKind.wrap .i64 ((k : Int) + 1) = ((k + 1 : Nat) : Int) := wk k (by omega)
      rw [ew, fgs_len, if_neg (show ¬ j + 1 ≤ j by omega), if_neg (show ¬ j + 1 ≤ j by omega), et, show min (j + 1) j = j by omega]
      by_cases hM : k + 1 < d.M
      · rw [if_pos hM]
        refine bind_of (v := (S_Packet.mk 0 0 0 0 [0,0,0,0,0,0,0,0,0,0,0,0,0,0,0,0] [0,0,0,0,0,0,0,0,0,0,0,0,0,0,0,0] 0 0 ([] : List Int), 4)) (by kernel_rfl) (bifF rfl (bifT ?_ (bifF rfl ?_)))
        · rw [beqF (show ¬ ((k + 1 : Nat) : Int) = (d.M : Int) by omega)]
          rfl
        rw [decF (show ¬ d.M ≤ k + 1 by omega)]
      · rw [if_neg hM]
        refine bind_of hdec (bifF rfl (bifT ?_ (bifT (decT (show (d.c.length : Int) > 0 by omega)) (bifF rfl (bind_of hsame (bifT rfl ?_))))))
        · rw [show ((k + 1 : Nat) : Int) = (d.M : Int) by omega, decT (show (d.c.length : Int) > 0 by omega)]
          simp
        rw [decT (show d.M ≤ k + 1 by omega)]
    · have hjlt : j < H := by omega
      have etag : IntKind.wrap .u16 (IntKind.wrap .i64 (IntKind.wrap .i64 (10 * (j : Int)) + 1)) = tagI (j + 1) := by
        rw [tagI_succ, wi (show -9223372036854775808 ≤ 10 * (j : Int) by omega) (by omega), wi (by omega) (by omega), wu16 (by omega) (by omega)]
      have etb : tb d H k j = tab d j k := by unfold tb; rw [if_pos hjlt]
      rw [etag, if_pos (show j + 1 ≤ H by omega), if_pos (show j + 1 ≤ H by omega), show min (j + 1) H = j + 1 by omega]
      rw [etb] at ht
      refine bifF (beqF (by omega)) (bind_of (idx_c ht) (bind_of (get_c ht) (bind_of (dev_s j (by omega)) (bind_of (dev_s (j + 2) (by omega)) ?_))))
      refine bind_of (fwd h j k hk) (bifF rfl (bind_of (dev_s (j + 2) (by omega)) (bifT (addr_refl _) ?_)))
      refine bind_of (idx_c ht) (bind_of (get_c ht) ?_)
      rw [set_c]
      have st : (tbs d H k j).set j (tab d j (k + 1)) = tbs d H k (j + 1) := tl_set hj (by unfold tb; rw [if_pos hjlt])
      rw [st]) (by
    have e1 : IntKind.wrap .i64 (1 + (m : Int)) = (H : Int) := by rw [wi (by omega) (by omega)]; omega
    unfold F_top_TopRelays_l8
    dsimp only
    rw [e1, if_neg (show ¬ H + 1 ≤ H by omega), if_neg (show ¬ H + 1 ≤ H by omega)]
    exact bifF (decF (by omega)) rfl)
  rw [if_pos (Nat.zero_le _), if_pos (Nat.zero_le _), show min 0 H = 0 by omega, show tagI 0 = 7 from rfl] at hr
  exact hr
theorem rounds_s {p : S_Packet} {m H : Nat} (hm : H = m + 1) (hH : H ≤ 4) (e : Int)
    (hdec : F_compress_Decode d.c (S_Addr.mk 0 0 0) (S_Addr.mk 0 0 0) [] 5 = some (p, 0)) (hsame : F_ref13_Same p p = some true) :
    loopO (F_top_TopRelays_l7 (fgs d 7 d.M, e) (m : Int) p) ([], false, 0, gs H 0 0, hs H 0 0, List.replicate (H + 1) []) = some ([], true, tbs d H d.M 0) := by
  have hm16 := h.m16
  have hm1 := h.m1
  have gnext : ∀ k, gs H k (H + 1) = gs H (k + 1) 0 := fun k => by unfold gs; rw [tl_full, tl_zero]
  have hnext : ∀ k, hs H k (H + 1) = hs H (k + 1) 0 := fun k => by unfold hs; rw [tl_full, tl_zero]
  have tnext : ∀ k, tbs d H k (H + 1) = tbs d H (k + 1) 0 := fun k => by unfold tbs; rw [tl_full, tl_zero]
  have hr := loop_run (step := F_top_TopRelays_l7 (fgs d 7 d.M, e) (m : Int) p) (S := fun k => (bufs d H k, decide (d.M ≤ k), (k : Int), gs H k 0, hs H k 0, tbs d H k 0)) d.M (r := ([], true, tbs d H d.M 0)) (fun k hk => by
    unfold F_top_TopRelays_l7
    dsimp only
    rw [fgs_len]
    refine bifT (decT (by omega)) (bind_of (fgs_get d 7 hk) (bind_of (hop_round h hm hH k hk (decide (d.M ≤ k)) (gs H k 0) (hs H k 0) [] (tbs d H k 0) e hdec hsame) ?_))
    rw [wk k (by omega), gnext, hnext, tnext]) (by
    unfold F_top_TopRelays_l7
    dsimp only
    rw [fgs_len]
    refine bifF (decF (by omega)) ?_
    have hb : bufs d H d.M = [] := by unfold bufs; rw [if_pos (.inr (Nat.le_refl _))]
    rw [hb, decT (Nat.le_refl d.M)])
  have e0 : tbs d H 0 0 = List.replicate (H + 1) [] := by
    unfold tbs
    rw [tl_zero, rep_map]
    apply List.map_congr_left
    intro i _
    unfold tb
    split
    · unfold tab; rw [if_pos (.inl rfl)]
    · rfl
  have hb0 : bufs d H 0 = [] := rfl
  rw [e0, hb0, decF (show ¬ d.M ≤ 0 by omega)] at hr
  exact hr
end
/-- the law for one packet -/
theorem relays_s {p : S_Packet} {c : List Int} (hc : okB c) (h1 : 1 ≤ c.length) (h2 : c.length ≤ 1285) (hpl : F_compress_Plain p = some (c, 0)) (hdec : F_compress_Decode c (S_Addr.mk 0 0 0) (S_Addr.mk 0 0 0) [] 5 = some (p, 0)) (hsame : F_ref13_Same p p = some true) (a : Int) : F_top_TopRelays_j5 a p = some true := by
  obtain ⟨v, hv, v0, v1⟩ := mod_spec a 4 (by omega) (by omega)
  obtain ⟨m, rfl⟩ : ∃ m : Nat, v = (m : Int) := ⟨v.toNat, by omega⟩
  have hok := mkDg_ok hc h1 h2
  have hd : (mkDg c).c = c := rfl
  have hsp := split_s hok
  rw [hd] at hsp
  unfold F_top_TopRelays_j5
  refine bind_of hpl (bind_of hsp (bind_of hv (bifF rfl (bifF rfl ?_))))
  have e1 : IntKind.wrap .i64 (IntKind.wrap .i64 (1 + (m : Int)) + 1) = ((m + 1 + 1 : Nat) : Int) := by
    rw [wi (show -9223372036854775808 ≤ 1 + (m : Int) by omega) (by omega), wi (by omega) (by omega)]
    omega
  rw [e1]
  have mk1 : ∀ b : Nat, b ≤ 1000 → mkO b ((m + 1 + 1 : Nat) : Int) ((m + 1 + 1 : Nat) : Int) = some (m + 1 + 1) := by
    intro b hb
    unfold mkO
    have : (b : Int) * ((m + 1 + 1 : Nat) : Int) ≤ 1000 * 6 := Int.mul_le_mul (by omega) (by omega) (by omega) (by omega)
    rw [if_pos ⟨by omega, by omega, by omega, by omega⟩, Int.toNat_natCast]
  refine bind_of (mk1 64 (by omega)) (bind_of (mk1 64 (by omega)) (bind_of (mk1 24 (by omega)) ?_))
  refine bind_of (pairs_s m (m + 1) rfl (by omega)) ?_
  refine bind_of (rounds_s hok (p := p) (m := m) (H := m + 1) rfl (by omega) 0 hdec hsame) ?_
  refine bind_of (ends_s (mkDg c) (m := m) (H := m + 1) rfl (by omega) _ _) ?_
  exact bind_of sane_true (bifT rfl (bifT rfl rfl))
end
section
open Go.RowKit

theorem total_inner {e : List Int} (he : okB e) (hl : e.length ≤ 1300) {a : Int} {f : Bool} (ha : 0 ≤ a) (hb : a ≤ 100000000000) : ∃ r, loopO (F_checksum_total_l2 e) (a, f, 0) = some r ∧ 0 ≤ r.1 ∧ r.1 ≤ a + 85195500 := by
  obtain ⟨r, h1, h2⟩ := loop_inv (step := F_checksum_total_l2 e) (fun s => 0 ≤ s.2.2 ∧ s.2.2 ≤ e.length ∧ 0 ≤ s.1 ∧ s.1 ≤ a + 65535 * s.2.2) (fun r => 0 ≤ r.1 ∧ r.1 ≤ a + 65535 * e.length) (fun s => ((e.length : Int) - s.2.2).toNat) (by
    rintro ⟨x, g, i⟩ ⟨i0, i1, x0, x1⟩
    dsimp only at i0 i1 x0 x1
    unfold F_checksum_total_l2 F_checksum_total_j3
    dsimp only
    by_cases hi : i < (e.length : Int)
    · left
      rw [decT hi, idx_int i0 hi]
      simp only [cond_true, Option.bind_some]
      have hx := he.get (show i.toNat < e.length by omega)
      generalize e[i.toNat]'(by omega) = y at hx
      have e1 : IntKind.wrap .u64 y = y := wu hx.1 (by omega)
      have e2 : ishl .u64 y 8 = y * 256 := by
        rw [ishl_eq (by omega) (by omega)]
        have : (2 : Int) ^ (8 : Int).toNat = 256 := rfl
        rw [this, Int.emod_eq_of_lt (by omega) (by omega)]
      rw [e1, e2, wi (show -9223372036854775808 ≤ i + 1 by omega) (by omega)]
      cases g
      · simp only [cond_false]
        rw [wu (by omega) (by omega)]
        refine ⟨_, rfl, ⟨by dsimp only; omega, by dsimp only; omega, by dsimp only; omega, by dsimp only; omega⟩, by dsimp only; omega⟩
      · simp only [cond_true]
        rw [wu (by omega) (by omega)]
        refine ⟨_, rfl, ⟨by dsimp only; omega, by dsimp only; omega, by dsimp only; omega, by dsimp only; omega⟩, by dsimp only; omega⟩
    · right
      rw [decF hi]
      exact ⟨_, rfl, by dsimp only; omega, by dsimp only; omega⟩) (a, f, 0) ⟨by dsimp only; omega, by dsimp only; omega, by dsimp only; omega, by dsimp only; omega⟩
  exact ⟨r, h1, h2.1, by omega⟩
theorem total_spec {l : List (List Int)} (h : ∀ e ∈ l, okB e ∧ e.length ≤ 1300) (hl : l.length ≤ 100) : ∃ v, F_checksum_total l = some v ∧ 0 ≤ v ∧ v ≤ 8519550000 := by
  unfold F_checksum_total
  obtain ⟨r, h1, h2⟩ := loop_inv (step := F_checksum_total_l1 l) (fun s => 0 ≤ s.2.2 ∧ s.2.2 ≤ l.length ∧ 0 ≤ s.1 ∧ s.1 ≤ 85195500 * s.2.2) (fun r => 0 ≤ r ∧ r ≤ 8519550000) (fun s => ((l.length : Int) - s.2.2).toNat) (by
    rintro ⟨x, g, i⟩ ⟨i0, i1, x0, x1⟩
    dsimp only at i0 i1 x0 x1
    unfold F_checksum_total_l1
    dsimp only
    by_cases hi : i < (l.length : Int)
    · left
      rw [decT hi, idx_int i0 hi]
      simp only [cond_true, Option.bind_some]
      have he := h (l[i.toNat]'(by omega)) (List.getElem_mem _)
      obtain ⟨r, hr, r0, r1⟩ := total_inner (f := g) he.1 he.2 x0 (by omega)
      rw [hr, wi (by omega) (by omega)]
      exact ⟨_, rfl, ⟨by dsimp only; omega, by dsimp only; omega, r0, by dsimp only; omega⟩, by dsimp only; omega⟩
    · right
      rw [decF hi]
      exact ⟨_, rfl, x0, by omega⟩) (0, true, 0) ⟨by dsimp only; omega, by dsimp only; omega, by dsimp only; omega, by dsimp only; omega⟩
  rw [h1]
  exact ⟨r, rfl, h2⟩
theorem fold_spec {a : Int} (h0 : 0 ≤ a) (h1 : a ≤ 8519550000) : ∃ v, F_checksum_fold a = some v ∧ 0 ≤ v ∧ v ≤ 65535 := by
  unfold F_checksum_fold
  obtain ⟨r, h2, h3⟩ := loop_inv (step := F_checksum_fold_l1) (fun s => 0 ≤ s ∧ s ≤ 8519550000) (fun r => 0 ≤ r ∧ r ≤ 65535) (fun s => s.toNat) (by
    rintro x ⟨x0, x1⟩
    unfold F_checksum_fold_l1
    by_cases hx : x > 65535
    · left
      rw [decT hx]
      have e1 : Int.tmod x 65536 = x % 65536 := Int.tmod_eq_emod_of_nonneg x0
      have e2 : iquo .u64 x 65536 = x / 65536 := by
        unfold iquo
        rw [Int.tdiv_eq_ediv_of_nonneg x0, wu (by omega) (by omega)]
      rw [e1, e2, wu (by omega) (by omega)]
      exact ⟨_, rfl, ⟨by omega, by omega⟩, by omega⟩
    · right
      rw [decF hx]
      exact ⟨_, rfl, x0, by omega⟩) a ⟨h0, h1⟩
  rw [h2]
  exact ⟨_, rfl, by rw [wu16 h3.1 (by omega)]; exact h3.1, by rw [wu16 h3.1 (by omega)]; exact h3.2⟩
theorem internet_spec {l : List (List Int)} (h : ∀ e ∈ l, okB e ∧ e.length ≤ 1300) (hl : l.length ≤ 100) : ∃ v, F_checksum_Internet l = some v ∧ 0 ≤ v ∧ v ≤ 65535 := by
  unfold F_checksum_Internet
  obtain ⟨t, e1, t0, t1⟩ := total_spec h hl
  obtain ⟨v, e2, v0, v1⟩ := fold_spec t0 t1
  rw [e1, Option.bind_some, e2]
  exact ⟨_, rfl, by rw [wu16 (by omega) (by omega)]; omega, by rw [wu16 (by omega) (by omega)]; omega⟩

structure WfP (p : S_Packet) : Prop where
  c0 : 0 ≤ p.Class
  c1 : p.Class ≤ 255
  f0 : 0 ≤ p.Flow
  f1 : p.Flow ≤ 1048575
  n0 : 0 ≤ p.Next
  n1 : p.Next ≤ 255
  h0 : 0 ≤ p.Hops
  h1 : p.Hops ≤ 255
  sl : p.Src.length = 16
  so : okB p.Src
  sm : p.Src.getD 0 0 ≠ 255
  dl : p.Dst.length = 16
  dk : okB p.Dst
  s0 : 0 ≤ p.SrcPort
  s1 : p.SrcPort ≤ 65535
  d0 : 0 ≤ p.DstPort
  d1 : p.DstPort ≤ 65535
  pz : p.Next = 17 ∨ (p.SrcPort = 0 ∧ p.DstPort = 0)
  po : okB p.Payload
  pl : p.Payload.length ≤ if p.Next = 17 then 1232 else 1240
def sz (p : S_Packet) : Nat := (if p.Next = 17 then 48 else 40) + p.Payload.length
def frst (p : S_Packet) : Int := 1610612736 + p.Class * 1048576 + p.Flow
def head (p : S_Packet) : List Int := beB (frst p) 4 ++ (beB ((sz p : Int) - 40) 2 ++ ([p.Next] ++ ([p.Hops] ++ (p.Src ++ p.Dst))))
def ports (p : S_Packet) : List Int := beB p.SrcPort 2 ++ (beB p.DstPort 2 ++ beB ((sz p : Int) - 40) 2)
def udpH (p : S_Packet) (s : Int) : List Int := if p.Next = 17 then ports p ++ beB s 2 else []
def enc (p : S_Packet) (s : Int) : List Int := head p ++ (udpH p s ++ p.Payload)
section
variable {p : S_Packet} (w : WfP p)
include w
theorem sz_bd : 40 ≤ sz p ∧ sz p ≤ 1280 ∧ (p.Next = 17 → 48 ≤ sz p) := by
  have h1 := w.pl
  unfold sz
  split at h1 <;> rename_i h2
  · rw [if_pos h2]; omega
  · rw [if_neg h2]
    exact ⟨by omega, by omega, fun h => absurd h h2⟩
theorem size_s : F_packet_Size p = some (sz p : Int) := by
  have h := sz_bd w
  unfold F_packet_Size sz at *
  by_cases h2 : p.Next = 17
  · rw [if_pos h2] at h ⊢
    refine bifT (by simp [h2]) ?_
    rw [wi (by omega) (by omega)]
    congr 1
  · rw [if_neg h2] at h ⊢
    refine bifF (beqF h2) ?_
    rw [wi (by omega) (by omega)]
    congr 1
theorem pvalid_s : F_packet_Valid p = some true := by
  have h := sz_bd w
  unfold F_packet_Valid
  refine bifF (decF (by have := w.f1; omega)) (bind_of (v := false) ?_ (bifF rfl (bind_of (size_s w) (bifF (decF (by omega)) ?_))))
  · unfold F_address_IsMulticast
    exact congrArg some (beqF w.sm)
  by_cases h2 : p.Next = 17
  · exact bifT (by simp [h2]) rfl
  · refine bifF (beqF h2) ?_
    rcases w.pz with h3 | ⟨h3, h4⟩
    · exact absurd h3 h2
    · rw [h3, h4]; rfl
theorem head_len : (head p).length = 40 := by simp [head, beB_len, w.sl, w.dl]
theorem enc_len (s : Int) : (enc p s).length = sz p := by
  have h := head_len w
  unfold enc
  rw [List.length_append, List.length_append, h]
  unfold udpH sz ports
  split <;> simp [beB_len] <;> omega
theorem enc_ok (s : Int) : okB (enc p s) := by
  have hn := w.n0; have hn1 := w.n1; have hh := w.h0; have hh1 := w.h1
  refine okB.append ((beB_ok _ _).append ((beB_ok _ _).append ((okB_one ⟨hn, hn1⟩).append ((okB_one ⟨hh, hh1⟩).append (w.so.append w.dk))))) (okB.append ?_ w.po)
  unfold udpH ports
  split
  · exact ((beB_ok _ _).append ((beB_ok _ _).append (beB_ok _ _))).append (beB_ok _ _)
  · exact okB_nil
end
theorem four (b : List Int) (hb : b.length ≤ 1000) (v1 v2 v3 v4 : Int) (n1 n2 n3 n4 : Nat) (h1 : 1 ≤ n1 ∧ n1 ≤ 8) (h2 : 1 ≤ n2 ∧ n2 ≤ 8) (h3 : 1 ≤ n3 ∧ n3 ≤ 8) (h4 : 1 ≤ n4 ∧ n4 ≤ 8) :
    F_packet_encoding_1_G0 b [S_packet_number.mk v1 n1, S_packet_number.mk v2 n2, S_packet_number.mk v3 n3, S_packet_number.mk v4 n4] = some (b ++ beB v1 n1 ++ beB v2 n2 ++ beB v3 n3 ++ beB v4 n4) := by
  unfold F_packet_encoding_1_G0
  refine bind_of (v := b ++ beB v1 n1 ++ beB v2 n2 ++ beB v3 n3 ++ beB v4 n4) ?_ rfl
  rw [loop_next (s' := (b ++ beB v1 n1, 1)) (by
    unfold F_packet_encoding_1_G0_l1
    refine bifT rfl (bind_of (v := S_packet_number.mk v1 n1) rfl (bind_of (octets_append _ _ n1 h1.2 (by dsimp only; omega)) (bifT (decT (by simp [beB_len]; omega)) rfl)))),
    loop_next (s' := (b ++ beB v1 n1 ++ beB v2 n2, 2)) (by
    unfold F_packet_encoding_1_G0_l1
    refine bifT rfl (bind_of (v := S_packet_number.mk v2 n2) rfl (bind_of (octets_append _ _ n2 h2.2 (by simp [beB_len]; omega)) (bifT (decT (by simp [beB_len]; omega)) rfl)))),
    loop_next (s' := (b ++ beB v1 n1 ++ beB v2 n2 ++ beB v3 n3, 3)) (by
    unfold F_packet_encoding_1_G0_l1
    refine bifT rfl (bind_of (v := S_packet_number.mk v3 n3) rfl (bind_of (octets_append _ _ n3 h3.2 (by simp [beB_len]; omega)) (bifT (decT (by simp [beB_len]; omega)) rfl)))),
    loop_next (s' := (b ++ beB v1 n1 ++ beB v2 n2 ++ beB v3 n3 ++ beB v4 n4, 4)) (by
    unfold F_packet_encoding_1_G0_l1
    refine bifT rfl (bind_of (v := S_packet_number.mk v4 n4) rfl (bind_of (octets_append _ _ n4 h4.2 (by simp [beB_len]; omega)) (bifT (decT (by simp [beB_len]; omega)) rfl))))]
  exact loop_done rfl
theorem sub_mid (A B C : List Int) (i j : Nat) (hA : A.length = i) (hB : A.length + B.length = j) : subO (A ++ (B ++ C)) (i : Int) (j : Int) = some B := by
  subst hA
  subst hB
  rw [subO_some (by omega) (by omega) (by simp only [List.length_append]; omega), Int.toNat_natCast, Int.toNat_natCast]
  rw [← List.append_assoc, List.take_append_of_le_length (by rw [List.length_append]; exact Nat.le_refl _), List.take_of_length_le (by rw [List.length_append]; exact Nat.le_refl _)]
  simp
theorem beB_1 {v : Int} (h0 : 0 ≤ v) (h1 : v ≤ 255) : beB v 1 = [v] := by
  simp only [beB, List.range_one, List.map_cons, List.map_nil]
  rw [show v / 2 ^ (8 * (1 - 1 - 0)) % 256 = v by simp; omega]
section
variable {p : S_Packet} (w : WfP p)
include w
theorem penc {s : Int} (s0 : 0 ≤ s) (s1 : s ≤ 65535) : F_packet_encoding p s = some (enc p s) := by
  have hz := sz_bd w
  have c0 := w.c0; have c1 := w.c1; have f0 := w.f0; have f1 := w.f1; have n0 := w.n0; have n1 := w.n1; have h0 := w.h0; have h1 := w.h1
  have a0 := w.s0; have a1 := w.s1; have b0 := w.d0; have b1 := w.d1
  have e1 : IntKind.wrap .u64 (IntKind.wrap .u64 (1610612736 + ishl .u64 (IntKind.wrap .u64 p.Class) 20) + IntKind.wrap .u64 p.Flow) = frst p := by
    have e : (2 : Int) ^ (20 : Int).toNat = 1048576 := rfl
    rw [wu c0 (by omega), wu f0 (by omega), ishl_eq (by omega) (by omega), e, Int.emod_eq_of_lt (by omega) (by omega), wu (show 0 ≤ 1610612736 + p.Class * 1048576 by omega) (by omega), wu (by omega) (by omega)]
    rfl
  have e2 : IntKind.wrap .u64 (IntKind.wrap .i64 ((sz p : Int) - 40)) = (sz p : Int) - 40 := by
    rw [wi (by omega) (by omega), wu (by omega) (by omega)]
  have hpl : p.Payload.length ≤ 1240 := by
    have := w.pl
    split at this <;> omega
  have em : mkO 1 0 (sz p : Int) = some 0 := by
    unfold mkO
    rw [if_pos ⟨by omega, by omega, by omega, by omega⟩]
    rfl
  have hhd : [] ++ beB (frst p) 4 ++ beB ((sz p : Int) - 40) 2 ++ beB p.Next 1 ++ beB p.Hops 1 ++ p.Src ++ p.Dst = head p := by
    rw [beB_1 n0 n1, beB_1 h0 h1]
    simp [head]
  have hhl := head_len w
  unfold F_packet_encoding
  refine bind_of (size_s w) (bind_of (size_s w) (bind_of em ?_))
  rw [e1, e2, wu n0 (by omega), wu h0 (by omega), arrL_id w.sl, arrL_id w.dl]
  refine bind_of (four [] (by simp) _ _ _ _ 4 2 1 1 (by omega) (by omega) (by omega) (by omega)) ?_
  refine bind_of (app_le _ _ (by omega) (by simp [beB_len, Cut.app, w.sl])) (bind_of (app_le _ _ (by omega) (by simp [beB_len, Cut.app, w.sl, w.dl])) ?_)
  simp only [Cut.app]
  rw [hhd]
  unfold F_packet_encoding_j1
  by_cases h2 : p.Next = 17
  · refine bifT (by simp [h2]) ?_
    rw [wu a0 (by omega), wu b0 (by omega), wu s0 (by omega)]
    refine bind_of (four _ (by omega) _ _ _ _ 2 2 2 2 (by omega) (by omega) (by omega) (by omega)) ?_
    refine bind_of (app_le _ _ (by omega) (by simp [beB_len, Cut.app, hhl]; omega)) ?_
    simp [enc, udpH, ports, h2, Cut.app]
  · refine bifF (beqF h2) ?_
    refine bind_of (app_le _ _ (by omega) (by simp [Cut.app, hhl]; omega)) ?_
    simp [enc, udpH, h2, Cut.app]
/-- the checksum does not depend on the one that is written -/
theorem usum_s (h17 : p.Next = 17) : ∃ u, 0 ≤ u ∧ u ≤ 65535 ∧ ∀ s, F_packet_udpSum (enc p s) = some u := by
  have hz := sz_bd w
  have hpl : p.Payload.length ≤ 1240 := by
    have := w.pl
    split at this <;> omega
  have hpt : okB (ports p) := (beB_ok _ _).append ((beB_ok _ _).append (beB_ok _ _))
  have hptl : (ports p).length = 6 := by simp [ports, beB_len]
  obtain ⟨v, hv, v0, v1⟩ := internet_spec (l := [p.Src ++ p.Dst, beB ((sz p : Int) - 40) 4, ([0,0,0,17] : List Int), ports p, [0, 0], p.Payload]) (by
    intro e he
    simp only [List.mem_cons, List.not_mem_nil, or_false] at he
    rcases he with rfl | rfl | rfl | rfl | rfl | rfl
    · exact ⟨w.so.append w.dk, by simp [w.sl, w.dl]⟩
    · exact ⟨beB_ok _ _, by rw [beB_len]; omega⟩
    · exact ⟨by intro z hz; simp at hz; omega, by show (4 : Nat) ≤ _; omega⟩
    · exact ⟨hpt, by omega⟩
    · exact ⟨by intro z hz; simp at hz; omega, by show (2 : Nat) ≤ _; omega⟩
    · exact ⟨w.po, by omega⟩) (by show (6 : Nat) ≤ _; omega)
  refine ⟨if v = 0 then 65535 else v, by split <;> omega, by split <;> omega, fun s => ?_⟩
  have hl := enc_len w s
  have e1 : IntKind.wrap .u64 (IntKind.wrap .i64 (((enc p s).length : Int) - 40)) = (sz p : Int) - 40 := by
    rw [hl, wi (by omega) (by omega), wu (by omega) (by omega)]
  unfold F_packet_udpSum
  rw [e1]
  refine bind_of (octets_append [] _ 4 (by omega) (by simp)) ?_
  refine bind_of (v := p.Src ++ p.Dst) ?_ ?_
  · have e : enc p s = (beB (frst p) 4 ++ beB ((sz p : Int) - 40) 2 ++ [p.Next] ++ [p.Hops]) ++ ((p.Src ++ p.Dst) ++ (udpH p s ++ p.Payload)) := by simp [enc, head]
    rw [e]
    exact sub_mid _ _ _ 8 40 (by simp [beB_len]) (by simp [beB_len, w.sl, w.dl])
  refine bind_of (v := ports p) ?_ ?_
  · have e : enc p s = head p ++ (ports p ++ (beB s 2 ++ p.Payload)) := by simp [enc, udpH, h17]
    rw [e]
    exact sub_mid _ _ _ 40 46 (head_len w) (by rw [head_len w, hptl])
  refine bind_of (v := [0, 0]) rfl (bind_of (v := p.Payload) ?_ ?_)
  · have e : enc p s = (head p ++ ports p ++ beB s 2) ++ p.Payload := by simp [enc, udpH, h17]
    rw [e]
    exact sub_pre _ _ 48 (by simp [head_len w, hptl, beB_len])
  rw [List.nil_append]
  refine bind_of hv ?_
  by_cases hv0 : v = 0
  · subst hv0; rfl
  · rw [if_neg hv0]
    exact bifF (beqF hv0) rfl
/-- the packet is written -/
theorem plain_s : ∃ u, 0 ≤ u ∧ u ≤ 65535 ∧ F_packet_Encode p = some (enc p u, 0) ∧ (p.Next = 17 → F_packet_udpSum (enc p u) = some u) := by
  by_cases h17 : p.Next = 17
  · obtain ⟨u, u0, u1, hu⟩ := usum_s w h17
    refine ⟨u, u0, u1, ?_, fun _ => hu u⟩
    unfold F_packet_Encode
    refine bind_of (pvalid_s w) (bifT rfl (bind_of (v := u) ?_ (bind_of (penc w u0 u1) rfl)))
    unfold F_packet_Sum
    exact bind_of (pvalid_s w) (bifT rfl (bifF (by simp [h17]) (bind_of (penc w (Int.le_refl 0) (by omega)) (bind_of (hu 0) rfl))))
  · refine ⟨0, by omega, by omega, ?_, fun h => absurd h h17⟩
    unfold F_packet_Encode
    refine bind_of (pvalid_s w) (bifT rfl (bind_of (v := 0) ?_ (bind_of (penc w (Int.le_refl 0) (by omega)) rfl)))
    unfold F_packet_Sum
    exact bind_of (pvalid_s w) (bifT rfl (bifT (by simp [h17]) rfl))
end
end
section
open Go.RowKit

theorem iand_20 {x : Int} (h0 : 0 ≤ x) (h1 : x < 18446744073709551616) : iand .u64 x 1048575 = x % 1048576 := by
  obtain ⟨n, rfl⟩ := Int.eq_ofNat_of_zero_le h0
  unfold iand
  have e1 : (BitVec.ofInt IntKind.u64.bits ((n : Nat) : Int)).toNat = n := by
    rw [BitVec.toNat_ofInt]
    simp only [IntKind.bits]
    omega
  have e2 : (BitVec.ofInt IntKind.u64.bits 1048575).toNat = 2 ^ 20 - 1 := by decide +kernel
  rw [BitVec.toNat_and, e1, e2, Nat.and_two_pow_sub_one_eq_mod, wu (by omega) (by omega)]
  omega
theorem cpA_id {l : List Int} (h : l.length = 16) (z : List Int) : cpA 16 z (Cut.app .whole l) = l := by
  apply List.ext_getElem?
  intro i
  unfold cpA
  simp only [Cut.app]
  rcases Nat.lt_or_ge i 16 with hi | hi
  · rw [List.getElem?_map, List.getElem?_range hi, List.getElem?_eq_getElem (by omega)]
    simp [h, hi, List.getD_eq_getElem?_getD, List.getElem?_eq_getElem (show i < l.length by omega)]
  · rw [List.getElem?_eq_none (by simpa using hi), List.getElem?_eq_none (by omega)]
theorem num_s {b : List Int} (hb : okB b) (hl : b.length ≤ 1000000) (A B C : List Int) (i n : Nat) (e : b = A ++ (B ++ C)) (hA : A.length = i) (hB : B.length = n) (h1 : 1 ≤ n) (h8 : n ≤ 8) : F_packet_Decode_1_R292 (i : Int) (n : Int) b = some (beN B) := by
  unfold F_packet_Decode_1_R292
  have hlen : b.length = i + (n + C.length) := by rw [e]; simp [hA, hB]
  refine bind_of (uint_some hb (by omega) i n h1 h8 (by omega)) ?_
  have : (b.drop i).take n = B := by
    rw [e]
    subst hA
    subst hB
    simp
  rw [this]
section
variable {p : S_Packet} (w : WfP p)
include w
theorem pdec {u : Int} (u0 : 0 ≤ u) (u1 : u ≤ 65535) (hu : p.Next = 17 → F_packet_udpSum (enc p u) = some u) : F_packet_Decode (enc p u) = some (p, 0) := by
  have hz := sz_bd w
  have hl := enc_len w u
  have ho := enc_ok w u
  have hh := head_len w
  have c0 := w.c0; have c1 := w.c1; have f0 := w.f0; have f1 := w.f1; have n0 := w.n0; have n1 := w.n1; have h0 := w.h0; have h1 := w.h1
  have a0 := w.s0; have a1 := w.s1; have b0 := w.d0; have b1 := w.d1
  have hfr : 0 ≤ frst p ∧ frst p < 2147483648 := by unfold frst; omega
  have hpl : p.Payload.length ≤ 1240 := by
    have := w.pl
    split at this <;> omega
  -- what is read
  have r1 : F_packet_Decode_1_R292 0 4 (enc p u) = some (frst p) := by
    have := num_s ho (by omega) [] (beB (frst p) 4) (beB ((sz p : Int) - 40) 2 ++ ([p.Next] ++ ([p.Hops] ++ (p.Src ++ p.Dst))) ++ (udpH p u ++ p.Payload)) 0 4 (by simp [enc, head]) rfl (beB_len _ _) (by omega) (by omega)
    rw [beN_one _ _ hfr.1 (by omega)] at this
    exact this
  have r2 : F_packet_Decode_1_R292 4 2 (enc p u) = some ((sz p : Int) - 40) := by
    have := num_s ho (by omega) (beB (frst p) 4) (beB ((sz p : Int) - 40) 2) ([p.Next] ++ ([p.Hops] ++ (p.Src ++ p.Dst)) ++ (udpH p u ++ p.Payload)) 4 2 (by simp [enc, head]) (beB_len _ _) (beB_len _ _) (by omega) (by omega)
    rw [beN_one _ _ (by omega) (by omega)] at this
    exact this
  have i6 : idx (enc p u) 6 = some p.Next := by
    have e : enc p u = (beB (frst p) 4 ++ beB ((sz p : Int) - 40) 2) ++ (p.Next :: ([p.Hops] ++ (p.Src ++ p.Dst) ++ (udpH p u ++ p.Payload))) := by simp [enc, head]
    rw [e, show (6 : Int) = ((6 : Nat) : Int) from rfl, idx_nat, List.getElem?_append_right (by simp [beB_len])]
    simp [beB_len]
  have i7 : idx (enc p u) 7 = some p.Hops := by
    have e : enc p u = (beB (frst p) 4 ++ beB ((sz p : Int) - 40) 2 ++ [p.Next]) ++ (p.Hops :: ((p.Src ++ p.Dst) ++ (udpH p u ++ p.Payload))) := by simp [enc, head]
    rw [e, show (7 : Int) = ((7 : Nat) : Int) from rfl, idx_nat, List.getElem?_append_right (by simp [beB_len])]
    simp [beB_len]
  have s1 : subO (enc p u) 8 24 = some p.Src := by
    have e : enc p u = (beB (frst p) 4 ++ beB ((sz p : Int) - 40) 2 ++ [p.Next] ++ [p.Hops]) ++ (p.Src ++ (p.Dst ++ (udpH p u ++ p.Payload))) := by simp [enc, head]
    rw [e]
    exact sub_mid _ _ _ 8 24 (by simp [beB_len]) (by simp [beB_len, w.sl])
  have s2 : subO (enc p u) 24 40 = some p.Dst := by
    have e : enc p u = (beB (frst p) 4 ++ beB ((sz p : Int) - 40) 2 ++ [p.Next] ++ [p.Hops] ++ p.Src) ++ (p.Dst ++ (udpH p u ++ p.Payload)) := by simp [enc, head]
    rw [e]
    exact sub_mid _ _ _ 24 40 (by simp [beB_len, w.sl]) (by simp [beB_len, w.sl, w.dl])
  have s3 : subO (enc p u) 40 ((enc p u).length : Int) = some (udpH p u ++ p.Payload) := sub_pre _ _ 40 hh
  have t1 : (ishr .u64 (frst p) 28 != 6) = false := by
    have e : (2 : Int) ^ (28 : Int).toNat = 268435456 := rfl
    rw [ishr_eq (by omega) (by omega), e, bne_eq_false_iff_eq]
    unfold frst at *
    omega
  have t2 : ((sz p : Int) - 40 != IntKind.wrap .u64 (IntKind.wrap .i64 (((enc p u).length : Int) - 40))) = false := by
    rw [hl, wi (by omega) (by omega), wu (by omega) (by omega)]
    simp
  have ec : IntKind.wrap .u8 (ishr .u64 (frst p) 20) = p.Class := by
    have e : (2 : Int) ^ (20 : Int).toNat = 1048576 := rfl
    rw [ishr_eq (by omega) (by omega), e, wrap8]
    unfold frst
    omega
  have ef : IntKind.wrap .u32 (iand .u64 (frst p) 1048575) = p.Flow := by
    rw [iand_20 hfr.1 (by omega), wu32 (by omega) (by omega)]
    unfold frst
    omega
  have last1 : F_packet_Decode_j1 (enc p u) (p.Payload, S_Packet.mk p.Class p.Flow p.Next p.Hops p.Src p.Dst p.SrcPort p.DstPort []) = some (p, 0) := by
    unfold F_packet_Decode_j1
    refine bind_of (mkO_len p.Payload.length (by omega)) ?_
    dsimp only
    rw [cpL_all p.Payload p.Payload.length rfl]
    refine bind_of (pvalid_s w) (bifT rfl ?_)
    by_cases h17 : p.Next = 17
    · have hsum : F_packet_Decode_1_R292 46 2 (enc p u) = some u := by
        have := num_s ho (by omega) (head p ++ ports p) (beB u 2) p.Payload 46 2 (by simp [enc, udpH, h17]) (by simp [hh, ports, beB_len]) (beB_len _ _) (by omega) (by omega)
        rw [beN_one _ _ u0 (by omega)] at this
        exact this
      refine bifT (by simp [h17]) (bind_of hsum (bind_of (hu h17) (bifF ?_ rfl)))
      rw [wu16 u0 (by omega)]
      simp
    · exact bifF (beqF h17) rfl
  have last2 : F_packet_Decode_j2 (enc p u) (p.Payload, S_Packet.mk p.Class p.Flow p.Next p.Hops p.Src p.Dst p.SrcPort p.DstPort []) = some (p, 0) := last1
  unfold F_packet_Decode
  refine bifF (decF (by omega)) (bifF (decF (by omega)) ?_)
  by_cases hsm : ((enc p u).length : Int) < 48
  · have hn : ¬ p.Next = 17 := fun q => by have := hz.2.2 q; omega
    have hud : udpH p u = [] := by unfold udpH; rw [if_neg hn]
    refine bifT (decT hsm) (bind_of i6 (bifF (beqF hn) ?_))
    refine bind_of r1 (bifF t1 (bind_of r2 (bifF t2 (bind_of i6 (bind_of i7 (bind_of s1 (bind_of s2 (bind_of s3 (bifF (beqF hn) ?_)))))))))
    rw [ec, ef, cpA_id w.sl, cpA_id w.dl, hud, List.nil_append]
    rcases w.pz with q | ⟨q1, q2⟩
    · exact absurd q hn
    · rw [q1, q2] at last1
      exact last1
  · refine bifF (decF hsm) ?_
    by_cases hn : p.Next = 17
    · have q1 : F_packet_Decode_1_R292 44 2 (enc p u) = some ((sz p : Int) - 40) := by
        have := num_s ho (by omega) (head p ++ beB p.SrcPort 2 ++ beB p.DstPort 2) (beB ((sz p : Int) - 40) 2) (beB u 2 ++ p.Payload) 44 2 (by simp [enc, udpH, ports, hn]) (by simp [hh, beB_len]) (beB_len _ _) (by omega) (by omega)
        rw [beN_one _ _ (by omega) (by omega)] at this
        exact this
      have q2 : F_packet_Decode_1_R292 40 2 (enc p u) = some p.SrcPort := by
        have := num_s ho (by omega) (head p) (beB p.SrcPort 2) (beB p.DstPort 2 ++ beB ((sz p : Int) - 40) 2 ++ beB u 2 ++ p.Payload) 40 2 (by simp [enc, udpH, ports, hn]) hh (beB_len _ _) (by omega) (by omega)
        rw [beN_one _ _ a0 (by omega)] at this
        exact this
      have q3 : F_packet_Decode_1_R292 42 2 (enc p u) = some p.DstPort := by
        have := num_s ho (by omega) (head p ++ beB p.SrcPort 2) (beB p.DstPort 2) (beB ((sz p : Int) - 40) 2 ++ beB u 2 ++ p.Payload) 42 2 (by simp [enc, udpH, ports, hn]) (by simp [hh, beB_len]) (beB_len _ _) (by omega) (by omega)
        rw [beN_one _ _ b0 (by omega)] at this
        exact this
      have q4 : subO (udpH p u ++ p.Payload) 8 ((udpH p u ++ p.Payload).length : Int) = some p.Payload := sub_pre _ _ 8 (by simp [udpH, hn, ports, beB_len])
      refine bind_of r1 (bifF t1 (bind_of r2 (bifF t2 (bind_of i6 (bind_of i7 (bind_of s1 (bind_of s2 (bind_of s3 (bifT (by simp [hn]) ?_)))))))))
      refine bind_of q1 (bifF t2 (bind_of q2 (bind_of q3 (bind_of q4 ?_))))
      rw [ec, ef, cpA_id w.sl, cpA_id w.dl, wu16 a0 (by omega), wu16 b0 (by omega)]
      exact last2
    · have hud : udpH p u = [] := by unfold udpH; rw [if_neg hn]
      refine bind_of r1 (bifF t1 (bind_of r2 (bifF t2 (bind_of i6 (bind_of i7 (bind_of s1 (bind_of s2 (bind_of s3 (bifF (beqF hn) ?_)))))))))
      rw [ec, ef, cpA_id w.sl, cpA_id w.dl, hud, List.nil_append]
      rcases w.pz with q | ⟨q1, q2⟩
      · exact absurd q hn
      · rw [q1, q2] at last2
        exact last2
theorem same_s : F_ref13_Same p p = some true := by
  have hpl : p.Payload.length ≤ 1240 := by
    have := w.pl
    split at this <;> omega
  have arr : ∀ l : List Int, arrEq 16 l l = true := fun l => arrEq_iff.2 fun _ _ => rfl
  unfold F_ref13_Same
  refine bifT (by simp) (bifT (by simp) (bifT (by simp) (bifT (by simp) (bifT (arr _) (bifT (arr _) (bifT (by simp) (bifT (by simp) (bind_of (v := true) ?_ rfl))))))))
  unfold F_ref01_Same
  refine bifF (by simp) (bind_of (v := ()) ?_ rfl)
  have hr := loop_run (step := F_ref01_Same_l1 p.Payload p.Payload) (S := fun k => (k : Int)) p.Payload.length (r := ()) (fun k hk => by
    unfold F_ref01_Same_l1
    refine bifT (decT (by omega)) (bind_of (idx_lt hk) (bind_of (idx_lt hk) (bifF (by simp) ?_)))
    rw [wk k (by omega)]) (by
    unfold F_ref01_Same_l1
    exact bifF (decF (by omega)) rfl)
  exact hr
/-- what the law asks of a packet -/
theorem plain_dec : ∃ c, okB c ∧ 1 ≤ c.length ∧ c.length ≤ 1285 ∧ F_compress_Plain p = some (c, 0) ∧ F_compress_Decode c (S_Addr.mk 0 0 0) (S_Addr.mk 0 0 0) [] 5 = some (p, 0) ∧ F_ref13_Same p p = some true := by
  obtain ⟨u, u0, u1, he, hu⟩ := plain_s w
  have hz := sz_bd w
  have hl := enc_len w u
  refine ⟨[65] ++ enc p u, (okB_lit rfl).append (enc_ok w u), by simp, by simp [hl]; omega, ?_, ?_, same_s w⟩
  · unfold F_compress_Plain
    exact bind_of he (bifF rfl (bind_of (app_le _ _ (by omega) (by simp [Cut.app, hl]; omega)) rfl))
  · unfold F_compress_Decode
    refine bifF (beqF (by simp; omega)) (bind_of (v := 65) rfl (bifT rfl (bind_of (sub_pre [65] (enc p u) 1 rfl) (bind_of (pdec w u0 u1 hu) rfl))))
end
end
section
open Go.RowKit

theorem of_ex (x y : Int) : ∃ l, F_ref04_Of x y = some l ∧ l.length = 16 ∧ okB l := by
  obtain ⟨r, hr, h1, h2⟩ := loop_inv (step := F_ref04_Of_l1 x y) (fun s => 0 ≤ s.1 ∧ s.1 ≤ 8 ∧ s.2.length = 16 ∧ okB s.2) (fun r => r.length = 16 ∧ okB r) (fun s => (8 - s.1).toNat) (by
    rintro ⟨i, l⟩ ⟨i0, i1, h1, h2⟩
    dsimp only at i0 i1 h1 h2
    unfold F_ref04_Of_l1
    dsimp only
    by_cases hi : i < 8
    · left
      have hw : ∀ z : Int, 0 ≤ IntKind.wrap .u64 z := fun z => by rw [wrap64]; omega
      have e8 : IntKind.wrap .i64 (8 + i) = 8 + i := wi (by omega) (by omega)
      refine ⟨_, bifT (decT hi) (bifT (decT (hw _)) (bifT (decT (hw _)) (bifT (decT (by omega)) (bifT (decT (by rw [e8]; omega)) rfl)))), ?_, ?_⟩
      · rw [wi (show -9223372036854775808 ≤ i + 1 by omega) (by omega)]
        refine ⟨by dsimp only; omega, by dsimp only; omega, setA_len _ _ _ _, ?_⟩
        dsimp only
        rw [setA_set (setA_len _ _ _ _), setA_set h1]
        exact (h2.set _ (wrap8_bd _)).set _ (wrap8_bd _)
      · dsimp only
        rw [wi (show -9223372036854775808 ≤ i + 1 by omega) (by omega)]
        omega
    · right
      exact ⟨_, bifF (decF hi) rfl, h1, h2⟩) (0, [0,0,0,0,0,0,0,0,0,0,0,0,0,0,0,0]) ⟨by dsimp only; omega, by dsimp only; omega, rfl, okB_lit rfl⟩
  exact ⟨r, bind_of hr rfl, h1, h2⟩
theorem ipj_ex (e v : Int) {t : S_multihopmade_Tape} (ht : TapeOk t) : ∃ ip t', F_made_Tape_IP_j1 e (v, t) = some (ip, t') ∧ ip.length = 16 ∧ okB ip ∧ TapeOk t' := by
  obtain ⟨l, h1, h2, h3⟩ := of_ex e v
  exact ⟨l, t, bind_of h1 rfl, h2, h3, ht⟩
theorem grp_ex {t : S_multihopmade_Tape} (ht : TapeOk t) (l : List Int) (hl : l.length = 16) (ho : okB l) : ∃ ip t', F_made_Tape_IP_j3 (t, l) = some (ip, t') ∧ ip.length = 16 ∧ okB ip ∧ TapeOk t' := by
  obtain ⟨r, hr, h1, h2, h3⟩ := loop_inv (step := F_made_Tape_IP_l4) (fun s => 1 ≤ s.1 ∧ s.1 ≤ 15 ∧ TapeOk s.2.1 ∧ s.2.2.length = 16 ∧ okB s.2.2) (fun r => TapeOk r.1 ∧ r.2.length = 16 ∧ okB r.2) (fun s => s.1.toNat) (by
    rintro ⟨i, t, l⟩ ⟨i0, i1, ht, h1, h2⟩
    dsimp only at i0 i1 ht h1 h2
    unfold F_made_Tape_IP_l4
    dsimp only
    obtain ⟨v, t1, e1, v0, v1, ht1⟩ := next_spec ht 15 (by omega) (by omega)
    by_cases hi : i > 15 - v
    · left
      obtain ⟨z, t2, e2, z0, z1, ht2⟩ := next_spec ht1 256 (by omega) (by omega)
      refine ⟨_, bind_of e1 (bifT (decT (by rw [wi (by omega) (by omega)]; exact hi)) (bind_of e2 (bifT (decT (by omega)) rfl))), ?_, ?_⟩
      · rw [wi (show -9223372036854775808 ≤ i - 1 by omega) (by omega)]
        refine ⟨by dsimp only; omega, by dsimp only; omega, ht2, setA_len _ _ _ _, ?_⟩
        dsimp only
        rw [setA_set h1]
        exact h2.set _ (wrap8_bd _)
      · dsimp only
        rw [wi (show -9223372036854775808 ≤ i - 1 by omega) (by omega)]
        omega
    · right
      exact ⟨_, bind_of e1 (bifF (decF (by rw [wi (by omega) (by omega)]; exact hi)) rfl), ht1, h1, h2⟩) (15, t, l) ⟨by dsimp only; omega, by dsimp only; omega, ht, hl, ho⟩
  exact ⟨r.2, r.1, bind_of hr rfl, h2, h3, h1⟩
theorem iid_ex (n : Nat) : ∃ v, F_ref04_IID (devN n) = some (v, true) := by
  refine ⟨ixor .u64 (devN n).EUI 144115188075855872, ?_⟩
  unfold F_ref04_IID
  exact bind_of (v := true) (by kernel_rfl) (bifT rfl (bifT rfl rfl))
theorem ip_ex {t : S_multihopmade_Tape} (ht : TapeOk t) (n : Nat) : ∃ ip t', F_made_Tape_IP t (devN n) = some (ip, t') ∧ ip.length = 16 ∧ okB ip ∧ TapeOk t' := by
  obtain ⟨a, t1, e1, a0, a1, ht1⟩ := next_spec ht 6 (by omega) (by omega)
  obtain ⟨b, t2, e2, b0, b1, ht2⟩ := next_spec ht1 6 (by omega) (by omega)
  obtain ⟨iid, hiid⟩ := iid_ex n
  obtain ⟨e, hx⟩ : ∃ e, idx ([2306139568115548160, 2306139568115613696, 18338657682652659712, 18230571291595767808, 0, 2306139568115613697] : List Int) a = some e := ⟨_, idx_int (l := ([2306139568115548160, 2306139568115613696, 18338657682652659712, 18230571291595767808, 0, 2306139568115613697] : List Int)) a0 (by show a < 6; omega)⟩
  unfold F_made_Tape_IP
  rw [e1]
  simp only [Option.bind_some]
  rw [hx]
  simp only [Option.bind_some]
  rw [hiid]
  simp only [Option.bind_some]
  rw [e2]
  simp only [Option.bind_some]
  by_cases q0 : b = 0
  · obtain ⟨c, t3, e3, _, _, ht3⟩ := next_spec ht2 65536 (by omega) (by omega)
    obtain ⟨ip, t', h1, h2⟩ := ipj_ex e (IntKind.wrap .u64 (1099478073344 + (IntKind.wrap .u64 c))) ht3
    exact ⟨ip, t', bifT (by simp [q0]) (bind_of e3 h1), h2⟩
  by_cases q1 : b = 1
  · obtain ⟨c, t3, e3, _, _, ht3⟩ := next_spec ht2 65536 (by omega) (by omega)
    obtain ⟨g, t4, e4, _, _, ht4⟩ := next_spec ht3 5 (by omega) (by omega)
    have fin : ∀ x : Int, ∃ ip t', F_made_Tape_IP_j2 e (x, t4) = some (ip, t') ∧ ip.length = 16 ∧ okB ip ∧ TapeOk t' := fun x => ipj_ex e x ht4
    by_cases g0 : g = 0
    · obtain ⟨ip, t', h1, h2⟩ := fin (IntKind.wrap .u64 c)
      exact ⟨ip, t', bifF (beqF q0) (bifT (by simp [q1]) (bind_of e3 (bind_of e4 (bifT (by simp [g0]) h1)))), h2⟩
    by_cases g1 : g = 1
    · obtain ⟨ip, t', h1, h2⟩ := fin (IntKind.wrap .u64 ((ishl .u64 (IntKind.wrap .u64 c) 48) + (IntKind.wrap .u64 c)))
      exact ⟨ip, t', bifF (beqF q0) (bifT (by simp [q1]) (bind_of e3 (bind_of e4 (bifF (beqF g0) (bifT (by simp [g1]) h1))))), h2⟩
    by_cases g2 : g = 2
    · obtain ⟨ip, t', h1, h2⟩ := fin (IntKind.wrap .u64 (9223372036854775808 + (IntKind.wrap .u64 c)))
      exact ⟨ip, t', bifF (beqF q0) (bifT (by simp [q1]) (bind_of e3 (bind_of e4 (bifF (beqF g0) (bifF (beqF g1) (bifT (by simp [g2]) h1)))))), h2⟩
    by_cases g3 : g = 3
    · obtain ⟨ip, t', h1, h2⟩ := fin (IntKind.wrap .u64 (18446744073709551615 - (Int.tmod (IntKind.wrap .u64 c) 4)))
      exact ⟨ip, t', bifF (beqF q0) (bifT (by simp [q1]) (bind_of e3 (bind_of e4 (bifF (beqF g0) (bifF (beqF g1) (bifF (beqF g2) (bifT (by simp [g3]) h1))))))), h2⟩
    · obtain ⟨ip, t', h1, h2⟩ := fin (Int.tmod (IntKind.wrap .u64 c) 4)
      exact ⟨ip, t', bifF (beqF q0) (bifT (by simp [q1]) (bind_of e3 (bind_of e4 (bifF (beqF g0) (bifF (beqF g1) (bifF (beqF g2) (bifF (beqF g3) h1))))))), h2⟩
  by_cases q2 : b = 2
  · obtain ⟨c, t3, e3, _, _, ht3⟩ := next_spec ht2 2 (by omega) (by omega)
    by_cases c1 : c = IntKind.wrap .i64 (2 - 1)
    · obtain ⟨g, t4, e4, _, _, ht4⟩ := next_spec ht3 256 (by omega) (by omega)
      obtain ⟨ip, t', h1, h2⟩ := grp_ex ht4 [255, IntKind.wrap .u8 g, 0, 0, 0, 0, 0, 0, 0, 0, 0, 0, 0, 0, 0, 0] rfl (okB_cons (by omega) (okB_cons (wrap8_bd g) (okB_lit rfl)))
      exact ⟨ip, t', bifF (beqF q0) (bifF (beqF q1) (bifT (by simp [q2]) (bind_of e3 (bifT (by simp [c1]) (bind_of e4 h1))))), h2⟩
    · obtain ⟨ip, t', h1, h2⟩ := grp_ex ht3 [255, 2, 0, 0, 0, 0, 0, 0, 0, 0, 0, 0, 0, 0, 0, 0] rfl (okB_lit rfl)
      exact ⟨ip, t', bifF (beqF q0) (bifF (beqF q1) (bifT (by simp [q2]) (bind_of e3 (bifF (beqF c1) h1)))), h2⟩
  by_cases q3 : b = 3
  · obtain ⟨c, t3, e3, _, _, ht3⟩ := next_spec ht2 2 (by omega) (by omega)
    by_cases c1 : c = IntKind.wrap .i64 (2 - 1)
    · exact ⟨_, t3, bifF (beqF q0) (bifF (beqF q1) (bifF (beqF q2) (bifT (by simp [q3]) (bind_of e3 (bifT (by simp [c1]) rfl))))), rfl, okB_lit rfl, ht3⟩
    · obtain ⟨ip, t', h1, h2⟩ := ipj_ex e iid ht3
      exact ⟨ip, t', bifF (beqF q0) (bifF (beqF q1) (bifF (beqF q2) (bifT (by simp [q3]) (bind_of e3 (bifF (beqF c1) h1))))), h2⟩
  · obtain ⟨ip, t', h1, h2⟩ := ipj_ex e iid ht2
    exact ⟨ip, t', bifF (beqF q0) (bifF (beqF q1) (bifF (beqF q2) (bifF (beqF q3) h1))), h2⟩
theorem bytes_ex {t : S_multihopmade_Tape} (ht : TapeOk t) : ∃ l t', F_made_Tape_Bytes t 12 = some (l, t') ∧ l.length ≤ 12 ∧ okB l ∧ TapeOk t' := by
  obtain ⟨a, t1, e1, a0, a1, ht1⟩ := next_spec ht 13 (by omega) (by omega)
  obtain ⟨n, rfl⟩ : ∃ n : Nat, a = (n : Int) := ⟨a.toNat, by omega⟩
  obtain ⟨r, hr, h1, h2, h3⟩ := loop_inv (step := F_made_Tape_Bytes_l1) (fun s => 0 ≤ s.1 ∧ s.1 ≤ n ∧ TapeOk s.2.1 ∧ s.2.2.length = n ∧ okB s.2.2) (fun r => TapeOk r.1 ∧ r.2.length = n ∧ okB r.2) (fun s => ((n : Int) - s.1).toNat) (by
    rintro ⟨i, t, l⟩ ⟨i0, i1, ht, h1, h2⟩
    dsimp only at i0 i1 ht h1 h2
    unfold F_made_Tape_Bytes_l1
    dsimp only
    by_cases hi : i < (l.length : Int)
    · left
      obtain ⟨z, t2, e2, z0, z1, ht2⟩ := next_spec ht 256 (by omega) (by omega)
      have hg : l[(0 + Int.toNat i)]? = some (l[i.toNat]'(by omega)) := by rw [Nat.zero_add]; exact List.getElem?_eq_getElem _
      refine ⟨_, bifT (decT hi) (bind_of e2 (bind_of (idx_int (l := l) i0 hi) (bind_of hg rfl))), ?_, ?_⟩
      · rw [wi (show -9223372036854775808 ≤ i + 1 by omega) (by omega)]
        exact ⟨by dsimp only; omega, by dsimp only; omega, ht2, by dsimp only; rw [List.length_set]; exact h1, h2.set _ (wrap8_bd _)⟩
      · dsimp only
        rw [wi (show -9223372036854775808 ≤ i + 1 by omega) (by omega)]
        omega
    · right
      exact ⟨_, bifF (decF hi) rfl, ht, h1, h2⟩) (0, t1, List.replicate n 0) ⟨by dsimp only; omega, by dsimp only; omega, ht1, by simp, fun z hz => by rw [(List.mem_replicate.1 hz).2]; omega⟩
  refine ⟨r.2, r.1, ?_, by omega, h3, h1⟩
  unfold F_made_Tape_Bytes
  refine bind_of (show F_made_Tape_Next t (IntKind.wrap .i64 (12 + 1)) = _ from e1) (bind_of (mkO_len n (by omega)) (bind_of hr rfl))
theorem law_of {p : S_Packet} (w : WfP p) (a : Int) : F_top_TopRelays_j5 a p = some true := by
  obtain ⟨c, h1, h2, h3, h4, h5, h6⟩ := plain_dec w
  exact relays_s h1 h2 h3 h4 h5 h6 a
theorem fill_ex (z : Int) (v99 v100 v101 v102 : Int × S_multihopmade_Tape) (n : Nat) (hn : n ≤ 1240) (he : IntKind.wrap .i64 ((IntKind.wrap .i64 (1280 - z)) - v99.1) = (n : Int)) : ∃ l, loopO (F_top_TopRelays_l11 z v99 v100 v101 v102) (0, List.replicate n 0) = some l ∧ l.length = n ∧ okB l := by
  obtain ⟨r, hr, h1, h2⟩ := loop_inv (step := F_top_TopRelays_l11 z v99 v100 v101 v102) (fun s => 0 ≤ s.1 ∧ s.1 ≤ n ∧ s.2.length = n ∧ okB s.2) (fun r => r.length = n ∧ okB r) (fun s => ((n : Int) - s.1).toNat) (by
    rintro ⟨i, l⟩ ⟨i0, i1, h1, h2⟩
    dsimp only at i0 i1 h1 h2
    unfold F_top_TopRelays_l11
    dsimp only
    rw [he]
    by_cases hi : i < (n : Int)
    · left
      have hg : l[(0 + Int.toNat i)]? = some (l[i.toNat]'(by omega)) := by rw [Nat.zero_add]; exact List.getElem?_eq_getElem _
      refine ⟨_, bifT (decT hi) (bifT (decT ⟨Int.tmod_nonneg 5 i0, Int.tmod_lt_of_pos i (by omega)⟩) (bind_of (idx_int (l := l) i0 (by omega)) (bind_of hg rfl))), ?_, ?_⟩
      · rw [wi (show -9223372036854775808 ≤ i + 1 by omega) (by omega)]
        exact ⟨by dsimp only; omega, by dsimp only; omega, by dsimp only; rw [List.length_set]; exact h1, h2.set _ (wrap8_bd _)⟩
      · dsimp only
        rw [wi (show -9223372036854775808 ≤ i + 1 by omega) (by omega)]
        omega
    · right
      exact ⟨_, bifF (decF hi) rfl, h1, h2⟩) (0, List.replicate n 0) ⟨by dsimp only; omega, by dsimp only; omega, by simp, fun z hz => by rw [(List.mem_replicate.1 hz).2]; omega⟩
  exact ⟨r, hr, h1, h2⟩
theorem j4_s {t : S_multihopmade_Tape} (ht : TapeOk t) {p : S_Packet} (w : WfP p) (a : Int) : F_top_TopRelays_j4 a (t, p) = some true := by
  obtain ⟨b, t1, e1, b0, b1, ht1⟩ := next_spec ht 12 (by omega) (by omega)
  unfold F_top_TopRelays_j4
  refine bind_of e1 ?_
  by_cases hb : b = IntKind.wrap .i64 (12 - 1)
  · obtain ⟨c, t2, e2, c0, c1, ht2⟩ := next_spec ht1 2 (by omega) (by omega)
    obtain ⟨x1, t3, e3, _, _, ht3⟩ := next_spec ht2 256 (by omega) (by omega)
    obtain ⟨x2, t4, e4, _, _, ht4⟩ := next_spec ht3 256 (by omega) (by omega)
    obtain ⟨x3, t5, e5, _, _, ht5⟩ := next_spec ht4 256 (by omega) (by omega)
    have hsz : ∃ z : Int, F_ref13_Size (S_Packet.mk 0 0 p.Next 0 [0,0,0,0,0,0,0,0,0,0,0,0,0,0,0,0] [0,0,0,0,0,0,0,0,0,0,0,0,0,0,0,0] 0 0 ([] : List Int)) = some z ∧ z = if p.Next = 17 then 48 else 40 := by
      unfold F_ref13_Size F_ref13_udp
      by_cases h17 : p.Next = 17
      · exact ⟨48, by rw [h17]; kernel_rfl, by rw [if_pos h17]⟩
      · refine ⟨40, bind_of (v := 0) (bifF (beqF h17) rfl) (by kernel_rfl), by rw [if_neg h17]⟩
    obtain ⟨z, ez, hz⟩ := hsz
    have hz2 : z = 48 ∨ z = 40 := by rw [hz]; split <;> simp
    have he : IntKind.wrap .i64 ((IntKind.wrap .i64 (1280 - z)) - c) = ((1280 - z - c).toNat : Int) := by
      rw [wi (show -9223372036854775808 ≤ 1280 - z by omega) (by omega), wi (by omega) (by omega)]
      omega
    obtain ⟨l, hl, hll, hlo⟩ := fill_ex z (c, t2) (x1, t3) (x2, t4) (x3, t5) (1280 - z - c).toNat (by omega) he
    refine bifT (by simp [hb]) (bind_of ez (bind_of e2 (bind_of e3 (bind_of e4 (bind_of e5 ?_)))))
    rw [he]
    refine bind_of (mkO_len _ (by omega)) (bind_of hl ?_)
    refine law_of (p := S_Packet.mk p.Class p.Flow p.Next p.Hops p.Src p.Dst p.SrcPort p.DstPort l) ⟨w.c0, w.c1, w.f0, w.f1, w.n0, w.n1, w.h0, w.h1, w.sl, w.so, w.sm, w.dl, w.dk, w.s0, w.s1, w.d0, w.d1, w.pz, hlo, ?_⟩ a
    dsimp only
    rw [hll]
    rw [hz]
    split <;> omega
  · exact bifF (beqF hb) (law_of w a)
/-- what is known of a packet before its ports -/
structure WfA (p : S_Packet) : Prop where
  c0 : 0 ≤ p.Class
  c1 : p.Class ≤ 255
  f0 : 0 ≤ p.Flow
  f1 : p.Flow ≤ 1048575
  n0 : 0 ≤ p.Next
  n1 : p.Next ≤ 255
  h0 : 0 ≤ p.Hops
  h1 : p.Hops ≤ 255
  sl : p.Src.length = 16
  so : okB p.Src
  dl : p.Dst.length = 16
  dk : okB p.Dst
  po : okB p.Payload
  pl : p.Payload.length ≤ 12
  sp : p.SrcPort = 0
  dp : p.DstPort = 0
theorem WfA.wf {p : S_Packet} (w : WfA p) (hs : p.Src.getD 0 0 ≠ 255) {x y : Int} (x0 : 0 ≤ x) (x1 : x ≤ 65535) (y0 : 0 ≤ y) (y1 : y ≤ 65535) (h : p.Next = 17 ∨ (x = 0 ∧ y = 0)) : WfP (S_Packet.mk p.Class p.Flow p.Next p.Hops p.Src p.Dst x y p.Payload) :=
  ⟨w.c0, w.c1, w.f0, w.f1, w.n0, w.n1, w.h0, w.h1, w.sl, w.so, hs, w.dl, w.dk, x0, x1, y0, y1, h, w.po, by have := w.pl; dsimp only; split <;> omega⟩
theorem port_ex {t : S_multihopmade_Tape} (ht : TapeOk t) {F : Int × S_multihopmade_Tape → Option Bool} (hF : ∀ v t', 0 ≤ v → v ≤ 65535 → TapeOk t' → F (v, t') = some true) :
    ((F_made_Tape_Next t 65536).bind fun v122 => (F_made_Tape_Next v122.2 3).bind fun v123 => bif (v123.1 == 0) then F (IntKind.wrap .u16 (61616 + (Int.tmod (IntKind.wrap .u16 v122.1) 16)), v123.2) else bif (v123.1 == 1) then F (IntKind.wrap .u16 (61440 + (Int.tmod (IntKind.wrap .u16 v122.1) 256)), v123.2) else F (IntKind.wrap .u16 v122.1, v123.2)) = some true := by
  obtain ⟨a, t1, e1, a0, a1, ht1⟩ := next_spec ht 65536 (by omega) (by omega)
  obtain ⟨b, t2, e2, b0, b1, ht2⟩ := next_spec ht1 3 (by omega) (by omega)
  have hw : ∀ z : Int, 0 ≤ IntKind.wrap .u16 z ∧ IntKind.wrap .u16 z ≤ 65535 := fun z => by rw [wrap16]; omega
  refine bind_of e1 (bind_of e2 ?_)
  by_cases q0 : b = 0
  · exact bifT (by simp [q0]) (hF _ _ (hw _).1 (hw _).2 ht2)
  by_cases q1 : b = 1
  · exact bifF (beqF q0) (bifT (by simp [q1]) (hF _ _ (hw _).1 (hw _).2 ht2))
  · exact bifF (beqF q0) (bifF (beqF q1) (hF _ _ (hw _).1 (hw _).2 ht2))
theorem j3_s {t : S_multihopmade_Tape} (ht : TapeOk t) {p q : S_Packet} (w : WfA p) (hs : p.Src.getD 0 0 ≠ 255) (a : Int) : F_top_TopRelays_j3 (t, q) a p = some true := by
  unfold F_top_TopRelays_j3
  by_cases h17 : p.Next = 17
  · refine bifT (by simp [h17]) ?_
    refine port_ex ht (F := fun v => F_top_TopRelays_j12 a p v) (fun x t1 x0 x1 ht1 => ?_)
    unfold F_top_TopRelays_j12
    refine port_ex ht1 (F := fun v => F_top_TopRelays_j13 a p (x, t1) v) (fun y t2 y0 y1 ht2 => ?_)
    unfold F_top_TopRelays_j13
    exact j4_s ht2 (w.wf hs x0 x1 y0 y1 (.inl h17)) a
  · refine bifF (beqF h17) ?_
    have := w.wf hs (x := 0) (y := 0) (by omega) (by omega) (by omega) (by omega) (.inr ⟨rfl, rfl⟩)
    have e : S_Packet.mk p.Class p.Flow p.Next p.Hops p.Src p.Dst 0 0 p.Payload = p := by
      have h1 := w.sp; have h2 := w.dp
      cases p
      simp only at h1 h2
      rw [h1, h2]
    rw [e] at this
    exact j4_s ht this a
theorem j2_s {t : S_multihopmade_Tape} (ht : TapeOk t) {p : S_Packet} (w : WfA p) (a : Int) : F_top_TopRelays_j2 a (t, p) = some true := by
  unfold F_top_TopRelays_j2
  refine bind_of (v := (p.Src.getD 0 0 == 255)) rfl ?_
  by_cases hm : p.Src.getD 0 0 = 255
  · have hg := fun i => w.so.getD i
    have ho : okB [32, (p.Src.getD 1 0), (p.Src.getD 2 0), (p.Src.getD 3 0), (p.Src.getD 4 0), (p.Src.getD 5 0), (p.Src.getD 6 0), (p.Src.getD 7 0), (p.Src.getD 8 0), (p.Src.getD 9 0), (p.Src.getD 10 0), (p.Src.getD 11 0), (p.Src.getD 12 0), (p.Src.getD 13 0), (p.Src.getD 14 0), (p.Src.getD 15 0)] := okB_cons (by omega) (okB_cons (hg 1) (okB_cons (hg 2) (okB_cons (hg 3) (okB_cons (hg 4) (okB_cons (hg 5) (okB_cons (hg 6) (okB_cons (hg 7) (okB_cons (hg 8) (okB_cons (hg 9) (okB_cons (hg 10) (okB_cons (hg 11) (okB_cons (hg 12) (okB_cons (hg 13) (okB_cons (hg 14) (okB_cons (hg 15) (okB_nil))))))))))))))))
    have w2 : WfA (S_Packet.mk p.Class p.Flow p.Next p.Hops [32, (p.Src.getD 1 0), (p.Src.getD 2 0), (p.Src.getD 3 0), (p.Src.getD 4 0), (p.Src.getD 5 0), (p.Src.getD 6 0), (p.Src.getD 7 0), (p.Src.getD 8 0), (p.Src.getD 9 0), (p.Src.getD 10 0), (p.Src.getD 11 0), (p.Src.getD 12 0), (p.Src.getD 13 0), (p.Src.getD 14 0), (p.Src.getD 15 0)] p.Dst p.SrcPort p.DstPort p.Payload) := ⟨w.c0, w.c1, w.f0, w.f1, w.n0, w.n1, w.h0, w.h1, rfl, ho, w.dl, w.dk, w.po, w.pl, w.sp, w.dp⟩
    exact bifT (beq_iff_eq.2 hm) (j3_s ht w2 (by show (32 : Int) ≠ 255; omega) a)
  · exact bifF (beqF hm) (j3_s ht w hm a)
theorem j1_s {t : S_multihopmade_Tape} (ht : TapeOk t) {p : S_Packet} (w : WfA p) (a : Int) : F_top_TopRelays_j1 a (t, p) = some true := by
  obtain ⟨b, t1, e1, b0, b1, ht1⟩ := next_spec ht 3 (by omega) (by omega)
  unfold F_top_TopRelays_j1
  refine bind_of e1 ?_
  by_cases hb : b = IntKind.wrap .i64 (3 - 1)
  · obtain ⟨c, t2, e2, c0, c1, ht2⟩ := next_spec ht1 1048576 (by omega) (by omega)
    refine bifT (by simp [hb]) (bind_of e2 (j2_s ht2 (p := S_Packet.mk p.Class (IntKind.wrap .u32 c) p.Next p.Hops p.Src p.Dst p.SrcPort p.DstPort p.Payload) ⟨w.c0, w.c1, ?_, ?_, w.n0, w.n1, w.h0, w.h1, w.sl, w.so, w.dl, w.dk, w.po, w.pl, w.sp, w.dp⟩ a))
    · show 0 ≤ IntKind.wrap .u32 c
      rw [wu32 c0 (by omega)]; exact c0
    · show IntKind.wrap .u32 c ≤ 1048575
      rw [wu32 c0 (by omega)]; omega
  · exact bifF (beqF hb) (j2_s ht1 w a)
theorem pick5 {x0 x1 x2 x3 x4 : Int} (h : okB [x0, x1, x2, x3, x4]) {v : Int} (v0 : 0 ≤ v) (v1 : v < 5) : ∃ y, idx [x0, x1, x2, x3, x4] v = some y ∧ 0 ≤ y ∧ y ≤ 255 := by
  refine ⟨_, idx_int v0 (by show v < 5; omega), ?_⟩
  exact h _ (List.getElem_mem _)
/-- the law -/
theorem relays_true (a0 : List Int) (a1 : Int) : F_top_TopRelays a0 a1 = some true := by
  obtain ⟨t, e0, ht⟩ := new_spec a0
  obtain ⟨v, t1, e1, v0, v1, ht1⟩ := next_spec ht 5 (by omega) (by omega)
  obtain ⟨x, ex, x0, x1⟩ := pick5 (x0 := 17) (x1 := 17) (x2 := 58) (x3 := 59) (x4 := 0) (okB_lit rfl) v0 v1
  obtain ⟨u, t2, e2, u0, u1, ht2⟩ := next_spec ht1 5 (by omega) (by omega)
  obtain ⟨y, ey, y0, y1⟩ := pick5 (x0 := 1) (x1 := 64) (x2 := 255) (x3 := 0) (x4 := 63) (okB_lit rfl) u0 u1
  obtain ⟨src, t3, e3, s1, s2, ht3⟩ := ip_ex ht2 0
  obtain ⟨dst, t4, e4, d1, d2, ht4⟩ := ip_ex ht3 1
  obtain ⟨pay, t5, e5, p1, p2, ht5⟩ := bytes_ex ht4
  obtain ⟨b, t6, e6, b0, b1, ht6⟩ := next_spec ht5 3 (by omega) (by omega)
  have base : ∀ c : Int, 0 ≤ c → c ≤ 255 → WfA (S_Packet.mk c 0 x y src dst 0 0 pay) := fun c c0 c1 => ⟨c0, c1, by dsimp only; omega, by dsimp only; omega, x0, x1, y0, y1, s1, s2, d1, d2, p2, p1, rfl, rfl⟩
  unfold F_top_TopRelays
  refine bind_of e0 (bind_of (dev_s 0 (by omega)) (bind_of (dev_s 1 (by omega)) (bind_of e1 (bind_of ex (bind_of e2 (bind_of ey (bind_of e3 (bind_of e4 (bind_of e5 (bind_of e6 ?_))))))))))
  by_cases hb : b = IntKind.wrap .i64 (3 - 1)
  · obtain ⟨c, t7, e7, c0, c1, ht7⟩ := next_spec ht6 256 (by omega) (by omega)
    refine bifT (by simp [hb]) (bind_of e7 (j1_s ht7 (base _ ?_ ?_) a1))
    · exact (wrap8_bd c).1
    · exact (wrap8_bd c).2
  · exact bifF (beqF hb) (j1_s ht6 (base 0 (by omega) (by omega)) a1)
end
section
open Go.ChangeShapes Go.WideShapes Go.ChangeAt Go.RowKit

def Wt (P : Program) (t : TypeId) {H : Type} (d : DataW H) : Prop := ∀ n ∈ d.weights P t, n ≤ reachBytes
def OpensR (P : Program) (t : TypeId) {α : Type} (f : α → List SC) (wf : α → Prop) : Prop :=
  ∀ (H : Type) (enc : TypeId × Value → H) (W : World) (fuel : Nat) (cs : List Value) (x : DataW H × List MemPlace), DataW.trod enc P W 0 (fun _ => true) true fuel t cs = some x → Wt P t x.1 → ∃ a : α, Seg (rdAll W) cs 0 cs.length (f a) ∧ wf a
theorem Opens.r {P : Program} {t : TypeId} {α : Type} {f : α → List SC} {wf : α → Prop} (h : Opens P t f wf) : OpensR P t f wf := fun H enc W fuel cs x h1 _ => h H enc W fuel cs x h1
def wfR {α : Type} (p : α → Prop) (l : List α) : Prop := l.length ≤ 140737488351232 ∧ ∀ z ∈ l, p z
theorem mem_weightsAll {H : Type} {P : Program} {e : TypeId} : ∀ {l : List (DataW H)} {d : DataW H}, d ∈ l → ∀ n ∈ d.weights P e, n ∈ DataW.weightsAll P e l
  | x :: l, d, h, n, hn => by
    simp only [DataW.weightsAll, List.mem_append]
    rcases List.mem_cons.1 h with rfl | h
    · exact Or.inl hn
    · exact Or.inr (mem_weightsAll h n hn)
theorem wt_of {H : Type} {P : Program} {ts : List TypeId} {ds : List (DataW H)} (h : (DataW.weightsEach P ts ds).all (· ≤ reachBytes) = true) {j : Nat} {t : TypeId} {d : DataW H} (ht : ts[j]? = some t) (hd : ds[j]? = some d) : Wt P t d := fun n hn => by
  have := List.all_eq_true.1 h _ (DataW.weights_mem_each ht hd n hn)
  simpa using this
theorem opens_sliceR {P : Program} {t e : TypeId} {sz : Nat} (ht : P.underlying t = some (.slice e)) (hsz : P.cellsOf e = sz) {α : Type} {f : α → List SC} {wf : α → Prop} (hop : OpensR P e f wf) (hlen : ∀ a, (f a).length = sz) (hpos : decide (0 < sz) = true) (hby : decide (0 < P.bytesOf e) = true) : OpensR P t (ecS sz f) (wfR wf) := by
  intro H enc W fuel cs x h hw
  have hb := of_decide_eq_true hby
  have hp := of_decide_eq_true hpos
  rcases DataW.trod_slice ht h with ⟨rfl, _⟩ | ⟨a, len, cap, elems, rest, m, _, rfl, rfl, _, hlc, hcm, hel, hg, _⟩
  · refine ⟨[], ⟨rfl, fun j y hy => ?_⟩, by simp, fun z hz => absurd hz (by simp)⟩
    rcases j with _ | j
    · simp only [ecS, List.map_nil, List.getElem?_cons_zero, Option.some.injEq] at hy
      subst hy
      exact ⟨_, rfl, .nil _ _ _ (by decide)⟩
    · simp [ecS] at hy
  · have e0 : DataW.weights P t (.slice (elems.map (·.1)) (rest.map (·.1)) : DataW H) = (((elems.map (·.1)).length + (rest.map (·.1)).length) * P.bytesOf e :: (DataW.weightsAll P e (elems.map (·.1)) ++ DataW.weightsAll P e (rest.map (·.1)))) := by simp [DataW.weights, ht]
    have hlen' : len ≤ 140737488351232 := by
      have h2 := hw (((elems.map (·.1)).length + (rest.map (·.1)).length) * P.bytesOf e) (by rw [e0]; exact List.mem_cons_self)
      have h3 : len * 1 ≤ ((elems.map (·.1)).length + (rest.map (·.1)).length) * P.bytesOf e := Nat.mul_le_mul (by rw [List.length_map, hel]; omega) hb
      have h4 : reachBytes = 140737488351232 := rfl
      omega
    have key : ∀ i, i < len → ∃ (us : List Value) (b : α), W.cells? 0 (a.add (i * sz)) sz = some us ∧ Seg (rdAll W) us 0 us.length (f b) ∧ wf b := by
      intro i hi
      have h1 := hg i hi
      rw [hsz] at h1
      obtain ⟨y, hy⟩ : ∃ y, elems[i]? = some y := ⟨_, List.getElem?_eq_getElem (by omega)⟩
      rw [hy] at h1
      obtain ⟨us, k1, k2⟩ := Option.bind_eq_some_iff.1 h1
      obtain ⟨b, k3, k4⟩ := hop H enc W m us y k2 (fun n hn => hw n (by
        rw [e0]
        exact List.mem_cons_of_mem _ (List.mem_append_left _ (mem_weightsAll (d := y.1) (List.mem_map.2 ⟨y, List.mem_of_getElem? hy, rfl⟩) n hn))))
      exact ⟨us, b, k1, k3, k4⟩
    have key2 : ∃ l : List α, l.length = len ∧ ∀ i b, l[i]? = some b → wf b ∧ ∃ us, W.cells? 0 (a.add (i * sz)) sz = some us ∧ Seg (rdAll W) us 0 us.length (f b) := by
      have : ∀ q, q ≤ len → ∃ l : List α, l.length = q ∧ ∀ i b, l[i]? = some b → wf b ∧ ∃ us, W.cells? 0 (a.add (i * sz)) sz = some us ∧ Seg (rdAll W) us 0 us.length (f b) := by
        intro q
        induction q with
        | zero => exact fun _ => ⟨[], rfl, fun i b hb => by simp at hb⟩
        | succ q ih =>
          intro hq
          obtain ⟨l, hl, hall⟩ := ih (by omega)
          obtain ⟨us, b, k1, k2, k3⟩ := key q (by omega)
          refine ⟨l ++ [b], by simp [hl], fun i c hc => ?_⟩
          by_cases hi : i < l.length
          · rw [List.getElem?_append_left hi] at hc
            exact hall i c hc
          · rw [List.getElem?_append_right (by omega)] at hc
            have hi0 : i - l.length = 0 := by
              have := (List.getElem?_eq_some_iff.1 hc).1
              simp at this
              omega
            rw [hi0] at hc
            cases hc
            have : i = q := by omega
            subst this
            exact ⟨k3, us, k1, k2⟩
      exact this len (Nat.le_refl _)
    obtain ⟨l, hl, hall⟩ := key2
    refine ⟨l, ⟨rfl, fun j y hy => ?_⟩, by omega, fun z hz => ?_⟩
    · rcases j with _ | j
      · simp only [ecS, List.getElem?_cons_zero, Option.some.injEq] at hy
        subst hy
        refine ⟨_, rfl, ?_⟩
        rw [hl]
        by_cases hz : len = 0
        · subst hz
          have : l = [] := List.eq_nil_of_length_eq_zero hl
          subst this
          exact .nil _ _ _ hcm
        · obtain ⟨b0, hb0⟩ : ∃ b, l[0]? = some b := ⟨_, List.getElem?_eq_getElem (by omega)⟩
          obtain ⟨_, us0, k0, _⟩ := hall 0 b0 hb0
          obtain ⟨hlen0, _, hc0⟩ := World.cells?_some k0
          have hcell0 := hc0 0 (by omega)
          obtain ⟨bl, off, spot⟩ := a
          have hspot : spot = none := by
            obtain ⟨z, hz0⟩ : ∃ z, us0[0]? = some z := ⟨_, List.getElem?_eq_getElem (by omega)⟩
            rw [hz0] at hcell0
            simpa [Addr.add] using World.cell?_spot hcell0
          subst hspot
          have cellAt : ∀ i b, l[i]? = some b → ∀ j y, (f b)[j]? = some y → ∃ u, W.cell? ⟨bl, off + i * sz + j, none⟩ = some u ∧ IRel (rdAll W) u y := by
            intro i b hb j y hy
            obtain ⟨_, us, k1, k2⟩ := hall i b hb
            obtain ⟨hlen1, _, hc1⟩ := World.cells?_some k1
            obtain ⟨u, q1, q2⟩ := k2.2 j y hy
            rw [Nat.zero_add] at q1
            have hj : j < sz := by have := (List.getElem?_eq_some_iff.1 hy).1; rw [hlen b] at this; exact this
            have := hc1 j (by omega)
            rw [q1] at this
            refine ⟨u, ?_, q2⟩
            rw [Addr.add_mid, Addr.add_mid] at this
            exact this
          refine .slc bl off len cap sz (l.map f) (fun i j => (W.cell? ⟨bl, off + i * sz + j, none⟩).getD (.bool false)) (by simp [hl]) hlc hcm ?_ ?_ ?_
          · intro x hx
            obtain ⟨b, _, rfl⟩ := List.mem_map.1 hx
            exact hlen b
          · intro i x j y hx hy
            rw [List.getElem?_map] at hx
            obtain ⟨b, hb, rfl⟩ := Option.map_eq_some_iff.1 hx
            obtain ⟨u, q1, _⟩ := cellAt i b hb j y hy
            simp only [rdAll, q1, Option.getD_some]
          · intro i x j y hx hy
            rw [List.getElem?_map] at hx
            obtain ⟨b, hb, rfl⟩ := Option.map_eq_some_iff.1 hx
            obtain ⟨u, q1, q2⟩ := cellAt i b hb j y hy
            simp only [q1, Option.getD_some]
            exact q2
      · simp [ecS] at hy
    · obtain ⟨i, hi⟩ := List.getElem?_of_mem hz
      exact (hall i z hi).1

/-- a single cell as an argument -/
theorem open_cellR {P : Program} {t : TypeId} {H : Type} {enc : TypeId × Value → H} {W : World} {v : Value} {d : DataW H} {p : List MemPlace} {α : Type} {f : α → List SC} {wf : α → Prop} {c : α → SC} (hop : OpensR P t f wf) (hc : ∀ a, f a = [c a]) (hv : v.cells = #[v]) (h : DataW.Trod enc P W 0 (fun _ => true) true t v d p) (hw : Wt P t d) : ∃ a, VRel (rdAll W) env0 v (.c (c a)) ∧ wf a := by
  obtain ⟨fuel, hf⟩ := h
  obtain ⟨a, hs, hw2⟩ := hop H enc W fuel _ _ hf hw
  rw [hv] at hs
  refine ⟨a, ?_, hw2⟩
  obtain ⟨u, k1, k2⟩ := hs.2 0 (c a) (by rw [hc]; rfl)
  simp at k1
  subst k1
  exact k2.c
/-- a slice as an argument -/
theorem open_slcR {P : Program} {t e : TypeId} {H : Type} {enc : TypeId × Value → H} {W : World} {v : Value} {d : DataW H} {p : List MemPlace} {r : Reach} {b0 : Nat} {α : Type} {sz : Nat} {f : α → List SC} {wf : List α → Prop} (hop : OpensR P t (ecS sz f) wf) (ht : P.underlying t = some (.slice e))
    (hv : Value.okWide P W r b0 t v) (h : DataW.Trod enc P W 0 (fun _ => true) true t v d p) (hw : Wt P t d) : ∃ a, VRel (rdAll W) env0 v (.c (eS sz f a)) ∧ wf a := by
  obtain ⟨a0, len, cap, rfl⟩ := okWide_slice ht hv
  exact open_cellR hop (fun a => rfl) rfl h hw
end
section
open Go.ChangeShapes Go.WideShapes Go.ChangeAt Go.RowKit

set_option maxRecDepth 100000 in
theorem topRelays_lifted (hF : ∀ (a0 : List Int) (a1 : Int), wfR (wfI .i64) a0 → wfI .i64 a1 → F_top_TopRelays a0 a1 = some true) (os : Os) (started : os.Started) (H : Type) (enc : TypeId × Value → H) :
    ReturnsInHanded {} Tryz.checked os 3 .any (Rows.topRelaysSpec.pre6 enc Tryz.prog Tryz.f3 Rows.topRelaysRow.domain false) (Rows.topRelaysSpec.post enc Tryz.prog Tryz.f3 false true false false) := by
  refine returnsInHanded_of_change_sized (C := Tryz.checked) own started (by kernel_rfl) Tryz.func3
    (ChangeSpec.witness6 (enc := enc) (C := Tryz.checked) false ⟨#[], #[.slice none 0 0, .int .i64 0], []⟩ 8 (by kernel_rfl) (by kernel_rfl) (by kernel_rfl) (by kernel_rfl)) ?_
  intro W base args ds gs before hval0 hW hcnd hsz0 _
  have hval : ∀ (j : Nat) t v, Tryz.f3.params[j]? = some t → args[j]? = some v → Value.okWide Tryz.prog W .any base t v := hval0
  have hW' := hW
  obtain ⟨p, q, hA0, hV, rfl, hfz, hnd⟩ := hW
  have hA : DataW.TrodAll enc Tryz.prog W 0 (fun _ => true) true Tryz.f3.params.toList args.toList ds p := hA0
  have hAll := hA
  rw [Tryz.params3] at hA hval hAll
  obtain ⟨v0, vs0, d0, ds0, p0, q0, hargs, rfl, rfl, h0, r0⟩ := trodAll_cons hA
  obtain ⟨v1, vs1, d1, ds1, p1, q1, rfl, rfl, rfl, h1, r1⟩ := trodAll_cons r0
  obtain ⟨rfl, rfl, rfl⟩ := trodAll_nil r1
  obtain rfl : args = #[v0, v1] := by cases args; simp_all
  obtain ⟨rfl, rfl⟩ := trodVars_none hV
  obtain ⟨x0, hR0, w0⟩ := open_slcR (opens_sliceR (sz := 1) Tryz.underlying22 (by kernel_rfl) (opens_int (k := .i64) Tryz.underlying3).r (fun _ => by kernel_rfl) (by kernel_rfl) (by kernel_rfl)) Tryz.underlying22 (hval 0 22 v0 rfl rfl) h0 (wt_of hsz0 (j := 0) (by kernel_rfl) rfl)
  obtain ⟨x1, rfl, rfl, rfl, w1⟩ := open_int Tryz.underlying3 (hval 1 3 v1 rfl rfl) h1
  clear hA0 hval0 hsz0
  refine (con_true (us := [v0, .int .i64 x1]) (ok_top_TopRelays x0 x1 true (hF x0 x1 w0 w1)) ⟨hR0, vrel_lit _ _ _, trivial⟩).mono fun e W' ⟨he, hx⟩ => ?_
  subst he
  have bel := hx.below
  exact ⟨_, rfl, _, _, _, [], _, [], hW', trodAll_mk1 (shut_bool Tryz.underlying4 _), trodAll_below laidOut bel (by kernel_rfl) hAll, rfl, bel.frame _, fun h => by cases h⟩

theorem topRelays_of (hF : ∀ (a0 : List Int) (a1 : Int), wfR (wfI .i64) a0 → wfI .i64 a1 → F_top_TopRelays a0 a1 = some true) : Rows.TopRelaysSaid :=
  OpenClaim.holds_of_wide 3 Tryz.f3 rfl rfl rfl rfl rfl rfl rfl ⟨rfl, rfl, rfl, rfl, rfl⟩ rfl rfl rfl rfl rfl (by kernel_rfl) Tryz.func3 (by kernel_rfl)
    (of_decide_eq_true (by kernel_rfl)) (by unfold Func.isWrapper; first | (rw [if_pos (by decide +kernel)]; kernel_rfl) | (rw [if_neg (by decide +kernel)]; exact ⟨rfl, rfl⟩))
    (fun os started H enc _ => topRelays_lifted hF os started H enc)
end
section

theorem topRelays_holds : Rows.TopRelaysSaid := topRelays_of fun a0 a1 _ _ => relays_true a0 a1
end
end Go.Proofs.YtplihihjfjmbfaaGreat
