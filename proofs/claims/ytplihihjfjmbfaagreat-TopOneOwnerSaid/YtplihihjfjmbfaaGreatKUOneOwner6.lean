/-
  TopOneOwner holds.
-/
import Derived.Test.YtplihihjfjmbfaaGreatKUOneOwner5
namespace Go.Proofs.YtplihihjfjmbfaaGreat
section
open Go.RowKit
attribute [local irreducible] TS go TD goD
set_option maxRecDepth 100000
set_option maxHeartbeats 40000000

/-- multihop/guard.Open -/
noncomputable def b47 : Code := bodyOf Tryz.f47
noncomputable def F_guard_Open_l1 (a0 : S_Guard) (a1 : S_Frame) (s11 : Unit) : Option ((Unit) ⊕ (Unit)) := bif (decide (0 < (List.length a0.Peers : Int))) then (idx a0.Peers 0).bind fun e15 => (F_guard_comparePeers e15 (S_Peer.mk a1.Src a1.Key a1.Counter 4294967295)).bind fun v16 => bif (decide (v16 < 0)) then none else some (Sum.inr ()) else some (Sum.inr ())
noncomputable def F_guard_Open (a0 : S_Guard) (a1 : S_Frame) : Option (S_Guard × Int) := (F_guard_Valid a0).bind fun v1 => bif v1 then (F_frame_Valid a1).bind fun v3 => bif v3 then bif a1.Secure then (F_guard_keyOf a0 a1.Key).bind fun v6 => bif v6.2 then (F_frame_Header a1).bind fun v8 => (F_siphash_Verify v6.1 v8 a1.MIC).bind fun v9 => bif v9 then (loopO (F_guard_Open_l1 a0 a1) ()).bind fun b12 => (F_guard_own_R a0).bind fun v19 => bif (decide (0 < (List.length a0.Peers : Int))) then (idx a0.Peers 0).bind fun e21 => bif (S_Addr.eqb e21.Src a1.Src) then (idx a0.Peers 0).bind fun e23 => bif (e23.Key == a1.Key) then (idx a0.Peers 0).bind fun e25 => (F_guard_accept e25 a1.Counter).bind fun v26 => bif (v26.2 != 0) then none else (idx (Cut.app .whole v19.Peers) 0).bind fun _e28 => (v19.Peers[(0 + Int.toNat 0)]?).bind fun _e29 => some (((S_Guard.mk v19.Keys v19.Counter v19.Reserved v19.Nonce (List.set v19.Peers (0 + Int.toNat 0) v26.1)),0)) else bif (a1.Kind != 3) then none else (F_guard_message 2 a0.Nonce).bind fun v31 => (F_bytes_Equal a1.Payload v31).bind fun v32 => bif v32 then bif ((List.length a0.Peers : Int) == 16) then none else bif decide ((0 : Int) ≤ 0 ∧ (0 : Int) ≤ 0 ∧ 0 ≤ (List.length v19.Peers : Int)) then (appO 40 (List.take (Int.toNat 0) v19.Peers) (Cut.app .whole ([(S_Peer.mk a1.Src a1.Key a1.Counter 4294967295)] : List S_Peer))).bind fun l36 => (subO a0.Peers 0 (List.length a0.Peers : Int)).bind fun l37 => (appO 40 (List.take (List.length l36) l36) (Cut.app .whole l37)).bind fun l38 => some (((S_Guard.mk v19.Keys v19.Counter v19.Reserved v19.Nonce l38),0)) else none else none else bif (a1.Kind != 3) then none else (F_guard_message 2 a0.Nonce).bind fun v40 => (F_bytes_Equal a1.Payload v40).bind fun v41 => bif v41 then bif ((List.length a0.Peers : Int) == 16) then none else bif decide ((0 : Int) ≤ 0 ∧ (0 : Int) ≤ 0 ∧ 0 ≤ (List.length v19.Peers : Int)) then (appO 40 (List.take (Int.toNat 0) v19.Peers) (Cut.app .whole ([(S_Peer.mk a1.Src a1.Key a1.Counter 4294967295)] : List S_Peer))).bind fun l45 => (subO a0.Peers 0 (List.length a0.Peers : Int)).bind fun l46 => (appO 40 (List.take (List.length l45) l45) (Cut.app .whole l46)).bind fun l47 => some (((S_Guard.mk v19.Keys v19.Counter v19.Reserved v19.Nonce l47),0)) else none else none else bif (a1.Kind != 3) then none else (F_guard_message 2 a0.Nonce).bind fun v49 => (F_bytes_Equal a1.Payload v49).bind fun v50 => bif v50 then bif ((List.length a0.Peers : Int) == 16) then none else bif decide ((0 : Int) ≤ 0 ∧ (0 : Int) ≤ 0 ∧ 0 ≤ (List.length v19.Peers : Int)) then (appO 40 (List.take (Int.toNat 0) v19.Peers) (Cut.app .whole ([(S_Peer.mk a1.Src a1.Key a1.Counter 4294967295)] : List S_Peer))).bind fun l54 => (subO a0.Peers 0 (List.length a0.Peers : Int)).bind fun l55 => (appO 40 (List.take (List.length l54) l54) (Cut.app .whole l55)).bind fun l56 => some (((S_Guard.mk v19.Keys v19.Counter v19.Reserved v19.Nonce l56),0)) else none else none else none else none else none else none else none
theorem okT_guard_Open (a0 : S_Guard) (a1 : S_Frame) (r : S_Guard × Int) (h : F_guard_Open a0 a1 = some r) : Con Tryz.prog 47 [.agg (S_Guard.cs a0),.agg (S_Frame.cs a1)] [] (.tup [(true,[.slc 17 900002 (List.length r.1.Keys) (List.map S_LinkKey.cs r.1.Keys),U3 r.1.Counter,U3 r.1.Reserved,U3 r.1.Nonce,.slc 6 900006 (List.length r.1.Peers) (List.map S_Peer.cs r.1.Peers)]),(false,[I6 r.2])]) [(900000,.spare 120 17 (List.length r.1.Keys)),(900004,.spare 222 6 (List.length r.1.Peers))] := by
  unfold F_guard_Open at h; refine con_of [] [(900000,[]),(900004,[])] 154 Tryz.func47 rfl rfl kr (fun K => ?_); refine TS_go 11 ?_; replace h := bindO h; obtain ⟨v1,hv1,h⟩ := h; refine TS_call [] (ok_guard_Valid a0 v1 hv1) kr kr ?_; refine TS_go 2 ?_; replace h := condT h; obtain ⟨hb2,h⟩ := h; subst hb2; refine TS_go 1 ?_; replace h := bindO h; obtain ⟨v3,hv3,h⟩ := h; refine TS_call [] (ok_frame_Valid a1 v3 hv3) kr kr ?_; refine TS_go 3 ?_; replace h := condT h; obtain ⟨hb4,h⟩ := h; subst hb4; refine TS_go 5 ?_; replace h := condT h; obtain ⟨hb5,h⟩ := h; refine TS_know 23 (b := true) hb5 kr kr ?_; refine TS_know 24 (b := false) (notF hb5) kr kr ?_; refine TS_know 25 (b := false) (notF hb5) kr kr ?_; refine TS_F kr rfl ?_; refine TS_go 6 ?_; replace h := bindO h; obtain ⟨v6,hv6,h⟩ := h; refine TS_call [] (ok_guard_keyOf a0 a1.Key v6 hv6) kr kr ?_; refine TS_go 13 ?_; replace h := condT h; obtain ⟨hb7,h⟩ := h; refine TS_know 33 (b := true) hb7 kr kr ?_; refine TS_know 7 (b := true) hb7 kr kr ?_; refine TS_know 34 (b := true) hb7 kr kr ?_; refine TS_know 35 (b := false) (notF hb7) kr kr ?_; refine TS_F kr rfl ?_; refine TS_go 3 ?_; refine TS_draw kr ?_; refine TD_go 2 ?_; replace h := bindO h; obtain ⟨v8,hv8,h⟩ := h; refine TD_conX (d := 39) (e := 900000) [] (okT_frame_Header a1 v8 hv8) kr kr ?_; refine TD_go 2 ?_; replace h := bindO h; obtain ⟨v9,hv9,h⟩ := h; refine TD_call [[],[2]] (ok_siphash_Verify v6.1 v8 a1.MIC v9 hv9) kr kr ?_; refine TD_go 1 ?_; refine TD_end kr ?_; replace h := condT h; obtain ⟨hb10,h⟩ := h; subst hb10; refine TS_F kr rfl ?_; refine TS_go 19 ?_; refine TS_cut (fI [2,3,4,8,9] [2,3,4,8]) (.mk [cA 639 b47,.blk 0,cA 511 b47] .normal ⟨[(2,bx 2),(3,bx 3),(4,bx 4),(8,bx 8),(9,.c (I6 0))],[(2,.box [.slc 17 0 (List.length a0.Keys) (List.map S_LinkKey.cs a0.Keys),U3 a0.Counter,U3 a0.Reserved,U3 a0.Nonce,.slc 6 0 (List.length a0.Peers) (List.map S_Peer.cs a0.Peers)]),(3,.box [I6 a1.Kind,BL a1.AckRequest,BL a1.Pending,BL a1.Secure,U8 a1.Seq,U1 a1.Pan,I6 a1.Dst.Mode,U1 a1.Dst.Short,U6 a1.Dst.EUI,I6 a1.Src.Mode,U1 a1.Src.Short,U6 a1.Src.EUI,U3 a1.Counter,U8 a1.Key,.slc 1 0 (List.length a1.Payload) (List.map (ecI .u8) a1.Payload),.slc 1 0 (List.length a1.MIC) (List.map (ecI .u8) a1.MIC)]),(4,.box [.lit (.slice none 0 0),U3 0,U3 0,U3 0,.lit (.slice none 0 0)]),(8,.box [I6 a1.Src.Mode,U1 a1.Src.Short,U6 a1.Src.EUI,U8 a1.Key,U3 a1.Counter,U3 4294967295])]⟩) kr kr ?_; replace h := bindO h; obtain ⟨y13,hl1,hK1⟩ := h; refine TS_loopB (F_guard_Open_l1 a0 a1) (fI [2,3,4,8,9] [2,3,4,8]) (fun (s11 : Unit) => []) (fun (s11 : Unit) => []) () y13 (.exit 0) (fun (b : Unit) => b) (fI [2,3,4,8,9] [2,3,4,8]) (fun (b12 : Unit) => []) (fun (b12 : Unit) => []) hl1 kr kr ?_ ?_
  · intro s11 x h hy1; unfold F_guard_Open_l1 at h; refine TS_go 2 ?_; refine TS_draw kr ?_; refine TD_go 5 ?_; replace h := condO h; rcases h with ⟨hb14,h⟩ | ⟨hb14,h⟩
    · refine TD_know 57 (b := true) hb14 trivial kr kr ?_; refine TD_go 3 ?_; replace h := bindO h; obtain ⟨e15,he15,h⟩ := h; refine TD_idx S_Peer.cs he15 kr kr ?_; refine TD_go 2 ?_; replace h := bindO h; obtain ⟨v16,hv16,h⟩ := h; refine TD_call [] (ok_guard_comparePeers e15 (S_Peer.mk a1.Src a1.Key a1.Counter 4294967295) v16 hv16) kr kr ?_; refine TD_go 2 ?_; refine TD_end kr ?_; replace h := condF h; obtain ⟨hb17,h⟩ := h; refine TS_know 56 (b := true) hb14 kr kr ?_; refine TS_know 65 (b := false) hb17 kr kr ?_; refine TS_know 66 (b := false) hb17 kr kr ?_; refine TS_F kr rfl ?_; refine TS_go 2 ?_; have ret := Option.some.inj h; subst ret; exact TS_brkB () (fI [2,3,4,8,9] [2,3,4,8]) rfl kr kr kr
    refine TD_know 57 (b := false) hb14 trivial kr kr ?_; refine TD_go 9 ?_; refine TD_end kr ?_; refine TS_F kr rfl ?_; refine TS_go 2 ?_; have ret := Option.some.inj h; subst ret; exact TS_brkB () (fI [2,3,4,8,9] [2,3,4,8]) rfl kr kr kr
  intro b12 hb; subst y13; have h := hK1; refine TS_go 4 ?_; replace h := bindO h; obtain ⟨v19,hv19,h⟩ := h; refine TS_con [] [(70,900000),(600000,900004)] none (okT_guard_own_R a0 v19 hv19) kr kr kr ?_; refine TS_go 5 ?_; refine TS_draw kr ?_; refine TD_go 5 ?_; replace h := condO h; rcases h with ⟨hb20,h⟩ | ⟨hb20,h⟩
  · refine TD_know 76 (b := true) hb20 trivial kr kr ?_; refine TD_go 3 ?_; replace h := bindO h; obtain ⟨_e21,he21,h⟩ := h; refine TD_idx S_Peer.cs he21 kr kr ?_; refine TD_go 6 ?_; replace h := condO h; rcases h with ⟨hb22,h⟩ | ⟨hb22,h⟩
    · refine TD_know 87 (b := true) hb22 trivial kr kr ?_; refine TD_go 3 ?_; replace h := bindO h; obtain ⟨_e23,he23,h⟩ := h; refine TD_idx S_Peer.cs he23 kr kr ?_; refine TD_go 6 ?_; refine TD_end kr ?_; replace h := condO h; rcases h with ⟨hb24,h⟩ | ⟨hb24,h⟩
      · refine TS_know 75 (b := true) hb20 kr kr ?_; refine TS_know 85 (b := true) hb22 kr kr ?_; refine TS_know 86 (b := true) hb22 kr kr ?_; refine TS_know 96 (b := true) hb24 kr kr ?_; refine TS_know 97 (b := true) hb24 kr kr ?_; refine TS_T kr rfl ?_; refine TS_go 1 ?_; refine TS_draw kr ?_; refine TD_go 3 ?_; replace h := bindO h; obtain ⟨e25,he25,h⟩ := h; refine TD_idx S_Peer.cs he25 kr kr ?_; refine TD_go 3 ?_; replace h := bindO h; obtain ⟨v26,hv26,h⟩ := h; refine TD_call [] (ok_guard_accept e25 a1.Counter v26 hv26) kr kr ?_; refine TD_go 6 ?_; refine TD_end kr ?_; refine TS_go 6 ?_; replace h := condF h; obtain ⟨hb27,h⟩ := h; refine TS_know 110 (b := false) hb27 kr kr ?_; refine TS_F kr rfl ?_; refine TS_go 7 ?_; replace h := bindO h; obtain ⟨_e28,he28,h⟩ := h; refine TS_idxR 600000 6 0 S_Peer.cs .whole he28 kr kr ?_; replace h := bindO h; obtain ⟨_e29,he29,h⟩ := h; refine TS_stE 600000 222 6 (List.length v19.Peers) (0 + Int.toNat 0) 0 S_Peer.cs (ds := [I6 v26.1.Src.Mode,U1 v26.1.Src.Short,U6 v26.1.Src.EUI,U8 v26.1.Key,U3 v26.1.Last,U3 v26.1.Window]) v26.1 he29 kr kr kr kr ?_; refine TS_go 7 ?_; refine TS_settle 70 kr ?_; refine TS_settle 600000 kr ?_; refine TS_fitU (fJ [4,5] [(70,900000),(600000,900004),(4,4)]) kr ?_; refine TS_go 2 ?_; have ret := Option.some.inj h; subst ret; exact TS_ret kr kr kr
      refine TS_know 75 (b := true) hb20 kr kr ?_; refine TS_know 85 (b := true) hb22 kr kr ?_; refine TS_know 86 (b := true) hb22 kr kr ?_; refine TS_know 96 (b := false) hb24 kr kr ?_; refine TS_know 97 (b := false) hb24 kr kr ?_; refine TS_F kr rfl ?_; refine TS_go 3 ?_; refine TS_draw kr ?_; refine TD_go 3 ?_; replace h := condF h; obtain ⟨hb30,h⟩ := h; refine TD_know 122 (b := false) hb30 trivial kr kr ?_; refine TD_go 4 ?_; replace h := bindO h; obtain ⟨v31,hv31,h⟩ := h; refine TD_conX (d := 127) (e := 900000) [] (okT_guard_message 2 a0.Nonce v31 hv31) kr kr ?_; replace h := bindO h; obtain ⟨v32,hv32,h⟩ := h; refine TD_call [[],[2]] (ok_bytes_Equal a1.Payload v31 v32 hv32) kr kr ?_; refine TD_go 2 ?_; refine TD_end kr ?_; replace h := condT h; obtain ⟨hb33,h⟩ := h; subst hb33; refine TS_F kr rfl ?_; refine TS_go 9 ?_; replace h := condF h; obtain ⟨hb34,h⟩ := h; refine TS_know 121 (b := false) hb30 kr kr ?_; refine TS_know 135 (b := false) hb34 kr kr ?_; refine TS_F kr rfl ?_; refine TS_go 2 ?_; refine TS_draw kr ?_; refine TD_go 3 ?_; replace h := chkO h; obtain ⟨hc35,h⟩ := h; refine TD_slRow 600000 6 (List.length v19.Peers) (a := 0) (b := 0) hc35 rfl kr kr ?_; refine TD_go 1 ?_; refine TD_litNT 142 222 6 S_Peer.cs [] ([(S_Peer.mk a1.Src a1.Key a1.Counter 4294967295)] : List S_Peer) kr kr ?_; replace h := bindO h; obtain ⟨l36,hl36,h⟩ := h; refine TD_appR (d := 600000) (e := 222) (sz := 6) (N := List.length v19.Peers) (m := (Int.toNat 0)) S_Peer.cs (fun _ => by kernel_rfl) (l1 := v19.Peers) (l2 := ([(S_Peer.mk a1.Src a1.Key a1.Counter 4294967295)] : List S_Peer)) (c := .whole) hl36 kr kr ?_; refine TD_go 2 ?_; refine TD_end kr ?_; refine TS_go 1 ?_; refine TS_draw kr ?_; refine TD_go 5 ?_; replace h := bindO h; obtain ⟨l37,hl37,h⟩ := h; refine TD_sub S_Peer.cs 6 hl37 kr kr ?_; replace h := bindO h; obtain ⟨_l38,hl38,h⟩ := h; refine TD_appR (d := 600000) (e := 222) (sz := 6) (N := List.length l36) (m := (List.length l36)) S_Peer.cs (fun _ => by kernel_rfl) (l1 := l36) (l2 := l37) (c := .whole) hl38 kr kr ?_; refine TD_go 2 ?_; refine TD_end kr ?_; refine TS_go 6 ?_; refine TS_settle 70 kr ?_; refine TS_settle 600000 kr ?_; refine TS_fitU (fJ [4,5] [(70,900000),(600000,900004),(4,4)]) kr ?_; refine TS_go 1 ?_; have ret := Option.some.inj h; subst ret; exact TS_ret kr kr kr
    refine TD_know 87 (b := false) hb22 trivial kr kr ?_; refine TD_go 10 ?_; refine TD_end kr ?_; refine TS_F kr rfl ?_; refine TS_go 3 ?_; refine TS_draw kr ?_; refine TD_go 3 ?_; replace h := condF h; obtain ⟨hb39,h⟩ := h; refine TD_know 122 (b := false) hb39 trivial kr kr ?_; refine TD_go 4 ?_; replace h := bindO h; obtain ⟨v40,hv40,h⟩ := h; refine TD_conX (d := 127) (e := 900000) [] (okT_guard_message 2 a0.Nonce v40 hv40) kr kr ?_; replace h := bindO h; obtain ⟨v41,hv41,h⟩ := h; refine TD_call [[],[2]] (ok_bytes_Equal a1.Payload v40 v41 hv41) kr kr ?_; refine TD_go 2 ?_; refine TD_end kr ?_; replace h := condT h; obtain ⟨hb42,h⟩ := h; subst hb42; refine TS_F kr rfl ?_; refine TS_go 9 ?_; replace h := condF h; obtain ⟨hb43,h⟩ := h; refine TS_know 75 (b := true) hb20 kr kr ?_; refine TS_know 85 (b := false) hb22 kr kr ?_; refine TS_know 86 (b := false) hb22 kr kr ?_; refine TS_know 121 (b := false) hb39 kr kr ?_; refine TS_know 135 (b := false) hb43 kr kr ?_; refine TS_F kr rfl ?_; refine TS_go 2 ?_; refine TS_draw kr ?_; refine TD_go 3 ?_; replace h := chkO h; obtain ⟨hc44,h⟩ := h; refine TD_slRow 600000 6 (List.length v19.Peers) (a := 0) (b := 0) hc44 rfl kr kr ?_; refine TD_go 1 ?_; refine TD_litNT 142 222 6 S_Peer.cs [] ([(S_Peer.mk a1.Src a1.Key a1.Counter 4294967295)] : List S_Peer) kr kr ?_; replace h := bindO h; obtain ⟨l45,hl45,h⟩ := h; refine TD_appR (d := 600000) (e := 222) (sz := 6) (N := List.length v19.Peers) (m := (Int.toNat 0)) S_Peer.cs (fun _ => by kernel_rfl) (l1 := v19.Peers) (l2 := ([(S_Peer.mk a1.Src a1.Key a1.Counter 4294967295)] : List S_Peer)) (c := .whole) hl45 kr kr ?_; refine TD_go 2 ?_; refine TD_end kr ?_; refine TS_go 1 ?_; refine TS_draw kr ?_; refine TD_go 5 ?_; replace h := bindO h; obtain ⟨l46,hl46,h⟩ := h; refine TD_sub S_Peer.cs 6 hl46 kr kr ?_; replace h := bindO h; obtain ⟨_l47,hl47,h⟩ := h; refine TD_appR (d := 600000) (e := 222) (sz := 6) (N := List.length l45) (m := (List.length l45)) S_Peer.cs (fun _ => by kernel_rfl) (l1 := l45) (l2 := l46) (c := .whole) hl47 kr kr ?_; refine TD_go 2 ?_; refine TD_end kr ?_; refine TS_go 6 ?_; refine TS_settle 70 kr ?_; refine TS_settle 600000 kr ?_; refine TS_fitU (fJ [4,5] [(70,900000),(600000,900004),(4,4)]) kr ?_; refine TS_go 1 ?_; have ret := Option.some.inj h; subst ret; exact TS_ret kr kr kr
  refine TD_know 76 (b := false) hb20 trivial kr kr ?_; refine TD_go 21 ?_; refine TD_end kr ?_; refine TS_F kr rfl ?_; refine TS_go 3 ?_; refine TS_draw kr ?_; refine TD_go 3 ?_; replace h := condF h; obtain ⟨hb48,h⟩ := h; refine TD_know 122 (b := false) hb48 trivial kr kr ?_; refine TD_go 4 ?_; replace h := bindO h; obtain ⟨v49,hv49,h⟩ := h; refine TD_conX (d := 127) (e := 900000) [] (okT_guard_message 2 a0.Nonce v49 hv49) kr kr ?_; replace h := bindO h; obtain ⟨v50,hv50,h⟩ := h; refine TD_call [[],[2]] (ok_bytes_Equal a1.Payload v49 v50 hv50) kr kr ?_; refine TD_go 2 ?_; refine TD_end kr ?_; replace h := condT h; obtain ⟨hb51,h⟩ := h; subst hb51; refine TS_F kr rfl ?_; refine TS_go 9 ?_; replace h := condF h; obtain ⟨hb52,h⟩ := h; refine TS_know 75 (b := false) hb20 kr kr ?_; refine TS_know 121 (b := false) hb48 kr kr ?_; refine TS_know 135 (b := false) hb52 kr kr ?_; refine TS_F kr rfl ?_; refine TS_go 2 ?_; refine TS_draw kr ?_; refine TD_go 3 ?_; replace h := chkO h; obtain ⟨hc53,h⟩ := h; refine TD_slRow 600000 6 (List.length v19.Peers) (a := 0) (b := 0) hc53 rfl kr kr ?_; refine TD_go 1 ?_; refine TD_litNT 142 222 6 S_Peer.cs [] ([(S_Peer.mk a1.Src a1.Key a1.Counter 4294967295)] : List S_Peer) kr kr ?_; replace h := bindO h; obtain ⟨l54,hl54,h⟩ := h; refine TD_appR (d := 600000) (e := 222) (sz := 6) (N := List.length v19.Peers) (m := (Int.toNat 0)) S_Peer.cs (fun _ => by kernel_rfl) (l1 := v19.Peers) (l2 := ([(S_Peer.mk a1.Src a1.Key a1.Counter 4294967295)] : List S_Peer)) (c := .whole) hl54 kr kr ?_; refine TD_go 2 ?_; refine TD_end kr ?_; refine TS_go 1 ?_; refine TS_draw kr ?_; refine TD_go 5 ?_; replace h := bindO h; obtain ⟨l55,hl55,h⟩ := h; refine TD_sub S_Peer.cs 6 hl55 kr kr ?_; replace h := bindO h; obtain ⟨_l56,hl56,h⟩ := h; refine TD_appR (d := 600000) (e := 222) (sz := 6) (N := List.length l54) (m := (List.length l54)) S_Peer.cs (fun _ => by kernel_rfl) (l1 := l54) (l2 := l55) (c := .whole) hl56 kr kr ?_; refine TD_go 2 ?_; refine TD_end kr ?_; refine TS_go 6 ?_; refine TS_settle 70 kr ?_; refine TS_settle 600000 kr ?_; refine TS_fitU (fJ [4,5] [(70,900000),(600000,900004),(4,4)]) kr ?_; refine TS_go 1 ?_; have ret := Option.some.inj h; subst ret; exact TS_ret kr kr kr
/-- multihop/multihoptop.pair -/
noncomputable def F_top_pair (a0 : Int) (a1 : Int) : Option (S_Guard × S_Guard × Bool) := (F_made_Key 1).bind fun v1 => (F_guard_Challenge (S_Guard.mk ([(S_LinkKey.mk 1 v1)] : List S_LinkKey) 0 1048576 9 ([] : List S_Peer))).bind fun v2 => (F_guard_Respond v2).bind fun v3 => (F_top_device a1).bind fun v4 => (F_top_device a0).bind fun v5 => (F_guard_Seal (S_Guard.mk ([(S_LinkKey.mk 1 v1)] : List S_LinkKey) 0 1048576 0 ([] : List S_Peer)) (S_Frame.mk 3 false false false 0 0 v4 v5 0 0 v3.1 ([] : List Int)) 1).bind fun v6 => bif v3.2 then bif (v6.2.2 != 0) then none else (F_guard_Open (S_Guard.mk ([(S_LinkKey.mk 1 v1)] : List S_LinkKey) 0 1048576 9 ([] : List S_Peer)) v6.2.1).bind fun v9 => some ((v6.1,v9.1,(v9.2 == 0))) else none
theorem okT_top_pair (a0 : Int) (a1 : Int) (r : S_Guard × S_Guard × Bool) (h : F_top_pair a0 a1 = some r) : Con Tryz.prog 12 [.c (I6 a0),.c (I6 a1)] [] (.tup [(true,S_Guard.cs r.1),(true,[.slc 17 900066 (List.length r.2.1.Keys) (List.map S_LinkKey.cs r.2.1.Keys),U3 r.2.1.Counter,U3 r.2.1.Reserved,U3 r.2.1.Nonce,.slc 6 900070 (List.length r.2.1.Peers) (List.map S_Peer.cs r.2.1.Peers)]),(false,[BL r.2.2])]) [(900064,.spare 120 17 (List.length r.2.1.Keys)),(900068,.spare 222 6 (List.length r.2.1.Peers))] := by
  unfold F_top_pair at h; refine con_of [[18,0,0,0,7]] [(900064,[]),(900068,[])] 57 Tryz.func12 rfl rfl kr (fun K => ?_); refine TS_go 8 ?_; replace h := bindO h; obtain ⟨v1,hv1,h⟩ := h; refine TS_call [] (ok_made_Key 1 v1 hv1) kr kr ?_; refine TS_go 1 ?_; refine TS_litNT 16 120 17 S_LinkKey.cs [] ([(S_LinkKey.mk 1 v1)] : List S_LinkKey) kr kr ?_; refine TS_go 16 ?_; replace h := bindO h; obtain ⟨v2,hv2,h⟩ := h; refine TS_con [[18,0,0,0,7]] [(23,900000)] none (okT_guard_Challenge (S_Guard.mk ([(S_LinkKey.mk 1 v1)] : List S_LinkKey) 0 1048576 9 ([] : List S_Peer)) v2 hv2) kr kr kr ?_; replace h := bindO h; obtain ⟨v3,hv3,h⟩ := h; refine TS_con [[2]] [(24,900000)] none (okT_guard_Respond v2 v3 hv3) kr kr kr ?_; refine TS_go 7 ?_; refine TS_draw kr ?_; refine TD_go 2 ?_; replace h := bindO h; obtain ⟨v4,hv4,h⟩ := h; refine TD_call [] (ok_top_device a1 v4 hv4) kr kr ?_; refine TD_go 1 ?_; replace h := bindO h; obtain ⟨v5,hv5,h⟩ := h; refine TD_call [] (ok_top_device a0 v5 hv5) kr kr ?_; refine TD_go 2 ?_; replace h := bindO h; obtain ⟨v6,hv6,h⟩ := h; refine TD_call [[18,0,0,0,7],[0,0,0,0,0,0,0,0,0,0,0,0,0,0,2,2]] (ok_guard_Seal (S_Guard.mk ([(S_LinkKey.mk 1 v1)] : List S_LinkKey) 0 1048576 0 ([] : List S_Peer)) (S_Frame.mk 3 false false false 0 0 v4 v5 0 0 v3.1 ([] : List Int)) 1 v6 hv6) kr kr ?_; refine TD_go 8 ?_; refine TD_end kr ?_; refine TS_go 6 ?_; replace h := condT h; obtain ⟨hb7,h⟩ := h; refine TS_know 26 (b := true) hb7 kr kr ?_; refine TS_know 11 (b := true) hb7 kr kr ?_; refine TS_know 39 (b := true) hb7 kr kr ?_; refine TS_know 40 (b := false) (notF hb7) kr kr ?_; refine TS_know 41 (b := false) (notF hb7) kr kr ?_; refine TS_go 4 ?_; replace h := condF h; obtain ⟨hb8,h⟩ := h; refine TS_know 43 (b := false) hb8 kr kr ?_; refine TS_know 44 (b := false) hb8 kr kr ?_; refine TS_F kr rfl ?_; refine TS_go 5 ?_; replace h := bindO h; obtain ⟨v9,hv9,h⟩ := h; refine TS_con [[18,0,0,0,7]] [(50,900000),(600000,900004)] none (okT_guard_Open (S_Guard.mk ([(S_LinkKey.mk 1 v1)] : List S_LinkKey) 0 1048576 9 ([] : List S_Peer)) v6.2.1 v9 hv9) kr kr kr ?_; refine TS_go 7 ?_; refine TS_draw kr ?_; refine TD_go 7 ?_; refine TD_end kr ?_; refine TS_fitU (fJ [4,5,6] [(50,900064),(600000,900068),(4,4),(5,5)]) kr ?_; refine TS_go 1 ?_; have ret := Option.some.inj h; subst ret; exact TS_ret kr kr kr
/-- multihop/checksum.Extend -/
noncomputable def b226 : Code := bodyOf Tryz.f226
noncomputable def F_checksum_Extend_j3 (s6 : Int × Int) (v10 : Int) : Option ((Int × Int) ⊕ (Int)) := some (Sum.inl (v10,IntKind.wrap .i64 (s6.2 + 1)))
noncomputable def F_checksum_Extend_l2  (s6 : Int × Int) : Option ((Int × Int) ⊕ (Int)) := bif (decide (s6.2 < 8)) then bif ((iand .u16 s6.1 1) == 1) then (F_checksum_Extend_j3 s6) (ixor .u16 (ishr .u16 s6.1 1) 33800) else (F_checksum_Extend_j3 s6) (ishr .u16 s6.1 1) else some (Sum.inr s6.1)
noncomputable def F_checksum_Extend_l1 (a1 : List Int) (s1 : Int × Int) : Option ((Int × Int) ⊕ (Int)) := bif (decide (s1.2 < (List.length a1 : Int))) then (idx a1 s1.2).bind fun e5 => (loopO (F_checksum_Extend_l2) (ixor .u16 s1.1 (IntKind.wrap .u16 e5),0)).bind fun b7 => some (Sum.inl (b7,IntKind.wrap .i64 (s1.2 + 1))) else some (Sum.inr s1.1)
noncomputable def F_checksum_Extend (a0 : Int) (a1 : List Int) : Option (Int) := (loopO (F_checksum_Extend_l1 a1) (a0,0)).bind fun b2 => some (b2)
theorem ok_checksum_Extend (a0 : Int) (a1 : List Int) (r : Int) (h : F_checksum_Extend a0 a1 = some r) : Con Tryz.prog 226 [.c (U1 a0),.c (eS 1 (ecI .u8) (a1))] [] (.c (U1 r)) [] := by
  unfold F_checksum_Extend at h; refine con_of [] [] 31 Tryz.func226 rfl rfl kr (fun K => ?_); refine TS_go 12 ?_; refine TS_cut (fI [0,8,9,10] []) (.mk [cA 21 b226,.blk 0,cA 7 b226] .normal ⟨[(0,.c (U1 a0)),(8,.c (.slc 1 0 (List.length a1) (List.map (ecI .u8) a1))),(9,.c (I6 ((List.length a1 : Int)))),(10,.c (I6 0))],[]⟩) kr kr ?_; replace h := bindO h; obtain ⟨y3,hl1,hK1⟩ := h; refine TS_loopB (F_checksum_Extend_l1 a1) (fI [0,8,9,10] []) (fun (s1 : Int × Int) => [(0,.c (U1 s1.1)),(10,.c (I6 s1.2))]) (fun (s1 : Int × Int) => []) (a0,0) y3 (.exit 0) (fun (b : Int) => b) (fI [0] []) (fun (b2 : Int) => [(0,.c (U1 b2))]) (fun (b2 : Int) => []) hl1 kr kr ?_ ?_
  · intro s1 x h hy1; unfold F_checksum_Extend_l1 at h; refine TS_go 5 ?_; replace h := condO h; rcases h with ⟨hb4,h⟩ | ⟨hb4,h⟩
    · refine TS_know 11 (b := true) hb4 kr kr ?_; refine TS_T kr rfl ?_; refine TS_go 5 ?_; replace h := bindO h; obtain ⟨e5,he5,h⟩ := h; refine TS_idx (ecI .u8) he5 kr kr ?_; refine TS_go 16 ?_; refine TS_cut (fI [0,8,9,10,18] []) (.mk [cA 11877 b226,.blk 2,.blk 1,cA 485 b226] .normal ⟨[(0,.c (U1 (ixor .u16 s1.1 (IntKind.wrap .u16 e5)))),(8,.c (.slc 1 0 (List.length a1) (List.map (ecI .u8) a1))),(9,.c (I6 ((List.length a1 : Int)))),(10,.c (I6 s1.2)),(18,.c (I6 0))],[]⟩) kr kr ?_; replace h := bindO h; obtain ⟨y8,hl2,hK2⟩ := h; refine TS_loopB (F_checksum_Extend_l2) (fI [0,8,9,10,18] []) (fun (s6 : Int × Int) => [(0,.c (U1 s6.1)),(18,.c (I6 s6.2))]) (fun (s6 : Int × Int) => []) (ixor .u16 s1.1 (IntKind.wrap .u16 e5),0) y8 (.exit 2) (fun (b : Int) => b) (fI [0,8,9,10] []) (fun (b7 : Int) => [(0,.c (U1 b7))]) (fun (b7 : Int) => []) hl2 kr kr ?_ ?_
      · intro s6 x h hy2; unfold F_checksum_Extend_l2 at h; refine TS_go 5 ?_; replace h := condO h; rcases h with ⟨hb9,h⟩ | ⟨hb9,h⟩
        · refine TS_know 19 (b := true) hb9 kr kr ?_; refine TS_T kr rfl ?_; refine TS_go 1 ?_; refine TS_cut (fI [0,8,9,10,18] []) (.mk [cA 118373 b226] .normal ⟨[(0,.c (U1 s6.1)),(8,.c (.slc 1 0 (List.length a1) (List.map (ecI .u8) a1))),(9,.c (I6 ((List.length a1 : Int)))),(10,.c (I6 s1.2)),(18,.c (I6 s6.2))],[]⟩) kr kr ?_; refine TS_joinB (fI [0,8,9,10,18] []) (fun (v10 : Int) => [(0,.c (U1 v10))]) (fun (v10 : Int) => []) (F_checksum_Extend_j3 s6) x ?_ ?_
          · clear h; intro v10 h; unfold F_checksum_Extend_j3 at h; refine TS_go 4 ?_; have ret := Option.some.inj h; subst ret; exact TS_againB _ (fI [0,8,9,10,18] []) rfl kr kr
          refine TS_go 18 ?_; replace h := condO h; rcases h with ⟨hb11,h⟩ | ⟨hb11,h⟩
          · refine TS_know 25 (b := true) hb11 kr kr ?_; refine TS_T kr rfl ?_; refine TS_go 6 ?_; exact TS_meet (ixor .u16 (ishr .u16 s6.1 1) 33800) (fI [0,8,9,10,18] []) h kr kr
          refine TS_know 25 (b := false) hb11 kr kr ?_; refine TS_F kr rfl ?_; refine TS_go 2 ?_; exact TS_meet (ishr .u16 s6.1 1) (fI [0,8,9,10,18] []) h kr kr
        refine TS_know 19 (b := false) hb9 kr kr ?_; refine TS_F kr rfl ?_; refine TS_go 2 ?_; have ret := Option.some.inj h; subst ret; exact TS_brkB s6.1 (fI [0,8,9,10] []) rfl kr kr kr
      intro b7 hb; subst y8; have h := hK2; refine TS_go 6 ?_; have ret := Option.some.inj h; subst ret; exact TS_againB _ (fI [0,8,9,10] []) rfl kr kr
    refine TS_know 11 (b := false) hb4 kr kr ?_; refine TS_F kr rfl ?_; refine TS_go 2 ?_; have ret := Option.some.inj h; subst ret; exact TS_brkB s1.1 (fI [0] []) rfl kr kr kr
  intro b2 hb; subst y3; have h := hK1; refine TS_go 7 ?_; have ret := Option.some.inj h; subst ret; exact TS_ret kr kr kr

/-- multihop/checksum.CRC -/
noncomputable def F_checksum_CRC (a0 : List Int) : Option (Int) := (F_checksum_Extend 0 a0).bind fun v1 => some (v1)
theorem ok_checksum_CRC (a0 : List Int) (r : Int) (h : F_checksum_CRC a0 = some r) : Con Tryz.prog 185 [.c (eS 1 (ecI .u8) (a0))] [] (.c (U1 r)) [] := by
  unfold F_checksum_CRC at h; refine con_of [] [] 5 Tryz.func185 rfl rfl kr (fun K => ?_); refine TS_go 7 ?_; replace h := bindO h; obtain ⟨v1,hv1,h⟩ := h; refine TS_call [] (ok_checksum_Extend 0 a0 v1 hv1) kr kr ?_; refine TS_go 3 ?_; have ret := Option.some.inj h; subst ret; exact TS_ret kr kr kr

/-- multihop/checksum.Append -/
noncomputable def F_checksum_Append (a0 : List Int) : Option ((List Int)) := (F_checksum_CRC a0).bind fun v1 => (mkO 1 0 (IntKind.wrap .i64 ((List.length a0 : Int) + 2))).bind fun n2 => (appO 1 (List.replicate n2 (0 : Int)) (Cut.app .whole a0)).bind fun l3 => (appO 1 l3 (Cut.app .whole ([IntKind.wrap .u8 v1,IntKind.wrap .u8 (ishr .u16 v1 8)] : List Int))).bind fun l4 => some (l4)
theorem okT_checksum_Append (a0 : List Int) (r : (List Int)) (h : F_checksum_Append a0 = some r) : Con Tryz.prog 121 [.c (eS 1 (ecI .u8) (a0))] [] (.c (.slc 1 900002 (List.length r) (List.map (ecI .u8) r))) [(900000,.spare 5 1 (List.length r))] := by
  unfold F_checksum_Append at h; refine con_of [] [(900000,[])] 22 Tryz.func121 rfl rfl kr (fun K => ?_); refine TS_go 7 ?_; replace h := bindO h; obtain ⟨v1,hv1,h⟩ := h; refine TS_call [] (ok_checksum_CRC a0 v1 hv1) kr kr ?_; refine TS_go 7 ?_; replace h := bindO h; obtain ⟨n2,hn2,h⟩ := h; refine TS_makeT 10 5 1 (ecI .u8) (0 : Int) [] (cs := [U8 0]) (l := 0) (c := IntKind.wrap .i64 ((List.length a0 : Int) + 2)) hn2 kr kr kr ?_; refine TS_go 6 ?_; replace h := bindO h; obtain ⟨l3,hl3,h⟩ := h; refine TS_appT (d := 10) (e := 5) (sz := 1) (N := List.length (List.replicate n2 (0 : Int))) (ecI .u8) (fun _ => by kernel_rfl) (l1 := (List.replicate n2 (0 : Int))) (l2 := a0) (c := .whole) hl3 kr kr ?_; refine TS_go 10 ?_; refine TS_litNT 20 5 1 (ecI .u8) [] ([IntKind.wrap .u8 v1,IntKind.wrap .u8 (ishr .u16 v1 8)] : List Int) kr kr ?_; replace h := bindO h; obtain ⟨_l4,hl4,h⟩ := h; refine TS_appT (d := 10) (e := 5) (sz := 1) (N := List.length l3) (ecI .u8) (fun _ => by kernel_rfl) (l1 := l3) (l2 := ([IntKind.wrap .u8 v1,IntKind.wrap .u8 (ishr .u16 v1 8)] : List Int)) (c := .whole) hl4 kr kr ?_; refine TS_go 2 ?_; refine TS_fitU (fJ [2] [(10,900000)]) kr ?_; refine TS_go 1 ?_; have ret := Option.some.inj h; subst ret; exact TS_ret kr kr kr
/-- multihop/frame.Encode -/
noncomputable def F_frame_Encode (a0 : S_Frame) : Option ((List Int) × Int) := (F_frame_Valid a0).bind fun v1 => bif v1 then (F_frame_Header a0).bind fun v3 => (appO 1 v3 (Cut.app .whole a0.MIC)).bind fun l4 => (F_checksum_Append l4).bind fun v5 => some ((v5,0)) else none
theorem okT_frame_Encode (a0 : S_Frame) (r : (List Int) × Int) (h : F_frame_Encode a0 = some r) : Con Tryz.prog 50 [.agg (S_Frame.cs a0)] [] (.tup [(false,[.slc 1 900002 (List.length r.1) (List.map (ecI .u8) r.1)]),(false,[I6 r.2])]) [(900000,.spare 5 1 (List.length r.1))] := by
  unfold F_frame_Encode at h; refine con_of [] [(900000,[])] 13 Tryz.func50 rfl rfl kr (fun K => ?_); refine TS_go 10 ?_; replace h := bindO h; obtain ⟨v1,hv1,h⟩ := h; refine TS_call [] (ok_frame_Valid a0 v1 hv1) kr kr ?_; refine TS_go 2 ?_; replace h := condT h; obtain ⟨hb2,h⟩ := h; subst hb2; refine TS_F kr rfl ?_; refine TS_go 2 ?_; refine TS_draw kr ?_; refine TD_go 1 ?_; replace h := bindO h; obtain ⟨v3,hv3,h⟩ := h; refine TD_conX (d := 8) (e := 900000) [] (okT_frame_Header a0 v3 hv3) kr kr ?_; refine TD_go 2 ?_; replace h := bindO h; obtain ⟨l4,hl4,h⟩ := h; refine TD_appT (d := 8) (e := 5) (sz := 1) (N := List.length v3) (ecI .u8) (fun _ => by kernel_rfl) (l1 := v3) (l2 := a0.MIC) (c := .whole) hl4 kr kr ?_; replace h := bindO h; obtain ⟨v5,hv5,h⟩ := h; refine TD_conX (d := 12) (e := 900000) [[2]] (okT_checksum_Append l4 v5 hv5) kr kr ?_; refine TD_go 2 ?_; refine TD_end kr ?_; refine TS_fitU (fJ [2,3] [(12,900000)]) kr ?_; refine TS_go 1 ?_; have ret := Option.some.inj h; subst ret; exact TS_ret kr kr kr
/-- multihop/multihoptop.sealed -/
noncomputable def b14 : Code := bodyOf Tryz.f14
noncomputable def F_top_sealed_l1 (a3 : List (List Int)) (a2 : Int) (a1 : Int) (s1 : (List (List Int)) × Int × S_Guard) : Option (((List (List Int)) × Int × S_Guard) ⊕ ((List (List Int)) × S_Guard)) := bif (decide (s1.2.1 < (List.length a3 : Int))) then (F_top_device a2).bind fun v5 => (F_top_device a1).bind fun v6 => (idx a3 s1.2.1).bind fun e7 => (F_guard_Seal s1.2.2 (S_Frame.mk 1 true false false (IntKind.wrap .u8 s1.2.1) 1 v5 v6 0 0 e7 ([] : List Int)) 1).bind fun v8 => (F_frame_Encode v8.2.1).bind fun v9 => bif (v8.2.2 != 0) then none else bif (v9.2 != 0) then none else (appO 24 s1.1 (Cut.app .whole ([v9.1] : List (List Int)))).bind fun l12 => some (Sum.inl (l12,IntKind.wrap .i64 (s1.2.1 + 1),v8.1)) else some (Sum.inr (s1.1,s1.2.2))
noncomputable def F_top_sealed (a0 : S_Guard) (a1 : Int) (a2 : Int) (a3 : List (List Int)) : Option (S_Guard × (List (List Int)) × Bool) := (loopO (F_top_sealed_l1 a3 a2 a1) (([] : List (List Int)),0,a0)).bind fun b2 => some ((b2.2,b2.1,true))
theorem okT_top_sealed (a0 : S_Guard) (a1 : Int) (a2 : Int) (a3 : List (List Int)) (r : S_Guard × (List (List Int)) × Bool) (h : F_top_sealed a0 a1 a2 a3 = some r) : Con Tryz.prog 14 [.agg (S_Guard.cs a0),.c (I6 a1),.c (I6 a2),.c (eS 1 (ecS 1 (ecI .u8)) (a3))] [] (.tup [(true,S_Guard.cs r.1),(false,[.slc 1 900066 (List.length r.2.1) (List.map (ecS 1 (ecI .u8)) r.2.1)]),(false,[BL r.2.2])]) [(900064,.spare 29 1 (List.length r.2.1))] := by
  unfold F_top_sealed at h; refine con_of [[18,0,0,0,7]] [(900064,[])] 60 Tryz.func14 rfl rfl kr (fun K => ?_); refine TS_go 17 ?_; refine TS_nilT 11 600000 29 1 kr ?_; refine TS_cut (fI [1,2,3,4,8,11,12] [4,8,600000]) (.mk [cA 43 b14,.blk 0,cA 15 b14] .normal ⟨[(1,.c (I6 a1)),(2,.c (I6 a2)),(3,.c (.slc 1 0 (List.length a3) (List.map (ecS 1 (ecI .u8)) a3))),(4,bx 4),(8,bx 8),(11,.c (.slc 1 600002 (List.length ([] : List (List Int))) (List.map (ecS 1 (ecI .u8)) ([] : List (List Int))))),(12,.c (I6 0))],[(4,.box [.slc 17 0 (List.length a0.Keys) (List.map S_LinkKey.cs a0.Keys),U3 a0.Counter,U3 a0.Reserved,U3 a0.Nonce,.slc 6 0 (List.length a0.Peers) (List.map S_Peer.cs a0.Peers)]),(8,.box [.lit (.slice none 0 0),U3 0,U3 0,U3 0,.lit (.slice none 0 0)]),(600000,.spare 29 1 (List.length ([] : List (List Int))))]⟩) kr kr ?_; replace h := bindO h; obtain ⟨y3,hl1,hK1⟩ := h; refine TS_loopB (F_top_sealed_l1 a3 a2 a1) (fI [1,2,3,4,8,11,12] [4,8,600000]) (fun (s1 : (List (List Int)) × Int × S_Guard) => [(11,.c (.slc 1 600002 (List.length s1.1) (List.map (ecS 1 (ecI .u8)) s1.1))),(12,.c (I6 s1.2.1))]) (fun (s1 : (List (List Int)) × Int × S_Guard) => [(4,.box (S_Guard.cs s1.2.2)),(600000,.spare 29 1 (List.length s1.1))]) (([] : List (List Int)),0,a0) y3 (.exit 0) (fun (b : (List (List Int)) × S_Guard) => b) (fI [4,8,11] [4,8,600000]) (fun (b2 : (List (List Int)) × S_Guard) => [(11,.c (.slc 1 600002 (List.length b2.1) (List.map (ecS 1 (ecI .u8)) b2.1)))]) (fun (b2 : (List (List Int)) × S_Guard) => [(4,.box (S_Guard.cs b2.2)),(600000,.spare 29 1 (List.length b2.1))]) hl1 kr kr ?_ ?_
  · intro s1 x h hy1; unfold F_top_sealed_l1 at h; refine TS_go 8 ?_; replace h := condO h; rcases h with ⟨hb4,h⟩ | ⟨hb4,h⟩
    · refine TS_know 21 (b := true) hb4 kr kr ?_; refine TS_T kr rfl ?_; refine TS_go 4 ?_; refine TS_draw kr ?_; refine TD_go 4 ?_; replace h := bindO h; obtain ⟨v5,hv5,h⟩ := h; refine TD_call [] (ok_top_device a2 v5 hv5) kr kr ?_; refine TD_go 1 ?_; replace h := bindO h; obtain ⟨v6,hv6,h⟩ := h; refine TD_call [] (ok_top_device a1 v6 hv6) kr kr ?_; refine TD_go 2 ?_; replace h := bindO h; obtain ⟨e7,he7,h⟩ := h; refine TD_idx (ecS 1 (ecI .u8)) he7 kr kr ?_; refine TD_go 2 ?_; replace h := bindO h; obtain ⟨v8,hv8,h⟩ := h; refine TD_call [[],[0,0,0,0,0,0,0,0,0,0,0,0,0,0,2,2]] (ok_guard_Seal s1.2.2 (S_Frame.mk 1 true false false (IntKind.wrap .u8 s1.2.1) 1 v5 v6 0 0 e7 ([] : List Int)) 1 v8 hv8) kr kr ?_; refine TD_go 9 ?_; refine TD_end kr ?_; refine TS_go 3 ?_; replace h := bindO h; obtain ⟨v9,hv9,h⟩ := h; refine TS_con [] [(43,900000)] none (okT_frame_Encode v8.2.1 v9 hv9) kr kr kr ?_; refine TS_go 12 ?_; replace h := condF h; obtain ⟨hb10,h⟩ := h; refine TS_know 47 (b := false) hb10 kr kr ?_; refine TS_know 48 (b := false) hb10 kr kr ?_; refine TS_go 4 ?_; replace h := condF h; obtain ⟨hb11,h⟩ := h; refine TS_know 50 (b := false) hb11 kr kr ?_; refine TS_know 51 (b := false) hb11 kr kr ?_; refine TS_F kr rfl ?_; refine TS_go 1 ?_; refine TS_draw kr ?_; refine TD_go 3 ?_; refine TD_litNT 56 29 1 (ecS 1 (ecI .u8)) [2] ([v9.1] : List (List Int)) kr kr ?_; replace h := bindO h; obtain ⟨_l12,hl12,h⟩ := h; refine TD_appT (d := 600000) (e := 29) (sz := 1) (N := List.length s1.1) (ecS 1 (ecI .u8)) (fun _ => by kernel_rfl) (l1 := s1.1) (l2 := ([v9.1] : List (List Int))) (c := .whole) hl12 kr kr ?_; refine TD_go 2 ?_; refine TD_end kr ?_; refine TS_go 6 ?_; have ret := Option.some.inj h; subst ret; exact TS_againB _ (fI [1,2,3,4,8,11,12] [4,8,600000]) rfl kr kr
    refine TS_know 21 (b := false) hb4 kr kr ?_; refine TS_F kr rfl ?_; refine TS_go 2 ?_; have ret := Option.some.inj h; subst ret; exact TS_brkB (s1.1,s1.2.2) (fI [4,8,11] [4,8,600000]) rfl kr kr kr
  intro b2 hb; subst y3; have h := hK1; refine TS_go 9 ?_; refine TS_fitU (fJ [8,9,10] [(600000,900064),(8,8)]) kr ?_; refine TS_go 1 ?_; have ret := Option.some.inj h; subst ret; exact TS_ret kr kr kr
/-- multihop/checksum.Check -/
noncomputable def F_checksum_Check (a0 : List Int) : Option (Bool) := bif (decide ((IntKind.wrap .i64 ((List.length a0 : Int) - 2)) < 0)) then none else (subO a0 0 (IntKind.wrap .i64 ((List.length a0 : Int) - 2))).bind fun l2 => (F_checksum_CRC l2).bind fun v3 => (idx a0 (IntKind.wrap .i64 ((List.length a0 : Int) - 2))).bind fun e4 => bif (e4 == (IntKind.wrap .u8 v3)) then (idx a0 (IntKind.wrap .i64 ((IntKind.wrap .i64 ((List.length a0 : Int) - 2)) + 1))).bind fun e6 => some ((e6 == (IntKind.wrap .u8 (ishr .u16 v3 8)))) else none
theorem ok_checksum_Check (a0 : List Int) (r : Bool) (h : F_checksum_Check a0 = some r) : Con Tryz.prog 122 [.c (eS 1 (ecI .u8) (a0))] [] (.c (BL r)) [] := by
  unfold F_checksum_Check at h; refine con_of [] [] 32 Tryz.func122 rfl rfl kr (fun K => ?_); refine TS_go 17 ?_; replace h := condF h; obtain ⟨hb1,h⟩ := h; refine TS_know 9 (b := false) hb1 kr kr ?_; refine TS_F kr rfl ?_; refine TS_go 5 ?_; replace h := bindO h; obtain ⟨l2,hl2,h⟩ := h; refine TS_sub (ecI .u8) 1 hl2 kr kr ?_; replace h := bindO h; obtain ⟨v3,hv3,h⟩ := h; refine TS_call [] (ok_checksum_CRC l2 v3 hv3) kr kr ?_; refine TS_go 6 ?_; replace h := bindO h; obtain ⟨_e4,he4,h⟩ := h; refine TS_idx (ecI .u8) he4 kr kr ?_; refine TS_go 5 ?_; replace h := condT h; obtain ⟨hb5,h⟩ := h; refine TS_know 20 (b := true) hb5 kr kr ?_; refine TS_know 21 (b := true) hb5 kr kr ?_; refine TS_go 3 ?_; replace h := bindO h; obtain ⟨_e6,he6,h⟩ := h; refine TS_idx (ecI .u8) he6 kr kr ?_; refine TS_go 9 ?_; have ret := Option.some.inj h; subst ret; exact TS_ret kr kr kr

/-- (*multihop/frame.reader).addr -/
noncomputable def b187 : Code := bodyOf Tryz.f187
/-- multihop/frame.parse -/
noncomputable def b123 : Code := bodyOf Tryz.f123
noncomputable def F_frame_parse (a0 : List Int) : Option (S_Frame × Bool) := (F_octets_Uint a0 0 1).bind fun v1 => bif v1.2 then (subO a0 1 (List.length a0 : Int)).bind fun l3 => (F_octets_Uint l3 0 1).bind fun v4 => bif v4.2 then (subO l3 1 (List.length l3 : Int)).bind fun l6 => (F_octets_Uint l6 0 1).bind fun v7 => bif v7.2 then (subO l6 1 (List.length l6 : Int)).bind fun l9 => bif ((IntKind.wrap .i64 (ishr .u8 (IntKind.wrap .u8 v1.1) 6)) != 2) then (F_octets_Uint l9 0 2).bind fun v11 => bif v11.2 then (subO l9 2 (List.length l9 : Int)).bind fun l13 => bif ((IntKind.wrap .i64 (iand .u8 (ishr .u8 (IntKind.wrap .u8 v4.1) 6) 3)) == 2) then none else bif ((IntKind.wrap .i64 (iand .u8 (ishr .u8 (IntKind.wrap .u8 v4.1) 6) 3)) == 3) then (F_octets_Uint l13 0 8).bind fun v16 => bif v16.2 then (subO l13 8 (List.length l13 : Int)).bind fun l18 => bif ((IntKind.wrap .i64 (iand .u8 (ishr .u8 (IntKind.wrap .u8 v4.1) 4) 3)) == 2) then none else bif ((IntKind.wrap .i64 (iand .u8 (ishr .u8 (IntKind.wrap .u8 v4.1) 4) 3)) == 3) then (F_octets_Uint l18 0 8).bind fun v21 => bif v21.2 then (subO l18 8 (List.length l18 : Int)).bind fun l23 => bif ((iand .u8 (IntKind.wrap .u8 v1.1) 8) != 0) then (F_octets_Uint l23 0 4).bind fun v25 => bif v25.2 then (subO l23 4 (List.length l23 : Int)).bind fun l27 => (F_octets_Uint l27 0 1).bind fun v28 => bif v28.2 then (subO l27 1 (List.length l27 : Int)).bind fun l30 => bif (decide ((IntKind.wrap .i64 ((List.length l30 : Int) - 4)) < 0)) then none else (subO l30 0 (IntKind.wrap .i64 ((List.length l30 : Int) - 4))).bind fun l32 => (appO 1 ([] : List Int) (Cut.app .whole l32)).bind fun l33 => (subO l30 (IntKind.wrap .i64 ((List.length l30 : Int) - 4)) (List.length l30 : Int)).bind fun l34 => (appO 1 ([] : List Int) (Cut.app .whole l34)).bind fun l35 => some (((S_Frame.mk (IntKind.wrap .i64 (ishr .u8 (IntKind.wrap .u8 v1.1) 6)) ((iand .u8 (IntKind.wrap .u8 v1.1) 32) != 0) ((iand .u8 (IntKind.wrap .u8 v1.1) 16) != 0) ((iand .u8 (IntKind.wrap .u8 v1.1) 8) != 0) (IntKind.wrap .u8 v7.1) (IntKind.wrap .u16 v11.1) (S_Addr.mk (IntKind.wrap .i64 (iand .u8 (ishr .u8 (IntKind.wrap .u8 v4.1) 6) 3)) 0 v16.1) (S_Addr.mk (IntKind.wrap .i64 (iand .u8 (ishr .u8 (IntKind.wrap .u8 v4.1) 4) 3)) 0 v21.1) (IntKind.wrap .u32 v25.1) (IntKind.wrap .u8 v28.1) l33 l35),true)) else none else none else none else none else none else none else none else none else none else none else none else none
theorem okT_frame_parse (a0 : List Int) (r : S_Frame × Bool) (h : F_frame_parse a0 = some r) : Con Tryz.prog 123 [.c (eS 1 (ecI .u8) (a0))] [] (.tup [(true,[I6 r.1.Kind,BL r.1.AckRequest,BL r.1.Pending,BL r.1.Secure,U8 r.1.Seq,U1 r.1.Pan,I6 r.1.Dst.Mode,U1 r.1.Dst.Short,U6 r.1.Dst.EUI,I6 r.1.Src.Mode,U1 r.1.Src.Short,U6 r.1.Src.EUI,U3 r.1.Counter,U8 r.1.Key,.slc 1 900016 (List.length r.1.Payload) (List.map (ecI .u8) r.1.Payload),.slc 1 900017 (List.length r.1.MIC) (List.map (ecI .u8) r.1.MIC)]),(false,[BL r.2])]) [(900014,.spare 5 1 (List.length r.1.Payload)),(900015,.spare 5 1 (List.length r.1.MIC))] := by
  unfold F_frame_parse at h; refine con_of [] [(900014,[]),(900015,[])] 92 Tryz.func123 rfl rfl kr (fun K => ?_); refine TS_go 14 ?_; refine TS_cut (fI [2,4] [2,4]) (.mk [oA 11 b123 0,cA 15 b123] .normal ⟨[(2,bx 2),(4,bx 4)],[(2,.box [I6 0,BL false,BL false,BL false,U8 0,U1 0,I6 0,U1 0,U6 0,I6 0,U1 0,U6 0,U3 0,U8 0,.lit (.slice none 0 0),.lit (.slice none 0 0)]),(4,.box [.slc 1 0 (List.length a0) (List.map (ecI .u8) a0),BL false])]⟩) kr kr ?_; refine TS_bump 2000 kr ?_; refine TS_inl 31 Tryz.func186 rfl rfl kr (fun K45 => ?_); refine TS_go 11 ?_; replace h := bindO h; obtain ⟨v1,hv1,h⟩ := h; refine TS_call [] (ok_octets_Uint a0 0 1 v1 hv1) kr kr ?_; refine TS_go 12 ?_; replace h := condT h; obtain ⟨hb2,h⟩ := h; refine TS_know 15 (b := true) hb2 kr kr ?_; refine TS_know 6 (b := true) hb2 kr kr ?_; refine TS_know 16 (b := true) hb2 kr kr ?_; refine TS_know 17 (b := false) (notF hb2) kr kr ?_; refine TS_F kr rfl ?_; refine TS_go 9 ?_; replace h := bindO h; obtain ⟨l3,hl3,h⟩ := h; refine TS_sub (ecI .u8) 1 hl3 kr kr ?_; refine TS_go 10 ?_; refine TS_inlR kr kr ?_; refine TS_go 1 ?_; refine TS_cut (fI [2,4,14] [2002,2004]) (.mk [oA 11 b123 2,cA 15 b123] .normal ⟨[(2,bx 2002),(4,bx 2004),(14,.c (U8 (IntKind.wrap .u8 v1.1)))],[(2002,.box [I6 0,BL false,BL false,BL false,U8 0,U1 0,I6 0,U1 0,U6 0,I6 0,U1 0,U6 0,U3 0,U8 0,.lit (.slice none 0 0),.lit (.slice none 0 0)]),(2004,.box [.slc 1 0 (List.length l3) (List.map (ecI .u8) l3),BL false])]⟩) kr kr ?_; refine TS_bump 2000 kr ?_; refine TS_inl 31 Tryz.func186 rfl rfl kr (fun K44 => ?_); refine TS_go 11 ?_; replace h := bindO h; obtain ⟨v4,hv4,h⟩ := h; refine TS_call [] (ok_octets_Uint l3 0 1 v4 hv4) kr kr ?_; refine TS_go 12 ?_; replace h := condT h; obtain ⟨hb5,h⟩ := h; refine TS_know 15 (b := true) hb5 kr kr ?_; refine TS_know 6 (b := true) hb5 kr kr ?_; refine TS_know 16 (b := true) hb5 kr kr ?_; refine TS_know 17 (b := false) (notF hb5) kr kr ?_; refine TS_F kr rfl ?_; refine TS_go 9 ?_; replace h := bindO h; obtain ⟨l6,hl6,h⟩ := h; refine TS_sub (ecI .u8) 1 hl6 kr kr ?_; refine TS_go 10 ?_; refine TS_inlR kr kr ?_; refine TS_go 18 ?_; refine TS_cut (fI [2,4,6,19,22,25,28] [4002,4004]) (.mk [oA 23 b123 12,cA 31 b123] .normal ⟨[(2,bx 4002),(4,bx 4004),(6,.c (U8 (IntKind.wrap .u8 v4.1))),(19,.c (I6 (IntKind.wrap .i64 (ishr .u8 (IntKind.wrap .u8 v1.1) 6)))),(22,.c (BL (((iand .u8 (IntKind.wrap .u8 v1.1) 32) != 0)))),(25,.c (BL (((iand .u8 (IntKind.wrap .u8 v1.1) 16) != 0)))),(28,.c (BL (((iand .u8 (IntKind.wrap .u8 v1.1) 8) != 0))))],[(4002,.box [I6 0,BL false,BL false,BL false,U8 0,U1 0,I6 0,U1 0,U6 0,I6 0,U1 0,U6 0,U3 0,U8 0,.lit (.slice none 0 0),.lit (.slice none 0 0)]),(4004,.box [.slc 1 0 (List.length l6) (List.map (ecI .u8) l6),BL false])]⟩) kr kr ?_; refine TS_bump 2000 kr ?_; refine TS_inl 31 Tryz.func186 rfl rfl kr (fun K43 => ?_); refine TS_go 11 ?_; replace h := bindO h; obtain ⟨v7,hv7,h⟩ := h; refine TS_call [] (ok_octets_Uint l6 0 1 v7 hv7) kr kr ?_; refine TS_go 12 ?_; replace h := condT h; obtain ⟨hb8,h⟩ := h; refine TS_know 15 (b := true) hb8 kr kr ?_; refine TS_know 6 (b := true) hb8 kr kr ?_; refine TS_know 16 (b := true) hb8 kr kr ?_; refine TS_know 17 (b := false) (notF hb8) kr kr ?_; refine TS_F kr rfl ?_; refine TS_go 9 ?_; replace h := bindO h; obtain ⟨l9,hl9,h⟩ := h; refine TS_sub (ecI .u8) 1 hl9 kr kr ?_; refine TS_go 10 ?_; refine TS_inlR kr kr ?_; refine TS_go 12 ?_; replace h := condT h; obtain ⟨hb10,h⟩ := h; refine TS_know 34 (b := true) hb10 kr kr ?_; refine TS_T kr rfl ?_; refine TS_go 2 ?_; refine TS_cut (fI [2,4,6,7] [6002,6004,7]) (.mk [oA 303 b123 0,cA 431 b123,cA 63 b123] .normal ⟨[(2,bx 6002),(4,bx 6004),(6,.c (U8 (IntKind.wrap .u8 v4.1))),(7,bx 7)],[(6002,.box [I6 0,BL false,BL false,BL false,U8 0,U1 0,I6 0,U1 0,U6 0,I6 0,U1 0,U6 0,U3 0,U8 0,.lit (.slice none 0 0),.lit (.slice none 0 0)]),(6004,.box [.slc 1 0 (List.length l9) (List.map (ecI .u8) l9),BL false]),(7,.box [I6 (IntKind.wrap .i64 (ishr .u8 (IntKind.wrap .u8 v1.1) 6)),BL (((iand .u8 (IntKind.wrap .u8 v1.1) 32) != 0)),BL (((iand .u8 (IntKind.wrap .u8 v1.1) 16) != 0)),BL (((iand .u8 (IntKind.wrap .u8 v1.1) 8) != 0)),U8 (IntKind.wrap .u8 v7.1),U1 0,I6 0,U1 0,U6 0,I6 0,U1 0,U6 0,U3 0,U8 0,.lit (.slice none 0 0),.lit (.slice none 0 0)])]⟩) kr kr ?_; refine TS_bump 2000 kr ?_; refine TS_inl 31 Tryz.func186 rfl rfl kr (fun K42 => ?_); refine TS_go 11 ?_; replace h := bindO h; obtain ⟨v11,hv11,h⟩ := h; refine TS_call [] (ok_octets_Uint l9 0 2 v11 hv11) kr kr ?_; refine TS_go 12 ?_; replace h := condT h; obtain ⟨hb12,h⟩ := h; refine TS_know 15 (b := true) hb12 kr kr ?_; refine TS_know 6 (b := true) hb12 kr kr ?_; refine TS_know 16 (b := true) hb12 kr kr ?_; refine TS_know 17 (b := false) (notF hb12) kr kr ?_; refine TS_F kr rfl ?_; refine TS_go 9 ?_; replace h := bindO h; obtain ⟨l13,hl13,h⟩ := h; refine TS_sub (ecI .u8) 1 hl13 kr kr ?_; refine TS_go 10 ?_; refine TS_inlR kr kr ?_; refine TS_go 14 ?_; refine TS_cut (fI [2,4,6,7,8,38] [8002,8004,2007,8]) (.mk [cA 5551 b123,.blk 0,cA 1967 b123,cA 63 b123] .normal ⟨[(2,bx 8002),(4,bx 8004),(6,.c (U8 (IntKind.wrap .u8 v4.1))),(7,bx 2007),(8,bx 8),(38,.c (I6 0))],[(8002,.box [I6 0,BL false,BL false,BL false,U8 0,U1 0,I6 0,U1 0,U6 0,I6 0,U1 0,U6 0,U3 0,U8 0,.lit (.slice none 0 0),.lit (.slice none 0 0)]),(8004,.box [.slc 1 0 (List.length l13) (List.map (ecI .u8) l13),BL false]),(2007,.box [I6 (IntKind.wrap .i64 (ishr .u8 (IntKind.wrap .u8 v1.1) 6)),BL (((iand .u8 (IntKind.wrap .u8 v1.1) 32) != 0)),BL (((iand .u8 (IntKind.wrap .u8 v1.1) 16) != 0)),BL (((iand .u8 (IntKind.wrap .u8 v1.1) 8) != 0)),U8 (IntKind.wrap .u8 v7.1),U1 (IntKind.wrap .u16 v11.1),I6 0,U1 0,U6 0,I6 0,U1 0,U6 0,U3 0,U8 0,.lit (.slice none 0 0),.lit (.slice none 0 0)]),(8,.box [I6 0,U1 0,U6 0,I6 0,U1 0,U6 0])]⟩) kr kr ?_; refine TS_unr 16 kr ?_; refine TS_go 5 ?_; refine TS_T kr rfl ?_; refine TS_go 17 ?_; refine TS_cut (fI [2,4,6,7,8,38,41,48] [8002,8004,2007,8]) (.mk [oA 419247 b123 8,.blk 1,cA 124335 b123] .normal ⟨[(2,bx 8002),(4,bx 8004),(6,.c (U8 (IntKind.wrap .u8 v4.1))),(7,bx 2007),(8,bx 8),(38,.c (I6 0)),(41,.c (I6 0)),(48,.c (I6 (IntKind.wrap .i64 (iand .u8 (ishr .u8 (IntKind.wrap .u8 v4.1) 6) 3))))],[(8002,.box [I6 0,BL false,BL false,BL false,U8 0,U1 0,I6 0,U1 0,U6 0,I6 0,U1 0,U6 0,U3 0,U8 0,.lit (.slice none 0 0),.lit (.slice none 0 0)]),(8004,.box [.slc 1 0 (List.length l13) (List.map (ecI .u8) l13),BL false]),(2007,.box [I6 (IntKind.wrap .i64 (ishr .u8 (IntKind.wrap .u8 v1.1) 6)),BL (((iand .u8 (IntKind.wrap .u8 v1.1) 32) != 0)),BL (((iand .u8 (IntKind.wrap .u8 v1.1) 16) != 0)),BL (((iand .u8 (IntKind.wrap .u8 v1.1) 8) != 0)),U8 (IntKind.wrap .u8 v7.1),U1 (IntKind.wrap .u16 v11.1),I6 0,U1 0,U6 0,I6 0,U1 0,U6 0,U3 0,U8 0,.lit (.slice none 0 0),.lit (.slice none 0 0)]),(8,.box [I6 0,U1 0,U6 0,I6 0,U1 0,U6 0])]⟩) kr kr ?_; refine TS_bump 2000 kr ?_; refine TS_inl 21 Tryz.func187 rfl rfl kr (fun K41 => ?_); refine TS_go 22 ?_; replace h := condF h; obtain ⟨hb14,h⟩ := h; refine TS_know 10 (b := false) hb14 kr kr ?_; refine TS_know 9 (b := false) hb14 kr kr ?_; refine TS_F kr rfl ?_; refine TS_go 5 ?_; replace h := condT h; obtain ⟨hb15,h⟩ := h; refine TS_know 16 (b := true) hb15 kr kr ?_; refine TS_know 15 (b := true) hb15 kr kr ?_; refine TS_T kr rfl ?_; refine TS_go 2 ?_; refine TS_cut (fI [2000002,2000004,2000006,2000007,2000008,2000038,2000041,4,5,17] [10002,10004,4007,2008,4,5]) (.mk [oA 747 b187 1,.blk 0,cA 15 b187] .normal ⟨[(2000002,bx 10002),(2000004,bx 10004),(2000006,.c (U8 (IntKind.wrap .u8 v4.1))),(2000007,bx 4007),(2000008,bx 2008),(2000038,.c (I6 0)),(2000041,.c (I6 0)),(4,bx 4),(5,bx 5),(17,bx 10004)],[(10002,.box [I6 0,BL false,BL false,BL false,U8 0,U1 0,I6 0,U1 0,U6 0,I6 0,U1 0,U6 0,U3 0,U8 0,.lit (.slice none 0 0),.lit (.slice none 0 0)]),(10004,.box [.slc 1 0 (List.length l13) (List.map (ecI .u8) l13),BL false]),(4007,.box [I6 (IntKind.wrap .i64 (ishr .u8 (IntKind.wrap .u8 v1.1) 6)),BL (((iand .u8 (IntKind.wrap .u8 v1.1) 32) != 0)),BL (((iand .u8 (IntKind.wrap .u8 v1.1) 16) != 0)),BL (((iand .u8 (IntKind.wrap .u8 v1.1) 8) != 0)),U8 (IntKind.wrap .u8 v7.1),U1 (IntKind.wrap .u16 v11.1),I6 0,U1 0,U6 0,I6 0,U1 0,U6 0,U3 0,U8 0,.lit (.slice none 0 0),.lit (.slice none 0 0)]),(2008,.box [I6 0,U1 0,U6 0,I6 0,U1 0,U6 0]),(4,.box [I6 0,U1 0,U6 0]),(5,.box [I6 (IntKind.wrap .i64 (iand .u8 (ishr .u8 (IntKind.wrap .u8 v4.1) 6) 3)),U1 0,U6 0])]⟩) kr kr ?_; refine TS_bump 2000 kr ?_; refine TS_inl 31 Tryz.func186 rfl rfl kr (fun K40 => ?_); refine TS_go 11 ?_; replace h := bindO h; obtain ⟨v16,hv16,h⟩ := h; refine TS_call [] (ok_octets_Uint l13 0 8 v16 hv16) kr kr ?_; refine TS_go 12 ?_; replace h := condT h; obtain ⟨hb17,h⟩ := h; refine TS_know 15 (b := true) hb17 kr kr ?_; refine TS_know 6 (b := true) hb17 kr kr ?_; refine TS_know 16 (b := true) hb17 kr kr ?_; refine TS_know 17 (b := false) (notF hb17) kr kr ?_; refine TS_F kr rfl ?_; refine TS_go 9 ?_; replace h := bindO h; obtain ⟨l18,hl18,h⟩ := h; refine TS_sub (ecI .u8) 1 hl18 kr kr ?_; refine TS_go 10 ?_; refine TS_inlR kr kr ?_; refine TS_go 10 ?_; refine TS_inlR kr kr ?_; refine TS_go 8 ?_; refine TS_unrN kr kr ?_; refine TS_go 5 ?_; refine TS_T kr rfl ?_; refine TS_go 17 ?_; refine TS_cut (fI [2,4,6,7,8,38,41,48] [12002,12004,6007,4008]) (.mk [oA 419247 b123 8,.blk 1,cA 124335 b123] .normal ⟨[(2,bx 12002),(4,bx 12004),(6,.c (U8 (IntKind.wrap .u8 v4.1))),(7,bx 6007),(8,bx 4008),(38,.c (I6 1)),(41,.c (I6 1)),(48,.c (I6 (IntKind.wrap .i64 (iand .u8 (ishr .u8 (IntKind.wrap .u8 v4.1) 4) 3))))],[(12002,.box [I6 0,BL false,BL false,BL false,U8 0,U1 0,I6 0,U1 0,U6 0,I6 0,U1 0,U6 0,U3 0,U8 0,.lit (.slice none 0 0),.lit (.slice none 0 0)]),(12004,.box [.slc 1 0 (List.length l18) (List.map (ecI .u8) l18),BL false]),(6007,.box [I6 (IntKind.wrap .i64 (ishr .u8 (IntKind.wrap .u8 v1.1) 6)),BL (((iand .u8 (IntKind.wrap .u8 v1.1) 32) != 0)),BL (((iand .u8 (IntKind.wrap .u8 v1.1) 16) != 0)),BL (((iand .u8 (IntKind.wrap .u8 v1.1) 8) != 0)),U8 (IntKind.wrap .u8 v7.1),U1 (IntKind.wrap .u16 v11.1),I6 0,U1 0,U6 0,I6 0,U1 0,U6 0,U3 0,U8 0,.lit (.slice none 0 0),.lit (.slice none 0 0)]),(4008,.box [I6 (IntKind.wrap .i64 (iand .u8 (ishr .u8 (IntKind.wrap .u8 v4.1) 6) 3)),U1 0,U6 v16.1,I6 0,U1 0,U6 0])]⟩) kr kr ?_; refine TS_bump 2000 kr ?_; refine TS_inl 21 Tryz.func187 rfl rfl kr (fun K39 => ?_); refine TS_go 22 ?_; replace h := condF h; obtain ⟨hb19,h⟩ := h; refine TS_know 10 (b := false) hb19 kr kr ?_; refine TS_know 9 (b := false) hb19 kr kr ?_; refine TS_F kr rfl ?_; refine TS_go 5 ?_; replace h := condT h; obtain ⟨hb20,h⟩ := h; refine TS_know 16 (b := true) hb20 kr kr ?_; refine TS_know 15 (b := true) hb20 kr kr ?_; refine TS_T kr rfl ?_; refine TS_go 2 ?_; refine TS_cut (fI [2000002,2000004,2000006,2000007,2000008,2000038,2000041,4,5,17] [14002,14004,8007,6008,4,5]) (.mk [oA 747 b187 1,.blk 0,cA 15 b187] .normal ⟨[(2000002,bx 14002),(2000004,bx 14004),(2000006,.c (U8 (IntKind.wrap .u8 v4.1))),(2000007,bx 8007),(2000008,bx 6008),(2000038,.c (I6 1)),(2000041,.c (I6 1)),(4,bx 4),(5,bx 5),(17,bx 14004)],[(14002,.box [I6 0,BL false,BL false,BL false,U8 0,U1 0,I6 0,U1 0,U6 0,I6 0,U1 0,U6 0,U3 0,U8 0,.lit (.slice none 0 0),.lit (.slice none 0 0)]),(14004,.box [.slc 1 0 (List.length l18) (List.map (ecI .u8) l18),BL false]),(8007,.box [I6 (IntKind.wrap .i64 (ishr .u8 (IntKind.wrap .u8 v1.1) 6)),BL (((iand .u8 (IntKind.wrap .u8 v1.1) 32) != 0)),BL (((iand .u8 (IntKind.wrap .u8 v1.1) 16) != 0)),BL (((iand .u8 (IntKind.wrap .u8 v1.1) 8) != 0)),U8 (IntKind.wrap .u8 v7.1),U1 (IntKind.wrap .u16 v11.1),I6 0,U1 0,U6 0,I6 0,U1 0,U6 0,U3 0,U8 0,.lit (.slice none 0 0),.lit (.slice none 0 0)]),(6008,.box [I6 (IntKind.wrap .i64 (iand .u8 (ishr .u8 (IntKind.wrap .u8 v4.1) 6) 3)),U1 0,U6 v16.1,I6 0,U1 0,U6 0]),(4,.box [I6 0,U1 0,U6 0]),(5,.box [I6 (IntKind.wrap .i64 (iand .u8 (ishr .u8 (IntKind.wrap .u8 v4.1) 4) 3)),U1 0,U6 0])]⟩) kr kr ?_; refine TS_bump 2000 kr ?_; refine TS_inl 31 Tryz.func186 rfl rfl kr (fun K38 => ?_); refine TS_go 11 ?_; replace h := bindO h; obtain ⟨v21,hv21,h⟩ := h; refine TS_call [] (ok_octets_Uint l18 0 8 v21 hv21) kr kr ?_; refine TS_go 12 ?_; replace h := condT h; obtain ⟨hb22,h⟩ := h; refine TS_know 15 (b := true) hb22 kr kr ?_; refine TS_know 6 (b := true) hb22 kr kr ?_; refine TS_know 16 (b := true) hb22 kr kr ?_; refine TS_know 17 (b := false) (notF hb22) kr kr ?_; refine TS_F kr rfl ?_; refine TS_go 9 ?_; replace h := bindO h; obtain ⟨l23,hl23,h⟩ := h; refine TS_sub (ecI .u8) 1 hl23 kr kr ?_; refine TS_go 10 ?_; refine TS_inlR kr kr ?_; refine TS_go 10 ?_; refine TS_inlR kr kr ?_; refine TS_go 8 ?_; refine TS_unrN kr kr ?_; refine TS_go 5 ?_; refine TS_F kr rfl ?_; refine TS_go 2 ?_; refine TS_unrX kr ?_; refine TS_go 1 ?_; refine TS_draw kr ?_; refine TD_go 8 ?_; refine TD_end kr ?_; refine TS_go 6 ?_; replace h := condT h; obtain ⟨hb24,h⟩ := h; refine TS_know 59 (b := true) hb24 kr kr ?_; refine TS_T kr rfl ?_; refine TS_go 2 ?_; refine TS_cut (fI [2,4,7] [16002,16004,10007]) (.mk [oA 607 b123 0,cA 863 b123,cA 127 b123] .normal ⟨[(2,bx 16002),(4,bx 16004),(7,bx 10007)],[(16002,.box [I6 0,BL false,BL false,BL false,U8 0,U1 0,I6 0,U1 0,U6 0,I6 0,U1 0,U6 0,U3 0,U8 0,.lit (.slice none 0 0),.lit (.slice none 0 0)]),(16004,.box [.slc 1 0 (List.length l23) (List.map (ecI .u8) l23),BL false]),(10007,.box [I6 (IntKind.wrap .i64 (ishr .u8 (IntKind.wrap .u8 v1.1) 6)),BL (((iand .u8 (IntKind.wrap .u8 v1.1) 32) != 0)),BL (((iand .u8 (IntKind.wrap .u8 v1.1) 16) != 0)),BL (((iand .u8 (IntKind.wrap .u8 v1.1) 8) != 0)),U8 (IntKind.wrap .u8 v7.1),U1 (IntKind.wrap .u16 v11.1),I6 (IntKind.wrap .i64 (iand .u8 (ishr .u8 (IntKind.wrap .u8 v4.1) 6) 3)),U1 0,U6 v16.1,I6 (IntKind.wrap .i64 (iand .u8 (ishr .u8 (IntKind.wrap .u8 v4.1) 4) 3)),U1 0,U6 v21.1,U3 0,U8 0,.lit (.slice none 0 0),.lit (.slice none 0 0)])]⟩) kr kr ?_; refine TS_bump 2000 kr ?_; refine TS_inl 31 Tryz.func186 rfl rfl kr (fun K37 => ?_); refine TS_go 11 ?_; replace h := bindO h; obtain ⟨v25,hv25,h⟩ := h; refine TS_call [] (ok_octets_Uint l23 0 4 v25 hv25) kr kr ?_; refine TS_go 12 ?_; replace h := condT h; obtain ⟨hb26,h⟩ := h; refine TS_know 15 (b := true) hb26 kr kr ?_; refine TS_know 6 (b := true) hb26 kr kr ?_; refine TS_know 16 (b := true) hb26 kr kr ?_; refine TS_know 17 (b := false) (notF hb26) kr kr ?_; refine TS_F kr rfl ?_; refine TS_go 9 ?_; replace h := bindO h; obtain ⟨l27,hl27,h⟩ := h; refine TS_sub (ecI .u8) 1 hl27 kr kr ?_; refine TS_go 10 ?_; refine TS_inlR kr kr ?_; refine TS_go 5 ?_; refine TS_cut (fI [2,4,7] [18002,18004,12007]) (.mk [oA 863 b123 0,cA 127 b123] .normal ⟨[(2,bx 18002),(4,bx 18004),(7,bx 12007)],[(18002,.box [I6 0,BL false,BL false,BL false,U8 0,U1 0,I6 0,U1 0,U6 0,I6 0,U1 0,U6 0,U3 0,U8 0,.lit (.slice none 0 0),.lit (.slice none 0 0)]),(18004,.box [.slc 1 0 (List.length l27) (List.map (ecI .u8) l27),BL false]),(12007,.box [I6 (IntKind.wrap .i64 (ishr .u8 (IntKind.wrap .u8 v1.1) 6)),BL (((iand .u8 (IntKind.wrap .u8 v1.1) 32) != 0)),BL (((iand .u8 (IntKind.wrap .u8 v1.1) 16) != 0)),BL (((iand .u8 (IntKind.wrap .u8 v1.1) 8) != 0)),U8 (IntKind.wrap .u8 v7.1),U1 (IntKind.wrap .u16 v11.1),I6 (IntKind.wrap .i64 (iand .u8 (ishr .u8 (IntKind.wrap .u8 v4.1) 6) 3)),U1 0,U6 v16.1,I6 (IntKind.wrap .i64 (iand .u8 (ishr .u8 (IntKind.wrap .u8 v4.1) 4) 3)),U1 0,U6 v21.1,U3 (IntKind.wrap .u32 v25.1),U8 0,.lit (.slice none 0 0),.lit (.slice none 0 0)])]⟩) kr kr ?_; refine TS_bump 2000 kr ?_; refine TS_inl 31 Tryz.func186 rfl rfl kr (fun K36 => ?_); refine TS_go 11 ?_; replace h := bindO h; obtain ⟨v28,hv28,h⟩ := h; refine TS_call [] (ok_octets_Uint l27 0 1 v28 hv28) kr kr ?_; refine TS_go 12 ?_; replace h := condT h; obtain ⟨hb29,h⟩ := h; refine TS_know 15 (b := true) hb29 kr kr ?_; refine TS_know 6 (b := true) hb29 kr kr ?_; refine TS_know 16 (b := true) hb29 kr kr ?_; refine TS_know 17 (b := false) (notF hb29) kr kr ?_; refine TS_F kr rfl ?_; refine TS_go 9 ?_; replace h := bindO h; obtain ⟨_l30,hl30,h⟩ := h; refine TS_sub (ecI .u8) 1 hl30 kr kr ?_; refine TS_go 10 ?_; refine TS_inlR kr kr ?_; refine TS_go 10 ?_; refine TS_F kr rfl ?_; refine TS_go 13 ?_; refine TS_know 73 (b := true) hb24 kr kr ?_; refine TS_go 1 ?_; refine TS_T kr rfl ?_; refine TS_go 11 ?_; replace h := condF h; obtain ⟨hb31,h⟩ := h; refine TS_know 77 (b := false) hb31 kr kr ?_; refine TS_F kr rfl ?_; refine TS_go 6 ?_; replace h := bindO h; obtain ⟨l32,hl32,h⟩ := h; refine TS_sub (ecI .u8) 1 hl32 kr kr ?_; replace h := bindO h; obtain ⟨_l33,hl33,h⟩ := h; refine TS_appNT 83 5 1 (ecI .u8) (fun _ => by kernel_rfl) (l2 := l32) .whole hl33 kr kr ?_; refine TS_go 8 ?_; replace h := bindO h; obtain ⟨l34,hl34,h⟩ := h; refine TS_sub (ecI .u8) 1 hl34 kr kr ?_; replace h := bindO h; obtain ⟨_l35,hl35,h⟩ := h; refine TS_appNT 89 5 1 (ecI .u8) (fun _ => by kernel_rfl) (l2 := l34) .whole hl35 kr kr ?_; refine TS_go 9 ?_; refine TS_fitU (fJ [2,3] [(83,900014),(89,900015),(20002,20002)]) kr ?_; refine TS_go 1 ?_; have ret := Option.some.inj h; subst ret; exact TS_ret kr kr kr
/-- multihop/frame.Decode -/
noncomputable def F_frame_Decode (a0 : List Int) : Option (S_Frame × Int) := bif (decide ((List.length a0 : Int) > 127)) then none else bif (decide ((List.length a0 : Int) < 5)) then none else (F_checksum_Check a0).bind fun v3 => bif v3 then (subO a0 0 (IntKind.wrap .i64 ((List.length a0 : Int) - 2))).bind fun l5 => (F_frame_parse l5).bind fun v6 => bif v6.2 then (F_frame_Encode v6.1).bind fun v8 => bif (v8.2 != 0) then none else (F_bytes_Equal v8.1 a0).bind fun v10 => bif v10 then some ((v6.1,0)) else none else none else none
theorem okT_frame_Decode (a0 : List Int) (r : S_Frame × Int) (h : F_frame_Decode a0 = some r) : Con Tryz.prog 51 [.c (eS 1 (ecI .u8) (a0))] [] (.tup [(true,[I6 r.1.Kind,BL r.1.AckRequest,BL r.1.Pending,BL r.1.Secure,U8 r.1.Seq,U1 r.1.Pan,I6 r.1.Dst.Mode,U1 r.1.Dst.Short,U6 r.1.Dst.EUI,I6 r.1.Src.Mode,U1 r.1.Src.Short,U6 r.1.Src.EUI,U3 r.1.Counter,U8 r.1.Key,.slc 1 900016 (List.length r.1.Payload) (List.map (ecI .u8) r.1.Payload),.slc 1 900017 (List.length r.1.MIC) (List.map (ecI .u8) r.1.MIC)]),(false,[I6 r.2])]) [(900014,.spare 5 1 (List.length r.1.Payload)),(900015,.spare 5 1 (List.length r.1.MIC))] := by
  unfold F_frame_Decode at h; refine con_of [] [(900014,[]),(900015,[])] 50 Tryz.func51 rfl rfl kr (fun K => ?_); refine TS_go 14 ?_; replace h := condF h; obtain ⟨hb1,h⟩ := h; refine TS_know 11 (b := false) hb1 kr kr ?_; refine TS_know 8 (b := false) hb1 kr kr ?_; refine TS_F kr rfl ?_; refine TS_go 7 ?_; replace h := condF h; obtain ⟨hb2,h⟩ := h; refine TS_know 16 (b := false) hb2 kr kr ?_; refine TS_know 13 (b := false) hb2 kr kr ?_; refine TS_F kr rfl ?_; refine TS_go 3 ?_; replace h := bindO h; obtain ⟨v3,hv3,h⟩ := h; refine TS_call [] (ok_checksum_Check a0 v3 hv3) kr kr ?_; refine TS_go 3 ?_; replace h := condT h; obtain ⟨hb4,h⟩ := h; subst hb4; refine TS_F kr rfl ?_; refine TS_go 8 ?_; replace h := bindO h; obtain ⟨l5,hl5,h⟩ := h; refine TS_sub (ecI .u8) 1 hl5 kr kr ?_; replace h := bindO h; obtain ⟨v6,hv6,h⟩ := h; refine TS_con [] [(29,900014),(600000,900015)] none (okT_frame_parse l5 v6 hv6) kr kr kr ?_; refine TS_go 13 ?_; replace h := condT h; obtain ⟨hb7,h⟩ := h; refine TS_know 31 (b := true) hb7 kr kr ?_; refine TS_know 5 (b := true) hb7 kr kr ?_; refine TS_know 32 (b := true) hb7 kr kr ?_; refine TS_know 33 (b := false) (notF hb7) kr kr ?_; refine TS_F kr rfl ?_; refine TS_go 4 ?_; replace h := bindO h; obtain ⟨v8,hv8,h⟩ := h; refine TS_con [[0,0,0,0,0,0,0,0,0,0,0,0,0,0,2,2]] [(37,900000)] none (okT_frame_Encode v6.1 v8 hv8) kr kr kr ?_; refine TS_go 12 ?_; replace h := condF h; obtain ⟨hb9,h⟩ := h; refine TS_know 41 (b := false) hb9 kr kr ?_; refine TS_know 42 (b := false) hb9 kr kr ?_; refine TS_go 2 ?_; replace h := bindO h; obtain ⟨v10,hv10,h⟩ := h; refine TS_call [[2]] (ok_bytes_Equal v8.1 a0 v10 hv10) kr kr ?_; refine TS_go 3 ?_; replace h := condT h; obtain ⟨hb11,h⟩ := h; subst hb11; refine TS_F kr rfl ?_; refine TS_go 7 ?_; refine TS_fitU (fJ [2,3] [(29,900014),(600000,900015),(2,2)]) kr ?_; refine TS_go 1 ?_; have ret := Option.some.inj h; subst ret; exact TS_ret kr kr kr
/-- multihop/multihoptop.opened -/
noncomputable def F_top_opened (a0 : S_Guard) (a1 : List Int) : Option (S_Guard × (List Int) × Bool) := (F_frame_Decode a1).bind fun v1 => bif (v1.2 != 0) then none else (F_guard_Open a0 v1.1).bind fun v3 => bif (v3.2 != 0) then none else some ((v3.1,v1.1.Payload,true))
theorem okT_top_opened (a0 : S_Guard) (a1 : List Int) (r : S_Guard × (List Int) × Bool) (h : F_top_opened a0 a1 = some r) : Con Tryz.prog 15 [.agg (S_Guard.cs a0),.c (eS 1 (ecI .u8) (a1))] [] (.tup [(true,[.slc 17 900002 (List.length r.1.Keys) (List.map S_LinkKey.cs r.1.Keys),U3 r.1.Counter,U3 r.1.Reserved,U3 r.1.Nonce,.slc 6 900006 (List.length r.1.Peers) (List.map S_Peer.cs r.1.Peers)]),(false,[.slc 1 900066 (List.length r.2.1) (List.map (ecI .u8) r.2.1)]),(false,[BL r.2.2])]) [(900000,.spare 120 17 (List.length r.1.Keys)),(900004,.spare 222 6 (List.length r.1.Peers)),(900064,.spare 5 1 (List.length r.2.1))] := by
  unfold F_top_opened at h; refine con_of [] [(900000,[]),(900004,[]),(900064,[])] 30 Tryz.func15 rfl rfl kr (fun K => ?_); refine TS_go 10 ?_; replace h := bindO h; obtain ⟨v1,hv1,h⟩ := h; refine TS_con [] [(12,900014),(600000,900015)] none (okT_frame_Decode a1 v1 hv1) kr kr kr ?_; refine TS_go 13 ?_; replace h := condF h; obtain ⟨hb2,h⟩ := h; refine TS_know 16 (b := false) hb2 kr kr ?_; refine TS_F kr rfl ?_; refine TS_go 5 ?_; replace h := bindO h; obtain ⟨v3,hv3,h⟩ := h; refine TS_con [[],[0,0,0,0,0,0,0,0,0,0,0,0,0,0,2,2]] [(21,900000),(600001,900004)] none (okT_guard_Open a0 v1.1 v3 hv3) kr kr kr ?_; refine TS_go 13 ?_; replace h := condF h; obtain ⟨hb4,h⟩ := h; refine TS_know 25 (b := false) hb4 kr kr ?_; refine TS_F kr rfl ?_; refine TS_go 2 ?_; refine TS_draw kr ?_; refine TD_go 6 ?_; refine TD_end kr ?_; refine TS_fitU (fJ [4,5,6] [(21,900000),(600001,900004),(12,900064),(4,4)]) kr ?_; refine TS_go 1 ?_; have ret := Option.some.inj h; subst ret; exact TS_ret kr kr kr
theorem ok_top_opened (a0 : S_Guard) (a1 : List Int) (r : S_Guard × (List Int) × Bool) (h : F_top_opened a0 a1 = some r) : Con Tryz.prog 15 [.agg (S_Guard.cs a0),.c (eS 1 (ecI .u8) (a1))] [] (.tup [(true,S_Guard.cs r.1),(false,[eS 1 (ecI .u8) (r.2.1)]),(false,[BL r.2.2])]) [] := con_drop [[18,0,0,0,7],[2]] [] (okT_top_opened a0 a1 r h) kr kr kr

/-- multihop/multihopref01.Same -/
noncomputable def b69 : Code := bodyOf Tryz.f69
noncomputable def F_ref01_Same_l1 (a0 : List Int) (a1 : List Int) (s2 : Int) : Option ((Int) ⊕ (Unit)) := bif (decide (s2 < (List.length a0 : Int))) then (idx a0 s2).bind fun e6 => (idx a1 s2).bind fun e7 => bif (e6 != e7) then none else some (Sum.inl (IntKind.wrap .i64 (s2 + 1))) else some (Sum.inr ())
noncomputable def F_ref01_Same (a0 : List Int) (a1 : List Int) : Option (Bool) := bif ((List.length a0 : Int) != (List.length a1 : Int)) then none else (loopO (F_ref01_Same_l1 a0 a1) 0).bind fun b3 => some (true)
theorem ok_ref01_Same (a0 : List Int) (a1 : List Int) (r : Bool) (h : F_ref01_Same a0 a1 = some r) : Con Tryz.prog 69 [.c (eS 1 (ecI .u8) (a0)),.c (eS 1 (ecI .u8) (a1))] [] (.c (BL r)) [] := by
  unfold F_ref01_Same at h; refine con_of [] [] 26 Tryz.func69 rfl rfl kr (fun K => ?_); refine TS_go 13 ?_; replace h := condF h; obtain ⟨hb1,h⟩ := h; refine TS_know 10 (b := false) hb1 kr kr ?_; refine TS_F kr rfl ?_; refine TS_go 7 ?_; refine TS_cut (fI [0,1,5] []) (.mk [cA 43 b69,.blk 0,cA 15 b69] .normal ⟨[(0,.c (.slc 1 0 (List.length a0) (List.map (ecI .u8) a0))),(1,.c (.slc 1 0 (List.length a1) (List.map (ecI .u8) a1))),(5,.c (I6 0))],[]⟩) kr kr ?_; replace h := bindO h; obtain ⟨y4,hl1,hK1⟩ := h; refine TS_loopB (F_ref01_Same_l1 a0 a1) (fI [0,1,5] []) (fun (s2 : Int) => [(5,.c (I6 s2))]) (fun (s2 : Int) => []) 0 y4 (.exit 0) (fun (b : Unit) => b) (fI [] []) (fun (b3 : Unit) => []) (fun (b3 : Unit) => []) hl1 kr kr ?_ ?_
  · intro s2 x h hy1; unfold F_ref01_Same_l1 at h; refine TS_go 8 ?_; replace h := condO h; rcases h with ⟨hb5,h⟩ | ⟨hb5,h⟩
    · refine TS_know 14 (b := true) hb5 kr kr ?_; refine TS_T kr rfl ?_; refine TS_go 4 ?_; refine TS_draw kr ?_; refine TD_go 2 ?_; replace h := bindO h; obtain ⟨_e6,he6,h⟩ := h; refine TD_idx (ecI .u8) he6 kr kr ?_; refine TD_go 3 ?_; replace h := bindO h; obtain ⟨_e7,he7,h⟩ := h; refine TD_idx (ecI .u8) he7 kr kr ?_; refine TD_go 2 ?_; refine TD_end kr ?_; replace h := condF h; obtain ⟨hb8,h⟩ := h; refine TS_know 25 (b := false) hb8 kr kr ?_; refine TS_F kr rfl ?_; refine TS_go 7 ?_; have ret := Option.some.inj h; subst ret; exact TS_againB _ (fI [0,1,5] []) rfl kr kr
    refine TS_know 14 (b := false) hb5 kr kr ?_; refine TS_F kr rfl ?_; refine TS_go 2 ?_; have ret := Option.some.inj h; subst ret; exact TS_brkB () (fI [] []) rfl kr kr kr
  intro b3 hb; subst y4; have h := hK1; refine TS_go 6 ?_; have ret := Option.some.inj h; subst ret; exact TS_ret kr kr kr

/-- multihop/multihopref13.Same -/
noncomputable def F_ref13_Same (a0 : S_Packet) (a1 : S_Packet) : Option (Bool) := bif (a0.Class == a1.Class) then bif (a0.Flow == a1.Flow) then bif (a0.Next == a1.Next) then bif (a0.Hops == a1.Hops) then bif (arrEq 16 a0.Src a1.Src) then bif (arrEq 16 a0.Dst a1.Dst) then bif (a0.SrcPort == a1.SrcPort) then bif (a0.DstPort == a1.DstPort) then (F_ref01_Same a0.Payload a1.Payload).bind fun v9 => some (v9) else none else none else none else none else none else none else none else none
theorem ok_ref13_Same (a0 : S_Packet) (a1 : S_Packet) (r : Bool) (h : F_ref13_Same a0 a1 = some r) : Con Tryz.prog 19 [.agg (S_Packet.cs a0),.agg (S_Packet.cs a1)] [] (.c (BL r)) [] := by
  unfold F_ref13_Same at h; refine con_of [] [] 66 Tryz.func19 rfl rfl kr (fun K => ?_); refine TS_go 14 ?_; replace h := condT h; obtain ⟨hb1,h⟩ := h; refine TS_know 9 (b := true) hb1 kr kr ?_; refine TS_know 10 (b := true) hb1 kr kr ?_; refine TS_go 7 ?_; replace h := condT h; obtain ⟨hb2,h⟩ := h; refine TS_know 15 (b := true) hb2 kr kr ?_; refine TS_know 16 (b := true) hb2 kr kr ?_; refine TS_know 17 (b := true) hb2 kr kr ?_; refine TS_go 7 ?_; replace h := condT h; obtain ⟨hb3,h⟩ := h; refine TS_know 22 (b := true) hb3 kr kr ?_; refine TS_know 23 (b := true) hb3 kr kr ?_; refine TS_know 24 (b := true) hb3 kr kr ?_; refine TS_go 7 ?_; replace h := condT h; obtain ⟨hb4,h⟩ := h; refine TS_know 29 (b := true) hb4 kr kr ?_; refine TS_know 30 (b := true) hb4 kr kr ?_; refine TS_know 31 (b := true) hb4 kr kr ?_; refine TS_go 7 ?_; replace h := condT h; obtain ⟨hb5,h⟩ := h; refine TS_know 36 (b := true) hb5 kr kr ?_; refine TS_know 37 (b := true) hb5 kr kr ?_; refine TS_know 38 (b := true) hb5 kr kr ?_; refine TS_go 7 ?_; replace h := condT h; obtain ⟨hb6,h⟩ := h; refine TS_know 43 (b := true) hb6 kr kr ?_; refine TS_know 44 (b := true) hb6 kr kr ?_; refine TS_know 45 (b := true) hb6 kr kr ?_; refine TS_go 7 ?_; replace h := condT h; obtain ⟨hb7,h⟩ := h; refine TS_know 50 (b := true) hb7 kr kr ?_; refine TS_know 51 (b := true) hb7 kr kr ?_; refine TS_know 52 (b := true) hb7 kr kr ?_; refine TS_go 7 ?_; replace h := condT h; obtain ⟨hb8,h⟩ := h; refine TS_know 57 (b := true) hb8 kr kr ?_; refine TS_know 58 (b := true) hb8 kr kr ?_; refine TS_know 59 (b := true) hb8 kr kr ?_; refine TS_go 4 ?_; replace h := bindO h; obtain ⟨v9,hv9,h⟩ := h; refine TS_call [] (ok_ref01_Same a0.Payload a1.Payload v9 hv9) kr kr ?_; refine TS_go 4 ?_; have ret := Option.some.inj h; subst ret; exact TS_ret kr kr kr

/-- multihop/multihoptop.sane -/
noncomputable def F_top_sane  : Option (Bool) := (F_top_local_G2 0 1 ([1,2,3] : List Int)).bind fun v1 => (F_top_device 0).bind fun v2 => (F_top_device 1).bind fun v3 => (F_compress_Encode v1 v2 v3 ([] : List S_Context) 0).bind fun v4 => (F_top_device 0).bind fun v5 => (F_top_device 1).bind fun v6 => (F_compress_Decode v4.1 v5 v6 ([] : List S_Context) 0).bind fun v7 => (F_top_pair 0 1).bind fun v8 => (F_top_sealed v8.1 0 1 ([v4.1] : List (List Int))).bind fun v9 => bif (v4.2 != 0) then none else bif (v7.2 != 0) then none else bif v8.2.2 then bif v9.2.2 then bif ((List.length v9.2.1 : Int) != 1) then none else (idx v9.2.1 0).bind fun e15 => (F_top_opened v8.2.1 e15).bind fun v16 => bif v16.2.2 then (F_ref01_Same v16.2.1 v4.1).bind fun v18 => bif v18 then (F_ref13_Same v1 v7.1).bind fun v20 => some (v20) else none else none else none else none
theorem ok_top_sane  (r : Bool) (h : F_top_sane  = some r) : Con Tryz.prog 21 [] [] (.c (BL r)) [] := by
  unfold F_top_sane at h; refine con_of [] [] 83 Tryz.func21 rfl rfl kr (fun K => ?_); refine TS_go 6 ?_; refine TS_litNT 15 5 1 (ecI .u8) [] ([1,2,3] : List Int) kr kr ?_; replace h := bindO h; obtain ⟨v1,hv1,h⟩ := h; refine TS_conG 15 [] (ok_top_local_G2 0 1 ([1,2,3] : List Int) v1 hv1) kr kr kr ?_; refine TS_go 4 ?_; refine TS_draw kr ?_; refine TD_go 1 ?_; replace h := bindO h; obtain ⟨v2,hv2,h⟩ := h; refine TD_call [] (ok_top_device 0 v2 hv2) kr kr ?_; replace h := bindO h; obtain ⟨v3,hv3,h⟩ := h; refine TD_call [] (ok_top_device 1 v3 hv3) kr kr ?_; replace h := bindO h; obtain ⟨v4,hv4,h⟩ := h; refine TD_conX (d := 21) (e := 900000) [[0,0,0,0,0,0,0,0,0,0,0,0,0,0,0,0,0,0,0,0,0,0,0,0,0,0,0,0,0,0,0,0,0,0,0,0,0,0,2],[],[],[21]] (okT_compress_Encode v1 v2 v3 ([] : List S_Context) 0 v4 hv4) kr kr ?_; refine TD_go 5 ?_; refine TD_end kr ?_; refine TS_go 3 ?_; replace h := bindO h; obtain ⟨v5,hv5,h⟩ := h; refine TS_call [] (ok_top_device 0 v5 hv5) kr kr ?_; replace h := bindO h; obtain ⟨v6,hv6,h⟩ := h; refine TS_call [] (ok_top_device 1 v6 hv6) kr kr ?_; replace h := bindO h; obtain ⟨v7,hv7,h⟩ := h; refine TS_con [[2],[],[],[21]] [(28,900038)] none (okT_compress_Decode v4.1 v5 v6 ([] : List S_Context) 0 v7 hv7) kr kr kr ?_; refine TS_go 9 ?_; replace h := bindO h; obtain ⟨v8,hv8,h⟩ := h; refine TS_con [] [(32,900064),(600000,900068)] none (okT_top_pair 0 1 v8 hv8) kr kr kr ?_; refine TS_go 14 ?_; refine TS_litNT 39 29 1 (ecS 1 (ecI .u8)) [2] ([v4.1] : List (List Int)) kr kr ?_; replace h := bindO h; obtain ⟨v9,hv9,h⟩ := h; refine TS_con [[],[],[],[2]] [(40,900064)] none (okT_top_sealed v8.1 0 1 ([v4.1] : List (List Int)) v9 hv9) kr kr kr ?_; refine TS_go 15 ?_; replace h := condF h; obtain ⟨hb10,h⟩ := h; refine TS_know 45 (b := false) hb10 kr kr ?_; refine TS_know 46 (b := false) hb10 kr kr ?_; refine TS_go 4 ?_; replace h := condF h; obtain ⟨hb11,h⟩ := h; refine TS_know 48 (b := false) hb11 kr kr ?_; refine TS_know 49 (b := false) hb11 kr kr ?_; refine TS_know 50 (b := false) hb11 kr kr ?_; refine TS_go 4 ?_; replace h := condT h; obtain ⟨hb12,h⟩ := h; refine TS_know 35 (b := true) hb12 kr kr ?_; refine TS_know 8 (b := true) hb12 kr kr ?_; refine TS_know 51 (b := true) hb12 kr kr ?_; refine TS_know 52 (b := false) (notF hb12) kr kr ?_; refine TS_know 53 (b := false) (notF hb12) kr kr ?_; refine TS_know 54 (b := false) (notF hb12) kr kr ?_; refine TS_go 4 ?_; replace h := condT h; obtain ⟨hb13,h⟩ := h; refine TS_know 43 (b := true) hb13 kr kr ?_; refine TS_know 11 (b := true) hb13 kr kr ?_; refine TS_know 55 (b := true) hb13 kr kr ?_; refine TS_know 56 (b := false) (notF hb13) kr kr ?_; refine TS_know 57 (b := false) (notF hb13) kr kr ?_; refine TS_know 58 (b := false) (notF hb13) kr kr ?_; refine TS_go 5 ?_; replace h := condF h; obtain ⟨hb14,h⟩ := h; refine TS_know 61 (b := false) hb14 kr kr ?_; refine TS_know 62 (b := false) hb14 kr kr ?_; refine TS_F kr rfl ?_; refine TS_go 2 ?_; refine TS_draw kr ?_; refine TD_go 2 ?_; replace h := bindO h; obtain ⟨e15,he15,h⟩ := h; refine TD_idx (ecS 1 (ecI .u8)) he15 kr kr ?_; refine TD_go 1 ?_; replace h := bindO h; obtain ⟨v16,hv16,h⟩ := h; refine TD_call [[18,0,0,0,7]] (ok_top_opened v8.2.1 e15 v16 hv16) kr kr ?_; refine TD_go 8 ?_; refine TD_end kr ?_; refine TS_go 4 ?_; replace h := condT h; obtain ⟨hb17,h⟩ := h; refine TS_know 71 (b := true) hb17 kr kr ?_; refine TS_know 14 (b := true) hb17 kr kr ?_; refine TS_know 72 (b := true) hb17 kr kr ?_; refine TS_know 73 (b := true) hb17 kr kr ?_; refine TS_go 2 ?_; replace h := bindO h; obtain ⟨v18,hv18,h⟩ := h; refine TS_call [[],[2]] (ok_ref01_Same v16.2.1 v4.1 v18 hv18) kr kr ?_; refine TS_go 2 ?_; replace h := condT h; obtain ⟨hb19,h⟩ := h; subst hb19; refine TS_go 2 ?_; replace h := bindO h; obtain ⟨v20,hv20,h⟩ := h; refine TS_call [[0,0,0,0,0,0,0,0,0,0,0,0,0,0,0,0,0,0,0,0,0,0,0,0,0,0,0,0,0,0,0,0,0,0,0,0,0,0,2],[0,0,0,0,0,0,0,0,0,0,0,0,0,0,0,0,0,0,0,0,0,0,0,0,0,0,0,0,0,0,0,0,0,0,0,0,0,0,2]] (ok_ref13_Same v1 v7.1 v20 hv20) kr kr ?_; refine TS_go 4 ?_; have ret := Option.some.inj h; subst ret; exact TS_ret kr kr kr

/-- multihop/multihoptop.TopOneOwner -/
noncomputable def b5 : Code := bodyOf Tryz.f5
noncomputable def F_top_TopOneOwner_j5 (s34 : Int × Int) (v38 : Int) : Option ((Int × Int) ⊕ (Int)) := some (Sum.inl (v38,IntKind.wrap .i64 (s34.2 + 1)))
noncomputable def F_top_TopOneOwner_l4 (s5 : (List S_Claim) × Int × Int × S_multihopmade_Tape × (List (List S_Registration)) × (List Int)) (v9 : Int × S_multihopmade_Tape) (v24 : (List S_Claim) × (List S_Registration)) (v33 : (List Int)) (s34 : Int × Int) : Option ((Int × Int) ⊕ (Int)) := bif (decide (s34.2 < 3)) then (idx (Cut.app .whole (List.set s5.2.2.2.2.1 (0 + Int.toNat v9.1) v24.2)) s34.2).bind fun _e39 => ((List.set s5.2.2.2.2.1 (0 + Int.toNat v9.1) v24.2)[(0 + Int.toNat s34.2)]?).bind fun e40 => (F_registration_Lookup e40 v33 s5.2.1).bind fun v41 => bif v41.2 then bif (s34.1 != 0) then bif (v41.1.EUI != s34.1) then none else (F_top_TopOneOwner_j5 s34) v41.1.EUI else (F_top_TopOneOwner_j5 s34) v41.1.EUI else (F_top_TopOneOwner_j5 s34) s34.1 else some (Sum.inr s34.1)
noncomputable def F_top_TopOneOwner_l3 (s5 : (List S_Claim) × Int × Int × S_multihopmade_Tape × (List (List S_Registration)) × (List Int)) (v9 : Int × S_multihopmade_Tape) (v24 : (List S_Claim) × (List S_Registration)) (s27 : Int) : Option ((Int) ⊕ (Unit)) := bif (decide (s27 < 6)) then (F_made_New ([s27] : List Int)).bind fun v31 => (F_made_Tape_Next v31 6).bind fun v32 => (F_ref04_Of 2306139568115548160 (IntKind.wrap .u64 v32.1)).bind fun v33 => (loopO (F_top_TopOneOwner_l4 s5 v9 v24 v33) (0,0)).bind fun b35 => (F_detection_Owner v24.1 s5.2.1 v33).bind fun v46 => bif (b35 != 0) then bif v46.2 then bif (v46.1 != b35) then none else some (Sum.inl (IntKind.wrap .i64 (s27 + 1))) else none else some (Sum.inl (IntKind.wrap .i64 (s27 + 1))) else some (Sum.inr ())
noncomputable def F_top_TopOneOwner_j2 (s5 : (List S_Claim) × Int × Int × S_multihopmade_Tape × (List (List S_Registration)) × (List Int)) (v9 : Int × S_multihopmade_Tape) (v12 : Int × S_multihopmade_Tape) (e14 : Int) (v24 : (List S_Claim) × (List S_Registration)) : Option (((List S_Claim) × Int × Int × S_multihopmade_Tape × (List (List S_Registration)) × (List Int)) ⊕ (Unit)) := (idx (Cut.app .whole s5.2.2.2.2.1) v9.1).bind fun _e25 => (s5.2.2.2.2.1[(0 + Int.toNat v9.1)]?).bind fun _e26 => (loopO (F_top_TopOneOwner_l3 s5 v9 v24) 0).bind fun b28 => (F_made_Tape_Next v12.2 12).bind fun v52 => some (Sum.inl (v24.1,IntKind.wrap .i64 (s5.2.1 + v52.1),IntKind.wrap .i64 (s5.2.2.1 + 1),v52.2,(List.set s5.2.2.2.2.1 (0 + Int.toNat v9.1) v24.2),(List.set s5.2.2.2.2.2 (0 + Int.toNat (IntKind.wrap .i64 (1 + v12.1))) (IntKind.wrap .u8 (e14 + 1)))))
noncomputable def F_top_TopOneOwner_l1 (v2 : Int) (s5 : (List S_Claim) × Int × Int × S_multihopmade_Tape × (List (List S_Registration)) × (List Int)) : Option (((List S_Claim) × Int × Int × S_multihopmade_Tape × (List (List S_Registration)) × (List Int)) ⊕ (Unit)) := bif (decide (s5.2.2.1 < 15)) then (F_made_Tape_Next s5.2.2.2.1 3).bind fun v9 => (F_made_Tape_Next v9.2 6).bind fun v10 => (F_ref04_Of 2306139568115548160 (IntKind.wrap .u64 v10.1)).bind fun v11 => (F_made_Tape_Next v10.2 3).bind fun v12 => (idx (Cut.app .whole s5.2.2.2.2.2) (IntKind.wrap .i64 (1 + v12.1))).bind fun _e13 => (s5.2.2.2.2.2[(0 + Int.toNat (IntKind.wrap .i64 (1 + v12.1)))]?).bind fun e14 => (idx (Cut.app .whole s5.2.2.2.2.2) (IntKind.wrap .i64 (1 + v12.1))).bind fun _e15 => (s5.2.2.2.2.2[(0 + Int.toNat (IntKind.wrap .i64 (1 + v12.1)))]?).bind fun _e16 => (idx (Cut.app .whole (List.set s5.2.2.2.2.2 (0 + Int.toNat (IntKind.wrap .i64 (1 + v12.1))) (IntKind.wrap .u8 (e14 + 1)))) (IntKind.wrap .i64 (1 + v12.1))).bind fun _e17 => ((List.set s5.2.2.2.2.2 (0 + Int.toNat (IntKind.wrap .i64 (1 + v12.1))) (IntKind.wrap .u8 (e14 + 1)))[(0 + Int.toNat (IntKind.wrap .i64 (1 + v12.1)))]?).bind fun e18 => (idx (Cut.app .whole s5.2.2.2.2.1) v9.1).bind fun _e19 => (s5.2.2.2.2.1[(0 + Int.toNat v9.1)]?).bind fun e20 => (F_top_device (IntKind.wrap .i64 (1 + v12.1))).bind fun v21 => (F_registration_Register e20 v11 (S_Owner.mk (IntKind.wrap .u64 (IntKind.wrap .i64 (1 + v12.1))) e18 0 (IntKind.wrap .u16 (IntKind.wrap .i64 (1 + v2)))) v21 s5.2.1).bind fun v22 => bif (v22.2.2 != 0) then none else bif (v22.2.1 == 0) then (F_top_ask s5.1 s5.2.1 v11 (S_Owner.mk (IntKind.wrap .u64 (IntKind.wrap .i64 (1 + v12.1))) e18 0 (IntKind.wrap .u16 (IntKind.wrap .i64 (1 + v2))))).bind fun v54 => (F_registration_Confirm v22.1 v11 (IntKind.wrap .u64 (IntKind.wrap .i64 (1 + v12.1))) v54.2.1 s5.2.1).bind fun v55 => bif v54.2.2 then bif (v55.2.2 != 0) then none else (F_top_TopOneOwner_j2 s5 v9 v12 e14) (v54.1,v55.1) else none else (F_top_TopOneOwner_j2 s5 v9 v12 e14) (s5.1,v22.1) else some (Sum.inr ())
noncomputable def F_top_TopOneOwner (a0 : List Int) (a1 : Int) : Option (Bool) := (F_made_New a0).bind fun v1 => (F_made_Mod a1 40).bind fun v2 => (mkO 24 3 3).bind fun n3 => (mkO 1 4 4).bind fun n4 => (loopO (F_top_TopOneOwner_l1 v2) (([] : List S_Claim),0,0,v1,(List.replicate n3 (([] : List S_Registration) : List S_Registration)),(List.replicate n4 (0 : Int)))).bind fun b6 => (F_top_sane ).bind fun v60 => some (v60)
theorem ok_top_TopOneOwner (a0 : List Int) (a1 : Int) (r : Bool) (h : F_top_TopOneOwner a0 a1 = some r) : Con Tryz.prog 5 [.c (eS 1 (ecI .i64) (a0)),.c (I6 a1)] [] (.c (BL r)) [] := by
  unfold F_top_TopOneOwner at h; refine con_of [] [] 174 Tryz.func5 rfl rfl kr (fun K => ?_); refine TS_go 7 ?_; replace h := bindO h; obtain ⟨v1,hv1,h⟩ := h; refine TS_con [] [(33,10)] none (ok_made_New a0 v1 hv1) kr kr kr ?_; refine TS_go 5 ?_; replace h := bindO h; obtain ⟨v2,hv2,h⟩ := h; refine TS_call [] (ok_made_Mod a1 40 v2 hv2) kr kr ?_; refine TS_go 5 ?_; replace h := bindO h; obtain ⟨n3,hn3,h⟩ := h; refine TS_makeR 37 77 1 (ecS 23 S_Registration.cs) (([] : List S_Registration) : List S_Registration) [24] (cs := [.lit (.slice none 0 0)]) (l := 3) (c := 3) hn3 kr kr kr ?_; refine TS_go 4 ?_; replace h := bindO h; obtain ⟨n4,hn4,h⟩ := h; refine TS_makeR 38 5 1 (ecI .u8) (0 : Int) [] (cs := [U8 0]) (l := 4) (c := 4) hn4 kr kr kr ?_; refine TS_go 16 ?_; refine TS_nilT 8 600000 205 20 kr ?_; refine TS_cut (fI [1,5,6,7,8,9,10] [33,37,38,600000]) (.mk [cA 1407 b5,.blk 0,cA 511 b5] .normal ⟨[(1,.c (I6 (IntKind.wrap .i64 (1 + v2)))),(5,bx 33),(6,.c (.own 37)),(7,.c (.own 38)),(8,.c (.slc 20 600002 (List.length ([] : List S_Claim)) (List.map S_Claim.cs ([] : List S_Claim)))),(9,.c (I6 0)),(10,.c (I6 0))],[(33,.box [.slc 1 0 (List.length v1.l) (List.map (ecI .i64) v1.l),I6 v1.at_]),(37,.row 77 1 (List.length (List.replicate n3 (([] : List S_Registration) : List S_Registration))) (List.map (ecS 23 S_Registration.cs) (List.replicate n3 (([] : List S_Registration) : List S_Registration)))),(38,.row 5 1 (List.length (List.replicate n4 (0 : Int))) (List.map (ecI .u8) (List.replicate n4 (0 : Int)))),(600000,.spare 205 20 (List.length ([] : List S_Claim)))]⟩) kr kr ?_; replace h := bindO h; obtain ⟨y7,hl1,hK1⟩ := h; refine TS_loopB (F_top_TopOneOwner_l1 v2) (fI [1,5,6,7,8,9,10] [33,37,38,600000]) (fun (s5 : (List S_Claim) × Int × Int × S_multihopmade_Tape × (List (List S_Registration)) × (List Int)) => [(1,.c (I6 (IntKind.wrap .i64 (1 + v2)))),(5,bx 33),(6,.c (.own 37)),(7,.c (.own 38)),(8,.c (.slc 20 600002 (List.length s5.1) (List.map S_Claim.cs s5.1))),(9,.c (I6 s5.2.1)),(10,.c (I6 s5.2.2.1))]) (fun (s5 : (List S_Claim) × Int × Int × S_multihopmade_Tape × (List (List S_Registration)) × (List Int)) => [(33,.box (S_multihopmade_Tape.cs s5.2.2.2.1)),(37,.row 77 1 (List.length s5.2.2.2.2.1) (List.map (ecS 23 S_Registration.cs) s5.2.2.2.2.1)),(38,.row 5 1 (List.length s5.2.2.2.2.2) (List.map (ecI .u8) s5.2.2.2.2.2)),(600000,.spare 205 20 (List.length s5.1))]) (([] : List S_Claim),0,0,v1,(List.replicate n3 (([] : List S_Registration) : List S_Registration)),(List.replicate n4 (0 : Int))) y7 (.exit 0) (fun (b : Unit) => b) (fI [] []) (fun (b6 : Unit) => []) (fun (b6 : Unit) => []) hl1 kr kr ?_ ?_
  · intro s5 x h hy1; unfold F_top_TopOneOwner_l1 at h; refine TS_go 6 ?_; replace h := condO h; rcases h with ⟨hb8,h⟩ | ⟨hb8,h⟩
    · refine TS_know 40 (b := true) hb8 kr kr ?_; refine TS_T kr rfl ?_; refine TS_go 6 ?_; replace h := bindO h; obtain ⟨v9,hv9,h⟩ := h; refine TS_con [] [] (some (33,0)) (ok_made_Tape_Next s5.2.2.2.1 3 v9 hv9) kr kr kr ?_; refine TS_go 1 ?_; refine TS_cut (fI [1,5,6,7,8,9,10,44,45] [33,37,38,600000]) (.mk [oA 35199 b5 3,cA 51583 b5,.blk 1,cA 14719 b5] .normal ⟨[(1,.c (I6 (IntKind.wrap .i64 (1 + v2)))),(5,bx 33),(6,.c (.own 37)),(7,.c (.own 38)),(8,.c (.slc 20 600002 (List.length s5.1) (List.map S_Claim.cs s5.1))),(9,.c (I6 s5.2.1)),(10,.c (I6 s5.2.2.1)),(44,.c (I6 v9.1)),(45,bx 33)],[(33,.box [.slc 1 0 (List.length v9.2.l) (List.map (ecI .i64) v9.2.l),I6 v9.2.at_]),(37,.row 77 1 (List.length s5.2.2.2.2.1) (List.map (ecS 23 S_Registration.cs) s5.2.2.2.2.1)),(38,.row 5 1 (List.length s5.2.2.2.2.2) (List.map (ecI .u8) s5.2.2.2.2.2)),(600000,.spare 205 20 (List.length s5.1))]⟩) kr kr ?_; refine TS_bump 2000 kr ?_; refine TS_inl 7 Tryz.func23 rfl rfl kr (fun K58 => ?_); refine TS_go 7 ?_; replace h := bindO h; obtain ⟨v10,hv10,h⟩ := h; refine TS_con [] [] (some (2033,0)) (ok_made_Tape_Next v9.2 6 v10 hv10) kr kr kr ?_; refine TS_go 1 ?_; replace h := bindO h; obtain ⟨v11,hv11,h⟩ := h; refine TS_call [] (ok_ref04_Of 2306139568115548160 (IntKind.wrap .u64 v10.1) v11 hv11) kr kr ?_; refine TS_go 3 ?_; refine TS_inlR kr kr ?_; refine TS_go 1 ?_; replace h := bindO h; obtain ⟨v12,hv12,h⟩ := h; refine TS_con [] [] (some (2033,0)) (ok_made_Tape_Next v10.2 3 v12 hv12) kr kr kr ?_; refine TS_go 10 ?_; replace h := bindO h; obtain ⟨_e13,he13,h⟩ := h; refine TS_idxR 2038 1 0 (ecI .u8) .whole he13 kr kr ?_; replace h := bindO h; obtain ⟨e14,he14,h⟩ := h; refine TS_ldE 5 (0 + Int.toNat (IntKind.wrap .i64 (1 + v12.1))) 0 (ecI .u8) (v := .c (U8 e14)) he14 kr kr kr ?_; refine TS_go 1 ?_; replace h := bindO h; obtain ⟨_e15,he15,h⟩ := h; refine TS_idxR 2038 1 0 (ecI .u8) .whole he15 kr kr ?_; replace h := bindO h; obtain ⟨_e16,he16,h⟩ := h; refine TS_stE 2038 5 1 (List.length s5.2.2.2.2.2) (0 + Int.toNat (IntKind.wrap .i64 (1 + v12.1))) 0 (ecI .u8) (ds := [U8 (IntKind.wrap .u8 (e14 + 1))]) (IntKind.wrap .u8 (e14 + 1)) he16 kr kr kr kr ?_; refine TS_go 7 ?_; replace h := bindO h; obtain ⟨_e17,he17,h⟩ := h; refine TS_idxR 2038 1 0 (ecI .u8) .whole he17 kr kr ?_; replace h := bindO h; obtain ⟨e18,he18,h⟩ := h; refine TS_ldE 5 (0 + Int.toNat (IntKind.wrap .i64 (1 + v12.1))) 0 (ecI .u8) (v := .c (U8 e18)) he18 kr kr kr ?_; refine TS_go 7 ?_; refine TS_draw kr ?_; refine TD_go 2 ?_; replace h := bindO h; obtain ⟨_e19,he19,h⟩ := h; refine TD_idxR 2037 1 0 (ecS 23 S_Registration.cs) .whole he19 kr kr ?_; replace h := bindO h; obtain ⟨e20,he20,h⟩ := h; refine TD_ldE 77 (0 + Int.toNat v9.1) 0 (ecS 23 S_Registration.cs) (v := .c (.slc 23 0 (List.length e20) (List.map S_Registration.cs e20))) he20 kr kr kr ?_; refine TD_go 3 ?_; replace h := bindO h; obtain ⟨v21,hv21,h⟩ := h; refine TD_call [] (ok_top_device (IntKind.wrap .i64 (1 + v12.1)) v21 hv21) kr kr ?_; refine TD_go 1 ?_; replace h := bindO h; obtain ⟨v22,hv22,h⟩ := h; refine TD_conX (d := 75) (e := 900000) [] (okT_registration_Register e20 v11 (S_Owner.mk (IntKind.wrap .u64 (IntKind.wrap .i64 (1 + v12.1))) e18 0 (IntKind.wrap .u16 (IntKind.wrap .i64 (1 + v2)))) v21 s5.2.1 v22 hv22) kr kr ?_; refine TD_go 7 ?_; refine TD_end kr ?_; refine TS_go 6 ?_; replace h := condF h; obtain ⟨hb23,h⟩ := h; refine TS_know 80 (b := false) hb23 kr kr ?_; refine TS_F kr rfl ?_; refine TS_go 1 ?_; refine TS_cut (fI [1,5,6,7,8,9,10,12,11,14,15,16] [2033,2037,2038,602000,12,14,75]) (.mk [cA 1034623 b5,.blk 1,cA 14719 b5] .normal ⟨[(1,.c (I6 (IntKind.wrap .i64 (1 + v2)))),(5,bx 2033),(6,.c (.own 2037)),(7,.c (.own 2038)),(8,.c (.slc 20 602002 (List.length s5.1) (List.map S_Claim.cs s5.1))),(9,.c (I6 s5.2.1)),(10,.c (I6 s5.2.2.1)),(12,bx 12),(11,.c (I6 v9.1)),(14,bx 14),(15,.c (.slc 23 77 (List.length v22.1) (List.map S_Registration.cs v22.1))),(16,.c (U8 v22.2.1))],[(2033,.box [.slc 1 0 (List.length v12.2.l) (List.map (ecI .i64) v12.2.l),I6 v12.2.at_]),(2037,.row 77 1 (List.length s5.2.2.2.2.1) (List.map (ecS 23 S_Registration.cs) s5.2.2.2.2.1)),(2038,.row 5 1 (List.length (List.set s5.2.2.2.2.2 (0 + Int.toNat (IntKind.wrap .i64 (1 + v12.1))) (IntKind.wrap .u8 (e14 + 1)))) (List.map (ecI .u8) (List.set s5.2.2.2.2.2 (0 + Int.toNat (IntKind.wrap .i64 (1 + v12.1))) (IntKind.wrap .u8 (e14 + 1))))),(602000,.spare 205 20 (List.length s5.1)),(12,.box (getsL .u8 v11 0 16)),(14,.box [U6 (IntKind.wrap .u64 (IntKind.wrap .i64 (1 + v12.1))),U8 e18,U8 0,U1 (IntKind.wrap .u16 (IntKind.wrap .i64 (1 + v2)))]),(75,.spare 96 23 (List.length v22.1))]⟩) kr kr ?_; refine TS_joinB (fI [1,5,6,7,8,9,10,11,15] [2033,2037,2038,602000,75]) (fun (v24 : (List S_Claim) × (List S_Registration)) => [(1,.c (I6 (IntKind.wrap .i64 (1 + v2)))),(5,bx 2033),(6,.c (.own 2037)),(7,.c (.own 2038)),(8,.c (.slc 20 602002 (List.length v24.1) (List.map S_Claim.cs v24.1))),(9,.c (I6 s5.2.1)),(10,.c (I6 s5.2.2.1)),(11,.c (I6 v9.1)),(15,.c (.slc 23 77 (List.length v24.2) (List.map S_Registration.cs v24.2)))]) (fun (v24 : (List S_Claim) × (List S_Registration)) => [(2033,.box [.slc 1 0 (List.length v12.2.l) (List.map (ecI .i64) v12.2.l),I6 v12.2.at_]),(2037,.row 77 1 (List.length s5.2.2.2.2.1) (List.map (ecS 23 S_Registration.cs) s5.2.2.2.2.1)),(2038,.row 5 1 (List.length (List.set s5.2.2.2.2.2 (0 + Int.toNat (IntKind.wrap .i64 (1 + v12.1))) (IntKind.wrap .u8 (e14 + 1)))) (List.map (ecI .u8) (List.set s5.2.2.2.2.2 (0 + Int.toNat (IntKind.wrap .i64 (1 + v12.1))) (IntKind.wrap .u8 (e14 + 1))))),(602000,.spare 205 20 (List.length v24.1)),(75,.spare 96 23 (List.length v24.2))]) (F_top_TopOneOwner_j2 s5 v9 v12 e14) x ?_ ?_
      · clear h; intro v24 h; unfold F_top_TopOneOwner_j2 at h; refine TS_go 5 ?_; replace h := bindO h; obtain ⟨_e25,he25,h⟩ := h; refine TS_idxR 2037 1 0 (ecS 23 S_Registration.cs) .whole he25 kr kr ?_; replace h := bindO h; obtain ⟨_e26,he26,h⟩ := h; refine TS_stE 2037 77 1 (List.length s5.2.2.2.2.1) (0 + Int.toNat v9.1) 0 (ecS 23 S_Registration.cs) (ds := [.slc 23 0 (List.length v24.2) (List.map S_Registration.cs v24.2)]) v24.2 he26 kr kr kr kr ?_; refine TS_go 7 ?_; refine TS_cut (fI [1,5,6,7,8,9,10,24] [2033,2037,2038,602000]) (.mk [cA 23054719 b5,.blk 2,cA 8374655 b5,.blk 1,cA 14719 b5] .normal ⟨[(1,.c (I6 (IntKind.wrap .i64 (1 + v2)))),(5,bx 2033),(6,.c (.own 2037)),(7,.c (.own 2038)),(8,.c (.slc 20 602002 (List.length v24.1) (List.map S_Claim.cs v24.1))),(9,.c (I6 s5.2.1)),(10,.c (I6 s5.2.2.1)),(24,.c (I6 0))],[(2033,.box [.slc 1 0 (List.length v12.2.l) (List.map (ecI .i64) v12.2.l),I6 v12.2.at_]),(2037,.row 77 1 (List.length (List.set s5.2.2.2.2.1 (0 + Int.toNat v9.1) v24.2)) (List.map (ecS 23 S_Registration.cs) (List.set s5.2.2.2.2.1 (0 + Int.toNat v9.1) v24.2))),(2038,.row 5 1 (List.length (List.set s5.2.2.2.2.2 (0 + Int.toNat (IntKind.wrap .i64 (1 + v12.1))) (IntKind.wrap .u8 (e14 + 1)))) (List.map (ecI .u8) (List.set s5.2.2.2.2.2 (0 + Int.toNat (IntKind.wrap .i64 (1 + v12.1))) (IntKind.wrap .u8 (e14 + 1))))),(602000,.spare 205 20 (List.length v24.1))]⟩) kr kr ?_; replace h := bindO h; obtain ⟨y29,hl3,hK3⟩ := h; refine TS_loopB (F_top_TopOneOwner_l3 s5 v9 v24) (fI [1,5,6,7,8,9,10,24] [2033,2037,2038,602000]) (fun (s27 : Int) => [(1,.c (I6 (IntKind.wrap .i64 (1 + v2)))),(5,bx 2033),(6,.c (.own 2037)),(7,.c (.own 2038)),(8,.c (.slc 20 602002 (List.length v24.1) (List.map S_Claim.cs v24.1))),(9,.c (I6 s5.2.1)),(10,.c (I6 s5.2.2.1)),(24,.c (I6 s27))]) (fun (s27 : Int) => [(2033,.box [.slc 1 0 (List.length v12.2.l) (List.map (ecI .i64) v12.2.l),I6 v12.2.at_]),(2037,.row 77 1 (List.length (List.set s5.2.2.2.2.1 (0 + Int.toNat v9.1) v24.2)) (List.map (ecS 23 S_Registration.cs) (List.set s5.2.2.2.2.1 (0 + Int.toNat v9.1) v24.2))),(2038,.row 5 1 (List.length (List.set s5.2.2.2.2.2 (0 + Int.toNat (IntKind.wrap .i64 (1 + v12.1))) (IntKind.wrap .u8 (e14 + 1)))) (List.map (ecI .u8) (List.set s5.2.2.2.2.2 (0 + Int.toNat (IntKind.wrap .i64 (1 + v12.1))) (IntKind.wrap .u8 (e14 + 1))))),(602000,.spare 205 20 (List.length v24.1))]) 0 y29 (.exit 2) (fun (b : Unit) => b) (fI [1,5,6,7,8,9,10] [2033,2037,2038,602000]) (fun (b28 : Unit) => [(1,.c (I6 (IntKind.wrap .i64 (1 + v2)))),(5,bx 2033),(6,.c (.own 2037)),(7,.c (.own 2038)),(8,.c (.slc 20 602002 (List.length v24.1) (List.map S_Claim.cs v24.1))),(9,.c (I6 s5.2.1)),(10,.c (I6 s5.2.2.1))]) (fun (b28 : Unit) => [(2033,.box [.slc 1 0 (List.length v12.2.l) (List.map (ecI .i64) v12.2.l),I6 v12.2.at_]),(2037,.row 77 1 (List.length (List.set s5.2.2.2.2.1 (0 + Int.toNat v9.1) v24.2)) (List.map (ecS 23 S_Registration.cs) (List.set s5.2.2.2.2.1 (0 + Int.toNat v9.1) v24.2))),(2038,.row 5 1 (List.length (List.set s5.2.2.2.2.2 (0 + Int.toNat (IntKind.wrap .i64 (1 + v12.1))) (IntKind.wrap .u8 (e14 + 1)))) (List.map (ecI .u8) (List.set s5.2.2.2.2.2 (0 + Int.toNat (IntKind.wrap .i64 (1 + v12.1))) (IntKind.wrap .u8 (e14 + 1))))),(602000,.spare 205 20 (List.length v24.1))]) hl3 kr kr ?_ ?_
        · intro s27 x h hy3; unfold F_top_TopOneOwner_l3 at h; refine TS_go 6 ?_; replace h := condO h; rcases h with ⟨hb30,h⟩ | ⟨hb30,h⟩
          · refine TS_know 116 (b := true) hb30 kr kr ?_; refine TS_T kr rfl ?_; refine TS_go 6 ?_; refine TS_litNT 120 3 1 (ecI .i64) [] ([s27] : List Int) kr kr ?_; replace h := bindO h; obtain ⟨v31,hv31,h⟩ := h; refine TS_con [[2]] [(121,10)] none (ok_made_New ([s27] : List Int) v31 hv31) kr kr kr ?_; refine TS_cut (fI [1,5,6,7,8,9,10,24,121] [2033,2037,2038,602000,121]) (.mk [oA 576702847 b5 3,cA 845138303 b5,.blk 3,cA 241158527 b5] .normal ⟨[(1,.c (I6 (IntKind.wrap .i64 (1 + v2)))),(5,bx 2033),(6,.c (.own 2037)),(7,.c (.own 2038)),(8,.c (.slc 20 602002 (List.length v24.1) (List.map S_Claim.cs v24.1))),(9,.c (I6 s5.2.1)),(10,.c (I6 s5.2.2.1)),(24,.c (I6 s27)),(121,bx 121)],[(2033,.box [.slc 1 0 (List.length v12.2.l) (List.map (ecI .i64) v12.2.l),I6 v12.2.at_]),(2037,.row 77 1 (List.length (List.set s5.2.2.2.2.1 (0 + Int.toNat v9.1) v24.2)) (List.map (ecS 23 S_Registration.cs) (List.set s5.2.2.2.2.1 (0 + Int.toNat v9.1) v24.2))),(2038,.row 5 1 (List.length (List.set s5.2.2.2.2.2 (0 + Int.toNat (IntKind.wrap .i64 (1 + v12.1))) (IntKind.wrap .u8 (e14 + 1)))) (List.map (ecI .u8) (List.set s5.2.2.2.2.2 (0 + Int.toNat (IntKind.wrap .i64 (1 + v12.1))) (IntKind.wrap .u8 (e14 + 1))))),(602000,.spare 205 20 (List.length v24.1)),(121,.box [.slc 1 0 (List.length v31.l) (List.map (ecI .i64) v31.l),I6 v31.at_])]⟩) kr kr ?_; refine TS_bump 2000 kr ?_; refine TS_inl 7 Tryz.func23 rfl rfl kr (fun K50 => ?_); refine TS_go 7 ?_; replace h := bindO h; obtain ⟨v32,hv32,h⟩ := h; refine TS_con [] [] (some (2121,0)) (ok_made_Tape_Next v31 6 v32 hv32) kr kr kr ?_; refine TS_go 1 ?_; replace h := bindO h; obtain ⟨v33,hv33,h⟩ := h; refine TS_call [] (ok_ref04_Of 2306139568115548160 (IntKind.wrap .u64 v32.1) v33 hv33) kr kr ?_; refine TS_go 3 ?_; refine TS_inlR kr kr ?_; refine TS_go 13 ?_; refine TS_cut (fI [1,5,6,7,8,9,10,24,25,26,27] [4033,4037,4038,604000,25]) (.mk [cA 11582556543 b5,.blk 4,cA 4066363775 b5,.blk 3,cA 241158527 b5] .normal ⟨[(1,.c (I6 (IntKind.wrap .i64 (1 + v2)))),(5,bx 4033),(6,.c (.own 4037)),(7,.c (.own 4038)),(8,.c (.slc 20 604002 (List.length v24.1) (List.map S_Claim.cs v24.1))),(9,.c (I6 s5.2.1)),(10,.c (I6 s5.2.2.1)),(24,.c (I6 s27)),(25,bx 25),(26,.c (U6 0)),(27,.c (I6 0))],[(4033,.box [.slc 1 0 (List.length v12.2.l) (List.map (ecI .i64) v12.2.l),I6 v12.2.at_]),(4037,.row 77 1 (List.length (List.set s5.2.2.2.2.1 (0 + Int.toNat v9.1) v24.2)) (List.map (ecS 23 S_Registration.cs) (List.set s5.2.2.2.2.1 (0 + Int.toNat v9.1) v24.2))),(4038,.row 5 1 (List.length (List.set s5.2.2.2.2.2 (0 + Int.toNat (IntKind.wrap .i64 (1 + v12.1))) (IntKind.wrap .u8 (e14 + 1)))) (List.map (ecI .u8) (List.set s5.2.2.2.2.2 (0 + Int.toNat (IntKind.wrap .i64 (1 + v12.1))) (IntKind.wrap .u8 (e14 + 1))))),(604000,.spare 205 20 (List.length v24.1)),(25,.box (getsL .u8 v33 0 16))]⟩) kr kr ?_; replace h := bindO h; obtain ⟨y36,hl4,hK4⟩ := h; refine TS_loopB (F_top_TopOneOwner_l4 s5 v9 v24 v33) (fI [1,5,6,7,8,9,10,24,25,26,27] [4033,4037,4038,604000,25]) (fun (s34 : Int × Int) => [(1,.c (I6 (IntKind.wrap .i64 (1 + v2)))),(5,bx 4033),(6,.c (.own 4037)),(7,.c (.own 4038)),(8,.c (.slc 20 604002 (List.length v24.1) (List.map S_Claim.cs v24.1))),(9,.c (I6 s5.2.1)),(10,.c (I6 s5.2.2.1)),(24,.c (I6 s27)),(25,bx 25),(26,.c (U6 s34.1)),(27,.c (I6 s34.2))]) (fun (s34 : Int × Int) => [(4033,.box [.slc 1 0 (List.length v12.2.l) (List.map (ecI .i64) v12.2.l),I6 v12.2.at_]),(4037,.row 77 1 (List.length (List.set s5.2.2.2.2.1 (0 + Int.toNat v9.1) v24.2)) (List.map (ecS 23 S_Registration.cs) (List.set s5.2.2.2.2.1 (0 + Int.toNat v9.1) v24.2))),(4038,.row 5 1 (List.length (List.set s5.2.2.2.2.2 (0 + Int.toNat (IntKind.wrap .i64 (1 + v12.1))) (IntKind.wrap .u8 (e14 + 1)))) (List.map (ecI .u8) (List.set s5.2.2.2.2.2 (0 + Int.toNat (IntKind.wrap .i64 (1 + v12.1))) (IntKind.wrap .u8 (e14 + 1))))),(25,.box (getsL .u8 v33 0 16)),(604000,.spare 205 20 (List.length v24.1))]) (0,0) y36 (.exit 4) (fun (b : Int) => b) (fI [1,5,6,7,8,9,10,24,25,26] [4033,4037,4038,604000,25]) (fun (b35 : Int) => [(1,.c (I6 (IntKind.wrap .i64 (1 + v2)))),(5,bx 4033),(6,.c (.own 4037)),(7,.c (.own 4038)),(8,.c (.slc 20 604002 (List.length v24.1) (List.map S_Claim.cs v24.1))),(9,.c (I6 s5.2.1)),(10,.c (I6 s5.2.2.1)),(24,.c (I6 s27)),(25,bx 25),(26,.c (U6 b35))]) (fun (b35 : Int) => [(4033,.box [.slc 1 0 (List.length v12.2.l) (List.map (ecI .i64) v12.2.l),I6 v12.2.at_]),(4037,.row 77 1 (List.length (List.set s5.2.2.2.2.1 (0 + Int.toNat v9.1) v24.2)) (List.map (ecS 23 S_Registration.cs) (List.set s5.2.2.2.2.1 (0 + Int.toNat v9.1) v24.2))),(4038,.row 5 1 (List.length (List.set s5.2.2.2.2.2 (0 + Int.toNat (IntKind.wrap .i64 (1 + v12.1))) (IntKind.wrap .u8 (e14 + 1)))) (List.map (ecI .u8) (List.set s5.2.2.2.2.2 (0 + Int.toNat (IntKind.wrap .i64 (1 + v12.1))) (IntKind.wrap .u8 (e14 + 1))))),(25,.box (getsL .u8 v33 0 16)),(604000,.spare 205 20 (List.length v24.1))]) hl4 kr kr ?_ ?_
            · intro s34 x h hy4; unfold F_top_TopOneOwner_l4 at h; refine TS_go 6 ?_; replace h := condO h; rcases h with ⟨hb37,h⟩ | ⟨hb37,h⟩
              · refine TS_know 124 (b := true) hb37 kr kr ?_; refine TS_T kr rfl ?_; refine TS_go 1 ?_; refine TS_cut (fI [1,5,6,7,8,9,10,24,25,26,27] [4033,4037,4038,604000,25]) (.mk [cA 54532229503 b5] .normal ⟨[(1,.c (I6 (IntKind.wrap .i64 (1 + v2)))),(5,bx 4033),(6,.c (.own 4037)),(7,.c (.own 4038)),(8,.c (.slc 20 604002 (List.length v24.1) (List.map S_Claim.cs v24.1))),(9,.c (I6 s5.2.1)),(10,.c (I6 s5.2.2.1)),(24,.c (I6 s27)),(25,bx 25),(26,.c (U6 s34.1)),(27,.c (I6 s34.2))],[(4033,.box [.slc 1 0 (List.length v12.2.l) (List.map (ecI .i64) v12.2.l),I6 v12.2.at_]),(4037,.row 77 1 (List.length (List.set s5.2.2.2.2.1 (0 + Int.toNat v9.1) v24.2)) (List.map (ecS 23 S_Registration.cs) (List.set s5.2.2.2.2.1 (0 + Int.toNat v9.1) v24.2))),(4038,.row 5 1 (List.length (List.set s5.2.2.2.2.2 (0 + Int.toNat (IntKind.wrap .i64 (1 + v12.1))) (IntKind.wrap .u8 (e14 + 1)))) (List.map (ecI .u8) (List.set s5.2.2.2.2.2 (0 + Int.toNat (IntKind.wrap .i64 (1 + v12.1))) (IntKind.wrap .u8 (e14 + 1))))),(604000,.spare 205 20 (List.length v24.1)),(25,.box (getsL .u8 v33 0 16))]⟩) kr kr ?_; refine TS_joinB (fI [1,5,6,7,8,9,10,24,25,26,27] [4033,4037,4038,604000,25]) (fun (v38 : Int) => [(1,.c (I6 (IntKind.wrap .i64 (1 + v2)))),(5,bx 4033),(6,.c (.own 4037)),(7,.c (.own 4038)),(8,.c (.slc 20 604002 (List.length v24.1) (List.map S_Claim.cs v24.1))),(9,.c (I6 s5.2.1)),(10,.c (I6 s5.2.2.1)),(24,.c (I6 s27)),(25,bx 25),(26,.c (U6 v38)),(27,.c (I6 s34.2))]) (fun (v38 : Int) => [(4033,.box [.slc 1 0 (List.length v12.2.l) (List.map (ecI .i64) v12.2.l),I6 v12.2.at_]),(4037,.row 77 1 (List.length (List.set s5.2.2.2.2.1 (0 + Int.toNat v9.1) v24.2)) (List.map (ecS 23 S_Registration.cs) (List.set s5.2.2.2.2.1 (0 + Int.toNat v9.1) v24.2))),(4038,.row 5 1 (List.length (List.set s5.2.2.2.2.2 (0 + Int.toNat (IntKind.wrap .i64 (1 + v12.1))) (IntKind.wrap .u8 (e14 + 1)))) (List.map (ecI .u8) (List.set s5.2.2.2.2.2 (0 + Int.toNat (IntKind.wrap .i64 (1 + v12.1))) (IntKind.wrap .u8 (e14 + 1))))),(25,.box (getsL .u8 v33 0 16)),(604000,.spare 205 20 (List.length v24.1))]) (F_top_TopOneOwner_j5 s34) x ?_ ?_
                · clear h; intro v38 h; unfold F_top_TopOneOwner_j5 at h; refine TS_go 5 ?_; have ret := Option.some.inj h; subst ret; exact TS_againB _ (fI [1,5,6,7,8,9,10,24,25,26,27] [4033,4037,4038,604000,25]) rfl kr kr
                refine TS_go 2 ?_; refine TS_draw kr ?_; refine TD_go 2 ?_; replace h := bindO h; obtain ⟨_e39,he39,h⟩ := h; refine TD_idxR 4037 1 0 (ecS 23 S_Registration.cs) .whole he39 kr kr ?_; replace h := bindO h; obtain ⟨e40,he40,h⟩ := h; refine TD_ldE 77 (0 + Int.toNat s34.2) 0 (ecS 23 S_Registration.cs) (v := .c (.slc 23 0 (List.length e40) (List.map S_Registration.cs e40))) he40 kr kr kr ?_; refine TD_go 2 ?_; replace h := bindO h; obtain ⟨v41,hv41,h⟩ := h; refine TD_call [] (ok_registration_Lookup e40 v33 s5.2.1 v41 hv41) kr kr ?_; refine TD_go 6 ?_; refine TD_end kr ?_; refine TS_go 5 ?_; replace h := condO h; rcases h with ⟨hb42,h⟩ | ⟨hb42,h⟩
                · refine TS_know 136 (b := true) hb42 kr kr ?_; refine TS_know 29 (b := true) hb42 kr kr ?_; refine TS_know 137 (b := true) hb42 kr kr ?_; refine TS_know 138 (b := true) hb42 kr kr ?_; refine TS_go 4 ?_; replace h := condO h; rcases h with ⟨hb43,h⟩ | ⟨hb43,h⟩
                  · refine TS_know 140 (b := true) hb43 kr kr ?_; refine TS_know 141 (b := true) hb43 kr kr ?_; refine TS_know 142 (b := true) hb43 kr kr ?_; refine TS_go 6 ?_; replace h := condF h; obtain ⟨hb44,h⟩ := h; refine TS_know 146 (b := false) hb44 kr kr ?_; refine TS_know 147 (b := false) hb44 kr kr ?_; refine TS_F kr rfl ?_; refine TS_go 5 ?_; refine TS_T kr rfl ?_; refine TS_go 6 ?_; exact TS_meet v41.1.EUI (fI [1,5,6,7,8,9,10,24,25,26,27] [4033,4037,4038,604000,25]) h kr kr
                  refine TS_know 140 (b := false) hb43 kr kr ?_; refine TS_know 141 (b := false) hb43 kr kr ?_; refine TS_know 142 (b := false) hb43 kr kr ?_; refine TS_go 6 ?_; refine TS_F kr rfl ?_; refine TS_go 5 ?_; refine TS_T kr rfl ?_; refine TS_go 6 ?_; exact TS_meet v41.1.EUI (fI [1,5,6,7,8,9,10,24,25,26,27] [4033,4037,4038,604000,25]) h kr kr
                refine TS_know 136 (b := false) hb42 kr kr ?_; refine TS_know 29 (b := false) hb42 kr kr ?_; refine TS_know 137 (b := false) hb42 kr kr ?_; refine TS_know 138 (b := false) hb42 kr kr ?_; refine TS_go 10 ?_; refine TS_F kr rfl ?_; refine TS_go 5 ?_; refine TS_F kr rfl ?_; refine TS_go 2 ?_; exact TS_meet s34.1 (fI [1,5,6,7,8,9,10,24,25,26,27] [4033,4037,4038,604000,25]) h kr kr
              refine TS_know 124 (b := false) hb37 kr kr ?_; refine TS_F kr rfl ?_; refine TS_go 2 ?_; have ret := Option.some.inj h; subst ret; exact TS_brkB s34.1 (fI [1,5,6,7,8,9,10,24,25,26] [4033,4037,4038,604000,25]) rfl kr kr kr
            intro b35 hb; subst y36; have h := hK4; refine TS_go 6 ?_; replace h := bindO h; obtain ⟨v46,hv46,h⟩ := h; refine TS_call [[21]] (ok_detection_Owner v24.1 s5.2.1 v33 v46 hv46) kr kr ?_; refine TS_go 11 ?_; replace h := condO h; rcases h with ⟨hb47,h⟩ | ⟨hb47,h⟩
            · refine TS_know 159 (b := true) hb47 kr kr ?_; refine TS_know 160 (b := true) hb47 kr kr ?_; refine TS_go 3 ?_; replace h := condT h; obtain ⟨hb48,h⟩ := h; refine TS_know 157 (b := true) hb48 kr kr ?_; refine TS_know 31 (b := true) hb48 kr kr ?_; refine TS_know 161 (b := true) hb48 kr kr ?_; refine TS_know 162 (b := false) (notF hb48) kr kr ?_; refine TS_know 163 (b := false) (notF hb48) kr kr ?_; refine TS_go 6 ?_; replace h := condF h; obtain ⟨hb49,h⟩ := h; refine TS_know 166 (b := false) hb49 kr kr ?_; refine TS_know 167 (b := false) hb49 kr kr ?_; refine TS_know 168 (b := false) hb49 kr kr ?_; refine TS_F kr rfl ?_; refine TS_go 7 ?_; have ret := Option.some.inj h; subst ret; exact TS_againB _ (fJ [1,5,6,7,8,9,10,24] [(4033,2033),(4037,2037),(4038,2038),(604000,602000)]) rfl kr kr
            refine TS_know 159 (b := false) hb47 kr kr ?_; refine TS_know 160 (b := false) hb47 kr kr ?_; refine TS_go 9 ?_; refine TS_F kr rfl ?_; refine TS_go 7 ?_; have ret := Option.some.inj h; subst ret; exact TS_againB _ (fJ [1,5,6,7,8,9,10,24] [(4033,2033),(4037,2037),(4038,2038),(604000,602000)]) rfl kr kr
          refine TS_know 116 (b := false) hb30 kr kr ?_; refine TS_F kr rfl ?_; refine TS_go 2 ?_; have ret := Option.some.inj h; subst ret; exact TS_brkB () (fI [1,5,6,7,8,9,10] [2033,2037,2038,602000]) rfl kr kr kr
        intro b28 hb; subst y29; have h := hK3; refine TS_go 4 ?_; replace h := bindO h; obtain ⟨v52,hv52,h⟩ := h; refine TS_con [] [] (some (2033,0)) (ok_made_Tape_Next v12.2 12 v52 hv52) kr kr kr ?_; refine TS_go 9 ?_; have ret := Option.some.inj h; subst ret; exact TS_againB _ (fJ [1,5,6,7,8,9,10] [(2033,33),(2037,37),(2038,38),(602000,600000)]) rfl kr kr
      refine TS_go 5 ?_; replace h := condO h; rcases h with ⟨hb53,h⟩ | ⟨hb53,h⟩
      · refine TS_know 82 (b := true) hb53 kr kr ?_; refine TS_T kr rfl ?_; refine TS_go 6 ?_; replace h := bindO h; obtain ⟨v54,hv54,h⟩ := h; refine TS_con [[21]] [(88,900000)] none (okT_top_ask s5.1 s5.2.1 v11 (S_Owner.mk (IntKind.wrap .u64 (IntKind.wrap .i64 (1 + v12.1))) e18 0 (IntKind.wrap .u16 (IntKind.wrap .i64 (1 + v2)))) v54 hv54) kr kr kr ?_; refine TS_go 16 ?_; replace h := bindO h; obtain ⟨v55,hv55,h⟩ := h; refine TS_con [[24]] [(99,900000)] none (okT_registration_Confirm v22.1 v11 (IntKind.wrap .u64 (IntKind.wrap .i64 (1 + v12.1))) v54.2.1 s5.2.1 v55 hv55) kr kr kr ?_; refine TS_go 14 ?_; replace h := condT h; obtain ⟨hb56,h⟩ := h; refine TS_know 91 (b := true) hb56 kr kr ?_; refine TS_know 20 (b := true) hb56 kr kr ?_; refine TS_know 103 (b := true) hb56 kr kr ?_; refine TS_know 104 (b := false) (notF hb56) kr kr ?_; refine TS_know 105 (b := false) (notF hb56) kr kr ?_; refine TS_go 4 ?_; replace h := condF h; obtain ⟨hb57,h⟩ := h; refine TS_know 107 (b := false) hb57 kr kr ?_; refine TS_know 108 (b := false) hb57 kr kr ?_; refine TS_F kr rfl ?_; refine TS_go 7 ?_; exact TS_meet (v54.1,v55.1) (fJ [1,5,6,7,8,9,10,11,15] [(2033,2033),(2037,2037),(2038,2038),(88,602000),(99,75)]) h kr kr
      refine TS_know 82 (b := false) hb53 kr kr ?_; refine TS_F kr rfl ?_; refine TS_go 1 ?_; exact TS_meet (s5.1,v22.1) (fI [1,5,6,7,8,9,10,11,15] [2033,2037,2038,602000,75]) h kr kr
    refine TS_know 40 (b := false) hb8 kr kr ?_; refine TS_F kr rfl ?_; refine TS_go 2 ?_; have ret := Option.some.inj h; subst ret; exact TS_brkB () (fI [] []) rfl kr kr kr
  intro b6 hb; subst y7; have h := hK1; refine TS_go 3 ?_; replace h := bindO h; obtain ⟨v60,hv60,h⟩ := h; refine TS_call [] (ok_top_sane  v60 hv60) kr kr ?_; refine TS_go 3 ?_; have ret := Option.some.inj h; subst ret; exact TS_ret kr kr kr
end
section
open Go.RowKit

theorem beqF {α : Type} [BEq α] [LawfulBEq α] {a b : α} (h : ¬ a = b) : (a == b) = false := by simpa using h
theorem decT {p : Prop} [Decidable p] (h : p) : decide p = true := by simpa using h
theorem decF {p : Prop} [Decidable p] (h : ¬ p) : decide p = false := by simpa using h
theorem wi {x : Int} (h0 : -9223372036854775808 ≤ x) (h1 : x ≤ 9223372036854775807) : IntKind.wrap .i64 x = x := by
  simp [IntKind.wrap, IntKind.bits, IntKind.signed]
  omega
theorem wu {x : Int} (h0 : 0 ≤ x) (h1 : x < 18446744073709551616) : IntKind.wrap .u64 x = x := by
  simp [IntKind.wrap, IntKind.bits, IntKind.signed]
  omega
theorem wu16 {x : Int} (h0 : 0 ≤ x) (h1 : x < 65536) : IntKind.wrap .u16 x = x := by
  simp [IntKind.wrap, IntKind.bits, IntKind.signed]
  omega
theorem wu8 {x : Int} (h0 : 0 ≤ x) (h1 : x < 256) : IntKind.wrap .u8 x = x := by
  simp [IntKind.wrap, IntKind.bits, IntKind.signed]
  omega
theorem wk (k : Nat) (h : k < 9223372036854775807) : IntKind.wrap .i64 ((k : Int) + 1) = ((k + 1 : Nat) : Int) := by
  rw [wi (by omega) (by omega)]; rfl
theorem wrap8 (x : Int) : IntKind.wrap .u8 x = x % 256 := by
  simp [IntKind.wrap, IntKind.bits, IntKind.signed]
theorem wrap64 (x : Int) : IntKind.wrap .u64 x = x % 18446744073709551616 := by
  simp [IntKind.wrap, IntKind.bits, IntKind.signed]
section
variable {σ ρ : Type} {step : σ → Option (σ ⊕ ρ)}
theorem loop_done {s : σ} {r : ρ} (h : step s = some (.inr r)) : loopO step s = some r := by rw [loopO_eq, h]
theorem loop_next {s s' : σ} (h : step s = some (.inl s')) : loopO step s = loopO step s' := by rw [loopO_eq, h]
/-- a loop that keeps I and ends with Q -/
theorem loop_inv (I : σ → Prop) (Q : ρ → Prop) (m : σ → Nat) (hs : ∀ s, I s → (∃ s', step s = some (.inl s') ∧ I s' ∧ m s' < m s) ∨ (∃ r, step s = some (.inr r) ∧ Q r)) (s : σ) (h : I s) : ∃ r, loopO step s = some r ∧ Q r := by
  induction hn : m s using Nat.strongRecOn generalizing s with
  | ind n ih =>
    subst hn
    rcases hs s h with ⟨s', h1, h2, h3⟩ | ⟨r, h1, h2⟩
    · obtain ⟨r, hr, hq⟩ := ih (m s') h3 s' h2 rfl
      exact ⟨r, by rw [loop_next h1]; exact hr, hq⟩
    · exact ⟨r, loop_done h1, h2⟩
/-- a loop whose states are known -/
theorem loop_to (S : Nat → σ) (n : Nat) (h : ∀ k, k < n → step (S k) = some (.inl (S (k + 1)))) : loopO step (S 0) = loopO step (S n) := by
  induction n with
  | zero => rfl
  | succ n ih => rw [ih (fun k hk => h k (by omega)), loop_next (h n (by omega))]
theorem loop_run (S : Nat → σ) (n : Nat) {r : ρ} (h : ∀ k, k < n → step (S k) = some (.inl (S (k + 1)))) (he : step (S n) = some (.inr r)) : loopO step (S 0) = some r := by
  rw [loop_to S n h, loop_done he]
/-- a loop that is left at the first place where p fails -/
theorem loop_first (S : Nat → σ) (n : Nat) (p : Nat → Bool) (out : Nat → ρ) {re : ρ} (h1 : ∀ k, k < n → p k = true → step (S k) = some (.inl (S (k + 1)))) (h2 : ∀ k, k < n → p k = false → step (S k) = some (.inr (out k))) (h3 : step (S n) = some (.inr re)) :
    (∃ k, k < n ∧ p k = false ∧ (∀ j, j < k → p j = true) ∧ loopO step (S 0) = some (out k)) ∨ ((∀ k, k < n → p k = true) ∧ loopO step (S 0) = some re) := by
  by_cases hx : ∀ k, k < n → p k = true
  · exact .inr ⟨hx, loop_run S n (fun k hk => h1 k hk (hx k hk)) h3⟩
  · have hx' : ∃ k, k < n ∧ p k = false := by
      apply Classical.byContradiction
      intro hno
      apply hx
      intro k hk
      cases hpk : p k with
      | true => rfl
      | false => exact absurd ⟨k, hk, hpk⟩ hno
    have : ∃ k, (k < n ∧ p k = false) ∧ ∀ j, j < k → ¬ (j < n ∧ p j = false) := by
      obtain ⟨k, hk⟩ := hx'
      induction k using Nat.strongRecOn with
      | ind k ih =>
        by_cases hj : ∃ j, j < k ∧ j < n ∧ p j = false
        · obtain ⟨j, hj1, hj2⟩ := hj; exact ih j hj1 hj2
        · exact ⟨k, hk, fun j hjk hh => hj ⟨j, hjk, hh⟩⟩
    obtain ⟨k, ⟨hk, hpk⟩, hmin⟩ := this
    have hall : ∀ j, j < k → p j = true := by
      intro j hj
      cases hpj : p j with
      | true => rfl
      | false => exact absurd ⟨by omega, hpj⟩ (hmin j hj)
    refine .inl ⟨k, hk, hpk, hall, ?_⟩
    rw [loop_to S k (fun j hj => h1 j (by omega) (hall j hj)), loop_done (h2 k hk hpk)]
end
theorem idx_nat {α : Type} (l : List α) (k : Nat) : idx l (k : Int) = l[k]? := by simp [idx]
theorem idx_lt {α : Type} {l : List α} {k : Nat} (h : k < l.length) : idx l (k : Int) = some l[k] := by rw [idx_nat]; exact List.getElem?_eq_getElem h
theorem idx_int {α : Type} {l : List α} {i : Int} (h0 : 0 ≤ i) (h1 : i < l.length) : idx l i = some (l[i.toNat]'(by omega)) := by
  unfold idx; rw [if_pos h0]; exact List.getElem?_eq_getElem _
theorem appO_some {α : Type} {by_ : Nat} {l1 l2 : List α} (h : (l1.length + l2.length) * by_ ≤ 140737488355328) (h' : l1.length + l2.length ≤ 140737488355328) : appO by_ l1 l2 = some (l1 ++ l2) := by
  unfold appO; rw [if_pos ⟨h, h'⟩]
theorem subO_some {α : Type} {l : List α} {a b : Int} (h0 : 0 ≤ a) (h1 : a ≤ b) (h2 : b ≤ l.length) : subO l a b = some ((l.take b.toNat).drop a.toNat) := by
  unfold subO; rw [if_pos ⟨h0, h1, h2⟩]

theorem arrL_id {n : Nat} {l : List Int} (h : l.length = n) : arrL n l = l := by
  apply List.ext_getElem?
  intro i
  unfold arrL
  rcases Nat.lt_or_ge i n with hi | hi
  · rw [List.getElem?_map, List.getElem?_range hi, List.getElem?_eq_getElem (by omega)]
    simp [List.getD_eq_getElem?_getD, List.getElem?_eq_getElem (show i < l.length by omega)]
  · rw [List.getElem?_eq_none (by simpa using hi), List.getElem?_eq_none (by omega)]
theorem getD_get {l : List Int} {i : Nat} (h : i < l.length) : l.getD i 0 = l[i] := by simp [List.getD_eq_getElem?_getD, List.getElem?_eq_getElem h]
theorem getD_mem {p : Int → Prop} {l : List Int} (h : ∀ z ∈ l, p z) (h0 : p 0) (i : Nat) : p (l.getD i 0) := by
  rcases Nat.lt_or_ge i l.length with hi | hi
  · rw [getD_get hi]; exact h _ (List.getElem_mem hi)
  · rw [List.getD_eq_getElem?_getD, List.getElem?_eq_none hi]; exact h0
end
section
open Go.ChangeShapes Go.WideShapes Go.ChangeAt Go.RowKit

theorem own : ownKnob Tryz.prog.godebug = none := by kernel_rfl
theorem laidOut : laidOutB Tryz.prog = true := by kernel_rfl

/-- the arguments read as before -/
theorem trodAll_below {H : Type} {enc : TypeId × Value → H} {P : Program} (hl : laidOutB P = true) {W W' : World} (hb : Below W.heap.size W W') :
    ∀ {ts : List TypeId} {vs : List Value} {ds : List (DataW H)} {ps : List MemPlace}, ts.all (fun t => P.readableRec t && decide (t < P.types.size)) = true →
      DataW.TrodAll enc P W 0 (fun _ => true) true ts vs ds ps → DataW.TrodAll enc P W' 0 (fun b => decide (b < W.heap.size)) true ts vs ds ps
  | [], _, _, _, _, h => by
    obtain ⟨rfl, rfl, rfl⟩ := trodAll_nil h
    exact trodAll_mk0
  | t :: ts, vs, ds, ps, hr, h => by
    obtain ⟨v, vs', d, ds', p, q, rfl, rfl, rfl, h1, h2⟩ := trodAll_cons h
    simp only [List.all_cons, Bool.and_eq_true, decide_eq_true_eq] at hr
    have lt : ∀ x ∈ p, x.block < W.heap.size := by obtain ⟨m, hm⟩ := h1; exact DataW.trod_lt m _ _ _ hm
    exact trodAll_cons_mk (Below.trod hl hr.1.1 hr.1.2 h1 hb lt) (trodAll_below hl hb hr.2 h2)

/-- the reader that sees all -/
def rdAll (w : World) : Rd := fun b o => w.cell? ⟨b, o, none⟩
def env0 : Env := ⟨fun _ => (0, 0), fun _ => (.slice none 0 0, .slice none 0 0)⟩
theorem vrel_lit (rd : Rd) (g : Env) (v : Value) : VRel rd g v (.c (.lit v)) := IRel.lit v
def ArgsOk (rd : Rd) (g : Env) : List Value → List SV → Prop
  | [], [] => True
  | u :: us, x :: xs => VRel rd g u x ∧ ArgsOk rd g us xs
  | _, _ => False
theorem ArgsOk.get {rd : Rd} {g : Env} : ∀ {us : List Value} {xs : List SV}, ArgsOk rd g us xs → us.length = xs.length ∧ ∀ (i : Nat) (x : SV), xs[i]? = some x → ∃ u, us[i]? = some u ∧ VRel rd g u x
  | [], [], _ => ⟨rfl, fun i x h => by simp at h⟩
  | u :: us, y :: xs, h => by
    obtain ⟨h1, h2⟩ := h
    obtain ⟨k1, k2⟩ := h2.get
    refine ⟨by simp [k1], fun i x hx => ?_⟩
    rcases i with _ | i
    · cases hx; exact ⟨u, rfl, h1⟩
    · exact k2 i x (by simpa using hx)
/-- a law that is true -/
theorem con_true {P : Program} {f : FuncId} {args : List SV} (h : Con P f args [] (.c (.lit (.bool true))) []) {W : World} {us : List Value} (ha : ArgsOk (rdAll W) env0 us args) :
    Calls P f us.toArray W fun e w' => e = .returned (.bool true) ∧ Ext W w' := by
  obtain ⟨h1, h2⟩ := ha.get
  have nol : ∀ d (x : Res), look ([] : Hp) d = some x → False := fun d x hx => by simp [look] at hx
  have noin : ∀ g b o, ¬ InFoot g ([] : Hp) b o := by rintro g b o ⟨d, r, hd, _⟩; exact nol _ _ hd
  refine (h (rdAll W) env0 W us.toArray (fun b o v hv => hv) (by simpa using h1) (fun i x hx => by simpa using h2 i x hx) (fun d x hx => (nol d x hx).elim) (fun d d' r r' b o _ hd => (nol _ _ hd).elim) (fun b o hx => (noin _ _ _ hx).elim)).mono ?_
  rintro e w' ⟨u, g', rfl, hk, _, _, _, _, hu⟩
  have hE : Ext W w' := (hk.weak (fun b o x => noin _ _ _ x)).ext
  refine ⟨?_, hE⟩
  have := (hu (rdAll w') (by
    intro b o v hv
    obtain ⟨g, rfl⟩ := hE
    have hb := World.block_lt_of_cell? _ _ hv
    unfold rdAll
    rw [cell_plus _ _ _ _ _ hb]
    exact hv) (fun b o u _ _ hc => hc)).1
  cases this
  rfl
def wfI (k : IntKind) (n : Int) : Prop := (Lit.int k n).wf = true
def Seg (rd : Rd) (cs : List Value) (off n : Nat) (l : List SC) : Prop := l.length = n ∧ ∀ (j : Nat) (y : SC), l[j]? = some y → ∃ u, cs[off + j]? = some u ∧ IRel rd u y
theorem Seg.append {rd : Rd} {cs : List Value} {off n m : Nat} {l l' : List SC} (h : Seg rd cs off n l) (k : Seg rd cs (off + n) m l') : Seg rd cs off (n + m) (l ++ l') := by
  refine ⟨by rw [List.length_append, h.1, k.1], fun j y hy => ?_⟩
  by_cases hj : j < l.length
  · rw [List.getElem?_append_left hj] at hy
    exact h.2 j y hy
  · rw [List.getElem?_append_right (by omega)] at hy
    obtain ⟨u, h1, h2⟩ := k.2 _ y hy
    have h3 := h.1
    refine ⟨u, ?_, h2⟩
    rw [← h1]
    congr 1
    omega

/-- a value of the type t is the shadow of an α -/
def Opens (P : Program) (t : TypeId) {α : Type} (f : α → List SC) (wf : α → Prop) : Prop :=
  ∀ (H : Type) (enc : TypeId × Value → H) (W : World) (fuel : Nat) (cs : List Value) (x : DataW H × List MemPlace), DataW.trod enc P W 0 (fun _ => true) true fuel t cs = some x → ∃ a : α, Seg (rdAll W) cs 0 cs.length (f a) ∧ wf a

theorem opens_int {P : Program} {t : TypeId} {k : IntKind} (ht : P.underlying t = some (.int k)) : Opens P t (ecI k) (wfI k) := by
  intro H enc W fuel cs x h
  obtain ⟨n, rfl, _, hw⟩ := DataW.trod_int ht h
  refine ⟨n, ⟨rfl, fun j y hy => ?_⟩, hw⟩
  rcases j with _ | j
  · simp only [ecI, List.getElem?_cons_zero, Option.some.injEq] at hy
    subst hy
    exact ⟨_, rfl, .lit _⟩
  · simp [ecI] at hy
end
section
open Go.RowKit

def okB (l : List Int) : Prop := ∀ z ∈ l, 0 ≤ z ∧ z ≤ 255
theorem okB.append {a b : List Int} (ha : okB a) (hb : okB b) : okB (a ++ b) := fun z h => (List.mem_append.1 h).elim (ha z) (hb z)
theorem okB.get {l : List Int} (h : okB l) {i : Nat} (hi : i < l.length) : 0 ≤ l[i] ∧ l[i] ≤ 255 := h _ (List.getElem_mem hi)
theorem okB.take {l : List Int} (h : okB l) (n : Nat) : okB (l.take n) := fun z hz => h z (List.mem_of_mem_take hz)
theorem okB.drop {l : List Int} (h : okB l) (n : Nat) : okB (l.drop n) := fun z hz => h z (List.mem_of_mem_drop hz)
theorem okB.set {l : List Int} (h : okB l) (n : Nat) {v : Int} (hv : 0 ≤ v ∧ v ≤ 255) : okB (l.set n v) := fun z hz => (List.mem_or_eq_of_mem_set hz).elim (h z) (fun e => e ▸ hv)
theorem okB.getD {l : List Int} (h : okB l) (n : Nat) : 0 ≤ l.getD n 0 ∧ l.getD n 0 ≤ 255 := getD_mem (p := fun z => 0 ≤ z ∧ z ≤ 255) h (by omega) n
theorem okB_one {v : Int} (h : 0 ≤ v ∧ v ≤ 255) : okB [v] := fun z hz => by rw [List.mem_singleton.1 hz]; exact h
theorem okB_cons {v : Int} {l : List Int} (h : 0 ≤ v ∧ v ≤ 255) (k : okB l) : okB (v :: l) := fun z hz => (List.mem_cons.1 hz).elim (fun e => e ▸ h) (k z)
theorem u8_inj {a b : Int} (ha : 0 ≤ a ∧ a ≤ 255) (hb : 0 ≤ b ∧ b ≤ 255) (h : a.toNat.toUInt8 = b.toNat.toUInt8) : a = b := by
  have e1 : (a.toNat.toUInt8).toNat = a.toNat := by simp [Nat.toUInt8]; omega
  have e2 : (b.toNat.toUInt8).toNat = b.toNat := by simp [Nat.toUInt8]; omega
  rw [h] at e1
  omega
theorem u8L_inj : ∀ {a b : List Int}, okB a → okB b → u8L a = u8L b → a = b
  | [], [], _, _, _ => rfl
  | [], _ :: _, _, _, h => by simp [u8L] at h
  | _ :: _, [], _, _, h => by simp [u8L] at h
  | x :: s, y :: t, ha, hb, h => by
    simp only [u8L, List.map_cons, List.cons.injEq] at h
    rw [u8_inj (ha x (by simp)) (hb y (by simp)) h.1, u8L_inj (fun z hz => ha z (by simp [hz])) (fun z hz => hb z (by simp [hz])) h.2]
theorem u8L_beq {a b : List Int} (ha : okB a) (hb : okB b) : (u8L a == u8L b) = decide (a = b) := by
  by_cases h : a = b
  · subst h; simp
  · rw [decF h]
    exact beqF (fun q => h (u8L_inj ha hb q))
theorem ishr_eq {x y : Int} (h0 : 0 ≤ y) (h1 : y < 64) : ishr .u64 x y = x / 2 ^ y.toNat := by
  unfold ishr
  rw [show min y.toNat IntKind.u64.bits = y.toNat by simp [IntKind.bits]; omega]
  exact Int.fdiv_eq_ediv_of_nonneg _ (Int.pow_nonneg (by omega))
theorem ishl_eq {x y : Int} (h0 : 0 ≤ y) (h1 : y < 64) : ishl .u64 x y = (x * 2 ^ y.toNat) % 18446744073709551616 := by
  unfold ishl
  rw [show min y.toNat IntKind.u64.bits = y.toNat by simp [IntKind.bits]; omega, wrap64]
theorem byte_eq {v : Int} {j : Int} (h0 : 0 ≤ j) (h1 : j < 64) : IntKind.wrap .u8 (ishr .u64 v j) = v / 2 ^ j.toNat % 256 := by
  rw [ishr_eq h0 h1, wrap8]
theorem ior_add {x y : Int} (i : Nat) (h0 : 0 ≤ x) (h1 : x < 2 ^ i) (h2 : 0 ≤ y) (h3 : x + y * 2 ^ i < 18446744073709551616) : ior .u64 x (y * 2 ^ i) = x + y * 2 ^ i := by
  obtain ⟨a, rfl⟩ := Int.eq_ofNat_of_zero_le h0
  obtain ⟨b, rfl⟩ := Int.eq_ofNat_of_zero_le h2
  have hp : ((b : Int) * 2 ^ i) = ((b * 2 ^ i : Nat) : Int) := by rw [Int.natCast_mul, Int.natCast_pow]; rfl
  have ha : a < 2 ^ i := by
    have e : ((2 : Int) ^ i) = ((2 ^ i : Nat) : Int) := by rw [Int.natCast_pow]; rfl
    rw [e] at h1
    omega
  rw [hp] at h3 ⊢
  have h3' : a + b * 2 ^ i < 18446744073709551616 := by omega
  unfold ior
  have e1 : (BitVec.ofInt IntKind.u64.bits (a : Int)).toNat = a := by
    rw [BitVec.toNat_ofInt]
    simp only [IntKind.bits]
    omega
  have e2 : (BitVec.ofInt IntKind.u64.bits ((b * 2 ^ i : Nat) : Int)).toNat = b * 2 ^ i := by
    rw [BitVec.toNat_ofInt]
    simp only [IntKind.bits]
    omega
  rw [BitVec.toNat_or, e1, e2, Nat.or_comm, show b * 2 ^ i ||| a = 2 ^ i * b + a by rw [Nat.two_pow_add_eq_or_of_lt ha, Nat.mul_comm]]
  rw [wrap64, Nat.mul_comm]
  omega

def beB (v : Int) (n : Nat) : List Int := (List.range n).map fun i => v / 2 ^ (8 * (n - 1 - i)) % 256
theorem beB_len (v : Int) (n : Nat) : (beB v n).length = n := by simp [beB]
theorem beB_ok (v : Int) (n : Nat) : okB (beB v n) := fun z hz => by
  obtain ⟨i, _, rfl⟩ := List.mem_map.1 hz
  omega
theorem beB_get {v : Int} {n i : Nat} (h : i < n) : (beB v n)[i]? = some (v / 2 ^ (8 * (n - 1 - i)) % 256) := by
  unfold beB
  rw [List.getElem?_map, List.getElem?_range h]; rfl
theorem take_snoc {α : Type} {l : List α} {k : Nat} {x : α} (h : l[k]? = some x) : l.take (k + 1) = l.take k ++ [x] := by
  rw [List.take_add_one, h]; rfl
theorem set_mid {α : Type} (a b : List α) (x y : α) {k : Nat} (h : k = a.length) : (a ++ x :: b).set k y = a ++ y :: b := by
  subst h
  rw [List.set_append_right _ _ (Nat.le_refl _), Nat.sub_self]
  rfl

/-- the number of bytes, the greatest first -/
def beN : List Int → Int := fun l => l.foldl (fun v c => v * 256 + c) 0
theorem beN_snoc (l : List Int) (x : Int) : beN (l ++ [x]) = beN l * 256 + x := by simp [beN]
theorem beN_aux : ∀ (l : List Int) (v : Int), okB l → 0 ≤ v → 0 ≤ l.foldl (fun v c => v * 256 + c) v ∧ l.foldl (fun v c => v * 256 + c) v < (v + 1) * 256 ^ l.length
  | [], v, _, h => by simp; omega
  | x :: l, v, h, hv => by
    have h1 := h x (by simp)
    obtain ⟨a, b⟩ := beN_aux l (v * 256 + x) (fun z hz => h z (by simp [hz])) (by omega)
    refine ⟨a, Int.lt_of_lt_of_le b ?_⟩
    have e : (v + 1) * (256 : Int) ^ (x :: l).length = (v + 1) * 256 * 256 ^ l.length := by
      rw [List.length_cons, Int.pow_succ, Int.mul_comm ((256 : Int) ^ l.length) 256, Int.mul_assoc]
    rw [e]
    exact Int.mul_le_mul_of_nonneg_right (by omega) (Int.pow_nonneg (by omega))
theorem beN_bd {l : List Int} (h : okB l) : 0 ≤ beN l ∧ beN l < 256 ^ l.length := by
  have := beN_aux l 0 h (by omega)
  simpa [beN] using this
end
section
open Go.RowKit

theorem octets_append (a : List Int) (v : Int) (n : Nat) (hn : n ≤ 8) (ha : a.length ≤ 140737488355320) : F_octets_Append a v n = some (a ++ beB v n) := by
  unfold F_octets_Append
  rw [decF (show ¬ (n : Int) < 0 by omega), decF (show ¬ (n : Int) > 8 by omega)]
  simp only [cond_false]
  have e1 : IntKind.wrap .i64 ((a.length : Int) + (n : Int)) = ((a.length + n : Nat) : Int) := by rw [wi (by omega) (by omega)]; rfl
  rw [e1]
  have e2 : mkO 1 ((a.length + n : Nat) : Int) ((a.length + n : Nat) : Int) = some (a.length + n) := by
    unfold mkO
    rw [if_pos ⟨by omega, by omega, by omega, by omega⟩, Int.toNat_natCast]
  rw [e2, Option.bind_some]
  have e3 : cpL (List.replicate (a.length + n) (0 : Int)) 0 (List.length (Cut.app .whole (List.replicate (a.length + n) (0 : Int)))) (Cut.app .whole a) = a ++ (beB v n).take 0 ++ List.replicate (n - 0) 0 := by
    unfold cpL
    simp only [Cut.app, List.length_replicate, List.take_zero, List.nil_append, List.append_nil, Nat.zero_add, Nat.sub_zero]
    rw [show min a.length (a.length + n) = a.length by omega, List.take_length, List.drop_replicate, show a.length + n - a.length = n by omega]
  rw [e3]
  have hl := loop_run (step := F_octets_Append_l1 n a v) (S := fun k => ((k : Int), a ++ (beB v n).take k ++ List.replicate (n - k) 0)) n (r := a ++ beB v n) (fun k hk => by
    unfold F_octets_Append_l1
    dsimp only
    have w1 : IntKind.wrap .i64 ((n : Int) - 1) = (n : Int) - 1 := wi (by omega) (by omega)
    have w2 : IntKind.wrap .i64 ((n : Int) - 1 - (k : Int)) = ((n - 1 - k : Nat) : Int) := by rw [wi (by omega) (by omega)]; omega
    have w3 : IntKind.wrap .i64 (8 * ((n - 1 - k : Nat) : Int)) = ((8 * (n - 1 - k) : Nat) : Int) := by rw [wi (by omega) (by omega)]; omega
    have w4 : IntKind.wrap .i64 ((a.length : Int) + (k : Int)) = ((a.length + k : Nat) : Int) := by rw [wi (by omega) (by omega)]; rfl
    have hlen : (a ++ (beB v n).take k ++ List.replicate (n - k) (0 : Int)).length = a.length + n := by
      simp only [List.length_append, List.length_take, beB_len, List.length_replicate]; omega
    rw [decT (show (k : Int) < (n : Int) by omega), w1, w2, w3, w4, decT (show (0 : Int) ≤ ((8 * (n - 1 - k) : Nat) : Int) by omega)]
    simp only [cond_true, Cut.app, Nat.zero_add, Int.toNat_natCast]
    rw [idx_lt (by omega), Option.bind_some, List.getElem?_eq_getElem (by omega), Option.bind_some, wk k (by omega), byte_eq (by omega) (by omega), Int.toNat_natCast]
    congr 3
    obtain ⟨m, hm⟩ : ∃ m, n - k = m + 1 := ⟨n - k - 1, by omega⟩
    rw [hm, List.replicate_succ, set_mid _ _ _ _ (by simp only [List.length_append, List.length_take, beB_len]; omega), take_snoc (beB_get hk), show n - (k + 1) = m by omega]
    simp) (by
    unfold F_octets_Append_l1
    dsimp only
    rw [decF (show ¬ (n : Int) < (n : Int) by omega)]
    simp only [cond_false]
    rw [List.take_of_length_le (by rw [beB_len]; exact Nat.le_refl _), Nat.sub_self]
    simp)
  simp only [Int.natCast_zero] at hl
  rw [hl]
  rfl
theorem octets_append_R (a : List Int) (v : Int) (n : Nat) (hn : n ≤ 8) (ha : a.length ≤ 140737488355320) : F_octets_Append_R a v n = some (a ++ beB v n) := by
  unfold F_octets_Append_R
  rw [decF (show ¬ (n : Int) < 0 by omega), decF (show ¬ (n : Int) > 8 by omega)]
  simp only [cond_false]
  have e1 : IntKind.wrap .i64 ((a.length : Int) + (n : Int)) = ((a.length + n : Nat) : Int) := by rw [wi (by omega) (by omega)]; rfl
  rw [e1]
  have e2 : mkO 1 ((a.length + n : Nat) : Int) ((a.length + n : Nat) : Int) = some (a.length + n) := by
    unfold mkO
    rw [if_pos ⟨by omega, by omega, by omega, by omega⟩, Int.toNat_natCast]
  rw [e2, Option.bind_some]
  have e3 : cpL (List.replicate (a.length + n) (0 : Int)) 0 (List.length (Cut.app .whole (List.replicate (a.length + n) (0 : Int)))) (Cut.app .whole a) = a ++ (beB v n).take 0 ++ List.replicate (n - 0) 0 := by
    unfold cpL
    simp only [Cut.app, List.length_replicate, List.take_zero, List.nil_append, List.append_nil, Nat.zero_add, Nat.sub_zero]
    rw [show min a.length (a.length + n) = a.length by omega, List.take_length, List.drop_replicate, show a.length + n - a.length = n by omega]
  rw [e3]
  have hl := loop_run (step := F_octets_Append_R_l1 n a v) (S := fun k => ((k : Int), a ++ (beB v n).take k ++ List.replicate (n - k) 0)) n (r := a ++ beB v n) (fun k hk => by
    unfold F_octets_Append_R_l1
    dsimp only
    have w1 : IntKind.wrap .i64 ((n : Int) - 1) = (n : Int) - 1 := wi (by omega) (by omega)
    have w2 : IntKind.wrap .i64 ((n : Int) - 1 - (k : Int)) = ((n - 1 - k : Nat) : Int) := by rw [wi (by omega) (by omega)]; omega
    have w3 : IntKind.wrap .i64 (8 * ((n - 1 - k : Nat) : Int)) = ((8 * (n - 1 - k) : Nat) : Int) := by rw [wi (by omega) (by omega)]; omega
    have w4 : IntKind.wrap .i64 ((a.length : Int) + (k : Int)) = ((a.length + k : Nat) : Int) := by rw [wi (by omega) (by omega)]; rfl
    have hlen : (a ++ (beB v n).take k ++ List.replicate (n - k) (0 : Int)).length = a.length + n := by
      simp only [List.length_append, List.length_take, beB_len, List.length_replicate]; omega
    rw [decT (show (k : Int) < (n : Int) by omega), w1, w2, w3, w4, decT (show (0 : Int) ≤ ((8 * (n - 1 - k) : Nat) : Int) by omega)]
    simp only [cond_true, Cut.app, Nat.zero_add, Int.toNat_natCast]
    rw [idx_lt (by omega), Option.bind_some, List.getElem?_eq_getElem (by omega), Option.bind_some, wk k (by omega), byte_eq (by omega) (by omega), Int.toNat_natCast]
    congr 3
    obtain ⟨m, hm⟩ : ∃ m, n - k = m + 1 := ⟨n - k - 1, by omega⟩
    rw [hm, List.replicate_succ, set_mid _ _ _ _ (by simp only [List.length_append, List.length_take, beB_len]; omega), take_snoc (beB_get hk), show n - (k + 1) = m by omega]
    simp) (by
    unfold F_octets_Append_R_l1
    dsimp only
    rw [decF (show ¬ (n : Int) < (n : Int) by omega)]
    simp only [cond_false]
    rw [List.take_of_length_le (by rw [beB_len]; exact Nat.le_refl _), Nat.sub_self]
    simp)
  simp only [Int.natCast_zero] at hl
  rw [hl]
  rfl
end
section
open Go.RowKit

/-- the address with a number -/
def ipN (u : Nat) : List Int := [32, 1, 13, 184, 0, 0, 0, 0, 0, 0, 0, 0, 0, 0, 0, (u : Int)]
theorem of_ip (u : Nat) (hu : u < 6) : F_ref04_Of 2306139568115548160 (IntKind.wrap .u64 (u : Int)) = some (ipN u) := by
  rcases u with _ | _ | _ | _ | _ | _ | u
  all_goals first | (exfalso; omega) | kernel_rfl
theorem cmp_ip : ∀ u, u < 6 → ∀ v, v < 6 → cmpB (ipN u) (ipN v) = if u < v then -1 else if u = v then 0 else 1 := by decide +kernel
theorem eq_ip : ∀ u, u < 6 → ∀ v, v < 6 → arrEq 16 (ipN u) (ipN v) = decide (u = v) := by decide +kernel
theorem compare_ip {e : S_Registration} {u v : Nat} (he : e.IP = ipN u) (hu : u < 6) (hv : v < 6) : F_registration_compare e (ipN v) = some (if u < v then -1 else if u = v then 0 else 1) := by
  unfold F_registration_compare F_bytes_Compare
  rw [he, arrL_id (by rfl), arrL_id (by rfl)]
  simp only [Cut.app, Option.bind_some]
  rw [cmp_ip u hu v hv]
def devN (n : Nat) : S_Addr := S_Addr.mk 3 0 (144115188075855872 + n + 1)
theorem device_spec (n : Nat) (hn : n ≤ 3) : F_top_device (n : Int) = some (devN n) := by
  unfold F_top_device devN
  have e1 : IntKind.wrap .i64 (144115188075855872 + (n : Int)) = 144115188075855872 + (n : Int) := wi (by omega) (by omega)
  rw [e1, wi (by omega) (by omega), wu (by omega) (by omega)]
structure Row where
  u : Nat
  n : Nat
  q : Int
  st : Int
  till : Int
def reg (r : Row) : S_Registration := S_Registration.mk (ipN r.u) r.n r.q (devN r.n) r.st r.till
structure RowOk (r : Row) : Prop where
  u : r.u < 6
  n1 : 1 ≤ r.n
  n3 : r.n ≤ 3
  q0 : 0 ≤ r.q
  q1 : r.q ≤ 15
  st : r.st = 1 ∨ r.st = 2
  t0 : 0 ≤ r.till
  t1 : r.till ≤ 1000
abbrev Srt (T : List Row) : Prop := T.Pairwise fun a b => a.u < b.u
structure TabOk (T : List Row) : Prop where
  ok : ∀ r ∈ T, RowOk r
  srt : Srt T
theorem TabOk.get {T : List Row} (h : TabOk T) {k : Nat} (hk : k < T.length) : RowOk T[k] := h.ok _ (List.getElem_mem hk)
theorem TabOk.filter {T : List Row} (h : TabOk T) (p : Row → Bool) : TabOk (T.filter p) := ⟨fun r hr => h.ok r ((List.mem_filter.1 hr).1), h.srt.filter p⟩
theorem TabOk.lt {T : List Row} (h : TabOk T) {i j : Nat} (hj : j < T.length) (hij : i < j) : (T[i]'(by omega)).u < (T[j]'hj).u := List.pairwise_iff_getElem.1 h.srt i j (by omega) hj hij
theorem TabOk.len {T : List Row} (h : TabOk T) : T.length ≤ 6 := by
  have : ∀ k, (hk : k < T.length) → k ≤ (T[k]'hk).u := by
    intro k
    induction k with
    | zero => intro _; omega
    | succ k ih =>
      intro hk
      have := ih (by omega)
      have := h.lt hk (Nat.lt_succ_self k)
      omega
  rcases Nat.lt_or_ge T.length 7 with h7 | h7
  · omega
  · have h1 := this 6 (by omega)
    have h2 := (h.get (show 6 < T.length by omega)).u
    omega
theorem place_spec (n : Nat) (h1 : 1 ≤ n) (h3 : n ≤ 3) : F_registration_place (devN n) = some true := by
  have h : ∀ n, n < 4 → 1 ≤ n → F_registration_place (devN n) = some true := by decide +kernel
  exact h n (by omega) h1
theorem time_spec {t : Int} (h0 : 0 ≤ t) (h1 : t ≤ 1099511627776) : F_registration_validTime t = some true := by
  unfold F_registration_validTime
  rw [decT (show t ≥ 0 by omega), decT h1]
  rfl
theorem mcast_ip (u : Nat) : F_address_IsMulticast (ipN u) = some false := rfl
theorem valid_spec {T : List Row} (h : TabOk T) : F_registration_Valid (T.map reg) = some true := by
  have hl := h.len
  unfold F_registration_Valid
  rw [List.length_map, decF (show ¬ (T.length : Int) > 16 by omega)]
  have hl := loop_run (step := F_registration_Valid_l1 (T.map reg)) (S := fun k => (k : Int)) T.length (r := ()) (fun k hk => by
    have hr := h.get hk
    unfold F_registration_Valid_l1
    rw [List.length_map, decT (show (k : Int) < (T.length : Int) by omega), idx_lt (by rw [List.length_map]; exact hk)]
    simp only [cond_true, Option.bind_some, List.getElem_map]
    have hm : F_address_IsMulticast (reg T[k]).IP = some false := mcast_ip _
    have hp : F_registration_place (reg T[k]).Link = some true := place_spec _ hr.n1 hr.n3
    have ht : F_registration_validTime (reg T[k]).Until = some true := time_spec hr.t0 (by have := hr.t1; show T[k].till ≤ _; omega)
    rw [hm, hp, ht]
    have hst : ((reg T[k]).State != 1) = (T[k].st != 1) := rfl
    have hst2 : ((reg T[k]).State != 2) = (T[k].st != 2) := rfl
    rw [hst, hst2, wk k (by omega)]
    rcases k with _ | k
    · simp only [Int.natCast_zero, show decide ((0 : Int) > 0) = false by decide, cond_false, cond_true, Option.bind_some]
      rcases hr.st with e | e <;> rw [e] <;> rfl
    · rw [decT (show ((k + 1 : Nat) : Int) > 0 by omega), show IntKind.wrap .i64 (((k + 1 : Nat) : Int) - 1) = (k : Int) by rw [wi (by omega) (by omega)]; omega, idx_lt (by rw [List.length_map]; omega)]
      simp only [cond_false, cond_true, Option.bind_some, List.getElem_map]
      have hlt := h.lt hk (Nat.lt_succ_self k)
      have hc : F_registration_compare (reg (T[k]'(by omega))) (reg (T[k + 1]'hk)).IP = some (-1) := by
        have := compare_ip (e := reg (T[k]'(by omega))) (u := (T[k]'(by omega)).u) (v := (T[k + 1]'hk).u) rfl (h.get (by omega)).u hr.u
        rw [if_pos hlt] at this
        exact this
      rw [hc]
      simp only [Option.bind_some, show decide ((-1 : Int) ≥ 0) = false by decide, cond_false]
      rcases hr.st with e | e <;> rw [e] <;> rfl) (by
    unfold F_registration_Valid_l1
    rw [List.length_map, decF (show ¬ (T.length : Int) < (T.length : Int) by omega)]
    rfl)
  simp only [Int.natCast_zero] at hl
  rw [hl]
  rfl
def live (now : Int) (r : Row) : Bool := decide (r.till > now)
theorem filter_take {α : Type} {p : α → Bool} {l : List α} {k : Nat} (hk : k < l.length) : (l.take (k + 1)).filter p = (l.take k).filter p ++ if p l[k] then [l[k]] else [] := by
  rw [take_snoc (List.getElem?_eq_getElem hk), List.filter_append]
  congr 1
  simp only [List.filter_cons, List.filter_nil]
theorem expire_spec {T : List Row} (h : TabOk T) {now : Int} (h0 : 0 ≤ now) (h1 : now ≤ 1000) : F_registration_Expire (T.map reg) now = some ((T.filter (live now)).map reg, 0) := by
  have hl := h.len
  unfold F_registration_Expire
  rw [valid_spec h, Option.bind_some, cond_true, time_spec h0 (by omega), Option.bind_some, cond_true]
  have hl := loop_run (step := F_registration_Expire_l1 (T.map reg) now) (S := fun k => (((T.take k).filter (live now)).map reg, (k : Int))) T.length (r := (T.filter (live now)).map reg) (fun k hk => by
    unfold F_registration_Expire_l1 F_registration_Expire_j2
    dsimp only
    rw [List.length_map, decT (show (k : Int) < (T.length : Int) by omega), idx_lt (by rw [List.length_map]; exact hk)]
    simp only [cond_true, Option.bind_some, List.getElem_map, wk k (show k < 9223372036854775807 by omega), filter_take hk]
    have hd : decide ((reg T[k]).Until > now) = live now T[k] := rfl
    rw [hd]
    cases hlv : live now T[k]
    · simp
    · have hle : ((T.take k).filter (live now)).length ≤ 6 := Nat.le_trans (List.length_filter_le _ _) (by rw [List.length_take]; omega)
      simp only [cond_true, Cut.app]
      rw [appO_some (by simp; omega) (by simp; omega)]
      simp) (by
    unfold F_registration_Expire_l1
    dsimp only
    rw [List.length_map, decF (show ¬ (T.length : Int) < (T.length : Int) by omega)]
    simp only [List.take_length, cond_false])
  simp only [Int.natCast_zero, List.take_zero, List.filter_nil, List.map_nil] at hl
  rw [hl]
  rfl
theorem expireR_spec {T : List Row} (h : TabOk T) {now : Int} (h0 : 0 ≤ now) (h1 : now ≤ 1000) : F_registration_Expire_R (T.map reg) now = some ((T.filter (live now)).map reg, 0) := by
  have hl := h.len
  unfold F_registration_Expire_R
  rw [valid_spec h, Option.bind_some, cond_true, time_spec h0 (by omega), Option.bind_some, cond_true]
  have hl := loop_run (step := F_registration_Expire_R_l1 (T.map reg) now) (S := fun k => ((k : Int), ((T.take k).filter (live now)).map reg)) T.length (r := (T.filter (live now)).map reg) (fun k hk => by
    unfold F_registration_Expire_R_l1 F_registration_Expire_R_j2
    dsimp only
    rw [List.length_map, decT (show (k : Int) < (T.length : Int) by omega), idx_lt (by rw [List.length_map]; exact hk)]
    simp only [cond_true, Option.bind_some, List.getElem_map, wk k (show k < 9223372036854775807 by omega), filter_take hk]
    have hd : decide ((reg T[k]).Until > now) = live now T[k] := rfl
    rw [hd]
    cases hlv : live now T[k]
    · simp
    · have hle : ((T.take k).filter (live now)).length ≤ 6 := Nat.le_trans (List.length_filter_le _ _) (by rw [List.length_take]; omega)
      simp only [cond_true, Cut.app, List.take_length]
      rw [appO_some (by simp; omega) (by simp; omega)]
      simp) (by
    unfold F_registration_Expire_R_l1
    dsimp only
    rw [List.length_map, decF (show ¬ (T.length : Int) < (T.length : Int) by omega)]
    simp only [List.take_length, cond_false])
  simp only [Int.natCast_zero, List.take_zero, List.filter_nil, List.map_nil] at hl
  rw [hl]
  rfl
end
section
open Go.RowKit

theorem half_spec {i j : Nat} (h : i + j ≤ 1000) : IntKind.wrap .i64 (ishr .u64 (IntKind.wrap .u64 (IntKind.wrap .i64 ((i : Int) + (j : Int)))) 1) = (((i + j) / 2 : Nat) : Int) := by
  have e1 : IntKind.wrap .i64 ((i : Int) + (j : Int)) = (i : Int) + (j : Int) := wi (by omega) (by omega)
  rw [e1, wu (by omega) (by omega), ishr_eq (by omega) (by omega)]
  have e2 : (2 : Int) ^ (1 : Int).toNat = 2 := rfl
  rw [e2, wi (by omega) (by omega)]
  omega
/-- where a number would stand -/
structure At (K : List Row) (v p : Nat) : Prop where
  le : p ≤ K.length
  lo : ∀ k (hk : k < K.length), k < p → K[k].u < v
  hi : ∀ k (hk : k < K.length), p ≤ k → v ≤ K[k].u
theorem bs_loop {K : List Row} (h : TabOk K) {v : Nat} (hv : v < 6) : ∃ r, loopO (F_slices_BinarySearchFunc_api_Registration_api_Registration_api_IP_F952_l1 (K.map reg) (ipN v)) (0, (List.length (K.map reg) : Int)) = some r ∧ ∃ p : Nat, r = (p : Int) ∧ At K v p := by
  have hl := h.len
  refine loop_inv (fun s => ∃ i j : Nat, s = ((i : Int), (j : Int)) ∧ i ≤ j ∧ j ≤ K.length ∧ (∀ k (hk : k < K.length), k < i → K[k].u < v) ∧ (∀ k (hk : k < K.length), j ≤ k → v ≤ K[k].u)) _ (fun s => (s.2 - s.1).toNat) ?_ _ ⟨0, K.length, by simp, by omega, by omega, fun k hk h => by omega, fun k hk h => by omega⟩
  rintro _ ⟨i, j, rfl, hij, hj, h1, h2⟩
  unfold F_slices_BinarySearchFunc_api_Registration_api_Registration_api_IP_F952_l1
  dsimp only
  by_cases hlt : i < j
  · left
    rw [decT (show (i : Int) < (j : Int) by omega), half_spec (by omega)]
    have hm : (i + j) / 2 < K.length := by omega
    simp only [cond_true]
    rw [idx_lt (by rw [List.length_map]; exact hm)]
    simp only [Option.bind_some, List.getElem_map]
    rw [compare_ip (u := K[(i + j) / 2].u) rfl (h.get hm).u hv]
    simp only [Option.bind_some]
    by_cases hc : K[(i + j) / 2].u < v
    · rw [if_pos hc, decT (show (-1 : Int) < 0 by omega), wk _ (by omega)]
      refine ⟨_, rfl, ⟨(i + j) / 2 + 1, j, rfl, by omega, hj, fun k hk hlt' => ?_, h2⟩, ?_⟩
      · by_cases hk2 : k = (i + j) / 2
        · subst hk2; exact hc
        · have := h.lt hm (show k < (i + j) / 2 by omega); omega
      · dsimp only; omega
    · have : ¬ ((if K[(i + j) / 2].u < v then -1 else if K[(i + j) / 2].u = v then 0 else 1 : Int) < 0) := by
        rw [if_neg hc]; split <;> omega
      rw [decF this]
      refine ⟨_, rfl, ⟨i, (i + j) / 2, rfl, by omega, by omega, h1, fun k hk hle => ?_⟩, ?_⟩
      · by_cases hk2 : k = (i + j) / 2
        · subst hk2; omega
        · have := h.lt hk (show (i + j) / 2 < k by omega); omega
      · dsimp only; omega
  · right
    rw [decF (show ¬ (i : Int) < (j : Int) by omega)]
    have : i = j := by omega
    subst this
    exact ⟨_, rfl, i, rfl, hj, h1, h2⟩
theorem bs_spec {K : List Row} (h : TabOk K) {v : Nat} (hv : v < 6) : ∃ p, At K v p ∧ F_slices_BinarySearchFunc_api_Registration_api_Registration_api_IP_F952 (K.map reg) (ipN v) = some ((p : Int), decide (∃ hp : p < K.length, K[p].u = v)) := by
  obtain ⟨r, h1, p, rfl, hat⟩ := bs_loop h hv
  refine ⟨p, hat, ?_⟩
  unfold F_slices_BinarySearchFunc_api_Registration_api_Registration_api_IP_F952
  rw [h1]
  simp only [Option.bind_some, List.length_map]
  by_cases hp : p < K.length
  · rw [decT (show (p : Int) < (K.length : Int) by omega), idx_lt (by rw [List.length_map]; exact hp)]
    simp only [cond_true, Option.bind_some, List.getElem_map]
    rw [compare_ip (u := K[p].u) rfl (h.get hp).u hv]
    simp only [Option.bind_some]
    have := hat.hi p hp (Nat.le_refl _)
    by_cases he : K[p].u = v
    · rw [if_neg (by omega), if_pos he, decT ⟨hp, he⟩]; rfl
    · rw [if_neg (by omega), if_neg he, decF (fun ⟨_, q⟩ => he q)]; rfl
  · rw [decF (show ¬ (p : Int) < (K.length : Int) by omega), decF (fun ⟨q, _⟩ => hp q)]; rfl
theorem newer_spec {a b : Int} (h0 : 0 ≤ b) (h1 : b < a) (h2 : a ≤ 15) : F_registration_Newer a b = some true := by
  unfold F_registration_Newer
  have e1 : IntKind.wrap .i64 a = a := wi (by omega) (by omega)
  have e2 : IntKind.wrap .i64 b = b := wi (by omega) (by omega)
  have e3 : IntKind.wrap .i64 (a - b) = a - b := wi (by omega) (by omega)
  rw [e1, e2, e3, wi (by omega) (by omega), decF (show ¬ a ≥ 128 by omega), decT (show a < 128 by omega), decT (show b < 128 by omega)]
  have e4 : Int.tmod (a - b + 128) 128 = a - b := by
    rw [Int.tmod_eq_emod_of_nonneg (by omega)]; omega
  rw [e4, decT (show a - b ≥ 1 by omega), decT (show a - b ≤ 16 by omega)]
  rfl
theorem TabOk.set {K : List Row} (h : TabOk K) {p : Nat} (hp : p < K.length) {x : Row} (hx : RowOk x) (hu : x.u = K[p].u) : TabOk (K.set p x) := by
  refine ⟨fun r hr => (List.mem_or_eq_of_mem_set hr).elim (h.ok r) (fun e => e ▸ hx), List.pairwise_iff_getElem.2 fun i j hi hj hij => ?_⟩
  have hget : ∀ k (hk : k < (K.set p x).length), ((K.set p x)[k]'hk).u = (K[k]'(by rw [List.length_set] at hk; exact hk)).u := by
    intro k hk
    rw [List.getElem_set]
    split
    · rename_i e; subst e; exact hu
    · rfl
  rw [hget, hget]
  exact h.lt (by rw [List.length_set] at hj; exact hj) hij
theorem TabOk.ins {K : List Row} (h : TabOk K) {p : Nat} {x : Row} (hx : RowOk x) (ha : At K x.u p) (hn : ¬ ∃ hp : p < K.length, K[p].u = x.u) : TabOk (K.take p ++ [x] ++ K.drop p) := by
  refine ⟨fun r hr => ?_, ?_⟩
  · simp only [List.mem_append, List.mem_singleton] at hr
    rcases hr with (hr | hr) | hr
    · exact h.ok r (List.mem_of_mem_take hr)
    · rw [hr]; exact hx
    · exact h.ok r (List.mem_of_mem_drop hr)
  · have hlo : ∀ a ∈ K.take p, a.u < x.u := by
      intro a ha'
      obtain ⟨k, hk, rfl⟩ := List.getElem_of_mem ha'
      rw [List.length_take] at hk
      rw [List.getElem_take]
      exact ha.lo k (by omega) (by omega)
    have hhi : ∀ b ∈ K.drop p, x.u < b.u := by
      intro b hb
      obtain ⟨k, hk, rfl⟩ := List.getElem_of_mem hb
      rw [List.length_drop] at hk
      rw [List.getElem_drop]
      have h1 := ha.hi (p + k) (by omega) (by omega)
      rcases Nat.lt_or_ge x.u (K[p + k]'(by omega)).u with h2 | h2
      · exact h2
      · exfalso
        rcases k with _ | k
        · exact hn ⟨by omega, by simp only [Nat.add_zero] at h1 h2; omega⟩
        · have h3 := h.lt (show p + (k + 1) < K.length by omega) (show p < p + (k + 1) by omega)
          have h4 := ha.hi p (by omega) (Nat.le_refl _)
          omega
    refine List.pairwise_append.2 ⟨List.pairwise_append.2 ⟨h.srt.sublist (List.take_sublist _ _), by simp, fun a ha' b hb => by rw [List.mem_singleton.1 hb]; exact hlo a ha'⟩, h.srt.sublist (List.drop_sublist _ _), fun a ha' b hb => ?_⟩
    rcases List.mem_append.1 ha' with ha' | ha'
    · have := hlo a ha'; have := hhi b hb; omega
    · rw [List.mem_singleton.1 ha']; exact hhi b hb
theorem TabOk.uniq {K : List Row} (h : TabOk K) {a b : Row} (ha : a ∈ K) (hb : b ∈ K) (hab : a.u = b.u) : a = b := by
  obtain ⟨i, hi, rfl⟩ := List.getElem_of_mem ha
  obtain ⟨j, hj, rfl⟩ := List.getElem_of_mem hb
  rcases Nat.lt_trichotomy i j with hij | hij | hij
  · have := h.lt hj hij; omega
  · subst hij; rfl
  · have := h.lt hi hij; omega
theorem mem_set_ne {K : List Row} (h : TabOk K) {p : Nat} (hp : p < K.length) {x y : Row} (hy : y ∈ K.set p x) (hu : x.u = K[p].u) : y = x ∨ (y ∈ K ∧ y.u ≠ x.u) := by
  obtain ⟨k, hk, rfl⟩ := List.getElem_of_mem hy
  rw [List.length_set] at hk
  rw [List.getElem_set]
  split
  · exact .inl rfl
  · rename_i hne
    refine .inr ⟨List.getElem_mem _, fun e => ?_⟩
    rw [hu] at e
    rcases Nat.lt_trichotomy k p with hij | hij | hij
    · have := h.lt hp hij; omega
    · exact hne hij.symm
    · have := h.lt hk hij; omega
/-- what Register does -/
structure RegOut (T : List Row) (u n : Nat) (q now life : Int) (T' : List Row) (status : Int) : Prop where
  ok : TabOk T'
  out : (status = 1 ∧ T' = T.filter (live now)) ∨ (status = 0 ∧ ∃ st : Int, (st = 1 ∨ (st = 2 ∧ ∃ r ∈ T, r.u = u ∧ r.n = n ∧ r.st = 2 ∧ live now r = true)) ∧ Row.mk u n q st (now + life) ∈ T' ∧ ∀ x ∈ T', x = ⟨u, n, q, st, now + life⟩ ∨ (x ∈ T ∧ live now x = true ∧ x.u ≠ u))
theorem regspec {T : List Row} (h : TabOk T) {u n : Nat} {q now life : Int} (hu : u < 6) (hn1 : 1 ≤ n) (hn3 : n ≤ 3) (hq1 : 1 ≤ q) (hq2 : q ≤ 15) (h0 : 0 ≤ now) (h1 : now ≤ 500) (hl1 : 1 ≤ life) (hl2 : life ≤ 40) (hseq : ∀ r ∈ T, r.n = n → r.q < q) :
    ∃ T' status, F_registration_Register (T.map reg) (ipN u) (S_Owner.mk n q 0 life) (devN n) now = some (T'.map reg, status, 0) ∧ RegOut T u n q now life T' status := by
  have hK := h.filter (live now)
  obtain ⟨p, hat, hbs⟩ := bs_spec hK hu
  have hKl := hK.len
  unfold F_registration_Register
  rw [valid_spec h, mcast_ip, place_spec n hn1 hn3, expireR_spec h h0 (by omega)]
  simp only [Option.bind_some, cond_true, cond_false, bne_self_eq_false]
  rw [hbs]
  simp only [Option.bind_some]
  have ew : IntKind.wrap .i64 (now + IntKind.wrap .i64 life) = now + life := by
    rw [show IntKind.wrap .i64 life = life from wi (by omega) (by omega)]
    exact wi (by omega) (by omega)
  by_cases hf : ∃ hp : p < (T.filter (live now)).length, (T.filter (live now))[p].u = u
  · rw [decT hf, cond_true]
    obtain ⟨hp, hpu⟩ := hf
    have hpm : (T.filter (live now))[p] ∈ T.filter (live now) := List.getElem_mem hp
    have hpT := List.mem_filter.1 hpm
    generalize hr : (T.filter (live now))[p] = r at *
    have hrok := h.ok r hpT.1
    have hget : ((T.filter (live now)).map reg)[(0 + (p : Int).toNat)]? = some (reg r) := by
      rw [Nat.zero_add, Int.toNat_natCast, List.getElem?_map, List.getElem?_eq_getElem hp, hr]; rfl
    simp only [Cut.app]
    rw [idx_lt (by rw [List.length_map]; exact hp), Option.bind_some, hget, Option.bind_some]
    by_cases hne : r.n = n
    · have e1 : ((reg r).EUI != (S_Owner.mk (n : Int) q 0 life).EUI) = false := by show ((r.n : Int) != (n : Int)) = false; rw [hne]; simp
      have hlt := hseq r hpT.1 hne
      have e2 : ((reg r).Sequence != (S_Owner.mk (n : Int) q 0 life).Sequence) = true := by show (r.q != q) = true; simp; omega
      rw [e1, cond_false, Option.bind_some, e2, cond_true, Option.bind_some]
      have e3 : F_registration_Newer (S_Owner.mk (n : Int) q 0 life).Sequence (reg r).Sequence = some true := newer_spec hrok.q0 hlt hq2
      rw [e3, Option.bind_some, cond_true]
      have e4 : ((S_Owner.mk (n : Int) q 0 life).Lifetime == 0) = false := by show (life == 0) = false; simp; omega
      rw [e4, cond_false, Option.bind_some]
      have hlen : p < ((T.filter (live now)).map reg).length := by rw [List.length_map]; exact hp
      simp only [Nat.zero_add, Int.toNat_natCast]
      rw [List.getElem?_set_self hlen, Option.bind_some, List.set_set, List.getElem?_set_self hlen, Option.bind_some, List.set_set]
      simp only [ew]
      rw [if_neg (show ¬ (1099511627776 : Int) < now + life by omega)]
      refine ⟨(T.filter (live now)).set p ⟨u, n, q, r.st, now + life⟩, 0, ?_, hK.set hp ⟨hu, hn1, hn3, by dsimp only; omega, hq2, hrok.st, by dsimp only; omega, by dsimp only; omega⟩ (by rw [hr]; exact hpu.symm), .inr ⟨rfl, r.st, ?_, ?_, ?_⟩⟩
      · rw [List.map_set]
        congr 2
        show (List.map reg _).set p (S_Registration.mk (ipN r.u) (r.n : Int) q (devN n) r.st (now + life)) = _
        rw [hpu, hne]
        rfl
      · rcases hrok.st with e | e
        · exact .inl e
        · exact .inr ⟨e, r, hpT.1, hpu, hne, e, hpT.2⟩
      · exact List.mem_iff_getElem.2 ⟨p, by rw [List.length_set]; exact hp, by rw [List.getElem_set_self]⟩
      · intro x hx
        rcases mem_set_ne hK hp hx (by rw [hr]; exact hpu.symm) with e | ⟨e1, e2⟩
        · exact .inl e
        · have := List.mem_filter.1 e1
          exact .inr ⟨this.1, this.2, e2⟩
    · have e1 : ((reg r).EUI != (S_Owner.mk (n : Int) q 0 life).EUI) = true := by show ((r.n : Int) != (n : Int)) = true; simp; omega
      rw [e1, cond_true]
      exact ⟨_, 1, rfl, hK, .inl ⟨rfl, rfl⟩⟩
  · rw [decF hf, cond_false]
    have e4 : ((S_Owner.mk (n : Int) q 0 life).Lifetime == 0) = false := by show (life == 0) = false; simp; omega
    rw [e4, cond_false, List.length_map, decF (show ¬ ((T.filter (live now)).length : Int) ≥ 16 by omega), cond_false]
    simp only [ew]
    rw [if_neg (show ¬ (1099511627776 : Int) < now + life by omega)]
    have hp := hat.le
    have hins : insO 72 ((T.filter (live now)).map reg) (p : Int) (S_Registration.mk (ipN u) n q (devN n) 1 (now + life)) = some (((T.filter (live now)).take p ++ [Row.mk u n q 1 (now + life)] ++ (T.filter (live now)).drop p).map reg) := by
      unfold insO
      rw [if_pos ⟨by omega, by rw [List.length_map]; omega, by rw [List.length_map]; omega, by rw [List.length_map]; unfold maxLen; omega⟩, Int.toNat_natCast]
      simp only [List.map_append, List.map_take, List.map_drop, List.map_cons, List.map_nil]
      rfl
    rw [hins, Option.bind_some]
    have hx : RowOk ⟨u, n, q, 1, now + life⟩ := ⟨hu, hn1, hn3, by dsimp only; omega, hq2, .inl rfl, by dsimp only; omega, by dsimp only; omega⟩
    refine ⟨_, 0, rfl, hK.ins hx hat hf, .inr ⟨rfl, 1, .inl rfl, by simp, fun x hx' => ?_⟩⟩
    simp only [List.mem_append, List.mem_singleton] at hx'
    have key : x ∈ T.filter (live now) → x ∈ T ∧ live now x = true ∧ x.u ≠ u := fun hm => ⟨(List.mem_filter.1 hm).1, (List.mem_filter.1 hm).2, fun e => by
      obtain ⟨k, hk, rfl⟩ := List.getElem_of_mem hm
      rcases Nat.lt_or_ge k p with hkp | hkp
      · have := hat.lo k hk hkp; omega
      · rcases Nat.eq_or_lt_of_le hkp with e2 | e2
        · exact hf ⟨by omega, by subst e2; exact e⟩
        · have h3 := hK.lt hk e2
          have h4 := hat.hi p (by omega) (Nat.le_refl _)
          omega⟩
    rcases hx' with (hx' | hx') | hx'
    · exact .inr (key (List.mem_of_mem_take hx'))
    · exact .inl hx'
    · exact .inr (key (List.mem_of_mem_drop hx'))
end
section
open Go.RowKit

theorem arrEq_reg {r : Row} {v : Nat} (hr : r.u < 6) (hv : v < 6) : arrEq 16 (reg r).IP (ipN v) = decide (r.u = v) := eq_ip r.u hr v hv
theorem index_spec {K : List Row} (h : TabOk K) {p : Nat} (hp : p < K.length) : F_slices_IndexFunc_api_Registration_api_Registration_C102_271 (K.map reg) (ipN K[p].u) = some (p : Int) := by
  have hl := h.len
  have hlt : p < (K.map reg).length := by rw [List.length_map]; exact hp
  unfold F_slices_IndexFunc_api_Registration_api_Registration_C102_271
  have hl := loop_run (step := F_slices_IndexFunc_api_Registration_api_Registration_C102_271_l1 (K.map reg) (ipN K[p].u)) (S := fun k => (k : Int)) p (r := (p : Int)) (fun k hk => by
    have hk2 : k < K.length := by omega
    unfold F_slices_IndexFunc_api_Registration_api_Registration_C102_271_l1 F_registration_Confirm_1_R271
    rw [List.length_map, decT (show (k : Int) < (K.length : Int) by omega), idx_lt (by rw [List.length_map]; exact hk2)]
    simp only [cond_true, Option.bind_some, List.getElem_map]
    rw [arrEq_reg (h.get hk2).u (h.get hp).u, decF (by have := h.lt hp hk; omega), wk k (by omega)]
    rfl) (by
    unfold F_slices_IndexFunc_api_Registration_api_Registration_C102_271_l1 F_registration_Confirm_1_R271
    rw [List.length_map, decT (show (p : Int) < (K.length : Int) by omega), idx_lt hlt]
    simp only [cond_true, Option.bind_some, List.getElem_map]
    rw [arrEq_reg (h.get hp).u (h.get hp).u, decT rfl]
    rfl)
  simp only [Int.natCast_zero] at hl
  rw [hl]
  rfl
theorem cut_out {α : Type} (l : List α) (z : α) {q : Nat} (hq : q < l.length) : List.take (q + (l.drop (q + 1)).length) (clrL (List.take q l ++ l.drop (q + 1) ++ List.drop (q + (l.drop (q + 1)).length) l) (q + (l.drop (q + 1)).length) (List.length (List.take (l.length - (q + (l.drop (q + 1)).length)) (List.drop (q + (l.drop (q + 1)).length) (List.take q l ++ l.drop (q + 1) ++ List.drop (q + (l.drop (q + 1)).length) l)))) z) = l.take q ++ l.drop (q + 1) := by
  have hMl : (l.drop (q + 1)).length = l.length - (q + 1) := List.length_drop
  generalize l.drop (q + 1) = M at hMl
  have hX : (l.take q ++ M ++ l.drop (q + M.length)).length = l.length := by
    simp only [List.length_append, List.length_take, List.length_drop]; omega
  unfold clrL
  rw [List.append_assoc (List.take (q + M.length) _), List.take_append_of_le_length (by rw [List.length_take, hX]; omega), List.take_take, Nat.min_self, List.take_append_of_le_length (by simp; omega), List.take_of_length_le (by simp; omega)]
theorem TabOk.del {K : List Row} (h : TabOk K) (p : Nat) : TabOk (K.take p ++ K.drop (p + 1)) := by
  have hs : (K.take p ++ K.drop (p + 1)).Sublist K := by
    have h1 : (K.drop (p + 1)).Sublist (K.drop p) := by
      rw [show K.drop (p + 1) = (K.drop p).drop 1 by rw [List.drop_drop]]
      exact List.drop_sublist _ _
    have := (List.Sublist.refl (K.take p)).append h1
    rwa [List.take_append_drop] at this
  exact ⟨fun r hr => h.ok r (hs.subset hr), h.srt.sublist hs⟩
theorem mem_del {K : List Row} (h : TabOk K) {p : Nat} (hp : p < K.length) {x : Row} (hx : x ∈ K.take p ++ K.drop (p + 1)) : x ∈ K ∧ x.u ≠ K[p].u := by
  rcases List.mem_append.1 hx with hx | hx
  · obtain ⟨k, hk, rfl⟩ := List.getElem_of_mem hx
    rw [List.length_take] at hk
    rw [List.getElem_take]
    have := h.lt hp (show k < p by omega)
    exact ⟨List.getElem_mem _, by omega⟩
  · obtain ⟨k, hk, rfl⟩ := List.getElem_of_mem hx
    rw [List.length_drop] at hk
    rw [List.getElem_drop]
    have := h.lt (show p + 1 + k < K.length by omega) (show p < p + 1 + k by omega)
    exact ⟨List.getElem_mem _, by omega⟩
theorem confirm_spec {T : List Row} (h : TabOk T) {r : Row} (hr : r ∈ T) {now status : Int} (hlv : live now r = true) (h0 : 0 ≤ now) (h1 : now ≤ 500) :
    ∃ T' b, F_registration_Confirm (T.map reg) (ipN r.u) r.n status now = some (T'.map reg, b, 0) ∧ TabOk T' ∧
      ∀ x ∈ T', (x ∈ T ∧ live now x = true ∧ x.u ≠ r.u) ∨ (r.st = 2 ∧ x = r) ∨ (r.st = 1 ∧ status = 0 ∧ x = { r with st := 2 }) := by
  have hK := h.filter (live now)
  have hKl := hK.len
  have hrK : r ∈ T.filter (live now) := List.mem_filter.2 ⟨hr, hlv⟩
  obtain ⟨p, hp, hpr⟩ := List.getElem_of_mem hrK
  have hmem : ∀ x ∈ T.filter (live now), x ∈ T ∧ live now x = true := fun x hx => List.mem_filter.1 hx
  have hix := index_spec hK hp
  rw [hpr] at hix
  unfold F_registration_Confirm
  rw [expireR_spec h h0 (by omega)]
  generalize hKe : T.filter (live now) = K at *
  have hget : (K.map reg)[(0 + ((p : Int)).toNat)]? = some (reg r) := by
    rw [Nat.zero_add, Int.toNat_natCast, List.getElem?_map, List.getElem?_eq_getElem hp, hpr]; rfl
  simp only [Option.bind_some, bne_self_eq_false, cond_false]
  rw [hix]
  simp only [Option.bind_some]
  rw [decF (show ¬ (p : Int) < 0 by omega)]
  simp only [cond_false, Cut.app]
  rw [idx_lt (by rw [List.length_map]; exact hp)]
  simp only [Option.bind_some]
  rw [hget]
  simp only [Option.bind_some]
  have e1 : ((reg r).EUI != (r.n : Int)) = false := by show ((r.n : Int) != (r.n : Int)) = false; simp
  rw [e1]
  simp only [cond_false]
  have hrok := hK.ok r hrK
  have hst : ((reg r).State != 1) = (r.st != 1) := rfl
  rw [hst]
  rcases hrok.st with e | e
  · rw [e]
    simp only [bne_self_eq_false, cond_false]
    by_cases hs : status = 0
    · subst hs
      simp only [bne_self_eq_false, cond_false]
      refine ⟨K.set p { r with st := 2 }, true, ?_, hK.set hp ⟨hrok.u, hrok.n1, hrok.n3, hrok.q0, hrok.q1, .inr rfl, hrok.t0, hrok.t1⟩ (by rw [hpr]), fun x hx => ?_⟩
      · rw [Nat.zero_add, Int.toNat_natCast, List.map_set]
        rfl
      · rcases mem_set_ne hK hp hx (by rw [hpr]) with e2 | ⟨e2, e3⟩
        · exact .inr (.inr ⟨trivial, trivial, e2⟩)
        · exact .inl ⟨(hmem x e2).1, (hmem x e2).2, e3⟩
    · have hs2 : (status != 0) = true := by simp; exact hs
      rw [hs2]
      simp only [cond_true]
      have hlm : (K.map reg).length = K.length := List.length_map _
      have hpm : p < (K.map reg).length := by rw [hlm]; exact hp
      refine ⟨K.take p ++ K.drop (p + 1), true, ?_, hK.del p, fun x hx => ?_⟩
      · rw [List.map_append, List.map_take, List.map_drop]
        generalize K.map reg = l at hlm hpm
        rw [wk p (by omega)]
        simp only [Int.toNat_natCast]
        have hM : (l.drop (p + 1)).take (l.length - (p + 1)) = l.drop (p + 1) := List.take_of_length_le (by rw [List.length_drop]; exact Nat.le_refl _)
        have hMl : (l.drop (p + 1)).length = l.length - (p + 1) := List.length_drop
        simp only [hM]
        have hX : (l.take p ++ l.drop (p + 1) ++ l.drop (p + (l.drop (p + 1)).length)).length = l.length := by
          simp only [List.length_append, List.length_take, List.length_drop]; omega
        rw [hX, decT (by omega), beqF (show ¬ (p : Int) = ((p + 1 : Nat) : Int) by omega), decT (by omega), decT (by omega), decT (by omega), decT (by omega)]
        simp only [cond_true, cond_false, show ((p : Int) + ((l.drop (p + 1)).length : Int)).toNat = p + (l.drop (p + 1)).length by omega]
        rw [cut_out l _ hpm]
      · have := mem_del hK hp hx
        rw [hpr] at this
        exact .inl ⟨(hmem x this.1).1, (hmem x this.1).2, this.2⟩
  · rw [e]
    refine ⟨K, false, rfl, hK, fun x hx => ?_⟩
    by_cases hu : x.u = r.u
    · exact .inr (.inl ⟨rfl, hK.uniq hx hrK hu⟩)
    · exact .inl ⟨(hmem x hx).1, (hmem x hx).2, hu⟩
/-- Lookup finds a registered row -/
theorem lookup_spec {T : List Row} (h : TabOk T) {v : Nat} (hv : v < 6) {now : Int} (h0 : 0 ≤ now) (h1 : now ≤ 1000) :
    ∃ e f, F_registration_Lookup (T.map reg) (ipN v) now = some (e, f) ∧ (f = true → ∃ r ∈ T, r.u = v ∧ r.st = 2 ∧ live now r = true ∧ e = reg r) := by
  have hK := h.filter (live now)
  have hKl := hK.len
  unfold F_registration_Lookup
  rw [expire_spec h h0 h1]
  simp only [Option.bind_some, bne_self_eq_false, cond_false]
  have hmem : ∀ x ∈ T.filter (live now), x ∈ T ∧ live now x = true := fun x hx => List.mem_filter.1 hx
  generalize hKe : T.filter (live now) = K at *
  have hl := loop_first (step := F_registration_Lookup_l1 (K.map reg, 0) (ipN v)) (S := fun k => (k : Int)) K.length (fun k => !(decide ((K.getD k ⟨0, 0, 0, 0, 0⟩).u = v) && ((K.getD k ⟨0, 0, 0, 0, 0⟩).st == 2))) (fun k => Sum.inr (reg (K.getD k ⟨0, 0, 0, 0, 0⟩), true)) (re := Sum.inl ()) (fun k hk hp => by
    have hg : K.getD k ⟨0, 0, 0, 0, 0⟩ = K[k] := by rw [List.getD_eq_getElem?_getD, List.getElem?_eq_getElem hk]; rfl
    rw [hg] at hp
    unfold F_registration_Lookup_l1
    dsimp only
    rw [List.length_map, decT (show (k : Int) < (K.length : Int) by omega), idx_lt (by rw [List.length_map]; exact hk)]
    simp only [cond_true, Option.bind_some, List.getElem_map]
    rw [arrEq_reg (hK.get hk).u hv, show ((reg K[k]).State == 2) = (K[k].st == 2) from rfl, wk k (by omega)]
    cases hd : decide (K[k].u = v)
    · rfl
    · rw [hd, Bool.true_and] at hp
      cases hs : (K[k].st == 2)
      · rfl
      · rw [hs] at hp; cases hp) (fun k hk hp => by
    have hg : K.getD k ⟨0, 0, 0, 0, 0⟩ = K[k] := by rw [List.getD_eq_getElem?_getD, List.getElem?_eq_getElem hk]; rfl
    rw [hg] at hp ⊢
    unfold F_registration_Lookup_l1
    dsimp only
    rw [List.length_map, decT (show (k : Int) < (K.length : Int) by omega), idx_lt (by rw [List.length_map]; exact hk)]
    simp only [cond_true, Option.bind_some, List.getElem_map]
    rw [arrEq_reg (hK.get hk).u hv, show ((reg K[k]).State == 2) = (K[k].st == 2) from rfl]
    simp only [Bool.not_eq_false', Bool.and_eq_true] at hp
    rw [hp.1, hp.2]
    rfl) (by
    unfold F_registration_Lookup_l1
    dsimp only
    rw [List.length_map, decF (show ¬ (K.length : Int) < (K.length : Int) by omega)]
    rfl)
  simp only [Int.natCast_zero] at hl
  rcases hl with ⟨k, hk, hp, _, hl⟩ | ⟨_, hl⟩
  · rw [hl]
    have hg : K.getD k ⟨0, 0, 0, 0, 0⟩ = K[k] := by rw [List.getD_eq_getElem?_getD, List.getElem?_eq_getElem hk]; rfl
    rw [hg] at hp ⊢
    simp only [Bool.not_eq_false', Bool.and_eq_true, decide_eq_true_eq, beq_iff_eq] at hp
    exact ⟨_, _, rfl, fun _ => ⟨K[k], (hmem _ (List.getElem_mem hk)).1, hp.1, hp.2, (hmem _ (List.getElem_mem hk)).2, rfl⟩⟩
  · rw [hl]
    exact ⟨_, _, rfl, fun h => by cases h⟩
end
section
open Go.RowKit

structure CRow where
  u : Nat
  n : Nat
  q : Int
  since : Int
  till : Int
def clm (c : CRow) : S_Claim := S_Claim.mk (ipN c.u) c.n c.q c.since c.till
structure CRowOk (c : CRow) : Prop where
  u : c.u < 6
  n1 : 1 ≤ c.n
  n3 : c.n ≤ 3
  q0 : 0 ≤ c.q
  q1 : c.q ≤ 15
  s0 : 0 ≤ c.since
  s1 : c.since ≤ c.till
  t1 : c.till ≤ 1000
structure RegOk (C : List CRow) : Prop where
  ok : ∀ c ∈ C, CRowOk c
  srt : C.Pairwise fun a b => a.u < b.u
theorem RegOk.get {C : List CRow} (h : RegOk C) {k : Nat} (hk : k < C.length) : CRowOk C[k] := h.ok _ (List.getElem_mem hk)
theorem RegOk.filter {C : List CRow} (h : RegOk C) (p : CRow → Bool) : RegOk (C.filter p) := ⟨fun r hr => h.ok r (List.mem_filter.1 hr).1, h.srt.filter p⟩
theorem RegOk.lt {C : List CRow} (h : RegOk C) {i j : Nat} (hj : j < C.length) (hij : i < j) : (C[i]'(by omega)).u < (C[j]'hj).u := List.pairwise_iff_getElem.1 h.srt i j (by omega) hj hij
theorem RegOk.len {C : List CRow} (h : RegOk C) : C.length ≤ 6 := by
  have : ∀ k, (hk : k < C.length) → k ≤ (C[k]'hk).u := by
    intro k
    induction k with
    | zero => intro _; omega
    | succ k ih =>
      intro hk
      have := ih (by omega)
      have := h.lt hk (Nat.lt_succ_self k)
      omega
  rcases Nat.lt_or_ge C.length 7 with h7 | h7
  · omega
  · have h1 := this 6 (by omega)
    have h2 := (h.get (show 6 < C.length by omega)).u
    omega
theorem RegOk.uniq {K : List CRow} (h : RegOk K) {a b : CRow} (ha : a ∈ K) (hb : b ∈ K) (hab : a.u = b.u) : a = b := by
  obtain ⟨i, hi, rfl⟩ := List.getElem_of_mem ha
  obtain ⟨j, hj, rfl⟩ := List.getElem_of_mem hb
  rcases Nat.lt_trichotomy i j with hij | hij | hij
  · have := h.lt hj hij; omega
  · subst hij; rfl
  · have := h.lt hi hij; omega
theorem isTime_spec {t : Int} (h0 : 0 ≤ t) (h1 : t ≤ 1099511627776) : F_detection_isTime t = some true := by
  unfold F_detection_isTime
  rw [decT (show t ≥ 0 by omega), decT h1]
  rfl
theorem vclaim_spec {c : CRow} (h : CRowOk c) : F_detection_validClaim (clm c) = some true := by
  have a1 := h.n1; have a2 := h.q0; have a3 := h.q1; have a4 := h.s0; have a5 := h.s1; have a6 := h.t1
  unfold F_detection_validClaim
  have e1 : F_detection_isTime (clm c).Since = some true := isTime_spec (show 0 ≤ c.since by omega) (show c.since ≤ _ by omega)
  have e2 : F_detection_isTime (clm c).Until = some true := isTime_spec (show 0 ≤ c.till by omega) (show c.till ≤ _ by omega)
  have e3 : ((clm c).EUI != 0) = true := by show ((c.n : Int) != 0) = true; simp; omega
  rw [e1, e2, e3, decT (show (clm c).Sequence ≥ 0 from h.q0), decT (show (clm c).Sequence ≤ 1073741824 by show c.q ≤ _; omega), decT (show (clm c).Since ≤ (clm c).Until from h.s1)]
  rfl
theorem cvalid_spec {C : List CRow} (h : RegOk C) : F_detection_Valid (C.map clm) = some true := by
  have hl := h.len
  unfold F_detection_Valid
  rw [List.length_map, decF (show ¬ (C.length : Int) > 64 by omega)]
  have hl := loop_run (step := F_detection_Valid_l1 (C.map clm)) (S := fun k => (k : Int)) C.length (r := ()) (fun k hk => by
    unfold F_detection_Valid_l1
    rw [List.length_map, decT (show (k : Int) < (C.length : Int) by omega), idx_lt (by rw [List.length_map]; exact hk)]
    simp only [cond_true, Option.bind_some, List.getElem_map]
    rw [vclaim_spec (h.get hk)]
    simp only [Option.bind_some, cond_true]
    rw [wk k (by omega)]
    rcases k with _ | k
    · rfl
    · have hlt := h.lt hk (Nat.lt_succ_self k)
      rw [decT (show ((k + 1 : Nat) : Int) > 0 by omega), show IntKind.wrap .i64 (((k + 1 : Nat) : Int) - 1) = (k : Int) by rw [wi (by omega) (by omega)]; omega, idx_lt (by rw [List.length_map]; omega)]
      simp only [cond_true, Option.bind_some, List.getElem_map]
      have e1 : arrL 16 (clm (C[k]'(by omega))).IP = ipN (C[k]'(by omega)).u := arrL_id rfl
      have e2 : arrL 16 (clm (C[k + 1]'hk)).IP = ipN (C[k + 1]'hk).u := arrL_id rfl
      rw [e1, e2]
      have e3 : subO (ipN (C[k]'(by omega)).u) 0 (16 : Int) = some (ipN (C[k]'(by omega)).u) := by
        rw [subO_some (by omega) (by omega) (by show (16 : Int) ≤ 16; omega)]; rfl
      rw [e3]
      simp only [Option.bind_some]
      unfold F_bytes_Compare
      simp only [Option.bind_some, Cut.app]
      rw [cmp_ip _ (h.get (by omega)).u _ (h.get hk).u, if_pos hlt]
      rfl) (by
    unfold F_detection_Valid_l1
    rw [List.length_map, decF (show ¬ (C.length : Int) < (C.length : Int) by omega)]
    rfl)
  simp only [Int.natCast_zero] at hl
  rw [hl]
  rfl
def clive (now : Int) (c : CRow) : Bool := decide (c.till > now)
theorem not_clive {now : Int} {c : CRow} : decide ((clm c).Until ≤ now) = !clive now c := by
  show decide (c.till ≤ now) = !decide (c.till > now)
  by_cases h : c.till ≤ now
  · rw [decT h, decF (show ¬ c.till > now by omega)]; rfl
  · rw [decF h, decT (show c.till > now by omega)]; rfl
theorem cindex_spec {C : List CRow} (hl : C.length ≤ 6) (now : Int) : (∃ k, ∃ hk : k < C.length, clive now C[k] = false ∧ (∀ j (hj : j < C.length), j < k → clive now C[j] = true) ∧ F_slices_IndexFunc_api_Claim_api_Claim_C233_31 (C.map clm) now = some (k : Int)) ∨ ((∀ c ∈ C, clive now c = true) ∧ F_slices_IndexFunc_api_Claim_api_Claim_C233_31 (C.map clm) now = some (-1)) := by
  have hlp := loop_first (step := F_slices_IndexFunc_api_Claim_api_Claim_C233_31_l1 (C.map clm) now) (S := fun k => (k : Int)) C.length (fun k => clive now (C.getD k ⟨0, 0, 0, 0, 0⟩)) (fun k => Sum.inr (k : Int)) (re := Sum.inl ()) (fun k hk hp => by
    have hg : C.getD k ⟨0, 0, 0, 0, 0⟩ = C[k] := by rw [List.getD_eq_getElem?_getD, List.getElem?_eq_getElem hk]; rfl
    rw [hg] at hp
    unfold F_slices_IndexFunc_api_Claim_api_Claim_C233_31_l1 F_detection_current_1_R31
    rw [List.length_map, decT (show (k : Int) < (C.length : Int) by omega), idx_lt (by rw [List.length_map]; exact hk)]
    simp only [cond_true, Option.bind_some, List.getElem_map]
    rw [not_clive, hp, wk k (by omega)]
    rfl) (fun k hk hp => by
    have hg : C.getD k ⟨0, 0, 0, 0, 0⟩ = C[k] := by rw [List.getD_eq_getElem?_getD, List.getElem?_eq_getElem hk]; rfl
    rw [hg] at hp
    unfold F_slices_IndexFunc_api_Claim_api_Claim_C233_31_l1 F_detection_current_1_R31
    rw [List.length_map, decT (show (k : Int) < (C.length : Int) by omega), idx_lt (by rw [List.length_map]; exact hk)]
    simp only [cond_true, Option.bind_some, List.getElem_map]
    rw [not_clive, hp]
    rfl) (by
    unfold F_slices_IndexFunc_api_Claim_api_Claim_C233_31_l1
    rw [List.length_map, decF (show ¬ (C.length : Int) < (C.length : Int) by omega)]
    rfl)
  simp only [Int.natCast_zero] at hlp
  unfold F_slices_IndexFunc_api_Claim_api_Claim_C233_31
  have hg : ∀ k (hk : k < C.length), C.getD k ⟨0, 0, 0, 0, 0⟩ = C[k] := fun k hk => by rw [List.getD_eq_getElem?_getD, List.getElem?_eq_getElem hk]; rfl
  rcases hlp with ⟨k, hk, hp, hb, hlp⟩ | ⟨ha, hlp⟩
  · rw [hlp]
    exact .inl ⟨k, hk, by rw [hg k hk] at hp; exact hp, fun j hj hjk => by have := hb j hjk; rw [hg j hj] at this; exact this, rfl⟩
  · rw [hlp]
    refine .inr ⟨fun c hc => ?_, rfl⟩
    obtain ⟨k, hk, rfl⟩ := List.getElem_of_mem hc
    have := ha k hk
    rw [hg k hk] at this
    exact this
theorem clr_take {α : Type} (L : List α) (i m : Nat) (z : α) (hi : i ≤ L.length) : (clrL L i m z).take i = L.take i := by
  unfold clrL
  rw [List.append_assoc, List.take_append_of_le_length (by rw [List.length_take]; omega), List.take_take, Nat.min_self]
theorem current_spec {C : List CRow} (h : RegOk C) (now : Int) : F_detection_current_R (C.map clm) now = some ((C.filter (clive now)).map clm) := by
  have hl := h.len
  unfold F_detection_current_R F_slices_Clone_api_Claim_api_Claim_R
  simp only [List.length_nil, List.take_zero, Cut.app]
  rw [appO_some (by simp; omega) (by simp; omega)]
  simp only [List.nil_append, Option.bind_some]
  rcases cindex_spec hl now with ⟨k, hk, hkl, hb, he⟩ | ⟨ha, he⟩
  · rw [he]
    simp only [Option.bind_some]
    rw [beqF (show ¬ (k : Int) = -1 by omega), wk k (by omega)]
    simp only [cond_false]
    have hfk : (C.take (k + 1)).filter (clive now) = C.take k := by
      rw [filter_take hk, hkl]
      simp only [Bool.false_eq_true, if_false, List.append_nil]
      refine List.filter_eq_self.2 fun c hc => ?_
      obtain ⟨j, hj, rfl⟩ := List.getElem_of_mem hc
      rw [List.length_take] at hj
      rw [List.getElem_take]
      exact hb j (by omega) (by omega)
    obtain ⟨r, hr, L, rfl, hL1, hL2⟩ := loop_inv (step := F_detection_current_R_l2 now)
      (fun s => ∃ (j : Nat) (L : List CRow), s = ((((C.take j).filter (clive now)).length : Int), (j : Int), L.map clm) ∧ j ≤ C.length ∧ L.length = C.length ∧ L.take ((C.take j).filter (clive now)).length = (C.take j).filter (clive now) ∧ ∀ m, j ≤ m → L[m]? = C[m]?)
      (fun r => ∃ L : List CRow, r = (((C.filter (clive now)).length : Int), L.map clm) ∧ L.length = C.length ∧ L.take (C.filter (clive now)).length = C.filter (clive now))
      (fun s => (C.length - s.2.1).toNat) (by
        rintro _ ⟨j, L, rfl, hj, hL, hLt, hLm⟩
        unfold F_detection_current_R_l2 F_detection_current_R_j3 F_detection_current_1_R31
        dsimp only
        rw [List.length_map, hL]
        have hle : ((C.take j).filter (clive now)).length ≤ j := Nat.le_trans (List.length_filter_le _ _) (by rw [List.length_take]; omega)
        by_cases hjl : j < C.length
        · left
          have hLj : L[j]'(by omega) = C[j] := by
            have := hLm j (Nat.le_refl _)
            rw [List.getElem?_eq_getElem (by omega), List.getElem?_eq_getElem hjl] at this
            exact Option.some.inj this
          rw [decT (show (j : Int) < (C.length : Int) by omega)]
          simp only [cond_true, Cut.app, Nat.zero_add, Int.toNat_natCast]
          rw [idx_lt (by rw [List.length_map]; omega), List.getElem?_map, List.getElem?_eq_getElem (by omega), hLj]
          simp only [Option.bind_some, Option.map_some]
          rw [not_clive, wk j (by omega)]
          cases hc : clive now C[j]
          · simp only [Bool.not_false, cond_true]
            refine ⟨_, rfl, ⟨j + 1, L, ?_, by omega, hL, ?_, fun m hm => hLm m (by omega)⟩, ?_⟩
            · rw [filter_take hjl, hc]; simp
            · rw [filter_take hjl, hc]; simpa using hLt
            · dsimp only; omega
          · simp only [Bool.not_true, cond_false]
            rw [idx_lt (by rw [List.length_map]; omega), List.getElem?_map, List.getElem?_eq_getElem (by omega)]
            simp only [Option.bind_some, Option.map_some]
            rw [wk _ (by omega)]
            have hfl : (C.take (j + 1)).filter (clive now) = (C.take j).filter (clive now) ++ [C[j]] := by rw [filter_take hjl, hc]; simp
            refine ⟨_, rfl, ⟨j + 1, L.set ((C.take j).filter (clive now)).length C[j], ?_, by omega, by rw [List.length_set]; exact hL, ?_, fun m hm => ?_⟩, ?_⟩
            · rw [hfl, List.map_set]
              simp
            · rw [hfl, List.length_append, List.length_singleton, List.take_add_one, List.getElem?_set_self (by omega), List.take_set_of_le (Nat.le_refl _), hLt]
              rfl
            · rw [List.getElem?_set_ne (by omega)]
              exact hLm m (by omega)
            · dsimp only; omega
        · right
          rw [decF (show ¬ (j : Int) < (C.length : Int) by omega)]
          have : j = C.length := by omega
          subst this
          rw [List.take_length] at *
          exact ⟨_, rfl, L, rfl, hL, hLt⟩)
      ((k : Int), ((k + 1 : Nat) : Int), C.map clm) ⟨k + 1, C, by rw [hfk, List.length_take, Nat.min_eq_left (by omega)], by omega, rfl, by rw [hfk, List.length_take, Nat.min_eq_left (by omega)], fun _ _ => rfl⟩
    rw [hr]
    have hle : (C.filter (clive now)).length ≤ C.length := List.length_filter_le _ _
    simp only [Option.bind_some, List.length_map, Int.toNat_natCast, hL1]
    rw [decT (by omega), decT (by
      refine ⟨by omega, by omega, ?_⟩
      unfold clrL
      simp only [List.length_append, List.length_take, List.length_replicate, List.length_drop, List.length_map, hL1]
      omega)]
    simp only [cond_true]
    unfold F_detection_current_R_j1
    rw [clr_take _ _ _ _ (by rw [List.length_map]; omega), ← List.map_take, hL2]
  · rw [he]
    simp only [Option.bind_some]
    rw [List.filter_eq_self.2 ha]
    rfl
end
section
open Go.RowKit

theorem ccompare_ip {e : S_Claim} {u v : Nat} (he : e.IP = ipN u) (hu : u < 6) (hv : v < 6) : F_detection_Request_1 e (ipN v) = some (if u < v then -1 else if u = v then 0 else 1) := by
  unfold F_detection_Request_1 F_bytes_Compare
  have e1 : ∀ w, arrL 16 (ipN w) = ipN w := fun w => arrL_id rfl
  have e2 : ∀ w, subO (ipN w) 0 (16 : Int) = some (ipN w) := fun w => by rw [subO_some (by omega) (by omega) (by show (16 : Int) ≤ 16; omega)]; rfl
  rw [he]
  simp only [e1, e2, Cut.app, Option.bind_some]
  rw [cmp_ip u hu v hv]
/-- where a number would stand -/
structure CAt (K : List CRow) (v p : Nat) : Prop where
  le : p ≤ K.length
  lo : ∀ k (hk : k < K.length), k < p → K[k].u < v
  hi : ∀ k (hk : k < K.length), p ≤ k → v ≤ K[k].u
theorem cbs_loop {K : List CRow} (h : RegOk K) {v : Nat} (hv : v < 6) : ∃ r, loopO (F_slices_BinarySearchFunc_api_Claim_api_Claim_api_IP_F2142_l1 (K.map clm) (ipN v)) (0, (List.length (K.map clm) : Int)) = some r ∧ ∃ p : Nat, r = (p : Int) ∧ CAt K v p := by
  have hl := h.len
  refine loop_inv (fun s => ∃ i j : Nat, s = ((i : Int), (j : Int)) ∧ i ≤ j ∧ j ≤ K.length ∧ (∀ k (hk : k < K.length), k < i → K[k].u < v) ∧ (∀ k (hk : k < K.length), j ≤ k → v ≤ K[k].u)) _ (fun s => (s.2 - s.1).toNat) ?_ _ ⟨0, K.length, by simp, by omega, by omega, fun k hk h => by omega, fun k hk h => by omega⟩
  rintro _ ⟨i, j, rfl, hij, hj, h1, h2⟩
  unfold F_slices_BinarySearchFunc_api_Claim_api_Claim_api_IP_F2142_l1
  dsimp only
  by_cases hlt : i < j
  · left
    rw [decT (show (i : Int) < (j : Int) by omega), half_spec (by omega)]
    have hm : (i + j) / 2 < K.length := by omega
    simp only [cond_true]
    rw [idx_lt (by rw [List.length_map]; exact hm)]
    simp only [Option.bind_some, List.getElem_map]
    rw [ccompare_ip (u := K[(i + j) / 2].u) rfl (h.get hm).u hv]
    simp only [Option.bind_some]
    by_cases hc : K[(i + j) / 2].u < v
    · rw [if_pos hc, decT (show (-1 : Int) < 0 by omega), wk _ (by omega)]
      refine ⟨_, rfl, ⟨(i + j) / 2 + 1, j, rfl, by omega, hj, fun k hk hlt' => ?_, h2⟩, ?_⟩
      · by_cases hk2 : k = (i + j) / 2
        · subst hk2; exact hc
        · have := h.lt hm (show k < (i + j) / 2 by omega); omega
      · dsimp only; omega
    · have : ¬ ((if K[(i + j) / 2].u < v then -1 else if K[(i + j) / 2].u = v then 0 else 1 : Int) < 0) := by
        rw [if_neg hc]; split <;> omega
      rw [decF this]
      refine ⟨_, rfl, ⟨i, (i + j) / 2, rfl, by omega, by omega, h1, fun k hk hle => ?_⟩, ?_⟩
      · by_cases hk2 : k = (i + j) / 2
        · subst hk2; omega
        · have := h.lt hk (show (i + j) / 2 < k by omega); omega
      · dsimp only; omega
  · right
    rw [decF (show ¬ (i : Int) < (j : Int) by omega)]
    have : i = j := by omega
    subst this
    exact ⟨_, rfl, i, rfl, hj, h1, h2⟩
theorem cbs_spec {K : List CRow} (h : RegOk K) {v : Nat} (hv : v < 6) : ∃ p, CAt K v p ∧ F_slices_BinarySearchFunc_api_Claim_api_Claim_api_IP_F2142 (K.map clm) (ipN v) = some ((p : Int), decide (∃ hp : p < K.length, K[p].u = v)) := by
  obtain ⟨r, h1, p, rfl, hat⟩ := cbs_loop h hv
  refine ⟨p, hat, ?_⟩
  unfold F_slices_BinarySearchFunc_api_Claim_api_Claim_api_IP_F2142
  rw [h1]
  simp only [Option.bind_some, List.length_map]
  by_cases hp : p < K.length
  · rw [decT (show (p : Int) < (K.length : Int) by omega), idx_lt (by rw [List.length_map]; exact hp)]
    simp only [cond_true, Option.bind_some, List.getElem_map]
    rw [ccompare_ip (u := K[p].u) rfl (h.get hp).u hv]
    simp only [Option.bind_some]
    have := hat.hi p hp (Nat.le_refl _)
    by_cases he : K[p].u = v
    · rw [if_neg (by omega), if_pos he, decT ⟨hp, he⟩]; rfl
    · rw [if_neg (by omega), if_neg he, decF (fun ⟨_, q⟩ => he q)]; rfl
  · rw [decF (show ¬ (p : Int) < (K.length : Int) by omega), decF (fun ⟨q, _⟩ => hp q)]; rfl
theorem RegOk.set {K : List CRow} (h : RegOk K) {p : Nat} (hp : p < K.length) {x : CRow} (hx : CRowOk x) (hu : x.u = K[p].u) : RegOk (K.set p x) := by
  refine ⟨fun r hr => (List.mem_or_eq_of_mem_set hr).elim (h.ok r) (fun e => e ▸ hx), List.pairwise_iff_getElem.2 fun i j hi hj hij => ?_⟩
  have hget : ∀ k (hk : k < (K.set p x).length), ((K.set p x)[k]'hk).u = (K[k]'(by rw [List.length_set] at hk; exact hk)).u := by
    intro k hk
    rw [List.getElem_set]
    split
    · rename_i e; subst e; exact hu
    · rfl
  rw [hget, hget]
  exact h.lt (by rw [List.length_set] at hj; exact hj) hij
theorem RegOk.ins {K : List CRow} (h : RegOk K) {p : Nat} {x : CRow} (hx : CRowOk x) (ha : CAt K x.u p) (hn : ¬ ∃ hp : p < K.length, K[p].u = x.u) : RegOk (K.take p ++ [x] ++ K.drop p) := by
  refine ⟨fun r hr => ?_, ?_⟩
  · simp only [List.mem_append, List.mem_singleton] at hr
    rcases hr with (hr | hr) | hr
    · exact h.ok r (List.mem_of_mem_take hr)
    · rw [hr]; exact hx
    · exact h.ok r (List.mem_of_mem_drop hr)
  · have hlo : ∀ a ∈ K.take p, a.u < x.u := by
      intro a ha'
      obtain ⟨k, hk, rfl⟩ := List.getElem_of_mem ha'
      rw [List.length_take] at hk
      rw [List.getElem_take]
      exact ha.lo k (by omega) (by omega)
    have hhi : ∀ b ∈ K.drop p, x.u < b.u := by
      intro b hb
      obtain ⟨k, hk, rfl⟩ := List.getElem_of_mem hb
      rw [List.length_drop] at hk
      rw [List.getElem_drop]
      have h1 := ha.hi (p + k) (by omega) (by omega)
      rcases Nat.lt_or_ge x.u (K[p + k]'(by omega)).u with h2 | h2
      · exact h2
      · exfalso
        rcases k with _ | k
        · exact hn ⟨by omega, by simp only [Nat.add_zero] at h1 h2; omega⟩
        · have h3 := h.lt (show p + (k + 1) < K.length by omega) (show p < p + (k + 1) by omega)
          have h4 := ha.hi p (by omega) (Nat.le_refl _)
          omega
    refine List.pairwise_append.2 ⟨List.pairwise_append.2 ⟨h.srt.sublist (List.take_sublist _ _), by simp, fun a ha' b hb => by rw [List.mem_singleton.1 hb]; exact hlo a ha'⟩, h.srt.sublist (List.drop_sublist _ _), fun a ha' b hb => ?_⟩
    rcases List.mem_append.1 ha' with ha' | ha'
    · have := hlo a ha'; have := hhi b hb; omega
    · rw [List.mem_singleton.1 ha']; exact hhi b hb
theorem cmem_set_ne {K : List CRow} (h : RegOk K) {p : Nat} (hp : p < K.length) {x y : CRow} (hy : y ∈ K.set p x) (hu : x.u = K[p].u) : y = x ∨ (y ∈ K ∧ y.u ≠ x.u) := by
  obtain ⟨k, hk, rfl⟩ := List.getElem_of_mem hy
  rw [List.length_set] at hk
  rw [List.getElem_set]
  split
  · exact .inl rfl
  · rename_i hne
    refine .inr ⟨List.getElem_mem _, fun e => ?_⟩
    rw [hu] at e
    rcases Nat.lt_trichotomy k p with hij | hij | hij
    · have := h.lt hp hij; omega
    · exact hne hij.symm
    · have := h.lt hk hij; omega

/-- what Request does -/
structure ReqOut (C : List CRow) (u n : Nat) (q now life : Int) (C' : List CRow) (status : Int) : Prop where
  ok : RegOk C'
  keep : ∀ c ∈ C, clive now c = true → c.u ≠ u → c ∈ C'
  frm : ∀ c ∈ C', (c ∈ C ∧ clive now c = true) ∨ (c.u = u ∧ c.n = n ∧ c.q = q ∧ c.since ≤ now)
  out : (status = 1 ∧ (∃ c ∈ C, clive now c = true ∧ c.u = u ∧ c.n ≠ n) ∧ ∀ c ∈ C, clive now c = true → c ∈ C') ∨ (status = 0 ∧ (∃ c ∈ C', c.u = u ∧ c.n = n ∧ c.till = now + life) ∧ ∀ c ∈ C, clive now c = true → c.u = u → c.n = n)
theorem request_spec {C : List CRow} (h : RegOk C) {u n : Nat} {q now life : Int} (hu : u < 6) (hn1 : 1 ≤ n) (hn3 : n ≤ 3) (hq1 : 0 ≤ q) (hq2 : q ≤ 15) (h0 : 0 ≤ now) (h1 : now ≤ 500) (hl1 : 1 ≤ life) (hl2 : life ≤ 40) (hsq : ∀ c ∈ C, c.n = n → c.q ≤ q) (hsn : ∀ c ∈ C, c.since ≤ now) :
    ∃ C' status, F_detection_Request (C.map clm) now (ipN u) n q life = some (C'.map clm, status, 0) ∧ ReqOut C u n q now life C' status := by
  have hK := h.filter (clive now)
  obtain ⟨p, hat, hbs⟩ := cbs_spec hK hu
  have hKl := hK.len
  unfold F_detection_Request F_detection_Request_j1 F_detection_later
  rw [cvalid_spec h, isTime_spec h0 (by omega), isTime_spec (show 0 ≤ life by omega) (by omega), current_spec h now]
  have en : ((n : Int) == 0) = false := by simp; omega
  simp only [Option.bind_some, cond_true, en, cond_false]
  rw [decF (show ¬ q < 0 by omega), decF (show ¬ q > 1073741824 by omega)]
  simp only [cond_false]
  rw [hbs]
  have ew : IntKind.wrap .i64 (now + life) = now + life := wi (by omega) (by omega)
  simp only [Option.bind_some, ew]
  rw [if_neg (show ¬ (1099511627776 : Int) < now + life by omega)]
  have el : (life == 0) = false := by simp; omega
  have hmem : ∀ x ∈ C.filter (clive now), x ∈ C ∧ clive now x = true := fun x hx => List.mem_filter.1 hx
  have hmem2 : ∀ x ∈ C, clive now x = true → x ∈ C.filter (clive now) := fun x hx hl => List.mem_filter.2 ⟨hx, hl⟩
  generalize hKe : C.filter (clive now) = K at *
  by_cases hf : ∃ hp : p < K.length, K[p].u = u
  · rw [decT hf, cond_true]
    obtain ⟨hp, hpu⟩ := hf
    have hpm : K[p] ∈ K := List.getElem_mem hp
    generalize hr : K[p] = r at *
    have hrC := hmem r hpm
    have hrok := h.ok r hrC.1
    have hpl : p < (K.map clm).length := by rw [List.length_map]; exact hp
    have hget : (K.map clm)[(0 + (p : Int).toNat)]? = some (clm r) := by
      rw [Nat.zero_add, Int.toNat_natCast, List.getElem?_map, List.getElem?_eq_getElem hp, hr]; rfl
    simp only [Cut.app]
    rw [idx_lt hpl]
    simp only [Option.bind_some]
    rw [hget]
    simp only [Option.bind_some]
    have huq : ∀ c ∈ C, clive now c = true → c.u = u → c = r := fun c hc hlc hcu => hK.uniq (hmem2 c hc hlc) hpm (by rw [hcu, hpu])
    by_cases hne : r.n = n
    · have e1 : ((clm r).EUI != (n : Int)) = false := by show ((r.n : Int) != (n : Int)) = false; rw [hne]; simp
      have hle := hsq r hrC.1 hne
      rw [e1, decF (show ¬ (clm r).Sequence > q by show ¬ r.q > q; omega), el]
      simp only [cond_false, Nat.zero_add, Int.toNat_natCast]
      have hset : ∀ y : S_Claim, ((K.map clm).set p y).length = (K.map clm).length := fun y => List.length_set
      rw [idx_lt (by rw [hset]; exact hpl)]
      simp only [Option.bind_some]
      rw [List.getElem?_set_self hpl]
      simp only [Option.bind_some]
      rw [List.set_set]
      have hsr := hsn r hrC.1
      rw [if_neg (show ¬ now + life < (S_Claim.mk (clm r).IP (clm r).EUI q (clm r).Since (clm r).Until).Since by show ¬ now + life < r.since; omega)]
      refine ⟨K.set p ⟨u, n, q, r.since, now + life⟩, 0, ?_, hK.set hp ⟨hu, hn1, hn3, hq1, hq2, hrok.s0, by dsimp only; omega, by dsimp only; omega⟩ (by rw [hr]; exact hpu.symm), ?_, ?_, .inr ⟨rfl, ⟨⟨u, n, q, r.since, now + life⟩, ?_, rfl, rfl, rfl⟩, ?_⟩⟩
      · rw [List.map_set]
        congr 2
        show (List.map clm K).set p (S_Claim.mk (ipN r.u) (r.n : Int) q r.since (now + life)) = _
        rw [hpu, hne]
        rfl
      · intro c hc hlc hcu
        have hcK := hmem2 c hc hlc
        obtain ⟨k, hk, rfl⟩ := List.getElem_of_mem hcK
        have hkp : k ≠ p := fun e => hcu (by subst e; rw [hr]; exact hpu)
        exact List.mem_iff_getElem.2 ⟨k, by rw [List.length_set]; exact hk, by rw [List.getElem_set_ne (Ne.symm hkp)]⟩
      · intro c hc
        rcases cmem_set_ne hK hp hc (by rw [hr]; exact hpu.symm) with e2 | ⟨e2, _⟩
        · rw [e2]; exact .inr ⟨rfl, rfl, rfl, hsr⟩
        · exact .inl (hmem c e2)
      · exact List.mem_iff_getElem.2 ⟨p, by rw [List.length_set]; exact hp, by rw [List.getElem_set_self]⟩
      · intro c hc hlc hcu
        rw [huq c hc hlc hcu]; exact hne
    · have e1 : ((clm r).EUI != (n : Int)) = true := by show ((r.n : Int) != (n : Int)) = true; simp; omega
      rw [e1, cond_true]
      exact ⟨K, 1, rfl, hK, fun c hc hlc _ => hmem2 c hc hlc, fun c hc => .inl (hmem c hc), .inl ⟨rfl, ⟨r, hrC.1, hrC.2, hpu, hne⟩, fun c hc hlc => hmem2 c hc hlc⟩⟩
  · rw [decF hf, cond_false, el, cond_false, List.length_map, decF (show ¬ (K.length : Int) ≥ 64 by omega), cond_false]
    have hp := hat.le
    have hins : insO 48 (K.map clm) (p : Int) (S_Claim.mk (ipN u) n q now (now + life)) = some ((K.take p ++ [CRow.mk u n q now (now + life)] ++ K.drop p).map clm) := by
      unfold insO
      rw [if_pos ⟨by omega, by rw [List.length_map]; omega, by rw [List.length_map]; omega, by rw [List.length_map]; unfold maxLen; omega⟩, Int.toNat_natCast]
      simp only [List.map_append, List.map_take, List.map_drop, List.map_cons, List.map_nil]
      rfl
    rw [hins, Option.bind_some]
    have hx : CRowOk ⟨u, n, q, now, now + life⟩ := ⟨hu, hn1, hn3, hq1, hq2, h0, by dsimp only; omega, by dsimp only; omega⟩
    have hne : ∀ c ∈ K, c.u ≠ u := by
      intro c hc e
      obtain ⟨k, hk, rfl⟩ := List.getElem_of_mem hc
      rcases Nat.lt_or_ge k p with hkp | hkp
      · have := hat.lo k hk hkp; omega
      · rcases Nat.eq_or_lt_of_le hkp with e2 | e2
        · exact hf ⟨by omega, by subst e2; exact e⟩
        · have h3 := hK.lt hk e2
          have h4 := hat.hi p (by omega) (Nat.le_refl _)
          omega
    refine ⟨_, 0, rfl, hK.ins hx hat hf, fun c hc hlc _ => ?_, fun c hc => ?_, .inr ⟨rfl, ⟨⟨u, n, q, now, now + life⟩, by simp, rfl, rfl, rfl⟩, fun c hc hlc hcu => absurd hcu (hne c (hmem2 c hc hlc))⟩⟩
    · have := hmem2 c hc hlc
      rw [← List.take_append_drop p K] at this
      rcases List.mem_append.1 this with h2 | h2
      · exact List.mem_append_left _ (List.mem_append_left _ h2)
      · exact List.mem_append_right _ h2
    · simp only [List.mem_append, List.mem_singleton] at hc
      rcases hc with (hc | hc) | hc
      · exact .inl (hmem c (List.mem_of_mem_take hc))
      · rw [hc]; exact .inr ⟨rfl, rfl, rfl, Int.le_refl _⟩
      · exact .inl (hmem c (List.mem_of_mem_drop hc))
/-- Owner tells the owner of a live claim -/
theorem owner_spec {C : List CRow} (h : RegOk C) {v : Nat} (hv : v < 6) {now : Int} (h0 : 0 ≤ now) (h1 : now ≤ 1000) :
    ∃ e f, F_detection_Owner (C.map clm) now (ipN v) = some (e, f) ∧ ∀ c ∈ C, c.u = v → clive now c = true → f = true ∧ e = (c.n : Int) := by
  have hl := h.len
  unfold F_detection_Owner
  rw [cvalid_spec h, isTime_spec h0 (by omega)]
  simp only [Option.bind_some, cond_true]
  have hg : ∀ k (hk : k < C.length), C.getD k ⟨0, 0, 0, 0, 0⟩ = C[k] := fun k hk => by rw [List.getD_eq_getElem?_getD, List.getElem?_eq_getElem hk]; rfl
  have eq : ∀ k (hk : k < C.length), arrEq 16 (clm C[k]).IP (ipN v) = decide (C[k].u = v) := fun k hk => eq_ip _ (h.get hk).u v hv
  have hlp := loop_first (step := F_detection_Owner_l1 (C.map clm) (ipN v) now) (S := fun k => (k : Int)) C.length (fun k => !(decide ((C.getD k ⟨0, 0, 0, 0, 0⟩).u = v) && clive now (C.getD k ⟨0, 0, 0, 0, 0⟩))) (fun k => Sum.inr (((C.getD k ⟨0, 0, 0, 0, 0⟩).n : Int), true)) (re := Sum.inl ()) (fun k hk hp => by
    rw [hg k hk] at hp
    unfold F_detection_Owner_l1
    rw [List.length_map, decT (show (k : Int) < (C.length : Int) by omega), idx_lt (by rw [List.length_map]; exact hk)]
    simp only [cond_true, Option.bind_some, List.getElem_map]
    rw [eq k hk, show decide ((clm C[k]).Until > now) = clive now C[k] from rfl, wk k (by omega)]
    cases hd : decide (C[k].u = v)
    · rfl
    · rw [hd, Bool.true_and] at hp
      cases hs : clive now C[k]
      · rfl
      · rw [hs] at hp; cases hp) (fun k hk hp => by
    rw [hg k hk] at hp ⊢
    unfold F_detection_Owner_l1
    rw [List.length_map, decT (show (k : Int) < (C.length : Int) by omega), idx_lt (by rw [List.length_map]; exact hk)]
    simp only [cond_true, Option.bind_some, List.getElem_map]
    rw [eq k hk, show decide ((clm C[k]).Until > now) = clive now C[k] from rfl]
    simp only [Bool.not_eq_false', Bool.and_eq_true] at hp
    rw [hp.1, hp.2]
    rfl) (by
    unfold F_detection_Owner_l1
    rw [List.length_map, decF (show ¬ (C.length : Int) < (C.length : Int) by omega)]
    rfl)
  simp only [Int.natCast_zero] at hlp
  rcases hlp with ⟨k, hk, hp, _, hlp⟩ | ⟨ha, hlp⟩
  · rw [hlp]
    rw [hg k hk] at hp ⊢
    simp only [Bool.not_eq_false', Bool.and_eq_true, decide_eq_true_eq] at hp
    refine ⟨_, _, rfl, fun c hc hcu hcl => ⟨rfl, ?_⟩⟩
    have := h.uniq hc (List.getElem_mem hk) (by rw [hcu, hp.1])
    rw [this]
  · rw [hlp]
    refine ⟨_, _, rfl, fun c hc hcu hcl => ?_⟩
    obtain ⟨k, hk, rfl⟩ := List.getElem_of_mem hc
    have := ha k hk
    rw [hg k hk, hcl, decT hcu] at this
    cases this
end
section
open Go.RowKit

theorem ior_comm (x y : Int) : ior .u64 x y = ior .u64 y x := by unfold ior; rw [BitVec.or_comm]
theorem be_step {v c : Int} (h0 : 0 ≤ v) (h1 : v < 72057594037927936) (c0 : 0 ≤ c) (c1 : c ≤ 255) : ior .u64 (ishl .u64 v 8) (IntKind.wrap .u64 c) = v * 256 + c := by
  have e : (2 : Int) ^ (8 : Int).toNat = 2 ^ 8 := rfl
  have e2 : (256 : Int) = 2 ^ 8 := rfl
  rw [ishl_eq (by omega) (by omega), wu c0 (by omega), e, Int.emod_eq_of_lt (Int.mul_nonneg h0 (by decide)) (by rw [← e2]; omega), ior_comm, ior_add 8 c0 (by omega) h0 (by rw [← e2]; omega)]
  omega
theorem be_fold (l : List Int) (h : okB l) (h8 : l.length ≤ 8) (k : Nat) (hk : k < l.length) : ior .u64 (ishl .u64 (beN (l.take k)) 8) (IntKind.wrap .u64 l[k]) = beN (l.take (k + 1)) := by
  have hb := beN_bd (h.take k)
  have hl : (l.take k).length = k := by rw [List.length_take]; omega
  have hp : (256 : Int) ^ k ≤ 72057594037927936 := by
    have : k ≤ 7 := by omega
    rcases k with _ | _ | _ | _ | _ | _ | _ | _ | k
    all_goals first | decide | omega
  rw [hl] at hb
  have hx := h.get hk
  rw [be_step hb.1 (by omega) hx.1 hx.2, take_snoc (List.getElem?_eq_getElem hk), beN_snoc]
theorem beN_beB (v : Int) (n : Nat) : beN (beB v n) = v % 256 ^ n := by
  induction n generalizing v with
  | zero => simp [beB, beN, Int.emod_one]
  | succ n ih =>
    have e : beB v (n + 1) = beB (v / 256) n ++ [v % 256] := by
      apply List.ext_getElem?
      intro i
      rcases Nat.lt_trichotomy i n with hi | hi | hi
      · rw [beB_get (by omega), List.getElem?_append_left (by rw [beB_len]; exact hi), beB_get hi]
        congr 2
        rw [show n + 1 - 1 - i = (n - 1 - i) + 1 by omega, Nat.mul_add, Int.pow_add]
        rw [Int.mul_comm, ← Int.ediv_ediv_of_nonneg (by decide)]
        rfl
      · subst hi
        rw [beB_get (by omega), List.getElem?_append_right (by rw [beB_len]; exact Nat.le_refl _), beB_len]
        simp
      · rw [List.getElem?_eq_none (by rw [beB_len]; omega), List.getElem?_eq_none (by simp [beB_len]; omega)]
    rw [e, beN_snoc, ih, Int.pow_succ]
    have h1 := Int.emod_add_mul_ediv v 256
    have h2 := Int.emod_add_mul_ediv (v / 256) (256 ^ n)
    have hp : (0 : Int) < 256 ^ n := Int.pow_pos (by decide)
    have h3 := Int.emod_nonneg (v / 256) (Int.ne_of_gt hp)
    have h4 := Int.emod_lt_of_pos (v / 256) hp
    have h5 := Int.emod_nonneg v (show (256 : Int) ≠ 0 by decide)
    have h6 := Int.emod_lt_of_pos v (show (0 : Int) < 256 by decide)
    have h7 : v = (v / 256 % 256 ^ n * 256 + v % 256) + (256 ^ n * 256) * (v / 256 / 256 ^ n) := by
      have : 256 * (256 ^ n * (v / 256 / 256 ^ n)) = (256 ^ n * 256) * (v / 256 / 256 ^ n) := by
        rw [← Int.mul_assoc, Int.mul_comm (256 : Int) (256 ^ n)]
      omega
    have h8 : (0 : Int) ≤ v / 256 % 256 ^ n * 256 + v % 256 := by omega
    have h9 : v / 256 % 256 ^ n * 256 + v % 256 < 256 ^ n * 256 := by omega
    conv => rhs; rw [h7]
    rw [Int.add_mul_emod_self_left, Int.emod_eq_of_lt h8 h9]
theorem uint_loop {l : List Int} (h : okB l) (h8 : l.length ≤ 8) : loopO (F_octets_Uint_l1 l) (0, 0) = some (beN l) := by
  have hl := loop_run (step := F_octets_Uint_l1 l) (S := fun k => (beN (l.take k), (k : Int))) l.length (r := beN l) (fun k hk => by
    unfold F_octets_Uint_l1
    dsimp only
    rw [decT (show (k : Int) < (l.length : Int) by omega), idx_lt hk]
    simp only [cond_true, Option.bind_some]
    rw [be_fold l h h8 k hk, wk k (by omega)]) (by
    unfold F_octets_Uint_l1
    dsimp only
    rw [decF (show ¬ (l.length : Int) < (l.length : Int) by omega)]
    simp only [cond_false, List.take_length])
  exact hl
/-- octets.Uint within the list -/
theorem uint_some {b : List Int} (h : okB b) (hb : b.length ≤ 1000000000000) (i n : Nat) (h1 : 1 ≤ n) (h8 : n ≤ 8) (hi : i + n ≤ b.length) : F_octets_Uint b i n = some (beN ((b.drop i).take n), true) := by
  unfold F_octets_Uint
  rw [decF (show ¬ (n : Int) < 1 by omega), decF (show ¬ (n : Int) > 8 by omega), decF (show ¬ (i : Int) < 0 by omega), wi (by omega) (by omega), decF (show ¬ (i : Int) > (b.length : Int) - (n : Int) by omega), wi (by omega) (by omega), subO_some (by omega) (by omega) (by omega)]
  simp only [cond_false, Option.bind_some]
  rw [show (b.take ((i : Int) + (n : Int)).toNat).drop (i : Int).toNat = (b.drop i).take n by rw [show ((i : Int) + (n : Int)).toNat = i + n by omega, Int.toNat_natCast, List.drop_take, Nat.add_sub_cancel_left]]
  rw [uint_loop ((h.drop i).take n) (by rw [List.length_take]; omega)]
  rfl
end
section
open Go.RowKit

def zeros16 : List Int := [0, 0, 0, 0, 0, 0, 0, 0, 0, 0, 0, 0, 0, 0, 0, 0]
def msgN (kind st q life : Int) (n u : Nat) : S_Message := S_Message.mk kind 0 0 (ipN u) (S_Addr.mk 0 0 0) (S_Owner.mk n q st life) true ([] : List S_PrefixInfo) ([] : List S_ContextInfo) (S_Border.mk 0 0 zeros16) false
def lay32 : S_discovery_layout := S_discovery_layout.mk false true false false true 32
theorem lay_157 : F_discovery_layoutOf 157 = some (lay32, true) := by kernel_rfl
theorem lay_158 : F_discovery_layoutOf 158 = some (lay32, true) := by kernel_rfl
structure MsgOk (kind st q life : Int) (n u : Nat) : Prop where
  k : kind = 157 ∨ kind = 158
  s0 : 0 ≤ st
  s1 : st ≤ 255
  q0 : 0 ≤ q
  q1 : q ≤ 255
  l0 : 0 ≤ life
  l1 : life ≤ 65535
  n3 : n ≤ 3
  u6 : u < 6
theorem lay_spec {kind st q life : Int} {n u : Nat} (h : MsgOk kind st q life n u) : F_discovery_layoutOf kind = some (lay32, true) := by
  rcases h.k with rfl | rfl
  · exact lay_157
  · exact lay_158
theorem mvalid_spec {kind st q life : Int} {n u : Nat} (h : MsgOk kind st q life n u) : F_discovery_Valid (msgN kind st q life n u) = some true := by
  unfold F_discovery_Valid
  rw [show (msgN kind st q life n u).Type_ = kind from rfl, lay_spec h]
  kernel_rfl
/-- the bytes behind the checksum -/
def tailN (st q life : Int) (n u : Nat) : List Int := [st, q] ++ beB life 2 ++ beB n 8 ++ ipN u
theorem ipN_ok {u : Nat} (hu : u < 6) : okB (ipN u) := by
  intro z hz
  simp only [ipN, List.mem_cons, List.not_mem_nil, or_false] at hz
  omega
theorem tailN_ok {kind st q life : Int} {n u : Nat} (h : MsgOk kind st q life n u) : okB (tailN st q life n u) := by
  unfold tailN
  have h1 := h.s0; have h2 := h.s1; have h3 := h.q0; have h4 := h.q1
  exact ((okB_cons ⟨h1, h2⟩ (okB_one ⟨h3, h4⟩)).append (beB_ok _ _)).append (beB_ok _ _) |>.append (ipN_ok h.u6)
theorem tailN_len (st q life : Int) (n u : Nat) : (tailN st q life n u).length = 28 := by
  simp [tailN, beB_len, ipN]
theorem total_inner {e : List Int} (he : okB e) (hl : e.length ≤ 100) {a : Int} {f : Bool} (ha : 0 ≤ a) (hb : a ≤ 1000000000) : ∃ r, loopO (F_checksum_total_l2 e) (a, f, 0) = some r ∧ 0 ≤ r.1 ∧ r.1 ≤ a + 6553500 := by
  obtain ⟨r, h1, h2⟩ := loop_inv (step := F_checksum_total_l2 e) (fun s => 0 ≤ s.2.2 ∧ s.2.2 ≤ e.length ∧ 0 ≤ s.1 ∧ s.1 ≤ a + 65535 * s.2.2) (fun r => 0 ≤ r.1 ∧ r.1 ≤ a + 65535 * e.length) (fun s => ((e.length : Int) - s.2.2).toNat) (by
    rintro ⟨x, g, i⟩ ⟨i0, i1, x0, x1⟩
    dsimp only at i0 i1 x0 x1
    unfold F_checksum_total_l2 F_checksum_total_j3
    dsimp only
    by_cases hi : i < (e.length : Int)
    · left
      rw [decT hi, idx_int i0 hi]
      simp only [cond_true, Option.bind_some]
      have hx := he.get (show i.toNat < e.length by omega)
      generalize e[i.toNat]'(by omega) = y at hx
      have e1 : IntKind.wrap .u64 y = y := wu hx.1 (by omega)
      have e2 : ishl .u64 y 8 = y * 256 := by
        rw [ishl_eq (by omega) (by omega)]
        have : (2 : Int) ^ (8 : Int).toNat = 256 := rfl
        rw [this, Int.emod_eq_of_lt (by omega) (by omega)]
      rw [e1, e2, wi (show -9223372036854775808 ≤ i + 1 by omega) (by omega)]
      cases g
      · simp only [cond_false]
        rw [wu (by omega) (by omega)]
        refine ⟨_, rfl, ⟨by dsimp only; omega, by dsimp only; omega, by dsimp only; omega, by dsimp only; omega⟩, by dsimp only; omega⟩
      · simp only [cond_true]
        rw [wu (by omega) (by omega)]
        refine ⟨_, rfl, ⟨by dsimp only; omega, by dsimp only; omega, by dsimp only; omega, by dsimp only; omega⟩, by dsimp only; omega⟩
    · right
      rw [decF hi]
      exact ⟨_, rfl, by dsimp only; omega, by dsimp only; omega⟩) (a, f, 0) ⟨by dsimp only; omega, by dsimp only; omega, by dsimp only; omega, by dsimp only; omega⟩
  exact ⟨r, h1, h2.1, by omega⟩
theorem total_spec {l : List (List Int)} (h : ∀ e ∈ l, okB e ∧ e.length ≤ 100) (hl : l.length ≤ 100) : ∃ v, F_checksum_total l = some v ∧ 0 ≤ v ∧ v ≤ 700000000 := by
  unfold F_checksum_total
  obtain ⟨r, h1, h2⟩ := loop_inv (step := F_checksum_total_l1 l) (fun s => 0 ≤ s.2.2 ∧ s.2.2 ≤ l.length ∧ 0 ≤ s.1 ∧ s.1 ≤ 6553500 * s.2.2) (fun r => 0 ≤ r ∧ r ≤ 700000000) (fun s => ((l.length : Int) - s.2.2).toNat) (by
    rintro ⟨x, g, i⟩ ⟨i0, i1, x0, x1⟩
    dsimp only at i0 i1 x0 x1
    unfold F_checksum_total_l1
    dsimp only
    by_cases hi : i < (l.length : Int)
    · left
      rw [decT hi, idx_int i0 hi]
      simp only [cond_true, Option.bind_some]
      have he := h (l[i.toNat]'(by omega)) (List.getElem_mem _)
      obtain ⟨r, hr, r0, r1⟩ := total_inner (f := g) he.1 he.2 x0 (by omega)
      rw [hr, wi (by omega) (by omega)]
      exact ⟨_, rfl, ⟨by dsimp only; omega, by dsimp only; omega, r0, by dsimp only; omega⟩, by dsimp only; omega⟩
    · right
      rw [decF hi]
      exact ⟨_, rfl, x0, by omega⟩) (0, true, 0) ⟨by dsimp only; omega, by dsimp only; omega, by dsimp only; omega, by dsimp only; omega⟩
  rw [h1]
  exact ⟨r, rfl, h2⟩
theorem fold_spec {a : Int} (h0 : 0 ≤ a) (h1 : a ≤ 700000000) : ∃ v, F_checksum_fold a = some v ∧ 0 ≤ v ∧ v ≤ 65535 := by
  unfold F_checksum_fold
  obtain ⟨r, h2, h3⟩ := loop_inv (step := F_checksum_fold_l1) (fun s => 0 ≤ s ∧ s ≤ 700000000) (fun r => 0 ≤ r ∧ r ≤ 65535) (fun s => s.toNat) (by
    rintro x ⟨x0, x1⟩
    unfold F_checksum_fold_l1
    by_cases hx : x > 65535
    · left
      rw [decT hx]
      have e1 : Int.tmod x 65536 = x % 65536 := Int.tmod_eq_emod_of_nonneg x0
      have e2 : iquo .u64 x 65536 = x / 65536 := by
        unfold iquo
        rw [Int.tdiv_eq_ediv_of_nonneg x0, wu (by omega) (by omega)]
      rw [e1, e2, wu (by omega) (by omega)]
      exact ⟨_, rfl, ⟨by omega, by omega⟩, by omega⟩
    · right
      rw [decF hx]
      exact ⟨_, rfl, x0, by omega⟩) a ⟨h0, h1⟩
  rw [h2]
  exact ⟨_, rfl, by rw [wu16 h3.1 (by omega)]; exact h3.1, by rw [wu16 h3.1 (by omega)]; exact h3.2⟩
theorem internet_spec {l : List (List Int)} (h : ∀ e ∈ l, okB e ∧ e.length ≤ 100) (hl : l.length ≤ 100) : ∃ v, F_checksum_Internet l = some v ∧ 0 ≤ v ∧ v ≤ 65535 := by
  unfold F_checksum_Internet
  obtain ⟨t, e1, t0, t1⟩ := total_spec h hl
  obtain ⟨v, e2, v0, v1⟩ := fold_spec t0 t1
  rw [e1, Option.bind_some, e2]
  exact ⟨_, rfl, by rw [wu16 (by omega) (by omega)]; omega, by rw [wu16 (by omega) (by omega)]; omega⟩
end
section
open Go.RowKit

theorem bind_of {α β : Type} {x : Option α} {v : α} {f : α → Option β} {r : β} (h : x = some v) (hr : f v = some r) : x.bind f = some r := by rw [h]; exact hr
theorem bifT {α : Type} {b : Bool} {x y r : α} (h : b = true) (hr : x = r) : (bif b then x else y) = r := by rw [h]; exact hr
theorem bifF {α : Type} {b : Bool} {x y r : α} (h : b = false) (hr : y = r) : (bif b then x else y) = r := by rw [h]; exact hr
theorem okB_lit {l : List Int} (h : l.all (fun z => decide (0 ≤ z ∧ z ≤ 255)) = true) : okB l := fun z hz => by simpa using List.all_eq_true.1 h z hz
theorem app_small (l1 l2 : List Int) (h : l1.length + l2.length ≤ 100) : appO 1 l1 l2 = some (l1 ++ l2) := appO_some (by omega) (by omega)
/-- the checksum depends on the two first bytes and on what stands behind it -/
theorem sum_spec {S D : List Int} (hS : S.length = 16) (hD : D.length = 16) (oS : okB S) (oD : okB D) {k : Int} (hk : 0 ≤ k ∧ k ≤ 255) {t : List Int} (ot : okB t) (ht : t.length = 28) : ∃ s, 0 ≤ s ∧ s ≤ 65535 ∧ ∀ x y : Int, F_discovery_Sum (k :: 0 :: x :: y :: t) S D = some s := by
  have oh : okB [k, 0, 0, 0] := okB_cons hk (okB_lit rfl)
  obtain ⟨v, e, v0, v1⟩ := internet_spec (l := [S, D, ([0, 0, 0, 32] : List Int), ([0, 0, 0, 58] : List Int), [k, 0, 0, 0], t]) (by
    intro e he
    simp only [List.mem_cons, List.not_mem_nil, or_false] at he
    rcases he with rfl | rfl | rfl | rfl | rfl | rfl
    · exact ⟨oS, by omega⟩
    · exact ⟨oD, by omega⟩
    · exact ⟨okB_lit rfl, by show (4 : Nat) ≤ 100; omega⟩
    · exact ⟨okB_lit rfl, by show (4 : Nat) ≤ 100; omega⟩
    · exact ⟨oh, by show (4 : Nat) ≤ 100; omega⟩
    · exact ⟨ot, by omega⟩) (by show (6 : Nat) ≤ 100; omega)
  refine ⟨v, v0, v1, fun x y => ?_⟩
  have hl : (k :: 0 :: x :: y :: t).length = 32 := by simp only [List.length_cons, ht]
  unfold F_discovery_Sum
  rw [hl]
  refine bind_of (v := 4) rfl ?_
  refine bind_of (v := [k, 0, 0, 0]) ?_ ?_
  · show loopO F_discovery_Sum_l1 (2, cpL (List.replicate 4 (0 : Int)) 0 4 (k :: 0 :: x :: y :: t)) = some [k, 0, 0, 0]
    rw [show cpL (List.replicate 4 (0 : Int)) 0 4 (k :: 0 :: x :: y :: t) = [k, 0, x, y] by unfold cpL; rw [hl]; rfl]
    rw [loop_next (step := F_discovery_Sum_l1) (s := (2, [k, 0, x, y])) (s' := (3, [k, 0, 0, y])) (by kernel_rfl), loop_next (step := F_discovery_Sum_l1) (s := (3, [k, 0, 0, y])) (s' := (4, [k, 0, 0, 0])) (by kernel_rfl)]
    exact loop_done (by kernel_rfl)
  refine bind_of (v := [0, 0, 0, 32]) ((octets_append [] _ 4 (by omega) (by simp)).trans rfl) ?_
  refine bind_of (v := S) (by rw [arrL_id hS, subO_some (by omega) (by omega) (by omega)]; show some ((S.take 16).drop 0) = some S; rw [List.take_of_length_le (by omega)]; rfl) ?_
  refine bind_of (v := D) (by rw [arrL_id hD, subO_some (by omega) (by omega) (by omega)]; show some ((D.take 16).drop 0) = some D; rw [List.take_of_length_le (by omega)]; rfl) ?_
  refine bind_of (v := t) (by rw [subO_some (by simp) (by show (4 : Int) ≤ 32; omega) (by rw [hl]; exact Int.le_refl _)]; show some (((k :: 0 :: x :: y :: t).take 32).drop 4) = some t; rw [List.take_of_length_le (by omega)]; rfl) ?_
  exact bind_of e rfl
theorem beB_one {k : Int} (hk : k = 157 ∨ k = 158) : beB (IntKind.wrap .u64 k) 1 = [k] := by
  rcases hk with rfl | rfl <;> rfl
/-- the bytes of a message -/
theorem encode_spec {S D : List Int} (hS : S.length = 16) (hD : D.length = 16) (oS : okB S) (oD : okB D) {kind st q life : Int} {n u : Nat} (h : MsgOk kind st q life n u) : ∃ s, 0 ≤ s ∧ s ≤ 65535 ∧ F_discovery_Encode (msgN kind st q life n u) S D = some ([kind, 0] ++ beB s 2 ++ tailN st q life n u, 0) ∧ ∀ x y : Int, F_discovery_Sum (kind :: 0 :: x :: y :: tailN st q life n u) S D = some s := by
  have hk : 0 ≤ kind ∧ kind ≤ 255 := by rcases h.k with e | e <;> omega
  obtain ⟨s, s0, s1, hs⟩ := sum_spec hS hD oS oD hk (tailN_ok h) (tailN_len st q life n u)
  refine ⟨s, s0, s1, ?_, hs⟩
  have hl0 := h.l0; have hl1 := h.l1
  unfold F_discovery_Encode
  refine bind_of (mvalid_spec h) ?_
  simp only [cond_true]
  refine bind_of (lay_spec h) ?_
  refine bind_of (v := [kind]) ((octets_append_R [] _ 1 (by omega) (by simp)).trans (by rw [List.nil_append]; exact congrArg some (beB_one h.k))) ?_
  refine bind_of (v := [kind, 0, 0, 0]) (octets_append_R [kind] 0 3 (by omega) (by show (1 : Nat) ≤ _; omega)) (bifT rfl ?_)
  refine bind_of (v := [kind, 0, 0, 0, st, q]) (show appO 1 [kind, 0, 0, 0] [st, q] = some ([kind, 0, 0, 0] ++ [st, q]) from app_small _ _ (by show (4 + 2 : Nat) ≤ 100; omega)) ?_
  refine bind_of (v := [kind, 0, 0, 0, st, q] ++ beB life 2) ((octets_append_R _ _ 2 (by omega) (by show (6 : Nat) ≤ _; omega)).trans (by rw [show (msgN kind st q life n u).Owner.Lifetime = life from rfl, wu hl0 (by omega)])) ?_
  refine bind_of (v := [kind, 0, 0, 0, st, q] ++ beB life 2 ++ beB n 8) (octets_append_R _ _ 8 (by omega) (by show (8 : Nat) ≤ _; omega)) (bifT rfl ?_)
  refine bind_of (v := kind :: 0 :: 0 :: 0 :: tailN st q life n u) (show appO 1 ([kind, 0, 0, 0, st, q] ++ beB life 2 ++ beB n 8) (ipN u) = some (([kind, 0, 0, 0, st, q] ++ beB life 2 ++ beB n 8) ++ ipN u) from app_small _ _ (by show (16 + 16 : Nat) ≤ 100; omega)) (bifF rfl (bifF rfl (bifT rfl (bifF rfl ?_))))
  refine bind_of (v := ()) (loop_done rfl) ?_
  refine bind_of (v := ()) (loop_done rfl) (bifF rfl (bifT (by kernel_rfl) ?_))
  refine bind_of (hs 0 0) ?_
  refine bind_of (v := beB s 2) ((octets_append [] _ 2 (by omega) (by simp)).trans (by rw [List.nil_append, wu s0 (by omega)])) ?_
  rfl
theorem beN_one (v : Int) (n : Nat) (h0 : 0 ≤ v) (h1 : v < 256 ^ n) : beN (beB v n) = v := by
  rw [beN_beB, Int.emod_eq_of_lt h0 h1]
/-- what is written is read -/
theorem decode_spec {S D : List Int} (hS : S.length = 16) (hD : D.length = 16) (oS : okB S) (oD : okB D) {kind st q life : Int} {n u : Nat} (h : MsgOk kind st q life n u) : ∃ b, F_discovery_Encode (msgN kind st q life n u) S D = some (b, 0) ∧ F_discovery_Decode b S D = some (msgN kind st q life n u, 0) := by
  obtain ⟨s, s0, s1, he, hs⟩ := encode_spec hS hD oS oD h
  refine ⟨_, he, ?_⟩
  have hk : 0 ≤ kind ∧ kind ≤ 255 := by rcases h.k with e | e <;> omega
  have hl0 := h.l0; have hl1 := h.l1; have hn3 := h.n3
  have hb : okB ([kind, 0] ++ beB s 2 ++ tailN st q life n u) := ((okB_cons hk (okB_lit rfl)).append (beB_ok _ _)).append (tailN_ok h)
  have hl : ([kind, 0] ++ beB s 2 ++ tailN st q life n u).length = 32 := by simp [beB_len, tailN_len]
  have e1 : F_octets_Uint ([kind, 0] ++ beB s 2 ++ tailN st q life n u) 2 2 = some (s, true) := (uint_some hb (by omega) 2 2 (by omega) (by omega) (by omega)).trans (by
    show some (beN (beB s 2), true) = _
    rw [beN_one s 2 s0 (by omega)])
  have e2 : F_octets_Uint ([kind, 0] ++ beB s 2 ++ tailN st q life n u) 6 2 = some (life, true) := (uint_some hb (by omega) 6 2 (by omega) (by omega) (by omega)).trans (by
    show some (beN (beB life 2), true) = _
    rw [beN_one life 2 hl0 (by omega)])
  have e3 : F_octets_Uint ([kind, 0] ++ beB s 2 ++ tailN st q life n u) 8 8 = some ((n : Int), true) := (uint_some hb (by omega) 8 8 (by omega) (by omega) (by omega)).trans (by
    show some (beN (beB n 8), true) = _
    rw [beN_one n 8 (by omega) (by omega)])
  have e4 : F_discovery_Sum ([kind, 0] ++ beB s 2 ++ tailN st q life n u) S D = some s := hs _ _
  unfold F_discovery_Decode
  rw [hl]
  refine bifF rfl ?_
  refine bind_of e1 ?_
  refine bind_of e4 ?_
  refine bifF (by rw [wu16 s0 (by omega)]; simp) ?_
  refine bind_of (v := kind) rfl ?_
  refine bind_of (lay_spec h) ?_
  refine bifT rfl (bifF (by decide) ?_)
  refine bind_of (v := S_discovery_parser.mk (msgN kind st q life n u) ([kind, 0] ++ beB s 2 ++ tailN st q life n u)) ?_ ?_
  · unfold F_discovery_parser_body F_discovery_parser_number F_discovery_parser_ip
    refine bind_of (v := kind) rfl (bifT rfl ?_)
    refine bind_of (v := st) rfl ?_
    refine bind_of (v := q) rfl ?_
    refine bind_of (v := life) (bind_of e2 rfl) ?_
    refine bind_of (v := (n : Int)) (bind_of e3 rfl) (bifF rfl (bifT rfl ?_))
    refine bind_of (v := ipN u) (bind_of (v := ipN u) ((subO_some (by show (0 : Int) ≤ 16; omega) (by rw [hl]; show (16 : Int) ≤ 32; omega) (by omega)).trans (by rw [hl]; rfl)) rfl) ?_
    rw [wu16 hl0 (by omega)]
    rfl
  refine bind_of (v := []) ((subO_some (by show (0 : Int) ≤ 32; omega) (by show (32 : Int) ≤ 32; omega) (by rw [hl]; exact Int.le_refl _)).trans rfl) ?_
  refine bind_of (v := true) (bind_of (v := ()) (loop_done rfl) rfl) ?_
  refine bind_of he (bifF rfl ?_)
  refine bind_of (v := true) ?_ rfl
  unfold F_bytes_Equal
  exact congrArg some ((u8L_beq hb hb).trans (by simp))
end
section
open Go.RowKit

theorem answer_spec {C C' : List CRow} {u n : Nat} {q now life status : Int} (h : RegOk C) (h0 : 0 ≤ now) (h1 : now ≤ 500) (hn1 : 1 ≤ n) (hq1 : 0 ≤ q) (hq2 : q ≤ 15) (hl1 : 1 ≤ life) (hl2 : life ≤ 40) (hs : status = 0 ∨ status = 1)
    (hr : F_detection_Request (C.map clm) now (ipN u) n q life = some (C'.map clm, status, 0)) : F_detection_Answer (C.map clm) now (msgN 157 0 q life n u) = some (C'.map clm, msgN 158 status q life n u, 0) := by
  have en : ((n : Int) == 0) = false := by simp; omega
  unfold F_detection_Answer
  refine bind_of (cvalid_spec h) (bifT rfl (bifT rfl (bifF en ?_)))
  refine bind_of (isTime_spec h0 (by omega)) (bifT rfl (bifF rfl ?_))
  refine bind_of (v := (C'.map clm, status, 0)) ?_ (bifF rfl ?_)
  · show F_detection_Request (C.map clm) now (ipN u) n (IntKind.wrap .i64 q) (IntKind.wrap .i64 life) = _
    rw [show IntKind.wrap .i64 q = q from wi (by omega) (by omega), show IntKind.wrap .i64 life = life from wi (by omega) (by omega)]
    exact hr
  · rcases hs with rfl | rfl <;> rfl
theorem ask_spec {C : List CRow} (h : RegOk C) {u n : Nat} {q now life : Int} (hu : u < 6) (hn1 : 1 ≤ n) (hn3 : n ≤ 3) (hq1 : 0 ≤ q) (hq2 : q ≤ 15) (h0 : 0 ≤ now) (h1 : now ≤ 500) (hl1 : 1 ≤ life) (hl2 : life ≤ 40) (hsq : ∀ c ∈ C, c.n = n → c.q ≤ q) (hsn : ∀ c ∈ C, c.since ≤ now) :
    ∃ C' status, F_top_ask (C.map clm) now (ipN u) (S_Owner.mk n q 0 life) = some (C'.map clm, status, true) ∧ ReqOut C u n q now life C' status := by
  obtain ⟨C', status, hr, ho⟩ := request_spec h hu hn1 hn3 hq1 hq2 h0 h1 hl1 hl2 hsq hsn
  have hs : status = 0 ∨ status = 1 := ho.out.elim (fun x => .inr x.1) (fun x => .inl x.1)
  obtain ⟨b1, e1, d1⟩ := decode_spec (S := [0,0,0,0,0,0,0,0,0,0,0,0,0,0,0,1]) (D := [0,0,0,0,0,0,0,0,0,0,0,0,0,0,0,2]) rfl rfl (okB_lit rfl) (okB_lit rfl) (kind := 157) (st := 0) (q := q) (life := life) (n := n) (u := u) ⟨.inl rfl, by omega, by omega, by omega, by omega, by omega, by omega, hn3, hu⟩
  obtain ⟨b2, e2, d2⟩ := decode_spec (S := [0,0,0,0,0,0,0,0,0,0,0,0,0,0,0,2]) (D := [0,0,0,0,0,0,0,0,0,0,0,0,0,0,0,1]) rfl rfl (okB_lit rfl) (okB_lit rfl) (kind := 158) (st := status) (q := q) (life := life) (n := n) (u := u) ⟨.inr rfl, by omega, by omega, by omega, by omega, by omega, by omega, hn3, hu⟩
  refine ⟨C', status, ?_, ho⟩
  have et : arrEq 16 (ipN u) (ipN u) = true := by rw [eq_ip u hu u hu]; simp
  unfold F_top_ask
  refine bind_of (show F_discovery_Encode _ _ _ = some (b1, 0) from e1) ?_
  refine bind_of d1 (bifF rfl (bifF rfl ?_))
  refine bind_of (answer_spec h h0 h1 hn1 hq1 hq2 hl1 hl2 hs hr) ?_
  refine bind_of e2 ?_
  refine bind_of d2 (bifF rfl (bifF rfl (bifF rfl (bifF rfl (bifT et (bifF ?_ rfl))))))
  show ((n : Int) != (n : Int)) = false
  simp
end
section
open Go.RowKit

structure TapeOk (t : S_multihopmade_Tape) : Prop where
  at0 : 0 ≤ t.at_
  at1 : t.at_ ≤ t.l.length
  len : t.l.length ≤ 400
theorem new_spec (l : List Int) : ∃ t, F_made_New l = some t ∧ TapeOk t := by
  unfold F_made_New F_made_New_j1
  by_cases h : (l.length : Int) > 400
  · rw [decT h, subO_some (by omega) (by omega) (by omega)]
    exact ⟨_, rfl, by simp, by simp, by simp; omega⟩
  · rw [decF h]
    exact ⟨_, rfl, by simp, by simp, by simp; omega⟩
theorem rem_spec (x n : Int) (h1 : 1 ≤ n) (h2 : n ≤ 4611686018427387904) : -4611686018427387904 < Int.tmod x n ∧ Int.tmod x n < n ∧ -n < Int.tmod x n := by
  have a := Int.tmod_lt_of_pos x (show 0 < n by omega)
  have b := Int.lt_tmod_of_pos x (show 0 < n by omega)
  omega
theorem next_spec {t : S_multihopmade_Tape} (h : TapeOk t) (n : Int) (h1 : 1 ≤ n) (h2 : n ≤ 4611686018427387904) : ∃ v t', F_made_Tape_Next t n = some (v, t') ∧ 0 ≤ v ∧ v < n ∧ TapeOk t' := by
  unfold F_made_Tape_Next F_made_Tape_Next_j1
  have a0 := h.at0
  have a1 := h.at1
  have a2 := h.len
  by_cases hc : t.at_ ≥ (t.l.length : Int)
  · rw [decT hc]
    exact ⟨0, t, rfl, by omega, by omega, h⟩
  · rw [decF hc, idx_int a0 (by omega)]
    simp only [cond_false, Option.bind_some, show decide (n ≠ 0) = true by simp; omega, cond_true]
    obtain ⟨r1, r2, r3⟩ := rem_spec (t.l[t.at_.toNat]'(by omega)) n h1 h2
    generalize Int.tmod (t.l[t.at_.toNat]'(by omega)) n = q at *
    have ew : IntKind.wrap .i64 (t.at_ + 1) = t.at_ + 1 := wi (by omega) (by omega)
    have hok : TapeOk ⟨t.l, t.at_ + 1⟩ := ⟨by dsimp only; omega, by dsimp only; omega, h.len⟩
    rw [ew]
    by_cases hq : q < 0
    · rw [decT hq, wi (by omega) (by omega)]
      exact ⟨q + n, _, rfl, by omega, by omega, hok⟩
    · rw [decF hq]
      exact ⟨q, _, rfl, by omega, by omega, hok⟩
end
section
open Go.RowKit
theorem mod_spec (x n : Int) (h1 : 1 ≤ n) (h2 : n ≤ 4611686018427387904) : ∃ v, F_made_Mod x n = some v ∧ 0 ≤ v ∧ v < n := by
  unfold F_made_Mod F_made_Mod_j1
  obtain ⟨r1, r2, r3⟩ := rem_spec x n h1 h2
  generalize Int.tmod x n = q at *
  rw [show decide (n ≠ 0) = true by simp; omega]
  by_cases hq : q < 0
  · rw [decT hq, wi (by omega) (by omega)]
    exact ⟨q + n, rfl, by omega, by omega⟩
  · rw [decF hq]
    exact ⟨q, rfl, by omega, by omega⟩
end
section
open Go.RowKit

def Rel (now : Int) (C : List CRow) (Ts : List (List Row)) : Prop := ∀ T ∈ Ts, ∀ r ∈ T, r.st = 2 → r.till > now → ∃ c ∈ C, c.u = r.u ∧ c.n = r.n ∧ r.till ≤ c.till
structure Inv (life i now : Int) (C : List CRow) (Ts : List (List Row)) (Q : List Int) : Prop where
  i0 : 0 ≤ i
  n0 : 0 ≤ now
  n1 : now ≤ 11 * i
  rok : RegOk C
  tok : ∀ T ∈ Ts, TabOk T
  len : Ts.length = 3
  qlen : Q.length = 4
  q : ∀ n, n < 4 → ∃ z, Q[n]? = some z ∧ 0 ≤ z ∧ z ≤ i
  ct : ∀ c ∈ C, c.since ≤ now ∧ ∃ z, Q[c.n]? = some z ∧ c.q ≤ z
  tt : ∀ T ∈ Ts, ∀ r ∈ T, r.till ≤ now + life ∧ ∃ z, Q[r.n]? = some z ∧ r.q ≤ z
  rel : Rel now C Ts
/-- what a round makes of the registry and of one table -/
structure Mid (life now : Int) (C : List CRow) (T : List Row) (Ts : List (List Row)) (m n : Nat) (q : Int) (C' : List CRow) (T' : List Row) : Prop where
  rok : RegOk C'
  tok : TabOk T'
  rel : Rel now C' (Ts.set m T')
  ct : ∀ c ∈ C', c.since ≤ now ∧ (c ∈ C ∨ (c.n = n ∧ c.q = q))
  tt : ∀ r ∈ T', r.till ≤ now + life ∧ (r ∈ T ∨ (r.n = n ∧ r.q = q))
theorem mem_set_or {α : Type} {l : List α} {m : Nat} {x y : α} (h : y ∈ l.set m x) : y ∈ l ∨ y = x := List.mem_or_eq_of_mem_set h
theorem Inv.next {life i now : Int} {C : List CRow} {Ts : List (List Row)} {Q : List Int} (h : Inv life i now C Ts Q) {m n : Nat} {z : Int} {T : List Row} (hT : T ∈ Ts) (hz : Q[n]? = some z) {C' : List CRow} {T' : List Row} (hm : Mid life now C T Ts m n (z + 1) C' T') {g : Int} (g0 : 0 ≤ g) (g1 : g ≤ 11) : Inv life (i + 1) (now + g) C' (Ts.set m T') (Q.set n (z + 1)) := by
  have h0 := h.i0; have h1 := h.n0; have h2 := h.n1
  have hn : n < Q.length := by
    rcases Nat.lt_or_ge n Q.length with e | e
    · exact e
    · rw [List.getElem?_eq_none e] at hz; cases hz
  have hself : (Q.set n (z + 1))[n]? = some (z + 1) := List.getElem?_set_self hn
  have hmono : ∀ (k : Nat) (w : Int), Q[k]? = some w → ∃ w', (Q.set n (z + 1))[k]? = some w' ∧ w ≤ w' := by
    intro k w hw
    by_cases hk : n = k
    · subst hk
      rw [hz] at hw; cases hw
      exact ⟨z + 1, hself, by omega⟩
    · exact ⟨w, by rw [List.getElem?_set_ne hk]; exact hw, by omega⟩
  refine ⟨by omega, by omega, by omega, hm.rok, fun X hX => ?_, by rw [List.length_set]; exact h.len, by rw [List.length_set]; exact h.qlen, fun k hk => ?_, fun c hc => ?_, fun X hX r hr => ?_, fun X hX r hr hs ht => hm.rel X hX r hr hs (by omega)⟩
  · rcases mem_set_or hX with e | e
    · exact h.tok X e
    · rw [e]; exact hm.tok
  · obtain ⟨w, hw, w0, w1⟩ := h.q k hk
    by_cases hk2 : n = k
    · subst hk2
      rw [hz] at hw; cases hw
      exact ⟨z + 1, hself, by omega, by omega⟩
    · exact ⟨w, by rw [List.getElem?_set_ne hk2]; exact hw, w0, by omega⟩
  · obtain ⟨hs, hc'⟩ := hm.ct c hc
    refine ⟨by omega, ?_⟩
    rcases hc' with e | ⟨e1, e2⟩
    · obtain ⟨_, w, hw, hle⟩ := h.ct c e
      obtain ⟨w', hw', hle'⟩ := hmono _ _ hw
      exact ⟨w', hw', by omega⟩
    · rw [e1]; exact ⟨z + 1, hself, by omega⟩
  · have key : ∀ r : Row, r.till ≤ now + life → (∃ X ∈ Ts, r ∈ X) ∨ (r.n = n ∧ r.q = z + 1) → r.till ≤ now + g + life ∧ ∃ w, (Q.set n (z + 1))[r.n]? = some w ∧ r.q ≤ w := by
      intro r hr1 hr2
      refine ⟨by omega, ?_⟩
      rcases hr2 with ⟨Y, hY, hrY⟩ | ⟨e1, e2⟩
      · obtain ⟨_, w, hw, hle⟩ := h.tt Y hY r hrY
        obtain ⟨w', hw', hle'⟩ := hmono _ _ hw
        exact ⟨w', hw', by omega⟩
      · rw [e1]; exact ⟨z + 1, hself, by omega⟩
    rcases mem_set_or hX with e | e
    · exact key r (h.tt X e r hr).1 (.inl ⟨X, e, hr⟩)
    · subst e
      obtain ⟨hs, hr'⟩ := hm.tt r hr
      exact key r hs (hr'.elim (fun e => .inl ⟨T, hT, e⟩) .inr)
/-- when the table refuses: nothing but what has ended goes -/
theorem Inv.mid_no {life i now : Int} {C : List CRow} {Ts : List (List Row)} {Q : List Int} (h : Inv life i now C Ts Q) {m n u : Nat} {q : Int} {T T' : List Row} (hT : T ∈ Ts) (ho : RegOut T u n q now life T' 1) : Mid life now C T Ts m n q C T' := by
  have e : T' = T.filter (live now) := ho.out.elim (fun x => x.2) (fun x => absurd x.1 (by decide))
  have hsub : ∀ x ∈ T', x ∈ T := fun x hx => by rw [e] at hx; exact (List.mem_filter.1 hx).1
  refine ⟨h.rok, ho.ok, fun X hX r hr hs ht => ?_, fun c hc => ⟨(h.ct c hc).1, .inl hc⟩, fun r hr => ⟨(h.tt T hT r (hsub r hr)).1, .inl (hsub r hr)⟩⟩
  rcases mem_set_or hX with e1 | e1
  · exact h.rel X e1 r hr hs ht
  · subst e1; exact h.rel T hT r (hsub r hr) hs ht
/-- when the table takes it: the border router is asked -/
theorem Inv.mid_yes {life i now : Int} {C : List CRow} {Ts : List (List Row)} {Q : List Int} (h : Inv life i now C Ts Q) {m n u : Nat} {q st status : Int} {T T1 T' : List Row} {C' : List CRow} (hT : T ∈ Ts) (hq : ReqOut C u n q now life C' status) (hl : 0 < life) (hst : st = 1 ∨ (st = 2 ∧ ∃ r ∈ T, r.u = u ∧ r.n = n ∧ r.st = 2 ∧ live now r = true))
    (h1 : ∀ x ∈ T1, x = ⟨u, n, q, st, now + life⟩ ∨ (x ∈ T ∧ live now x = true ∧ x.u ≠ u)) (ht : TabOk T')
    (h2 : ∀ x ∈ T', (x ∈ T1 ∧ live now x = true ∧ x.u ≠ u) ∨ (st = 2 ∧ x = Row.mk u n q st (now + life)) ∨ (st = 1 ∧ status = 0 ∧ x = Row.mk u n q 2 (now + life))) : Mid life now C T Ts m n q C' T' := by
  have old : ∀ x ∈ T1, x.u ≠ u → x ∈ T := fun x hx hne => (h1 x hx).elim (fun e => absurd (by rw [e]) hne) (fun e => e.1)
  have rest : ∀ X ∈ Ts, ∀ r ∈ X, r.st = 2 → r.till > now → ∃ c ∈ C', c.u = r.u ∧ c.n = r.n ∧ r.till ≤ c.till := by
    intro X hX r hr hs hlv
    obtain ⟨c, hc, cu, cn, ct⟩ := h.rel X hX r hr hs hlv
    have hcl : clive now c = true := by unfold clive; simp; omega
    by_cases hu : c.u = u
    · rcases hq.out with ⟨_, _, hk⟩ | ⟨_, ⟨c2, hc2, cu2, cn2, ct2⟩, hk⟩
      · exact ⟨c, hk c hc hcl, cu, cn, ct⟩
      · have := hk c hc hcl hu
        have := (h.tt X hX r hr).1
        exact ⟨c2, hc2, by omega, by omega, by omega⟩
    · exact ⟨c, hq.keep c hc hcl hu, cu, cn, ct⟩
  refine ⟨hq.ok, ht, fun X hX r hr hs hlv => ?_, fun c hc => ?_, fun r hr => ?_⟩
  · rcases mem_set_or hX with e | e
    · exact rest X e r hr hs hlv
    · subst e
      rcases h2 r hr with ⟨a, _, b⟩ | ⟨s2, e⟩ | ⟨_, s0, e⟩
      · exact rest T hT r (old r a b) hs hlv
      · rcases hst with s1 | ⟨_, r0, hr0, ru, rn, rs, rl⟩
        · omega
        · rcases hq.out with ⟨_, ⟨c1, hc1, cl1, cu1, cn1⟩, _⟩ | ⟨_, ⟨c2, hc2, cu2, cn2, ct2⟩, _⟩
          · exfalso
            have rl' : r0.till > now := by unfold live at rl; simpa using rl
            obtain ⟨c, hc, cu, cn, ct⟩ := h.rel T hT r0 hr0 rs rl'
            have := h.rok.uniq hc hc1 (by omega)
            subst this
            omega
          · rw [e]; exact ⟨c2, hc2, cu2, cn2, by dsimp only; omega⟩
      · rcases hq.out with ⟨s1, _⟩ | ⟨_, ⟨c2, hc2, cu2, cn2, ct2⟩, _⟩
        · omega
        · rw [e]; exact ⟨c2, hc2, cu2, cn2, by dsimp only; omega⟩
  · rcases hq.frm c hc with ⟨a, _⟩ | ⟨_, b, c1, c2⟩
    · exact ⟨(h.ct c a).1, .inl a⟩
    · exact ⟨c2, .inr ⟨b, c1⟩⟩
  · rcases h2 r hr with ⟨a, _, b⟩ | ⟨_, e⟩ | ⟨_, _, e⟩
    · have := old r a b
      exact ⟨(h.tt T hT r this).1, .inl this⟩
    · rw [e]; exact ⟨Int.le_refl _, .inr ⟨rfl, rfl⟩⟩
    · rw [e]; exact ⟨Int.le_refl _, .inr ⟨rfl, rfl⟩⟩
end
section
open Go.RowKit
set_option maxRecDepth 100000 in
theorem sane_true : F_top_sane = some true := by kernel_rfl
end
section
open Go.RowKit

def tabs (Ts : List (List Row)) : List (List S_Registration) := Ts.map fun T => T.map reg
abbrev TSt := (List S_Claim) × Int × Int × S_multihopmade_Tape × (List (List S_Registration)) × (List Int)
theorem idx_tabs {Ts : List (List Row)} {k : Nat} (h : k < Ts.length) : idx (tabs Ts) (k : Int) = some (Ts[k].map reg) := by
  rw [idx_lt (by unfold tabs; rw [List.length_map]; exact h)]
  simp [tabs]
theorem get_tabs {Ts : List (List Row)} {k : Nat} (h : k < Ts.length) : (tabs Ts)[0 + Int.toNat (k : Int)]? = some (Ts[k].map reg) := by
  rw [Nat.zero_add, Int.toNat_natCast]
  simp [tabs, h]
theorem new_one (x : Nat) (hx : x < 6) : ∃ t t', F_made_New [(x : Int)] = some t ∧ F_made_Tape_Next t 6 = some ((x : Int), t') := by
  refine ⟨S_multihopmade_Tape.mk [(x : Int)] 0, S_multihopmade_Tape.mk [(x : Int)] 1, ?_, ?_⟩ <;> (rcases x with _ | _ | _ | _ | _ | _ | x) <;> first | (exfalso; omega) | kernel_rfl
/-- the owner whom the tables name -/
def Own (C : List CRow) (now : Int) (v : Nat) (o : Int) : Prop := o = 0 ∨ ∃ c ∈ C, c.u = v ∧ clive now c = true ∧ o = (c.n : Int)
theorem l4_spec {C : List CRow} {Ts : List (List Row)} {now : Int} (hC : RegOk C) (hT : ∀ T ∈ Ts, TabOk T) (hl : Ts.length = 3) (hr : Rel now C Ts) (h0 : 0 ≤ now) (h1 : now ≤ 500) (s5 : TSt) (v9 : Int × S_multihopmade_Tape) (v24 : (List S_Claim) × (List S_Registration)) (e2 : List.set s5.2.2.2.2.1 (0 + Int.toNat v9.1) v24.2 = tabs Ts) (e3 : s5.2.1 = now) {v : Nat} (hv : v < 6) :
    ∃ o, loopO (F_top_TopOneOwner_l4 s5 v9 v24 (ipN v)) (0, 0) = some o ∧ Own C now v o := by
  refine loop_inv (fun s => 0 ≤ s.2 ∧ s.2 ≤ 3 ∧ Own C now v s.1) _ (fun s => (3 - s.2).toNat) ?_ _ ⟨by show (0 : Int) ≤ 0; omega, by show (0 : Int) ≤ 3; omega, .inl rfl⟩
  rintro ⟨o, j⟩ ⟨j0, j1, ho⟩
  dsimp only at j0 j1 ho
  unfold F_top_TopOneOwner_l4 F_top_TopOneOwner_j5
  rw [e2, e3]
  dsimp only [Cut.app]
  by_cases hj : j < 3
  · left
    obtain ⟨k, rfl⟩ : ∃ k : Nat, j = (k : Int) := ⟨j.toNat, by omega⟩
    have hk : k < Ts.length := by omega
    have hTk := hT _ (List.getElem_mem hk)
    rw [decT hj, idx_tabs hk, get_tabs hk]
    simp only [cond_true, Option.bind_some]
    obtain ⟨e, f, he, hf⟩ := lookup_spec hTk hv h0 (show now ≤ 1000 by omega)
    rw [he, wk k (by omega)]
    simp only [Option.bind_some]
    cases f
    · simp only [cond_false]
      exact ⟨_, rfl, ⟨by dsimp only; omega, by dsimp only; omega, ho⟩, by dsimp only; omega⟩
    · simp only [cond_true]
      obtain ⟨r, hrm, ru, rs, rl, rfl⟩ := hf rfl
      have rl' : r.till > now := by unfold live at rl; simpa using rl
      obtain ⟨c, hc, cu, cn, ct⟩ := hr _ (List.getElem_mem hk) r hrm rs rl'
      have hcl : clive now c = true := by unfold clive; simp; omega
      have en : (reg r).EUI = (c.n : Int) := by show (r.n : Int) = c.n; omega
      have hown : Own C now v (c.n : Int) := .inr ⟨c, hc, by omega, hcl, rfl⟩
      rw [en]
      rcases ho with rfl | ⟨c2, hc2, cu2, _, rfl⟩
      · rw [show ((0 : Int) != 0) = false from rfl]
        exact ⟨_, rfl, ⟨by dsimp only; omega, by dsimp only; omega, hown⟩, by dsimp only; omega⟩
      · have : c2 = c := hC.uniq hc2 hc (by omega)
        subst this
        have hn := (hC.ok c2 hc).n1
        rw [show ((c2.n : Int) != 0) = true by simp; omega, show ((c2.n : Int) != (c2.n : Int)) = false by simp]
        exact ⟨_, rfl, ⟨by dsimp only; omega, by dsimp only; omega, hown⟩, by dsimp only; omega⟩
  · right
    rw [decF hj]
    exact ⟨_, rfl, ho⟩
theorem l3_spec {C : List CRow} {Ts : List (List Row)} {now : Int} (hC : RegOk C) (hT : ∀ T ∈ Ts, TabOk T) (hl : Ts.length = 3) (hr : Rel now C Ts) (h0 : 0 ≤ now) (h1 : now ≤ 500) (s5 : TSt) (v9 : Int × S_multihopmade_Tape) (v24 : (List S_Claim) × (List S_Registration)) (e1 : v24.1 = C.map clm) (e2 : List.set s5.2.2.2.2.1 (0 + Int.toNat v9.1) v24.2 = tabs Ts) (e3 : s5.2.1 = now) :
    loopO (F_top_TopOneOwner_l3 s5 v9 v24) 0 = some () := by
  have := loop_run (step := F_top_TopOneOwner_l3 s5 v9 v24) (S := fun k => (k : Int)) 6 (r := ()) (fun k hk => by
    unfold F_top_TopOneOwner_l3
    obtain ⟨t, t', a1, a2⟩ := new_one k hk
    obtain ⟨o, ho, hown⟩ := l4_spec hC hT hl hr h0 h1 s5 v9 v24 e2 e3 hk
    obtain ⟨e, f, he, hf⟩ := owner_spec hC hk h0 (show now ≤ 1000 by omega)
    refine bifT (decT (show (k : Int) < 6 by omega)) ?_
    refine bind_of a1 (bind_of a2 (bind_of (of_ip k hk) (bind_of ho ?_)))
    rw [e1, e3]
    refine bind_of he ?_
    rw [wk k (by omega)]
    rcases hown with rfl | ⟨c, hc, cu, cl, rfl⟩
    · exact bifF rfl rfl
    · obtain ⟨f1, f2⟩ := hf c hc cu cl
      have hn := (hC.ok c hc).n1
      refine bifT (by simp; omega) (bifT f1 (bifF ?_ rfl))
      rw [f2]; simp) (by
    unfold F_top_TopOneOwner_l3
    rfl)
  exact this
theorem j2_spec {life i now : Int} {C : List CRow} {Ts : List (List Row)} {Q : List Int} (h : Inv life i now C Ts Q) (hi : i < 15) {m n : Nat} (hm3 : m < 3) {z : Int} (hz0 : 0 ≤ z) (hz1 : z ≤ i) {d : Int} (hd : 1 + d = n) (hn3 : n ≤ 3) {T : List Row} (hT : T ∈ Ts) (hz : Q[n]? = some z) {C' : List CRow} {T' : List Row} (hm : Mid life now C T Ts m n (z + 1) C' T') {t t1 t3 : S_multihopmade_Tape} (ht3 : TapeOk t3) :
    ∃ now' t' Ts' Q', F_top_TopOneOwner_j2 (C.map clm, now, i, t, tabs Ts, Q) ((m : Int), t1) (d, t3) z (C'.map clm, T'.map reg) = some (.inl (C'.map clm, now', i + 1, t', tabs Ts', Q')) ∧ Inv life (i + 1) now' C' Ts' Q' ∧ TapeOk t' := by
  have a0 := h.i0; have a1 := h.n0; have a2 := h.n1; have a3 := h.len
  obtain ⟨g, t4, e4, g0, g1, ht4⟩ := next_spec ht3 12 (by omega) (by omega)
  have hi' := h.next hT hz hm g0 (show g ≤ 11 by omega)
  refine ⟨now + g, t4, Ts.set m T', Q.set n (z + 1), ?_, hi', ht4⟩
  have hset : List.set (tabs Ts) (0 + Int.toNat (m : Int)) (T'.map reg) = tabs (Ts.set m T') := by
    unfold tabs; rw [Nat.zero_add, Int.toNat_natCast, List.map_set]
  unfold F_top_TopOneOwner_j2
  refine bind_of (idx_tabs (Ts := Ts) (k := m) (by omega)) (bind_of (get_tabs (Ts := Ts) (k := m) (by omega)) ?_)
  refine bind_of (l3_spec hm.rok hi'.tok hi'.len hm.rel a1 (by omega) _ _ _ rfl hset rfl) (bind_of e4 ?_)
  dsimp only
  have w1 : IntKind.wrap .i64 (now + g) = now + g := wi (by omega) (by omega)
  have w2 : IntKind.wrap .i64 (i + 1) = i + 1 := wi (by omega) (by omega)
  have w3 : IntKind.wrap .i64 (1 + d) = (n : Int) := by rw [hd]; exact wi (by omega) (by omega)
  have w4 : IntKind.wrap .u8 (z + 1) = z + 1 := wu8 (by omega) (by omega)
  rw [hset, w1, w2, w3, w4, Nat.zero_add, Int.toNat_natCast]
theorem round_spec {v2 i now : Int} {C : List CRow} {Ts : List (List Row)} {Q : List Int} (h : Inv (1 + v2) i now C Ts Q) (hi : i < 15) (hv0 : 0 ≤ v2) (hv1 : v2 < 40) {t : S_multihopmade_Tape} (ht : TapeOk t) :
    ∃ C' now' t' Ts' Q', F_top_TopOneOwner_l1 v2 (C.map clm, now, i, t, tabs Ts, Q) = some (.inl (C'.map clm, now', i + 1, t', tabs Ts', Q')) ∧ Inv (1 + v2) (i + 1) now' C' Ts' Q' ∧ TapeOk t' := by
  have a0 := h.i0; have a1 := h.n0; have a2 := h.n1; have a3 := h.len
  obtain ⟨a, t1, e1, b0, b1, ht1⟩ := next_spec ht 3 (by omega) (by omega)
  obtain ⟨w, t2, e2, w0, w1, ht2⟩ := next_spec ht1 6 (by omega) (by omega)
  obtain ⟨d, t3, e3, d0, d1, ht3⟩ := next_spec ht2 3 (by omega) (by omega)
  obtain ⟨m, rfl⟩ : ∃ m : Nat, a = (m : Int) := ⟨a.toNat, by omega⟩
  obtain ⟨u, rfl⟩ : ∃ u : Nat, w = (u : Int) := ⟨w.toNat, by omega⟩
  obtain ⟨n, hn⟩ : ∃ n : Nat, 1 + d = (n : Int) := ⟨(1 + d).toNat, by omega⟩
  have hu : u < 6 := by omega
  have hn1 : 1 ≤ n := by omega
  have hn3 : n ≤ 3 := by omega
  have hm : m < Ts.length := by omega
  obtain ⟨z, hz, z0, z1⟩ := h.q n (by omega)
  have hT : Ts[m] ∈ Ts := List.getElem_mem hm
  have hidx : ∀ (P : List Int) y, P[n]? = some y → idx P (n : Int) = some y := fun P y hy => by rw [idx_nat]; exact hy
  have hget : ∀ (P : List Int) y, P[n]? = some y → P[0 + Int.toNat (n : Int)]? = some y := fun P y hy => by rw [Nat.zero_add, Int.toNat_natCast]; exact hy
  have hnl : n < Q.length := by rw [h.qlen]; omega
  have hz' : (List.set Q (0 + Int.toNat (n : Int)) (z + 1))[n]? = some (z + 1) := by
    rw [Nat.zero_add, Int.toNat_natCast]; exact List.getElem?_set_self hnl
  obtain ⟨T1, st1, hreg, hro⟩ := regspec (h.tok _ hT) hu hn1 hn3 (q := z + 1) (now := now) (life := 1 + v2) (by omega) (by omega) a1 (by omega) (by omega) (by omega) (fun r hr en => by
    obtain ⟨_, y, hy, hle⟩ := h.tt _ hT r hr
    rw [en, hz] at hy; cases hy; omega)
  have wn : IntKind.wrap .i64 (1 + d) = (n : Int) := by rw [hn]; exact wi (by omega) (by omega)
  have wl : IntKind.wrap .u16 (IntKind.wrap .i64 (1 + v2)) = 1 + v2 := by rw [wi (show -9223372036854775808 ≤ 1 + v2 by omega) (by omega)]; exact wu16 (by omega) (by omega)
  have w8 : IntKind.wrap .u8 (z + 1) = z + 1 := wu8 (by omega) (by omega)
  have w9 : IntKind.wrap .u64 (n : Int) = (n : Int) := wu (by omega) (by omega)
  have key : F_top_TopOneOwner_l1 v2 (C.map clm, now, i, t, tabs Ts, Q) = (bif (st1 == 0) then (F_top_ask (C.map clm) now (ipN u) (S_Owner.mk n (z + 1) 0 (1 + v2))).bind fun v54 => (F_registration_Confirm (T1.map reg) (ipN u) n v54.2.1 now).bind fun v55 => bif v54.2.2 then bif (v55.2.2 != 0) then none else (F_top_TopOneOwner_j2 (C.map clm, now, i, t, tabs Ts, Q) ((m : Int), t1) (d, t3) z) (v54.1, v55.1) else none else (F_top_TopOneOwner_j2 (C.map clm, now, i, t, tabs Ts, Q) ((m : Int), t1) (d, t3) z) (C.map clm, T1.map reg)) := by
    unfold F_top_TopOneOwner_l1
    dsimp only
    rw [decT hi, e1]
    simp only [cond_true, Option.bind_some]
    rw [e2]
    simp only [Option.bind_some]
    rw [of_ip u hu]
    simp only [Option.bind_some]
    rw [e3]
    simp only [Option.bind_some, wn, Cut.app]
    rw [hidx Q z hz]
    simp only [Option.bind_some]
    rw [hget Q z hz]
    simp only [Option.bind_some]
    rw [w8, hidx _ _ hz']
    simp only [Option.bind_some]
    rw [hget _ _ hz']
    simp only [Option.bind_some]
    rw [idx_tabs hm, get_tabs hm, device_spec n hn3, wl, w9]
    simp only [Option.bind_some]
    rw [hreg]
    rfl
  rw [key]
  rcases hro.out with ⟨rfl, _⟩ | ⟨rfl, st, hst, hin, hall⟩
  · obtain ⟨now', t', Ts', Q', g1, g2, g3⟩ := j2_spec h hi (by omega) z0 z1 hn hn3 hT hz (h.mid_no (m := m) (n := n) (q := z + 1) hT hro) (t := t) (t1 := t1) ht3
    exact ⟨C, now', t', Ts', Q', g1, g2, g3⟩
  · obtain ⟨C', status, hask, hro2⟩ := ask_spec h.rok hu hn1 hn3 (q := z + 1) (now := now) (life := 1 + v2) (by omega) (by omega) a1 (by omega) (by omega) (by omega) (fun c hc en => by
      obtain ⟨_, y, hy, hle⟩ := h.ct c hc
      rw [en, hz] at hy; cases hy; omega) (fun c hc => (h.ct c hc).1)
    obtain ⟨T', b, hconf, htok, hmem⟩ := confirm_spec hro.ok hin (now := now) (status := status) (by unfold live; simp; omega) a1 (by omega)
    obtain ⟨now', t', Ts', Q', g1, g2, g3⟩ := j2_spec h hi (by omega) z0 z1 hn hn3 hT hz (h.mid_yes (m := m) hT hro2 (by omega) hst hall htok hmem) (t := t) (t1 := t1) ht3
    refine ⟨C', now', t', Ts', Q', ?_, g2, g3⟩
    rw [show ((0 : Int) == 0) = true from rfl, cond_true, hask]
    simp only [Option.bind_some]
    rw [hconf]
    simp only [Option.bind_some, cond_true]
    exact g1
theorem topOneOwner_true (a0 : List Int) (a1 : Int) : F_top_TopOneOwner a0 a1 = some true := by
  obtain ⟨t, e1, ht⟩ := new_spec a0
  obtain ⟨v, e2, v0, v1⟩ := mod_spec a1 40 (by omega) (by omega)
  have hinit : Inv (1 + v) 0 0 [] [[], [], []] [0, 0, 0, 0] := by
    have hno : ∀ T ∈ ([[], [], []] : List (List Row)), T = [] := by simp
    refine ⟨by omega, by omega, by omega, ⟨by simp, by simp⟩, fun T hT => by rw [hno T hT]; exact ⟨by simp, by simp [Srt]⟩, rfl, rfl, fun n hn => ⟨0, ?_, by omega, by omega⟩, by simp, fun T hT r hr => by rw [hno T hT] at hr; simp at hr, fun T hT r hr => by rw [hno T hT] at hr; simp at hr⟩
    rcases n with _ | _ | _ | _ | n
    all_goals first | (exfalso; omega) | rfl
  obtain ⟨r, hr, _⟩ := loop_inv (step := F_top_TopOneOwner_l1 v) (fun s : TSt => ∃ C now i t Ts Q, s = (C.map clm, now, i, t, tabs Ts, Q) ∧ Inv (1 + v) i now C Ts Q ∧ i ≤ 15 ∧ TapeOk t) (fun _ => True) (fun s => (15 - s.2.2.1).toNat) (by
    rintro _ ⟨C, now, i, t, Ts, Q, rfl, hI, hi, ht⟩
    by_cases hlt : i < 15
    · left
      obtain ⟨C', now', t', Ts', Q', g1, g2, g3⟩ := round_spec hI hlt v0 v1 ht
      exact ⟨_, g1, ⟨C', now', i + 1, t', Ts', Q', rfl, g2, by omega, g3⟩, by dsimp only; omega⟩
    · right
      unfold F_top_TopOneOwner_l1
      rw [decF hlt]
      exact ⟨(), rfl, trivial⟩) (([] : List S_Claim), 0, 0, t, tabs [[], [], []], [0, 0, 0, 0]) ⟨[], 0, 0, t, _, _, rfl, hinit, by omega, ht⟩
  unfold F_top_TopOneOwner
  refine bind_of e1 (bind_of e2 (bind_of (v := 3) rfl (bind_of (v := 4) rfl ?_)))
  refine bind_of hr ?_
  exact bind_of sane_true rfl
end
section
open Go.ChangeShapes Go.WideShapes Go.ChangeAt Go.RowKit

def Wt (P : Program) (t : TypeId) {H : Type} (d : DataW H) : Prop := ∀ n ∈ d.weights P t, n ≤ reachBytes
def OpensR (P : Program) (t : TypeId) {α : Type} (f : α → List SC) (wf : α → Prop) : Prop :=
  ∀ (H : Type) (enc : TypeId × Value → H) (W : World) (fuel : Nat) (cs : List Value) (x : DataW H × List MemPlace), DataW.trod enc P W 0 (fun _ => true) true fuel t cs = some x → Wt P t x.1 → ∃ a : α, Seg (rdAll W) cs 0 cs.length (f a) ∧ wf a
theorem Opens.r {P : Program} {t : TypeId} {α : Type} {f : α → List SC} {wf : α → Prop} (h : Opens P t f wf) : OpensR P t f wf := fun H enc W fuel cs x h1 _ => h H enc W fuel cs x h1
def wfR {α : Type} (p : α → Prop) (l : List α) : Prop := l.length ≤ 140737488351232 ∧ ∀ z ∈ l, p z
theorem mem_weightsAll {H : Type} {P : Program} {e : TypeId} : ∀ {l : List (DataW H)} {d : DataW H}, d ∈ l → ∀ n ∈ d.weights P e, n ∈ DataW.weightsAll P e l
  | x :: l, d, h, n, hn => by
    simp only [DataW.weightsAll, List.mem_append]
    rcases List.mem_cons.1 h with rfl | h
    · exact Or.inl hn
    · exact Or.inr (mem_weightsAll h n hn)
theorem wt_of {H : Type} {P : Program} {ts : List TypeId} {ds : List (DataW H)} (h : (DataW.weightsEach P ts ds).all (· ≤ reachBytes) = true) {j : Nat} {t : TypeId} {d : DataW H} (ht : ts[j]? = some t) (hd : ds[j]? = some d) : Wt P t d := fun n hn => by
  have := List.all_eq_true.1 h _ (DataW.weights_mem_each ht hd n hn)
  simpa using this
theorem opens_sliceR {P : Program} {t e : TypeId} {sz : Nat} (ht : P.underlying t = some (.slice e)) (hsz : P.cellsOf e = sz) {α : Type} {f : α → List SC} {wf : α → Prop} (hop : OpensR P e f wf) (hlen : ∀ a, (f a).length = sz) (hpos : decide (0 < sz) = true) (hby : decide (0 < P.bytesOf e) = true) : OpensR P t (ecS sz f) (wfR wf) := by
  intro H enc W fuel cs x h hw
  have hb := of_decide_eq_true hby
  have hp := of_decide_eq_true hpos
  rcases DataW.trod_slice ht h with ⟨rfl, _⟩ | ⟨a, len, cap, elems, rest, m, _, rfl, rfl, _, hlc, hcm, hel, hg, _⟩
  · refine ⟨[], ⟨rfl, fun j y hy => ?_⟩, by simp, fun z hz => absurd hz (by simp)⟩
    rcases j with _ | j
    · simp only [ecS, List.map_nil, List.getElem?_cons_zero, Option.some.injEq] at hy
      subst hy
      exact ⟨_, rfl, .nil _ _ _ (by decide)⟩
    · simp [ecS] at hy
  · have e0 : DataW.weights P t (.slice (elems.map (·.1)) (rest.map (·.1)) : DataW H) = (((elems.map (·.1)).length + (rest.map (·.1)).length) * P.bytesOf e :: (DataW.weightsAll P e (elems.map (·.1)) ++ DataW.weightsAll P e (rest.map (·.1)))) := by simp [DataW.weights, ht]
    have hlen' : len ≤ 140737488351232 := by
      have h2 := hw (((elems.map (·.1)).length + (rest.map (·.1)).length) * P.bytesOf e) (by rw [e0]; exact List.mem_cons_self)
      have h3 : len * 1 ≤ ((elems.map (·.1)).length + (rest.map (·.1)).length) * P.bytesOf e := Nat.mul_le_mul (by rw [List.length_map, hel]; omega) hb
      have h4 : reachBytes = 140737488351232 := rfl
      omega
    have key : ∀ i, i < len → ∃ (us : List Value) (b : α), W.cells? 0 (a.add (i * sz)) sz = some us ∧ Seg (rdAll W) us 0 us.length (f b) ∧ wf b := by
      intro i hi
      have h1 := hg i hi
      rw [hsz] at h1
      obtain ⟨y, hy⟩ : ∃ y, elems[i]? = some y := ⟨_, List.getElem?_eq_getElem (by omega)⟩
      rw [hy] at h1
      obtain ⟨us, k1, k2⟩ := Option.bind_eq_some_iff.1 h1
      obtain ⟨b, k3, k4⟩ := hop H enc W m us y k2 (fun n hn => hw n (by
        rw [e0]
        exact List.mem_cons_of_mem _ (List.mem_append_left _ (mem_weightsAll (d := y.1) (List.mem_map.2 ⟨y, List.mem_of_getElem? hy, rfl⟩) n hn))))
      exact ⟨us, b, k1, k3, k4⟩
    have key2 : ∃ l : List α, l.length = len ∧ ∀ i b, l[i]? = some b → wf b ∧ ∃ us, W.cells? 0 (a.add (i * sz)) sz = some us ∧ Seg (rdAll W) us 0 us.length (f b) := by
      have : ∀ q, q ≤ len → ∃ l : List α, l.length = q ∧ ∀ i b, l[i]? = some b → wf b ∧ ∃ us, W.cells? 0 (a.add (i * sz)) sz = some us ∧ Seg (rdAll W) us 0 us.length (f b) := by
        intro q
        induction q with
        | zero => exact fun _ => ⟨[], rfl, fun i b hb => by simp at hb⟩
        | succ q ih =>
          intro hq
          obtain ⟨l, hl, hall⟩ := ih (by omega)
          obtain ⟨us, b, k1, k2, k3⟩ := key q (by omega)
          refine ⟨l ++ [b], by simp [hl], fun i c hc => ?_⟩
          by_cases hi : i < l.length
          · rw [List.getElem?_append_left hi] at hc
            exact hall i c hc
          · rw [List.getElem?_append_right (by omega)] at hc
            have hi0 : i - l.length = 0 := by
              have := (List.getElem?_eq_some_iff.1 hc).1
              simp at this
              omega
            rw [hi0] at hc
            cases hc
            have : i = q := by omega
            subst this
            exact ⟨k3, us, k1, k2⟩
      exact this len (Nat.le_refl _)
    obtain ⟨l, hl, hall⟩ := key2
    refine ⟨l, ⟨rfl, fun j y hy => ?_⟩, by omega, fun z hz => ?_⟩
    · rcases j with _ | j
      · simp only [ecS, List.getElem?_cons_zero, Option.some.injEq] at hy
        subst hy
        refine ⟨_, rfl, ?_⟩
        rw [hl]
        by_cases hz : len = 0
        · subst hz
          have : l = [] := List.eq_nil_of_length_eq_zero hl
          subst this
          exact .nil _ _ _ hcm
        · obtain ⟨b0, hb0⟩ : ∃ b, l[0]? = some b := ⟨_, List.getElem?_eq_getElem (by omega)⟩
          obtain ⟨_, us0, k0, _⟩ := hall 0 b0 hb0
          obtain ⟨hlen0, _, hc0⟩ := World.cells?_some k0
          have hcell0 := hc0 0 (by omega)
          obtain ⟨bl, off, spot⟩ := a
          have hspot : spot = none := by
            obtain ⟨z, hz0⟩ : ∃ z, us0[0]? = some z := ⟨_, List.getElem?_eq_getElem (by omega)⟩
            rw [hz0] at hcell0
            simpa [Addr.add] using World.cell?_spot hcell0
          subst hspot
          have cellAt : ∀ i b, l[i]? = some b → ∀ j y, (f b)[j]? = some y → ∃ u, W.cell? ⟨bl, off + i * sz + j, none⟩ = some u ∧ IRel (rdAll W) u y := by
            intro i b hb j y hy
            obtain ⟨_, us, k1, k2⟩ := hall i b hb
            obtain ⟨hlen1, _, hc1⟩ := World.cells?_some k1
            obtain ⟨u, q1, q2⟩ := k2.2 j y hy
            rw [Nat.zero_add] at q1
            have hj : j < sz := by have := (List.getElem?_eq_some_iff.1 hy).1; rw [hlen b] at this; exact this
            have := hc1 j (by omega)
            rw [q1] at this
            refine ⟨u, ?_, q2⟩
            rw [Addr.add_mid, Addr.add_mid] at this
            exact this
          refine .slc bl off len cap sz (l.map f) (fun i j => (W.cell? ⟨bl, off + i * sz + j, none⟩).getD (.bool false)) (by simp [hl]) hlc hcm ?_ ?_ ?_
          · intro x hx
            obtain ⟨b, _, rfl⟩ := List.mem_map.1 hx
            exact hlen b
          · intro i x j y hx hy
            rw [List.getElem?_map] at hx
            obtain ⟨b, hb, rfl⟩ := Option.map_eq_some_iff.1 hx
            obtain ⟨u, q1, _⟩ := cellAt i b hb j y hy
            simp only [rdAll, q1, Option.getD_some]
          · intro i x j y hx hy
            rw [List.getElem?_map] at hx
            obtain ⟨b, hb, rfl⟩ := Option.map_eq_some_iff.1 hx
            obtain ⟨u, q1, q2⟩ := cellAt i b hb j y hy
            simp only [q1, Option.getD_some]
            exact q2
      · simp [ecS] at hy
    · obtain ⟨i, hi⟩ := List.getElem?_of_mem hz
      exact (hall i z hi).1

/-- a single cell as an argument -/
theorem open_cellR {P : Program} {t : TypeId} {H : Type} {enc : TypeId × Value → H} {W : World} {v : Value} {d : DataW H} {p : List MemPlace} {α : Type} {f : α → List SC} {wf : α → Prop} {c : α → SC} (hop : OpensR P t f wf) (hc : ∀ a, f a = [c a]) (hv : v.cells = #[v]) (h : DataW.Trod enc P W 0 (fun _ => true) true t v d p) (hw : Wt P t d) : ∃ a, VRel (rdAll W) env0 v (.c (c a)) ∧ wf a := by
  obtain ⟨fuel, hf⟩ := h
  obtain ⟨a, hs, hw2⟩ := hop H enc W fuel _ _ hf hw
  rw [hv] at hs
  refine ⟨a, ?_, hw2⟩
  obtain ⟨u, k1, k2⟩ := hs.2 0 (c a) (by rw [hc]; rfl)
  simp at k1
  subst k1
  exact k2.c
/-- a slice as an argument -/
theorem open_slcR {P : Program} {t e : TypeId} {H : Type} {enc : TypeId × Value → H} {W : World} {v : Value} {d : DataW H} {p : List MemPlace} {r : Reach} {b0 : Nat} {α : Type} {sz : Nat} {f : α → List SC} {wf : List α → Prop} (hop : OpensR P t (ecS sz f) wf) (ht : P.underlying t = some (.slice e))
    (hv : Value.okWide P W r b0 t v) (h : DataW.Trod enc P W 0 (fun _ => true) true t v d p) (hw : Wt P t d) : ∃ a, VRel (rdAll W) env0 v (.c (eS sz f a)) ∧ wf a := by
  obtain ⟨a0, len, cap, rfl⟩ := okWide_slice ht hv
  exact open_cellR hop (fun a => rfl) rfl h hw
end
section
open Go.ChangeShapes Go.WideShapes Go.ChangeAt Go.RowKit

set_option maxRecDepth 100000 in
theorem topOneOwner_lifted (hF : ∀ (a0 : List Int) (a1 : Int), wfR (wfI .i64) a0 → wfI .i64 a1 → F_top_TopOneOwner a0 a1 = some true) (os : Os) (started : os.Started) (H : Type) (enc : TypeId × Value → H) :
    ReturnsInHanded {} Tryz.checked os 5 .any (Rows.topOneOwnerSpec.pre6 enc Tryz.prog Tryz.f5 Rows.topOneOwnerRow.domain false) (Rows.topOneOwnerSpec.post enc Tryz.prog Tryz.f5 false true false false) := by
  refine returnsInHanded_of_change_sized (C := Tryz.checked) own started (by kernel_rfl) Tryz.func5
    (ChangeSpec.witness6 (enc := enc) (C := Tryz.checked) false ⟨#[], #[.slice none 0 0, .int .i64 0], []⟩ 8 (by kernel_rfl) (by kernel_rfl) (by kernel_rfl) (by kernel_rfl)) ?_
  intro W base args ds gs before hval0 hW hcnd hsz0 _
  have hval : ∀ (j : Nat) t v, Tryz.f5.params[j]? = some t → args[j]? = some v → Value.okWide Tryz.prog W .any base t v := hval0
  have hW' := hW
  obtain ⟨p, q, hA0, hV, rfl, hfz, hnd⟩ := hW
  have hA : DataW.TrodAll enc Tryz.prog W 0 (fun _ => true) true Tryz.f5.params.toList args.toList ds p := hA0
  have hAll := hA
  rw [Tryz.params5] at hA hval hAll
  obtain ⟨v0, vs0, d0, ds0, p0, q0, hargs, rfl, rfl, h0, r0⟩ := trodAll_cons hA
  obtain ⟨v1, vs1, d1, ds1, p1, q1, rfl, rfl, rfl, h1, r1⟩ := trodAll_cons r0
  obtain ⟨rfl, rfl, rfl⟩ := trodAll_nil r1
  obtain rfl : args = #[v0, v1] := by cases args; simp_all
  obtain ⟨rfl, rfl⟩ := trodVars_none hV
  obtain ⟨x0, hR0, w0⟩ := open_slcR (opens_sliceR (sz := 1) Tryz.underlying22 (by kernel_rfl) (opens_int (k := .i64) Tryz.underlying3).r (fun _ => by kernel_rfl) (by kernel_rfl) (by kernel_rfl)) Tryz.underlying22 (hval 0 22 v0 rfl rfl) h0 (wt_of hsz0 (j := 0) (by kernel_rfl) rfl)
  obtain ⟨x1, rfl, rfl, rfl, w1⟩ := open_int Tryz.underlying3 (hval 1 3 v1 rfl rfl) h1
  clear hA0 hval0 hsz0
  refine (con_true (us := [v0, .int .i64 x1]) (ok_top_TopOneOwner x0 x1 true (hF x0 x1 w0 w1)) ⟨hR0, vrel_lit _ _ _, trivial⟩).mono fun e W' ⟨he, hx⟩ => ?_
  subst he
  have bel := hx.below
  exact ⟨_, rfl, _, _, _, [], _, [], hW', trodAll_mk1 (shut_bool Tryz.underlying4 _), trodAll_below laidOut bel (by kernel_rfl) hAll, rfl, bel.frame _, fun h => by cases h⟩

theorem topOneOwner_of (hF : ∀ (a0 : List Int) (a1 : Int), wfR (wfI .i64) a0 → wfI .i64 a1 → F_top_TopOneOwner a0 a1 = some true) : Rows.TopOneOwnerSaid :=
  OpenClaim.holds_of_wide 5 Tryz.f5 rfl rfl rfl rfl rfl rfl rfl ⟨rfl, rfl, rfl, rfl, rfl⟩ rfl rfl rfl rfl rfl (by kernel_rfl) Tryz.func5 (by kernel_rfl)
    (of_decide_eq_true (by kernel_rfl)) (by unfold Func.isWrapper; first | (rw [if_pos (by decide +kernel)]; kernel_rfl) | (rw [if_neg (by decide +kernel)]; exact ⟨rfl, rfl⟩))
    (fun os started H enc _ => topOneOwner_lifted hF os started H enc)
end
section
open Go.RowKit
theorem topOneOwner_holds : Rows.TopOneOwnerSaid := topOneOwner_of fun a0 a1 _ _ => topOneOwner_true a0 a1
end
end Go.Proofs.YtplihihjfjmbfaaGreat
