/-
  TopRegistered holds.
-/
import Derived.Test.YtplihihjfjmbfaaGreatKURegistered5
namespace Go.Proofs.YtplihihjfjmbfaaGreat
section
open Go.RowKit
attribute [local irreducible] TS go TD goD
set_option maxRecDepth 100000
set_option maxHeartbeats 40000000

/-- multihop/registration.validTime -/
noncomputable def F_registration_validTime (a0 : Int) : Option (Bool) := bif (decide (a0 ≥ 0)) then some ((decide (a0 ≤ 1099511627776))) else none
theorem ok_registration_validTime (a0 : Int) (r : Bool) (h : F_registration_validTime a0 = some r) : Con Tryz.prog 99 [.c (I6 a0)] [] (.c (BL r)) [] := by
  unfold F_registration_validTime at h; refine con_of [] [] 9 Tryz.func99 rfl rfl kr (fun K => ?_); refine TS_go 9 ?_; replace h := condT h; obtain ⟨hb1,h⟩ := h; refine TS_know 4 (b := true) hb1 kr kr ?_; refine TS_know 5 (b := true) hb1 kr kr ?_; refine TS_go 6 ?_; have ret := Option.some.inj h; subst ret; exact TS_ret kr kr kr

/-- multihop/registration.Valid -/
noncomputable def b29 : Code := bodyOf Tryz.f29
noncomputable def F_registration_Valid_l1 (a0 : List S_Registration) (s2 : Int) : Option ((Int) ⊕ (Unit)) := bif (decide (s2 < (List.length a0 : Int))) then (idx a0 s2).bind fun e6 => bif (decide (s2 > 0)) then (idx a0 (IntKind.wrap .i64 (s2 - 1))).bind fun e8 => (F_registration_compare e8 e6.IP).bind fun v9 => bif (decide (v9 ≥ 0)) then none else (F_address_IsMulticast e6.IP).bind fun v11 => bif v11 then none else (F_registration_place e6.Link).bind fun v13 => bif v13 then bif (e6.State != 1) then none else (F_registration_validTime e6.Until).bind fun v16 => bif v16 then some (Sum.inl (IntKind.wrap .i64 (s2 + 1))) else none else none else (F_address_IsMulticast e6.IP).bind fun v18 => bif v18 then none else (F_registration_place e6.Link).bind fun v20 => bif v20 then bif (e6.State != 1) then none else (F_registration_validTime e6.Until).bind fun v23 => bif v23 then some (Sum.inl (IntKind.wrap .i64 (s2 + 1))) else none else none else some (Sum.inr ())
noncomputable def F_registration_Valid (a0 : List S_Registration) : Option (Bool) := bif (decide ((List.length a0 : Int) > 16)) then none else (loopO (F_registration_Valid_l1 a0) 0).bind fun _b3 => some (true)
theorem ok_registration_Valid (a0 : List S_Registration) (r : Bool) (h : F_registration_Valid a0 = some r) : Con Tryz.prog 29 [.c (eS 23 S_Registration.cs (a0))] [] (.c (BL r)) [] := by
  unfold F_registration_Valid at h; refine con_of [] [] 54 Tryz.func29 rfl rfl kr (fun K => ?_); refine TS_go 11 ?_; replace h := condF h; obtain ⟨hb1,h⟩ := h; refine TS_know 7 (b := false) hb1 kr kr ?_; refine TS_F kr rfl ?_; refine TS_go 9 ?_; refine TS_cut (fI [0,8,9,10] []) (.mk [cA 43 b29,.blk 0,cA 15 b29] .normal ⟨[(0,.c (.slc 23 0 (List.length a0) (List.map S_Registration.cs a0))),(8,.c (.slc 23 0 (List.length a0) (List.map S_Registration.cs a0))),(9,.c (I6 ((List.length a0 : Int)))),(10,.c (I6 0))],[]⟩) kr kr ?_; replace h := bindO h; obtain ⟨y4,hl1,hK1⟩ := h; refine TS_loopB (F_registration_Valid_l1 a0) (fI [0,8,9,10] []) (fun (s2 : Int) => [(10,.c (I6 s2))]) (fun (s2 : Int) => []) 0 y4 (.exit 0) (fun (b : Unit) => b) (fI [] []) (fun (b3 : Unit) => []) (fun (b3 : Unit) => []) hl1 kr kr ?_ ?_
  · intro s2 x h hy1; unfold F_registration_Valid_l1 at h; refine TS_go 5 ?_; replace h := condO h; rcases h with ⟨hb5,h⟩ | ⟨hb5,h⟩
    · refine TS_know 11 (b := true) hb5 kr kr ?_; refine TS_T kr rfl ?_; refine TS_go 6 ?_; replace h := bindO h; obtain ⟨e6,he6,h⟩ := h; refine TS_idx S_Registration.cs he6 kr kr ?_; refine TS_go 7 ?_; refine TS_draw kr ?_; refine TD_go 2 ?_; replace h := condO h; rcases h with ⟨hb7,h⟩ | ⟨hb7,h⟩
      · refine TD_know 17 (b := true) hb7 trivial kr kr ?_; refine TD_go 3 ?_; replace h := bindO h; obtain ⟨e8,he8,h⟩ := h; refine TD_idx S_Registration.cs he8 kr kr ?_; refine TD_go 3 ?_; replace h := bindO h; obtain ⟨v9,hv9,h⟩ := h; refine TD_call [] (ok_registration_compare e8 e6.IP v9 hv9) kr kr ?_; refine TD_go 2 ?_; replace h := condF h; obtain ⟨hb10,h⟩ := h; refine TD_know 28 (b := false) hb10 trivial kr kr ?_; refine TD_go 2 ?_; replace h := bindO h; obtain ⟨v11,hv11,h⟩ := h; refine TD_call [] (ok_address_IsMulticast e6.IP v11 hv11) kr kr ?_; refine TD_go 1 ?_; refine TD_end kr ?_; replace h := condF h; obtain ⟨hb12,h⟩ := h; subst hb12; refine TS_F kr rfl ?_; refine TS_go 5 ?_; replace h := bindO h; obtain ⟨v13,hv13,h⟩ := h; refine TS_call [] (ok_registration_place e6.Link v13 hv13) kr kr ?_; refine TS_go 2 ?_; replace h := condT h; obtain ⟨hb14,h⟩ := h; subst hb14; refine TS_go 4 ?_; replace h := condF h; obtain ⟨hb15,h⟩ := h; refine TS_know 16 (b := true) hb7 kr kr ?_; refine TS_know 26 (b := false) hb10 kr kr ?_; refine TS_know 27 (b := false) hb10 kr kr ?_; refine TS_know 40 (b := false) hb15 kr kr ?_; refine TS_know 41 (b := false) hb15 kr kr ?_; refine TS_go 8 ?_; replace h := bindO h; obtain ⟨v16,hv16,h⟩ := h; refine TS_call [] (ok_registration_validTime e6.Until v16 hv16) kr kr ?_; refine TS_go 3 ?_; replace h := condT h; obtain ⟨hb17,h⟩ := h; subst hb17; refine TS_F kr rfl ?_; refine TS_go 6 ?_; have ret := Option.some.inj h; subst ret; exact TS_againB _ (fI [0,8,9,10] []) rfl kr kr
      refine TD_know 17 (b := false) hb7 trivial kr kr ?_; refine TD_go 13 ?_; replace h := bindO h; obtain ⟨v18,hv18,h⟩ := h; refine TD_call [] (ok_address_IsMulticast e6.IP v18 hv18) kr kr ?_; refine TD_go 1 ?_; refine TD_end kr ?_; replace h := condF h; obtain ⟨hb19,h⟩ := h; subst hb19; refine TS_F kr rfl ?_; refine TS_go 5 ?_; replace h := bindO h; obtain ⟨v20,hv20,h⟩ := h; refine TS_call [] (ok_registration_place e6.Link v20 hv20) kr kr ?_; refine TS_go 2 ?_; replace h := condT h; obtain ⟨hb21,h⟩ := h; subst hb21; refine TS_go 4 ?_; replace h := condF h; obtain ⟨hb22,h⟩ := h; refine TS_know 16 (b := false) hb7 kr kr ?_; refine TS_know 40 (b := false) hb22 kr kr ?_; refine TS_know 41 (b := false) hb22 kr kr ?_; refine TS_go 8 ?_; replace h := bindO h; obtain ⟨v23,hv23,h⟩ := h; refine TS_call [] (ok_registration_validTime e6.Until v23 hv23) kr kr ?_; refine TS_go 3 ?_; replace h := condT h; obtain ⟨hb24,h⟩ := h; subst hb24; refine TS_F kr rfl ?_; refine TS_go 6 ?_; have ret := Option.some.inj h; subst ret; exact TS_againB _ (fI [0,8,9,10] []) rfl kr kr
    refine TS_know 11 (b := false) hb5 kr kr ?_; refine TS_F kr rfl ?_; refine TS_go 2 ?_; have ret := Option.some.inj h; subst ret; exact TS_brkB () (fI [] []) rfl kr kr kr
  intro b3 hb; subst y4; have h := hK1; refine TS_go 6 ?_; have ret := Option.some.inj h; subst ret; exact TS_ret kr kr kr

/-- multihop/registration.Expire -/
noncomputable def b93 : Code := bodyOf Tryz.f93
/-- slices.BinarySearchFunc[[]multihop/api.Registrationmultihop/api.Registrationmultihop/api.IP] -/
noncomputable def b94 : Code := bodyOf Tryz.f94
noncomputable def F_slices_BinarySearchFunc_api_Registration_api_Registration_api_IP_F952_l1 (a0 : List S_Registration) (a1 : List Int) (s1 : Int × Int) : Option ((Int × Int) ⊕ (Int)) := bif (decide (s1.1 < s1.2)) then (idx a0 (IntKind.wrap .i64 (ishr .u64 (IntKind.wrap .u64 (IntKind.wrap .i64 (s1.1 + s1.2))) 1))).bind fun e5 => (F_registration_compare e5 a1).bind fun v6 => bif (decide (v6 < 0)) then some (Sum.inl (IntKind.wrap .i64 ((IntKind.wrap .i64 (ishr .u64 (IntKind.wrap .u64 (IntKind.wrap .i64 (s1.1 + s1.2))) 1)) + 1),s1.2)) else some (Sum.inl (s1.1,IntKind.wrap .i64 (ishr .u64 (IntKind.wrap .u64 (IntKind.wrap .i64 (s1.1 + s1.2))) 1))) else some (Sum.inr s1.1)
noncomputable def F_slices_BinarySearchFunc_api_Registration_api_Registration_api_IP_F952 (a0 : List S_Registration) (a1 : List Int) : Option (Int × Bool) := (loopO (F_slices_BinarySearchFunc_api_Registration_api_Registration_api_IP_F952_l1 a0 a1) (0,(List.length a0 : Int))).bind fun b2 => bif (decide (b2 < (List.length a0 : Int))) then (idx a0 b2).bind fun e10 => (F_registration_compare e10 a1).bind fun v11 => some ((b2,(v11 == 0))) else some ((b2,false))
theorem ok_slices_BinarySearchFunc_api_Registration_api_Registration_api_IP_F952 (a0 : List S_Registration) (a1 : List Int) (r : Int × Bool) (h : F_slices_BinarySearchFunc_api_Registration_api_Registration_api_IP_F952 a0 a1 = some r) : Con Tryz.prog 94 [.c (eS 23 S_Registration.cs (a0)),.agg (arrS .u8 16 a1),.c (.lit (.func (.func 95) #[] #[]))] [] (.tup [(false,[I6 r.1]),(false,[BL r.2])]) [] := by
  unfold F_slices_BinarySearchFunc_api_Registration_api_Registration_api_IP_F952 at h; refine con_of [] [] 49 Tryz.func94 rfl rfl kr (fun K => ?_); refine TS_go 20 ?_; refine TS_cut (fI [0,2,4,8,9,10] [4]) (.mk [cA 39 b94,.blk 0,cA 31 b94] .normal ⟨[(0,.c (.slc 23 0 (List.length a0) (List.map S_Registration.cs a0))),(2,.c (.lit (.func (.func 95) #[] #[]))),(4,bx 4),(8,.c (I6 ((List.length a0 : Int)))),(9,.c (I6 0)),(10,.c (I6 ((List.length a0 : Int))))],[(4,.box (getsL .u8 a1 0 16))]⟩) kr kr ?_; replace h := bindO h; obtain ⟨y3,hl1,hK1⟩ := h; refine TS_loopB (F_slices_BinarySearchFunc_api_Registration_api_Registration_api_IP_F952_l1 a0 a1) (fI [0,2,4,8,9,10] [4]) (fun (s1 : Int × Int) => [(9,.c (I6 s1.1)),(10,.c (I6 s1.2))]) (fun (s1 : Int × Int) => []) (0,(List.length a0 : Int)) y3 (.exit 0) (fun (b : Int) => b) (fI [0,2,4,8,9] [4]) (fun (b2 : Int) => [(9,.c (I6 b2))]) (fun (b2 : Int) => []) hl1 kr kr ?_ ?_
  · intro s1 x h hy1; unfold F_slices_BinarySearchFunc_api_Registration_api_Registration_api_IP_F952_l1 at h; refine TS_go 7 ?_; replace h := condO h; rcases h with ⟨hb4,h⟩ | ⟨hb4,h⟩
    · refine TS_know 17 (b := true) hb4 kr kr ?_; refine TS_T kr rfl ?_; refine TS_go 13 ?_; refine TS_draw kr ?_; refine TD_go 3 ?_; replace h := bindO h; obtain ⟨e5,he5,h⟩ := h; refine TD_idx S_Registration.cs he5 kr kr ?_; refine TD_go 2 ?_; replace h := bindO h; obtain ⟨v6,hv6,h⟩ := h; refine TD_call [] (ok_registration_compare e5 a1 v6 hv6) kr kr ?_; refine TD_go 1 ?_; refine TD_end kr ?_; replace h := condO h; rcases h with ⟨hb7,h⟩ | ⟨hb7,h⟩
      · refine TS_know 31 (b := true) hb7 kr kr ?_; refine TS_T kr rfl ?_; refine TS_go 6 ?_; have ret := Option.some.inj h; subst ret; exact TS_againB _ (fI [0,2,4,8,9,10] [4]) rfl kr kr
      refine TS_know 31 (b := false) hb7 kr kr ?_; refine TS_F kr rfl ?_; refine TS_go 5 ?_; have ret := Option.some.inj h; subst ret; exact TS_againB _ (fI [0,2,4,8,9,10] [4]) rfl kr kr
    refine TS_know 17 (b := false) hb4 kr kr ?_; refine TS_F kr rfl ?_; refine TS_go 2 ?_; have ret := Option.some.inj h; subst ret; exact TS_brkB s1.1 (fI [0,2,4,8,9] [4]) rfl kr kr kr
  intro b2 hb; subst y3; have h := hK1; refine TS_go 2 ?_; refine TS_draw kr ?_; refine TD_go 4 ?_; replace h := condO h; rcases h with ⟨hb9,h⟩ | ⟨hb9,h⟩
  · refine TD_know 39 (b := true) hb9 trivial kr kr ?_; refine TD_go 3 ?_; replace h := bindO h; obtain ⟨e10,he10,h⟩ := h; refine TD_idx S_Registration.cs he10 kr kr ?_; refine TD_go 2 ?_; replace h := bindO h; obtain ⟨v11,hv11,h⟩ := h; refine TD_call [] (ok_registration_compare e10 a1 v11 hv11) kr kr ?_; refine TD_go 4 ?_; refine TD_end kr ?_; refine TS_go 1 ?_; have ret := Option.some.inj h; subst ret; exact TS_ret kr kr kr
  refine TD_know 39 (b := false) hb9 trivial kr kr ?_; refine TD_go 11 ?_; refine TD_end kr ?_; refine TS_go 1 ?_; have ret := Option.some.inj h; subst ret; exact TS_ret kr kr kr

/-- multihop/registration.Newer -/
noncomputable def F_registration_Newer (a0 : Int) (a1 : Int) : Option (Bool) := bif (decide ((IntKind.wrap .i64 a0) ≥ 128)) then bif (decide ((IntKind.wrap .i64 a1) ≥ 128)) then bif (decide ((IntKind.wrap .i64 a0) > (IntKind.wrap .i64 a1))) then some ((decide ((IntKind.wrap .i64 ((IntKind.wrap .i64 a0) - (IntKind.wrap .i64 a1))) ≤ 16))) else some (false) else bif (decide ((IntKind.wrap .i64 a0) < 128)) then bif (decide ((IntKind.wrap .i64 a1) < 128)) then bif (decide ((Int.tmod (IntKind.wrap .i64 ((IntKind.wrap .i64 ((IntKind.wrap .i64 a0) - (IntKind.wrap .i64 a1))) + 128)) 128) ≥ 1)) then some ((decide ((Int.tmod (IntKind.wrap .i64 ((IntKind.wrap .i64 ((IntKind.wrap .i64 a0) - (IntKind.wrap .i64 a1))) + 128)) 128) ≤ 16))) else none else some ((decide ((IntKind.wrap .i64 ((IntKind.wrap .i64 ((IntKind.wrap .i64 a0) + 256)) - (IntKind.wrap .i64 a1))) ≤ 16))) else some ((decide ((IntKind.wrap .i64 ((IntKind.wrap .i64 ((IntKind.wrap .i64 a1) + 256)) - (IntKind.wrap .i64 a0))) > 16))) else bif (decide ((IntKind.wrap .i64 a0) < 128)) then bif (decide ((IntKind.wrap .i64 a1) < 128)) then bif (decide ((Int.tmod (IntKind.wrap .i64 ((IntKind.wrap .i64 ((IntKind.wrap .i64 a0) - (IntKind.wrap .i64 a1))) + 128)) 128) ≥ 1)) then some ((decide ((Int.tmod (IntKind.wrap .i64 ((IntKind.wrap .i64 ((IntKind.wrap .i64 a0) - (IntKind.wrap .i64 a1))) + 128)) 128) ≤ 16))) else none else some ((decide ((IntKind.wrap .i64 ((IntKind.wrap .i64 ((IntKind.wrap .i64 a0) + 256)) - (IntKind.wrap .i64 a1))) ≤ 16))) else some ((decide ((IntKind.wrap .i64 ((IntKind.wrap .i64 ((IntKind.wrap .i64 a1) + 256)) - (IntKind.wrap .i64 a0))) > 16)))
theorem ok_registration_Newer (a0 : Int) (a1 : Int) (r : Bool) (h : F_registration_Newer a0 a1 = some r) : Con Tryz.prog 97 [.c (U8 a0),.c (U8 a1)] [] (.c (BL r)) [] := by
  unfold F_registration_Newer at h; refine con_of [] [] 59 Tryz.func97 rfl rfl kr (fun K => ?_); refine TS_go 20 ?_; replace h := condO h; rcases h with ⟨hb1,h⟩ | ⟨hb1,h⟩
  · refine TS_know 14 (b := true) hb1 kr kr ?_; refine TS_know 15 (b := true) hb1 kr kr ?_; refine TS_go 5 ?_; replace h := condO h; rcases h with ⟨hb2,h⟩ | ⟨hb2,h⟩
    · refine TS_know 17 (b := true) hb2 kr kr ?_; refine TS_know 18 (b := true) hb2 kr kr ?_; refine TS_know 12 (b := true) hb2 kr kr ?_; refine TS_T kr rfl ?_; refine TS_go 6 ?_; replace h := condO h; rcases h with ⟨hb3,h⟩ | ⟨hb3,h⟩
      · refine TS_know 21 (b := true) hb3 kr kr ?_; refine TS_know 22 (b := true) hb3 kr kr ?_; refine TS_go 10 ?_; have ret := Option.some.inj h; subst ret; exact TS_ret kr kr kr
      refine TS_know 21 (b := false) hb3 kr kr ?_; refine TS_know 22 (b := false) hb3 kr kr ?_; refine TS_go 10 ?_; have ret := Option.some.inj h; subst ret; exact TS_ret kr kr kr
    refine TS_know 17 (b := false) hb2 kr kr ?_; refine TS_know 18 (b := false) hb2 kr kr ?_; refine TS_know 12 (b := false) hb2 kr kr ?_; refine TS_F kr rfl ?_; refine TS_go 5 ?_; replace h := condO h; rcases h with ⟨hb4,h⟩ | ⟨hb4,h⟩
    · refine TS_know 30 (b := true) hb4 kr kr ?_; refine TS_know 31 (b := true) hb4 kr kr ?_; refine TS_go 5 ?_; replace h := condO h; rcases h with ⟨hb5,h⟩ | ⟨hb5,h⟩
      · refine TS_know 33 (b := true) hb5 kr kr ?_; refine TS_know 34 (b := true) hb5 kr kr ?_; refine TS_know 28 (b := true) hb5 kr kr ?_; refine TS_T kr rfl ?_; refine TS_go 14 ?_; replace h := condT h; obtain ⟨hb6,h⟩ := h; refine TS_know 41 (b := true) hb6 kr kr ?_; refine TS_know 42 (b := true) hb6 kr kr ?_; refine TS_go 8 ?_; have ret := Option.some.inj h; subst ret; exact TS_ret kr kr kr
      refine TS_know 33 (b := false) hb5 kr kr ?_; refine TS_know 34 (b := false) hb5 kr kr ?_; refine TS_know 28 (b := false) hb5 kr kr ?_; refine TS_F kr rfl ?_; refine TS_go 4 ?_; refine TS_know 48 (b := true) hb4 kr kr ?_; refine TS_go 2 ?_; refine TS_T kr rfl ?_; refine TS_go 12 ?_; have ret := Option.some.inj h; subst ret; exact TS_ret kr kr kr
    refine TS_know 30 (b := false) hb4 kr kr ?_; refine TS_know 31 (b := false) hb4 kr kr ?_; refine TS_go 5 ?_; refine TS_F kr rfl ?_; refine TS_go 4 ?_; refine TS_know 48 (b := false) hb4 kr kr ?_; refine TS_go 2 ?_; refine TS_F kr rfl ?_; refine TS_go 12 ?_; have ret := Option.some.inj h; subst ret; exact TS_ret kr kr kr
  refine TS_know 14 (b := false) hb1 kr kr ?_; refine TS_know 15 (b := false) hb1 kr kr ?_; refine TS_go 5 ?_; refine TS_F kr rfl ?_; refine TS_go 5 ?_; replace h := condO h; rcases h with ⟨hb7,h⟩ | ⟨hb7,h⟩
  · refine TS_know 30 (b := true) hb7 kr kr ?_; refine TS_know 31 (b := true) hb7 kr kr ?_; refine TS_go 5 ?_; replace h := condO h; rcases h with ⟨hb8,h⟩ | ⟨hb8,h⟩
    · refine TS_know 33 (b := true) hb8 kr kr ?_; refine TS_know 34 (b := true) hb8 kr kr ?_; refine TS_know 28 (b := true) hb8 kr kr ?_; refine TS_T kr rfl ?_; refine TS_go 14 ?_; replace h := condT h; obtain ⟨hb9,h⟩ := h; refine TS_know 41 (b := true) hb9 kr kr ?_; refine TS_know 42 (b := true) hb9 kr kr ?_; refine TS_go 8 ?_; have ret := Option.some.inj h; subst ret; exact TS_ret kr kr kr
    refine TS_know 33 (b := false) hb8 kr kr ?_; refine TS_know 34 (b := false) hb8 kr kr ?_; refine TS_know 28 (b := false) hb8 kr kr ?_; refine TS_F kr rfl ?_; refine TS_go 4 ?_; refine TS_know 48 (b := true) hb7 kr kr ?_; refine TS_go 2 ?_; refine TS_T kr rfl ?_; refine TS_go 12 ?_; have ret := Option.some.inj h; subst ret; exact TS_ret kr kr kr
  refine TS_know 30 (b := false) hb7 kr kr ?_; refine TS_know 31 (b := false) hb7 kr kr ?_; refine TS_go 5 ?_; refine TS_F kr rfl ?_; refine TS_go 4 ?_; refine TS_know 48 (b := false) hb7 kr kr ?_; refine TS_go 2 ?_; refine TS_F kr rfl ?_; refine TS_go 12 ?_; have ret := Option.some.inj h; subst ret; exact TS_ret kr kr kr

/-- multihop/registration.Expire -/
noncomputable def F_registration_Expire_R_j2 (s5 : Int × (List S_Registration)) (v9 : (List S_Registration)) : Option ((Int × (List S_Registration)) ⊕ ((List S_Registration))) := some (Sum.inl (IntKind.wrap .i64 (s5.1 + 1),v9))
noncomputable def F_registration_Expire_R_l1 (a0 : List S_Registration) (a1 : Int) (s5 : Int × (List S_Registration)) : Option ((Int × (List S_Registration)) ⊕ ((List S_Registration))) := bif (decide (s5.1 < (List.length a0 : Int))) then (idx a0 s5.1).bind fun e10 => bif (decide (e10.Until > a1)) then (appO 72 (List.take (List.length s5.2) s5.2) (Cut.app .whole ([e10] : List S_Registration))).bind fun l12 => (F_registration_Expire_R_j2 s5) l12 else (F_registration_Expire_R_j2 s5) s5.2 else some (Sum.inr s5.2)
noncomputable def F_registration_Expire_R (a0 : List S_Registration) (a1 : Int) : Option ((List S_Registration) × Int) := (F_registration_Valid a0).bind fun v1 => bif v1 then (F_registration_validTime a1).bind fun v3 => bif v3 then (loopO (F_registration_Expire_R_l1 a0 a1) (0,([] : List S_Registration))).bind fun b6 => some ((b6,0)) else none else none
theorem okT_registration_Expire_R (a0 : List S_Registration) (a1 : Int) (r : (List S_Registration) × Int) (h : F_registration_Expire_R a0 a1 = some r) : Con Tryz.prog 93 [.c (eS 23 S_Registration.cs (a0)),.c (I6 a1)] [] (.tup [(false,[.own 900000]),(false,[I6 r.2])]) [(900000,.row 96 23 (List.length r.1) (List.map S_Registration.cs r.1))] := by
  unfold F_registration_Expire_R at h; refine con_of [] [(900000,[])] 31 Tryz.func93 rfl rfl kr (fun K => ?_); refine TS_go 9 ?_; replace h := bindO h; obtain ⟨v1,hv1,h⟩ := h; refine TS_call [] (ok_registration_Valid a0 v1 hv1) kr kr ?_; refine TS_go 2 ?_; replace h := condT h; obtain ⟨hb2,h⟩ := h; subst hb2; refine TS_F kr rfl ?_; refine TS_go 5 ?_; replace h := bindO h; obtain ⟨v3,hv3,h⟩ := h; refine TS_call [] (ok_registration_validTime a1 v3 hv3) kr kr ?_; refine TS_go 2 ?_; replace h := condT h; obtain ⟨hb4,h⟩ := h; subst hb4; refine TS_F kr rfl ?_; refine TS_go 13 ?_; refine TS_nilR 6 600000 96 23 kr ?_; refine TS_cut (fI [1,6,15,16,17] [600000]) (.mk [cA 175 b93,.blk 0,cA 63 b93] .normal ⟨[(1,.c (I6 a1)),(6,.c (.own 600000)),(15,.c (.slc 23 0 (List.length a0) (List.map S_Registration.cs a0))),(16,.c (I6 ((List.length a0 : Int)))),(17,.c (I6 0))],[(600000,.row 96 23 (List.length ([] : List S_Registration)) (List.map S_Registration.cs ([] : List S_Registration)))]⟩) kr kr ?_; replace h := bindO h; obtain ⟨y7,hl1,hK1⟩ := h; refine TS_loopB (F_registration_Expire_R_l1 a0 a1) (fI [1,6,15,16,17] [600000]) (fun (s5 : Int × (List S_Registration)) => [(17,.c (I6 s5.1))]) (fun (s5 : Int × (List S_Registration)) => [(600000,.row 96 23 (List.length s5.2) (List.map S_Registration.cs s5.2))]) (0,([] : List S_Registration)) y7 (.exit 0) (fun (b : (List S_Registration)) => b) (fI [6] [600000]) (fun (b6 : (List S_Registration)) => []) (fun (b6 : (List S_Registration)) => [(600000,.row 96 23 (List.length b6) (List.map S_Registration.cs b6))]) hl1 kr kr ?_ ?_
  · intro s5 x h hy1; unfold F_registration_Expire_R_l1 at h; refine TS_go 5 ?_; replace h := condO h; rcases h with ⟨hb8,h⟩ | ⟨hb8,h⟩
    · refine TS_know 18 (b := true) hb8 kr kr ?_; refine TS_T kr rfl ?_; refine TS_go 1 ?_; refine TS_cut (fI [1,6,15,16,17] [600000]) (.mk [cA 1839 b93] .normal ⟨[(1,.c (I6 a1)),(6,.c (.own 600000)),(15,.c (.slc 23 0 (List.length a0) (List.map S_Registration.cs a0))),(16,.c (I6 ((List.length a0 : Int)))),(17,.c (I6 s5.1))],[(600000,.row 96 23 (List.length s5.2) (List.map S_Registration.cs s5.2))]⟩) kr kr ?_; refine TS_joinB (fI [1,6,15,16,17] [600000]) (fun (v9 : (List S_Registration)) => []) (fun (v9 : (List S_Registration)) => [(600000,.row 96 23 (List.length v9) (List.map S_Registration.cs v9))]) (F_registration_Expire_R_j2 s5) x ?_ ?_
      · clear h; intro v9 h; unfold F_registration_Expire_R_j2 at h; refine TS_go 4 ?_; have ret := Option.some.inj h; subst ret; exact TS_againB _ (fI [1,6,15,16,17] [600000]) rfl kr kr
      refine TS_go 3 ?_; replace h := bindO h; obtain ⟨e10,he10,h⟩ := h; refine TS_idx S_Registration.cs he10 kr kr ?_; refine TS_go 11 ?_; replace h := condO h; rcases h with ⟨hb11,h⟩ | ⟨hb11,h⟩
      · refine TS_know 24 (b := true) hb11 kr kr ?_; refine TS_T kr rfl ?_; refine TS_go 3 ?_; refine TS_litNT 27 96 23 S_Registration.cs [] ([e10] : List S_Registration) kr kr ?_; replace h := bindO h; obtain ⟨l12,hl12,h⟩ := h; refine TS_appR (d := 600000) (e := 96) (sz := 23) (N := List.length s5.2) (m := (List.length s5.2)) S_Registration.cs (fun _ => by kernel_rfl) (l1 := s5.2) (l2 := ([e10] : List S_Registration)) (c := .whole) hl12 kr kr ?_; refine TS_go 3 ?_; exact TS_meet l12 (fI [1,6,15,16,17] [600000]) h kr kr
      refine TS_know 24 (b := false) hb11 kr kr ?_; refine TS_F kr rfl ?_; refine TS_go 2 ?_; exact TS_meet s5.2 (fI [1,6,15,16,17] [600000]) h kr kr
    refine TS_know 18 (b := false) hb8 kr kr ?_; refine TS_F kr rfl ?_; refine TS_go 2 ?_; have ret := Option.some.inj h; subst ret; exact TS_brkB s5.2 (fI [6] [600000]) rfl kr kr kr
  intro b6 hb; subst y7; have h := hK1; refine TS_go 7 ?_; refine TS_fitU (fJ [4,5] [(600000,900000)]) kr ?_; refine TS_go 1 ?_; have ret := Option.some.inj h; subst ret; exact TS_ret kr kr kr

/-- multihop/registration.Register -/
noncomputable def b28 : Code := bodyOf Tryz.f28
noncomputable def F_registration_Register (a0 : List S_Registration) (a1 : List Int) (a2 : S_Owner) (a3 : S_Addr) (a4 : Int) : Option ((List S_Registration) × Int × Int) := (F_registration_Valid a0).bind fun v1 => bif v1 then (F_address_IsMulticast a1).bind fun v3 => bif v3 then none else (F_registration_place a3).bind fun v5 => bif v5 then (F_registration_Expire_R a0 a4).bind fun v7 => bif (v7.2 != 0) then none else (F_slices_BinarySearchFunc_api_Registration_api_Registration_api_IP_F952 v7.1 a1).bind fun v9 => bif v9.2 then (idx (Cut.app .whole v7.1) v9.1).bind fun _e11 => (v7.1[(0 + Int.toNat v9.1)]?).bind fun e12 => bif (e12.EUI != a2.EUI) then some ((v7.1,1,0)) else (v7.1[(0 + Int.toNat v9.1)]?).bind fun e14 => bif (e14.Sequence != a2.Sequence) then (v7.1[(0 + Int.toNat v9.1)]?).bind fun e16 => (F_registration_Newer a2.Sequence e16.Sequence).bind fun v17 => bif v17 then bif (a2.Lifetime == 0) then bif decide ((0 : Int) ≤ v9.1 ∧ v9.1 ≤ (IntKind.wrap .i64 (v9.1 + 1)) ∧ (IntKind.wrap .i64 (v9.1 + 1)) ≤ (List.length v7.1 : Int) ∧ (List.length v7.1 : Int) ≤ (List.length v7.1 : Int)) then bif (v9.1 == (IntKind.wrap .i64 (v9.1 + 1))) then none else bif decide ((0 : Int) ≤ 0 ∧ 0 ≤ v9.1 ∧ v9.1 ≤ (List.length v7.1 : Int)) then bif decide ((0 : Int) ≤ (IntKind.wrap .i64 (v9.1 + 1)) ∧ (IntKind.wrap .i64 (v9.1 + 1)) ≤ (List.length v7.1 : Int) ∧ (List.length v7.1 : Int) ≤ (List.length v7.1 : Int)) then bif decide ((Int.toNat v9.1) + List.length (Cut.app (.part (Int.toNat (IntKind.wrap .i64 (v9.1 + 1))) (Int.toNat (List.length v7.1 : Int) - Int.toNat (IntKind.wrap .i64 (v9.1 + 1)))) v7.1) ≤ List.length v7.1) then bif decide ((0 : Int) ≤ (((Int.toNat v9.1) + List.length (Cut.app (.part (Int.toNat (IntKind.wrap .i64 (v9.1 + 1))) (Int.toNat (List.length v7.1 : Int) - Int.toNat (IntKind.wrap .i64 (v9.1 + 1)))) v7.1)) : Int) ∧ (((Int.toNat v9.1) + List.length (Cut.app (.part (Int.toNat (IntKind.wrap .i64 (v9.1 + 1))) (Int.toNat (List.length v7.1 : Int) - Int.toNat (IntKind.wrap .i64 (v9.1 + 1)))) v7.1)) : Int) ≤ (List.length v7.1 : Int) ∧ (List.length v7.1 : Int) ≤ (List.length (List.take (Int.toNat v9.1) v7.1 ++ (Cut.app (.part (Int.toNat (IntKind.wrap .i64 (v9.1 + 1))) (Int.toNat (List.length v7.1 : Int) - Int.toNat (IntKind.wrap .i64 (v9.1 + 1)))) v7.1) ++ List.drop ((Int.toNat v9.1) + List.length (Cut.app (.part (Int.toNat (IntKind.wrap .i64 (v9.1 + 1))) (Int.toNat (List.length v7.1 : Int) - Int.toNat (IntKind.wrap .i64 (v9.1 + 1)))) v7.1)) v7.1) : Int)) then some (((List.take ((Int.toNat v9.1) + List.length (Cut.app (.part (Int.toNat (IntKind.wrap .i64 (v9.1 + 1))) (Int.toNat (List.length v7.1 : Int) - Int.toNat (IntKind.wrap .i64 (v9.1 + 1)))) v7.1)) (clrL (List.take (Int.toNat v9.1) v7.1 ++ (Cut.app (.part (Int.toNat (IntKind.wrap .i64 (v9.1 + 1))) (Int.toNat (List.length v7.1 : Int) - Int.toNat (IntKind.wrap .i64 (v9.1 + 1)))) v7.1) ++ List.drop ((Int.toNat v9.1) + List.length (Cut.app (.part (Int.toNat (IntKind.wrap .i64 (v9.1 + 1))) (Int.toNat (List.length v7.1 : Int) - Int.toNat (IntKind.wrap .i64 (v9.1 + 1)))) v7.1)) v7.1) (Int.toNat (((Int.toNat v9.1) + List.length (Cut.app (.part (Int.toNat (IntKind.wrap .i64 (v9.1 + 1))) (Int.toNat (List.length v7.1 : Int) - Int.toNat (IntKind.wrap .i64 (v9.1 + 1)))) v7.1)) : Int)) (List.length (Cut.app (.part (Int.toNat (((Int.toNat v9.1) + List.length (Cut.app (.part (Int.toNat (IntKind.wrap .i64 (v9.1 + 1))) (Int.toNat (List.length v7.1 : Int) - Int.toNat (IntKind.wrap .i64 (v9.1 + 1)))) v7.1)) : Int)) (Int.toNat (List.length v7.1 : Int) - Int.toNat (((Int.toNat v9.1) + List.length (Cut.app (.part (Int.toNat (IntKind.wrap .i64 (v9.1 + 1))) (Int.toNat (List.length v7.1 : Int) - Int.toNat (IntKind.wrap .i64 (v9.1 + 1)))) v7.1)) : Int))) (List.take (Int.toNat v9.1) v7.1 ++ (Cut.app (.part (Int.toNat (IntKind.wrap .i64 (v9.1 + 1))) (Int.toNat (List.length v7.1 : Int) - Int.toNat (IntKind.wrap .i64 (v9.1 + 1)))) v7.1) ++ List.drop ((Int.toNat v9.1) + List.length (Cut.app (.part (Int.toNat (IntKind.wrap .i64 (v9.1 + 1))) (Int.toNat (List.length v7.1 : Int) - Int.toNat (IntKind.wrap .i64 (v9.1 + 1)))) v7.1)) v7.1))) ((S_Registration.mk [0,0,0,0,0,0,0,0,0,0,0,0,0,0,0,0] 0 0 (S_Addr.mk 0 0 0) 0 0) : S_Registration))),0,0)) else none else none else none else none else none else (v7.1[(0 + Int.toNat v9.1)]?).bind fun e27 => ((List.set v7.1 (0 + Int.toNat v9.1) (S_Registration.mk e27.IP e27.EUI a2.Sequence e27.Link e27.State e27.Until))[(0 + Int.toNat v9.1)]?).bind fun e28 => ((List.set (List.set v7.1 (0 + Int.toNat v9.1) (S_Registration.mk e27.IP e27.EUI a2.Sequence e27.Link e27.State e27.Until)) (0 + Int.toNat v9.1) (S_Registration.mk e28.IP e28.EUI e28.Sequence a3 e28.State e28.Until))[(0 + Int.toNat v9.1)]?).bind fun e29 => some (((List.set (List.set (List.set v7.1 (0 + Int.toNat v9.1) (S_Registration.mk e27.IP e27.EUI a2.Sequence e27.Link e27.State e27.Until)) (0 + Int.toNat v9.1) (S_Registration.mk e28.IP e28.EUI e28.Sequence a3 e28.State e28.Until)) (0 + Int.toNat v9.1) (S_Registration.mk e29.IP e29.EUI e29.Sequence e29.Link e29.State (if 1099511627776 < IntKind.wrap .i64 (a4 + (IntKind.wrap .i64 a2.Lifetime)) then 1099511627776 else IntKind.wrap .i64 (a4 + (IntKind.wrap .i64 a2.Lifetime))))),0,0)) else some ((v7.1,3,0)) else bif (a2.Lifetime == 0) then bif decide ((0 : Int) ≤ v9.1 ∧ v9.1 ≤ (IntKind.wrap .i64 (v9.1 + 1)) ∧ (IntKind.wrap .i64 (v9.1 + 1)) ≤ (List.length v7.1 : Int) ∧ (List.length v7.1 : Int) ≤ (List.length v7.1 : Int)) then bif (v9.1 == (IntKind.wrap .i64 (v9.1 + 1))) then none else bif decide ((0 : Int) ≤ 0 ∧ 0 ≤ v9.1 ∧ v9.1 ≤ (List.length v7.1 : Int)) then bif decide ((0 : Int) ≤ (IntKind.wrap .i64 (v9.1 + 1)) ∧ (IntKind.wrap .i64 (v9.1 + 1)) ≤ (List.length v7.1 : Int) ∧ (List.length v7.1 : Int) ≤ (List.length v7.1 : Int)) then bif decide ((Int.toNat v9.1) + List.length (Cut.app (.part (Int.toNat (IntKind.wrap .i64 (v9.1 + 1))) (Int.toNat (List.length v7.1 : Int) - Int.toNat (IntKind.wrap .i64 (v9.1 + 1)))) v7.1) ≤ List.length v7.1) then bif decide ((0 : Int) ≤ (((Int.toNat v9.1) + List.length (Cut.app (.part (Int.toNat (IntKind.wrap .i64 (v9.1 + 1))) (Int.toNat (List.length v7.1 : Int) - Int.toNat (IntKind.wrap .i64 (v9.1 + 1)))) v7.1)) : Int) ∧ (((Int.toNat v9.1) + List.length (Cut.app (.part (Int.toNat (IntKind.wrap .i64 (v9.1 + 1))) (Int.toNat (List.length v7.1 : Int) - Int.toNat (IntKind.wrap .i64 (v9.1 + 1)))) v7.1)) : Int) ≤ (List.length v7.1 : Int) ∧ (List.length v7.1 : Int) ≤ (List.length (List.take (Int.toNat v9.1) v7.1 ++ (Cut.app (.part (Int.toNat (IntKind.wrap .i64 (v9.1 + 1))) (Int.toNat (List.length v7.1 : Int) - Int.toNat (IntKind.wrap .i64 (v9.1 + 1)))) v7.1) ++ List.drop ((Int.toNat v9.1) + List.length (Cut.app (.part (Int.toNat (IntKind.wrap .i64 (v9.1 + 1))) (Int.toNat (List.length v7.1 : Int) - Int.toNat (IntKind.wrap .i64 (v9.1 + 1)))) v7.1)) v7.1) : Int)) then some (((List.take ((Int.toNat v9.1) + List.length (Cut.app (.part (Int.toNat (IntKind.wrap .i64 (v9.1 + 1))) (Int.toNat (List.length v7.1 : Int) - Int.toNat (IntKind.wrap .i64 (v9.1 + 1)))) v7.1)) (clrL (List.take (Int.toNat v9.1) v7.1 ++ (Cut.app (.part (Int.toNat (IntKind.wrap .i64 (v9.1 + 1))) (Int.toNat (List.length v7.1 : Int) - Int.toNat (IntKind.wrap .i64 (v9.1 + 1)))) v7.1) ++ List.drop ((Int.toNat v9.1) + List.length (Cut.app (.part (Int.toNat (IntKind.wrap .i64 (v9.1 + 1))) (Int.toNat (List.length v7.1 : Int) - Int.toNat (IntKind.wrap .i64 (v9.1 + 1)))) v7.1)) v7.1) (Int.toNat (((Int.toNat v9.1) + List.length (Cut.app (.part (Int.toNat (IntKind.wrap .i64 (v9.1 + 1))) (Int.toNat (List.length v7.1 : Int) - Int.toNat (IntKind.wrap .i64 (v9.1 + 1)))) v7.1)) : Int)) (List.length (Cut.app (.part (Int.toNat (((Int.toNat v9.1) + List.length (Cut.app (.part (Int.toNat (IntKind.wrap .i64 (v9.1 + 1))) (Int.toNat (List.length v7.1 : Int) - Int.toNat (IntKind.wrap .i64 (v9.1 + 1)))) v7.1)) : Int)) (Int.toNat (List.length v7.1 : Int) - Int.toNat (((Int.toNat v9.1) + List.length (Cut.app (.part (Int.toNat (IntKind.wrap .i64 (v9.1 + 1))) (Int.toNat (List.length v7.1 : Int) - Int.toNat (IntKind.wrap .i64 (v9.1 + 1)))) v7.1)) : Int))) (List.take (Int.toNat v9.1) v7.1 ++ (Cut.app (.part (Int.toNat (IntKind.wrap .i64 (v9.1 + 1))) (Int.toNat (List.length v7.1 : Int) - Int.toNat (IntKind.wrap .i64 (v9.1 + 1)))) v7.1) ++ List.drop ((Int.toNat v9.1) + List.length (Cut.app (.part (Int.toNat (IntKind.wrap .i64 (v9.1 + 1))) (Int.toNat (List.length v7.1 : Int) - Int.toNat (IntKind.wrap .i64 (v9.1 + 1)))) v7.1)) v7.1))) ((S_Registration.mk [0,0,0,0,0,0,0,0,0,0,0,0,0,0,0,0] 0 0 (S_Addr.mk 0 0 0) 0 0) : S_Registration))),0,0)) else none else none else none else none else none else (v7.1[(0 + Int.toNat v9.1)]?).bind fun e38 => ((List.set v7.1 (0 + Int.toNat v9.1) (S_Registration.mk e38.IP e38.EUI a2.Sequence e38.Link e38.State e38.Until))[(0 + Int.toNat v9.1)]?).bind fun e39 => ((List.set (List.set v7.1 (0 + Int.toNat v9.1) (S_Registration.mk e38.IP e38.EUI a2.Sequence e38.Link e38.State e38.Until)) (0 + Int.toNat v9.1) (S_Registration.mk e39.IP e39.EUI e39.Sequence a3 e39.State e39.Until))[(0 + Int.toNat v9.1)]?).bind fun e40 => some (((List.set (List.set (List.set v7.1 (0 + Int.toNat v9.1) (S_Registration.mk e38.IP e38.EUI a2.Sequence e38.Link e38.State e38.Until)) (0 + Int.toNat v9.1) (S_Registration.mk e39.IP e39.EUI e39.Sequence a3 e39.State e39.Until)) (0 + Int.toNat v9.1) (S_Registration.mk e40.IP e40.EUI e40.Sequence e40.Link e40.State (if 1099511627776 < IntKind.wrap .i64 (a4 + (IntKind.wrap .i64 a2.Lifetime)) then 1099511627776 else IntKind.wrap .i64 (a4 + (IntKind.wrap .i64 a2.Lifetime))))),0,0)) else bif (a2.Lifetime == 0) then some ((v7.1,0,0)) else bif (decide ((List.length v7.1 : Int) ≥ 16)) then none else (insO 72 v7.1 v9.1 (S_Registration.mk a1 a2.EUI a2.Sequence a3 1 (if 1099511627776 < IntKind.wrap .i64 (a4 + (IntKind.wrap .i64 a2.Lifetime)) then 1099511627776 else IntKind.wrap .i64 (a4 + (IntKind.wrap .i64 a2.Lifetime))))).bind fun l43 => some ((l43,0,0)) else none else none
theorem okT_registration_Register (a0 : List S_Registration) (a1 : List Int) (a2 : S_Owner) (a3 : S_Addr) (a4 : Int) (r : (List S_Registration) × Int × Int) (h : F_registration_Register a0 a1 a2 a3 a4 = some r) : Con Tryz.prog 28 [.c (eS 23 S_Registration.cs (a0)),.agg (arrS .u8 16 a1),.agg (S_Owner.cs a2),.agg (S_Addr.cs a3),.c (I6 a4)] [] (.tup [(false,[.slc 23 900002 (List.length r.1) (List.map S_Registration.cs r.1)]),(false,[U8 r.2.1]),(false,[I6 r.2.2])]) [(900000,.spare 96 23 (List.length r.1))] := by
  unfold F_registration_Register at h; refine con_of [] [(900000,[])] 127 Tryz.func28 rfl rfl kr (fun K => ?_); refine TS_go 13 ?_; replace h := bindO h; obtain ⟨v1,hv1,h⟩ := h; refine TS_call [] (ok_registration_Valid a0 v1 hv1) kr kr ?_; refine TS_go 2 ?_; replace h := condT h; obtain ⟨hb2,h⟩ := h; subst hb2; refine TS_go 1 ?_; replace h := bindO h; obtain ⟨v3,hv3,h⟩ := h; refine TS_call [] (ok_address_IsMulticast a1 v3 hv3) kr kr ?_; refine TS_go 2 ?_; replace h := condF h; obtain ⟨hb4,h⟩ := h; subst hb4; refine TS_go 1 ?_; replace h := bindO h; obtain ⟨v5,hv5,h⟩ := h; refine TS_call [] (ok_registration_place a3 v5 hv5) kr kr ?_; refine TS_go 3 ?_; replace h := condT h; obtain ⟨hb6,h⟩ := h; subst hb6; refine TS_F kr rfl ?_; refine TS_go 5 ?_; replace h := bindO h; obtain ⟨v7,hv7,h⟩ := h; refine TS_con [] [(35,900000)] none (okT_registration_Expire_R a0 a4 v7 hv7) kr kr kr ?_; refine TS_go 12 ?_; replace h := condF h; obtain ⟨hb8,h⟩ := h; refine TS_know 39 (b := false) hb8 kr kr ?_; refine TS_F kr rfl ?_; refine TS_go 15 ?_; replace h := bindO h; obtain ⟨v9,hv9,h⟩ := h; refine TS_callF [] (ok_slices_BinarySearchFunc_api_Registration_api_Registration_api_IP_F952 v7.1 a1 v9 hv9) kr kr ?_; refine TS_go 12 ?_; replace h := condO h; rcases h with ⟨hb10,h⟩ | ⟨hb10,h⟩
  · refine TS_know 52 (b := true) hb10 kr kr ?_; refine TS_know 17 (b := true) hb10 kr kr ?_; refine TS_know 53 (b := true) hb10 kr kr ?_; refine TS_know 54 (b := false) (notF hb10) kr kr ?_; refine TS_F kr rfl ?_; refine TS_go 5 ?_; replace h := bindO h; obtain ⟨_e11,he11,h⟩ := h; refine TS_idxR 35 23 0 S_Registration.cs .whole he11 kr kr ?_; refine TS_go 4 ?_; refine TS_draw kr ?_; refine TD_go 1 ?_; refine TD_nc 35 23 (0 + Int.toNat v9.1) 0 kr kr ?_; refine TD_go 1 ?_; replace h := bindO h; obtain ⟨e12,he12,h⟩ := h; refine TD_ldE 35 (0 + Int.toNat v9.1) 16 S_Registration.cs (v := .c (U6 e12.EUI)) he12 kr kr kr ?_; refine TD_go 3 ?_; refine TD_end kr ?_; replace h := condO h; rcases h with ⟨hb13,h⟩ | ⟨hb13,h⟩
    · refine TS_know 85 (b := true) hb13 kr kr ?_; refine TS_T kr rfl ?_; refine TS_go 7 ?_; refine TS_settle 35 kr ?_; refine TS_fitU (fJ [10,11,12] [(35,900000)]) kr ?_; refine TS_go 2 ?_; have ret := Option.some.inj h; subst ret; exact TS_ret kr kr kr
    refine TS_know 85 (b := false) hb13 kr kr ?_; refine TS_F kr rfl ?_; refine TS_go 3 ?_; refine TS_draw kr ?_; refine TD_go 1 ?_; refine TD_nc 35 23 (0 + Int.toNat v9.1) 0 kr kr ?_; refine TD_go 1 ?_; replace h := bindO h; obtain ⟨e14,he14,h⟩ := h; refine TD_ldE 5 (0 + Int.toNat v9.1) 17 S_Registration.cs (v := .c (U8 e14.Sequence)) he14 kr kr kr ?_; refine TD_go 3 ?_; replace h := condO h; rcases h with ⟨hb15,h⟩ | ⟨hb15,h⟩
    · refine TD_know 94 (b := true) hb15 trivial kr kr ?_; refine TD_go 3 ?_; refine TD_nc 35 23 (0 + Int.toNat v9.1) 0 kr kr ?_; refine TD_go 1 ?_; replace h := bindO h; obtain ⟨e16,he16,h⟩ := h; refine TD_ldE 5 (0 + Int.toNat v9.1) 17 S_Registration.cs (v := .c (U8 e16.Sequence)) he16 kr kr kr ?_; replace h := bindO h; obtain ⟨v17,hv17,h⟩ := h; refine TD_call [] (ok_registration_Newer a2.Sequence e16.Sequence v17 hv17) kr kr ?_; refine TD_go 2 ?_; refine TD_end kr ?_; replace h := condO h; rcases h with ⟨hb18,h⟩ | ⟨hb18,h⟩
      · subst hb18; refine TS_F kr rfl ?_; refine TS_go 8 ?_; replace h := condO h; rcases h with ⟨hb19,h⟩ | ⟨hb19,h⟩
        · refine TS_know 93 (b := true) hb15 kr kr ?_; refine TS_know 107 (b := true) hb19 kr kr ?_; refine TS_T kr rfl ?_; refine TS_go 6 ?_; refine TS_cut (fI [108,109,111] [35]) (.mk [oA 19455 b28 4,cA 27647 b28,cA 4095 b28] .normal ⟨[(108,.c (.own 35)),(109,.c (I6 v9.1)),(111,.c (I6 (IntKind.wrap .i64 (v9.1 + 1))))],[(35,.row 96 23 (List.length v7.1) (List.map S_Registration.cs v7.1))]⟩) kr kr ?_; refine TS_bump 2000 kr ?_; refine TS_inl 33 Tryz.func98 rfl rfl kr (fun K26 => ?_); refine TS_go 11 ?_; replace h := chkO h; obtain ⟨hc20,h⟩ := h; refine TS_slM 2035 23 (List.length v7.1) (a := v9.1) (b := IntKind.wrap .i64 (v9.1 + 1)) (m := (List.length v7.1 : Int)) hc20 kr kr ?_; refine TS_go 8 ?_; replace h := condF h; obtain ⟨hb21,h⟩ := h; refine TS_know 16 (b := false) hb21 kr kr ?_; refine TS_F kr rfl ?_; refine TS_go 8 ?_; refine TS_draw kr ?_; refine TD_go 2 ?_; replace h := chkO h; obtain ⟨hc22,h⟩ := h; refine TD_slRow 2035 23 (List.length v7.1) (a := 0) (b := v9.1) hc22 rfl kr kr ?_; refine TD_go 2 ?_; replace h := chkO h; obtain ⟨hc23,h⟩ := h; refine TD_slSub 2035 23 (List.length v7.1) (a := IntKind.wrap .i64 (v9.1 + 1)) (b := (List.length v7.1 : Int)) hc23 kr kr ?_; replace h := chkO h; obtain ⟨hc24,h⟩ := h; refine TD_appP 2035 96 23 72 (List.length v7.1) (Int.toNat v9.1) S_Registration.cs (fun _ => by kernel_rfl) (l1 := v7.1) (l2 := v7.1) (.part (Int.toNat (IntKind.wrap .i64 (v9.1 + 1))) (Int.toNat (List.length v7.1 : Int) - Int.toNat (IntKind.wrap .i64 (v9.1 + 1)))) hc24 kr kr ?_; refine TD_go 1 ?_; refine TD_end kr ?_; refine TS_go 6 ?_; replace h := chkO h; obtain ⟨hc25,h⟩ := h; refine TS_slPSub 2035 23 (List.length (List.take (Int.toNat v9.1) v7.1 ++ (Cut.app (.part (Int.toNat (IntKind.wrap .i64 (v9.1 + 1))) (Int.toNat (List.length v7.1 : Int) - Int.toNat (IntKind.wrap .i64 (v9.1 + 1)))) v7.1) ++ List.drop ((Int.toNat v9.1) + List.length (Cut.app (.part (Int.toNat (IntKind.wrap .i64 (v9.1 + 1))) (Int.toNat (List.length v7.1 : Int) - Int.toNat (IntKind.wrap .i64 (v9.1 + 1)))) v7.1)) v7.1)) (a := (((Int.toNat v9.1) + List.length (Cut.app (.part (Int.toNat (IntKind.wrap .i64 (v9.1 + 1))) (Int.toNat (List.length v7.1 : Int) - Int.toNat (IntKind.wrap .i64 (v9.1 + 1)))) v7.1)) : Int)) (b := (List.length v7.1 : Int)) hc25 kr kr ?_; refine TS_clr 2035 96 23 (List.length (List.take (Int.toNat v9.1) v7.1 ++ (Cut.app (.part (Int.toNat (IntKind.wrap .i64 (v9.1 + 1))) (Int.toNat (List.length v7.1 : Int) - Int.toNat (IntKind.wrap .i64 (v9.1 + 1)))) v7.1) ++ List.drop ((Int.toNat v9.1) + List.length (Cut.app (.part (Int.toNat (IntKind.wrap .i64 (v9.1 + 1))) (Int.toNat (List.length v7.1 : Int) - Int.toNat (IntKind.wrap .i64 (v9.1 + 1)))) v7.1)) v7.1)) (Int.toNat (((Int.toNat v9.1) + List.length (Cut.app (.part (Int.toNat (IntKind.wrap .i64 (v9.1 + 1))) (Int.toNat (List.length v7.1 : Int) - Int.toNat (IntKind.wrap .i64 (v9.1 + 1)))) v7.1)) : Int)) S_Registration.cs ((S_Registration.mk [0,0,0,0,0,0,0,0,0,0,0,0,0,0,0,0] 0 0 (S_Addr.mk 0 0 0) 0 0) : S_Registration) [] (cs := [U8 0,U8 0,U8 0,U8 0,U8 0,U8 0,U8 0,U8 0,U8 0,U8 0,U8 0,U8 0,U8 0,U8 0,U8 0,U8 0,U6 0,U8 0,I6 0,U1 0,U6 0,I6 0,I6 0]) (l := (List.take (Int.toNat v9.1) v7.1 ++ (Cut.app (.part (Int.toNat (IntKind.wrap .i64 (v9.1 + 1))) (Int.toNat (List.length v7.1 : Int) - Int.toNat (IntKind.wrap .i64 (v9.1 + 1)))) v7.1) ++ List.drop ((Int.toNat v9.1) + List.length (Cut.app (.part (Int.toNat (IntKind.wrap .i64 (v9.1 + 1))) (Int.toNat (List.length v7.1 : Int) - Int.toNat (IntKind.wrap .i64 (v9.1 + 1)))) v7.1)) v7.1)) (.part (Int.toNat (((Int.toNat v9.1) + List.length (Cut.app (.part (Int.toNat (IntKind.wrap .i64 (v9.1 + 1))) (Int.toNat (List.length v7.1 : Int) - Int.toNat (IntKind.wrap .i64 (v9.1 + 1)))) v7.1)) : Int)) (Int.toNat (List.length v7.1 : Int) - Int.toNat (((Int.toNat v9.1) + List.length (Cut.app (.part (Int.toNat (IntKind.wrap .i64 (v9.1 + 1))) (Int.toNat (List.length v7.1 : Int) - Int.toNat (IntKind.wrap .i64 (v9.1 + 1)))) v7.1)) : Int))) kr kr kr ?_; refine TS_go 6 ?_; refine TS_trunc 6 (d := 2035) (m := ((Int.toNat v9.1) + List.length (Cut.app (.part (Int.toNat (IntKind.wrap .i64 (v9.1 + 1))) (Int.toNat (List.length v7.1 : Int) - Int.toNat (IntKind.wrap .i64 (v9.1 + 1)))) v7.1))) (e := 96) (sz := 23) (N := List.length (clrL (List.take (Int.toNat v9.1) v7.1 ++ (Cut.app (.part (Int.toNat (IntKind.wrap .i64 (v9.1 + 1))) (Int.toNat (List.length v7.1 : Int) - Int.toNat (IntKind.wrap .i64 (v9.1 + 1)))) v7.1) ++ List.drop ((Int.toNat v9.1) + List.length (Cut.app (.part (Int.toNat (IntKind.wrap .i64 (v9.1 + 1))) (Int.toNat (List.length v7.1 : Int) - Int.toNat (IntKind.wrap .i64 (v9.1 + 1)))) v7.1)) v7.1) (Int.toNat (((Int.toNat v9.1) + List.length (Cut.app (.part (Int.toNat (IntKind.wrap .i64 (v9.1 + 1))) (Int.toNat (List.length v7.1 : Int) - Int.toNat (IntKind.wrap .i64 (v9.1 + 1)))) v7.1)) : Int)) (List.length (Cut.app (.part (Int.toNat (((Int.toNat v9.1) + List.length (Cut.app (.part (Int.toNat (IntKind.wrap .i64 (v9.1 + 1))) (Int.toNat (List.length v7.1 : Int) - Int.toNat (IntKind.wrap .i64 (v9.1 + 1)))) v7.1)) : Int)) (Int.toNat (List.length v7.1 : Int) - Int.toNat (((Int.toNat v9.1) + List.length (Cut.app (.part (Int.toNat (IntKind.wrap .i64 (v9.1 + 1))) (Int.toNat (List.length v7.1 : Int) - Int.toNat (IntKind.wrap .i64 (v9.1 + 1)))) v7.1)) : Int))) (List.take (Int.toNat v9.1) v7.1 ++ (Cut.app (.part (Int.toNat (IntKind.wrap .i64 (v9.1 + 1))) (Int.toNat (List.length v7.1 : Int) - Int.toNat (IntKind.wrap .i64 (v9.1 + 1)))) v7.1) ++ List.drop ((Int.toNat v9.1) + List.length (Cut.app (.part (Int.toNat (IntKind.wrap .i64 (v9.1 + 1))) (Int.toNat (List.length v7.1 : Int) - Int.toNat (IntKind.wrap .i64 (v9.1 + 1)))) v7.1)) v7.1))) ((S_Registration.mk [0,0,0,0,0,0,0,0,0,0,0,0,0,0,0,0] 0 0 (S_Addr.mk 0 0 0) 0 0) : S_Registration))) (xs := List.map S_Registration.cs (clrL (List.take (Int.toNat v9.1) v7.1 ++ (Cut.app (.part (Int.toNat (IntKind.wrap .i64 (v9.1 + 1))) (Int.toNat (List.length v7.1 : Int) - Int.toNat (IntKind.wrap .i64 (v9.1 + 1)))) v7.1) ++ List.drop ((Int.toNat v9.1) + List.length (Cut.app (.part (Int.toNat (IntKind.wrap .i64 (v9.1 + 1))) (Int.toNat (List.length v7.1 : Int) - Int.toNat (IntKind.wrap .i64 (v9.1 + 1)))) v7.1)) v7.1) (Int.toNat (((Int.toNat v9.1) + List.length (Cut.app (.part (Int.toNat (IntKind.wrap .i64 (v9.1 + 1))) (Int.toNat (List.length v7.1 : Int) - Int.toNat (IntKind.wrap .i64 (v9.1 + 1)))) v7.1)) : Int)) (List.length (Cut.app (.part (Int.toNat (((Int.toNat v9.1) + List.length (Cut.app (.part (Int.toNat (IntKind.wrap .i64 (v9.1 + 1))) (Int.toNat (List.length v7.1 : Int) - Int.toNat (IntKind.wrap .i64 (v9.1 + 1)))) v7.1)) : Int)) (Int.toNat (List.length v7.1 : Int) - Int.toNat (((Int.toNat v9.1) + List.length (Cut.app (.part (Int.toNat (IntKind.wrap .i64 (v9.1 + 1))) (Int.toNat (List.length v7.1 : Int) - Int.toNat (IntKind.wrap .i64 (v9.1 + 1)))) v7.1)) : Int))) (List.take (Int.toNat v9.1) v7.1 ++ (Cut.app (.part (Int.toNat (IntKind.wrap .i64 (v9.1 + 1))) (Int.toNat (List.length v7.1 : Int) - Int.toNat (IntKind.wrap .i64 (v9.1 + 1)))) v7.1) ++ List.drop ((Int.toNat v9.1) + List.length (Cut.app (.part (Int.toNat (IntKind.wrap .i64 (v9.1 + 1))) (Int.toNat (List.length v7.1 : Int) - Int.toNat (IntKind.wrap .i64 (v9.1 + 1)))) v7.1)) v7.1))) ((S_Registration.mk [0,0,0,0,0,0,0,0,0,0,0,0,0,0,0,0] 0 0 (S_Addr.mk 0 0 0) 0 0) : S_Registration))) (List.length (List.take ((Int.toNat v9.1) + List.length (Cut.app (.part (Int.toNat (IntKind.wrap .i64 (v9.1 + 1))) (Int.toNat (List.length v7.1 : Int) - Int.toNat (IntKind.wrap .i64 (v9.1 + 1)))) v7.1)) (clrL (List.take (Int.toNat v9.1) v7.1 ++ (Cut.app (.part (Int.toNat (IntKind.wrap .i64 (v9.1 + 1))) (Int.toNat (List.length v7.1 : Int) - Int.toNat (IntKind.wrap .i64 (v9.1 + 1)))) v7.1) ++ List.drop ((Int.toNat v9.1) + List.length (Cut.app (.part (Int.toNat (IntKind.wrap .i64 (v9.1 + 1))) (Int.toNat (List.length v7.1 : Int) - Int.toNat (IntKind.wrap .i64 (v9.1 + 1)))) v7.1)) v7.1) (Int.toNat (((Int.toNat v9.1) + List.length (Cut.app (.part (Int.toNat (IntKind.wrap .i64 (v9.1 + 1))) (Int.toNat (List.length v7.1 : Int) - Int.toNat (IntKind.wrap .i64 (v9.1 + 1)))) v7.1)) : Int)) (List.length (Cut.app (.part (Int.toNat (((Int.toNat v9.1) + List.length (Cut.app (.part (Int.toNat (IntKind.wrap .i64 (v9.1 + 1))) (Int.toNat (List.length v7.1 : Int) - Int.toNat (IntKind.wrap .i64 (v9.1 + 1)))) v7.1)) : Int)) (Int.toNat (List.length v7.1 : Int) - Int.toNat (((Int.toNat v9.1) + List.length (Cut.app (.part (Int.toNat (IntKind.wrap .i64 (v9.1 + 1))) (Int.toNat (List.length v7.1 : Int) - Int.toNat (IntKind.wrap .i64 (v9.1 + 1)))) v7.1)) : Int))) (List.take (Int.toNat v9.1) v7.1 ++ (Cut.app (.part (Int.toNat (IntKind.wrap .i64 (v9.1 + 1))) (Int.toNat (List.length v7.1 : Int) - Int.toNat (IntKind.wrap .i64 (v9.1 + 1)))) v7.1) ++ List.drop ((Int.toNat v9.1) + List.length (Cut.app (.part (Int.toNat (IntKind.wrap .i64 (v9.1 + 1))) (Int.toNat (List.length v7.1 : Int) - Int.toNat (IntKind.wrap .i64 (v9.1 + 1)))) v7.1)) v7.1))) ((S_Registration.mk [0,0,0,0,0,0,0,0,0,0,0,0,0,0,0,0] 0 0 (S_Addr.mk 0 0 0) 0 0) : S_Registration)))) (List.map S_Registration.cs (List.take ((Int.toNat v9.1) + List.length (Cut.app (.part (Int.toNat (IntKind.wrap .i64 (v9.1 + 1))) (Int.toNat (List.length v7.1 : Int) - Int.toNat (IntKind.wrap .i64 (v9.1 + 1)))) v7.1)) (clrL (List.take (Int.toNat v9.1) v7.1 ++ (Cut.app (.part (Int.toNat (IntKind.wrap .i64 (v9.1 + 1))) (Int.toNat (List.length v7.1 : Int) - Int.toNat (IntKind.wrap .i64 (v9.1 + 1)))) v7.1) ++ List.drop ((Int.toNat v9.1) + List.length (Cut.app (.part (Int.toNat (IntKind.wrap .i64 (v9.1 + 1))) (Int.toNat (List.length v7.1 : Int) - Int.toNat (IntKind.wrap .i64 (v9.1 + 1)))) v7.1)) v7.1) (Int.toNat (((Int.toNat v9.1) + List.length (Cut.app (.part (Int.toNat (IntKind.wrap .i64 (v9.1 + 1))) (Int.toNat (List.length v7.1 : Int) - Int.toNat (IntKind.wrap .i64 (v9.1 + 1)))) v7.1)) : Int)) (List.length (Cut.app (.part (Int.toNat (((Int.toNat v9.1) + List.length (Cut.app (.part (Int.toNat (IntKind.wrap .i64 (v9.1 + 1))) (Int.toNat (List.length v7.1 : Int) - Int.toNat (IntKind.wrap .i64 (v9.1 + 1)))) v7.1)) : Int)) (Int.toNat (List.length v7.1 : Int) - Int.toNat (((Int.toNat v9.1) + List.length (Cut.app (.part (Int.toNat (IntKind.wrap .i64 (v9.1 + 1))) (Int.toNat (List.length v7.1 : Int) - Int.toNat (IntKind.wrap .i64 (v9.1 + 1)))) v7.1)) : Int))) (List.take (Int.toNat v9.1) v7.1 ++ (Cut.app (.part (Int.toNat (IntKind.wrap .i64 (v9.1 + 1))) (Int.toNat (List.length v7.1 : Int) - Int.toNat (IntKind.wrap .i64 (v9.1 + 1)))) v7.1) ++ List.drop ((Int.toNat v9.1) + List.length (Cut.app (.part (Int.toNat (IntKind.wrap .i64 (v9.1 + 1))) (Int.toNat (List.length v7.1 : Int) - Int.toNat (IntKind.wrap .i64 (v9.1 + 1)))) v7.1)) v7.1))) ((S_Registration.mk [0,0,0,0,0,0,0,0,0,0,0,0,0,0,0,0] 0 0 (S_Addr.mk 0 0 0) 0 0) : S_Registration)))) List.map_take.symm (List.length_map _) kr kr ?_; refine TS_go 1 ?_; refine TS_inlR kr kr ?_; refine TS_go 4 ?_; refine TS_settle 2035 kr ?_; refine TS_fitU (fJ [10,11,12] [(2035,900000)]) kr ?_; refine TS_go 2 ?_; have ret := Option.some.inj h; subst ret; exact TS_ret kr kr kr
        refine TS_know 93 (b := true) hb15 kr kr ?_; refine TS_know 107 (b := false) hb19 kr kr ?_; refine TS_F kr rfl ?_; refine TS_go 2 ?_; refine TS_draw kr ?_; refine TD_go 7 ?_; refine TD_nc 35 23 (0 + Int.toNat v9.1) 0 kr kr ?_; refine TD_go 1 ?_; replace h := bindO h; obtain ⟨e27,he27,h⟩ := h; refine TD_stE 35 96 23 (List.length v7.1) (0 + Int.toNat v9.1) 17 S_Registration.cs (ds := [U8 a2.Sequence]) (S_Registration.mk e27.IP e27.EUI a2.Sequence e27.Link e27.State e27.Until) he27 kr kr kr kr ?_; refine TD_nc 35 23 (0 + Int.toNat v9.1) 0 kr kr ?_; refine TD_go 1 ?_; replace h := bindO h; obtain ⟨e28,he28,h⟩ := h; refine TD_stE 35 96 23 (List.length (List.set v7.1 (0 + Int.toNat v9.1) (S_Registration.mk e27.IP e27.EUI a2.Sequence e27.Link e27.State e27.Until))) (0 + Int.toNat v9.1) 18 S_Registration.cs (ds := [I6 a3.Mode,U1 a3.Short,U6 a3.EUI]) (S_Registration.mk e28.IP e28.EUI e28.Sequence a3 e28.State e28.Until) he28 kr kr kr kr ?_; refine TD_nc 35 23 (0 + Int.toNat v9.1) 0 kr kr ?_; refine TD_go 1 ?_; replace h := bindO h; obtain ⟨e29,he29,h⟩ := h; refine TD_stE 35 96 23 (List.length (List.set (List.set v7.1 (0 + Int.toNat v9.1) (S_Registration.mk e27.IP e27.EUI a2.Sequence e27.Link e27.State e27.Until)) (0 + Int.toNat v9.1) (S_Registration.mk e28.IP e28.EUI e28.Sequence a3 e28.State e28.Until))) (0 + Int.toNat v9.1) 22 S_Registration.cs (ds := [I6 (if 1099511627776 < IntKind.wrap .i64 (a4 + (IntKind.wrap .i64 a2.Lifetime)) then 1099511627776 else IntKind.wrap .i64 (a4 + (IntKind.wrap .i64 a2.Lifetime)))]) (S_Registration.mk e29.IP e29.EUI e29.Sequence e29.Link e29.State (if 1099511627776 < IntKind.wrap .i64 (a4 + (IntKind.wrap .i64 a2.Lifetime)) then 1099511627776 else IntKind.wrap .i64 (a4 + (IntKind.wrap .i64 a2.Lifetime)))) he29 kr kr kr kr ?_; refine TD_end kr ?_; refine TS_go 7 ?_; refine TS_settle 35 kr ?_; refine TS_fitU (fJ [10,11,12] [(35,900000)]) kr ?_; refine TS_go 1 ?_; have ret := Option.some.inj h; subst ret; exact TS_ret kr kr kr
      subst hb18; refine TS_T kr rfl ?_; refine TS_go 7 ?_; refine TS_settle 35 kr ?_; refine TS_fitU (fJ [10,11,12] [(35,900000)]) kr ?_; refine TS_go 2 ?_; have ret := Option.some.inj h; subst ret; exact TS_ret kr kr kr
    refine TD_know 94 (b := false) hb15 trivial kr kr ?_; refine TD_go 9 ?_; refine TD_end kr ?_; refine TS_F kr rfl ?_; refine TS_go 8 ?_; replace h := condO h; rcases h with ⟨hb30,h⟩ | ⟨hb30,h⟩
    · refine TS_know 93 (b := false) hb15 kr kr ?_; refine TS_know 107 (b := true) hb30 kr kr ?_; refine TS_T kr rfl ?_; refine TS_go 6 ?_; refine TS_cut (fI [108,109,111] [35]) (.mk [oA 19455 b28 4,cA 27647 b28,cA 4095 b28] .normal ⟨[(108,.c (.own 35)),(109,.c (I6 v9.1)),(111,.c (I6 (IntKind.wrap .i64 (v9.1 + 1))))],[(35,.row 96 23 (List.length v7.1) (List.map S_Registration.cs v7.1))]⟩) kr kr ?_; refine TS_bump 2000 kr ?_; refine TS_inl 33 Tryz.func98 rfl rfl kr (fun K37 => ?_); refine TS_go 11 ?_; replace h := chkO h; obtain ⟨hc31,h⟩ := h; refine TS_slM 2035 23 (List.length v7.1) (a := v9.1) (b := IntKind.wrap .i64 (v9.1 + 1)) (m := (List.length v7.1 : Int)) hc31 kr kr ?_; refine TS_go 8 ?_; replace h := condF h; obtain ⟨hb32,h⟩ := h; refine TS_know 16 (b := false) hb32 kr kr ?_; refine TS_F kr rfl ?_; refine TS_go 8 ?_; refine TS_draw kr ?_; refine TD_go 2 ?_; replace h := chkO h; obtain ⟨hc33,h⟩ := h; refine TD_slRow 2035 23 (List.length v7.1) (a := 0) (b := v9.1) hc33 rfl kr kr ?_; refine TD_go 2 ?_; replace h := chkO h; obtain ⟨hc34,h⟩ := h; refine TD_slSub 2035 23 (List.length v7.1) (a := IntKind.wrap .i64 (v9.1 + 1)) (b := (List.length v7.1 : Int)) hc34 kr kr ?_; replace h := chkO h; obtain ⟨hc35,h⟩ := h; refine TD_appP 2035 96 23 72 (List.length v7.1) (Int.toNat v9.1) S_Registration.cs (fun _ => by kernel_rfl) (l1 := v7.1) (l2 := v7.1) (.part (Int.toNat (IntKind.wrap .i64 (v9.1 + 1))) (Int.toNat (List.length v7.1 : Int) - Int.toNat (IntKind.wrap .i64 (v9.1 + 1)))) hc35 kr kr ?_; refine TD_go 1 ?_; refine TD_end kr ?_; refine TS_go 6 ?_; replace h := chkO h; obtain ⟨hc36,h⟩ := h; refine TS_slPSub 2035 23 (List.length (List.take (Int.toNat v9.1) v7.1 ++ (Cut.app (.part (Int.toNat (IntKind.wrap .i64 (v9.1 + 1))) (Int.toNat (List.length v7.1 : Int) - Int.toNat (IntKind.wrap .i64 (v9.1 + 1)))) v7.1) ++ List.drop ((Int.toNat v9.1) + List.length (Cut.app (.part (Int.toNat (IntKind.wrap .i64 (v9.1 + 1))) (Int.toNat (List.length v7.1 : Int) - Int.toNat (IntKind.wrap .i64 (v9.1 + 1)))) v7.1)) v7.1)) (a := (((Int.toNat v9.1) + List.length (Cut.app (.part (Int.toNat (IntKind.wrap .i64 (v9.1 + 1))) (Int.toNat (List.length v7.1 : Int) - Int.toNat (IntKind.wrap .i64 (v9.1 + 1)))) v7.1)) : Int)) (b := (List.length v7.1 : Int)) hc36 kr kr ?_; refine TS_clr 2035 96 23 (List.length (List.take (Int.toNat v9.1) v7.1 ++ (Cut.app (.part (Int.toNat (IntKind.wrap .i64 (v9.1 + 1))) (Int.toNat (List.length v7.1 : Int) - Int.toNat (IntKind.wrap .i64 (v9.1 + 1)))) v7.1) ++ List.drop ((Int.toNat v9.1) + List.length (Cut.app (.part (Int.toNat (IntKind.wrap .i64 (v9.1 + 1))) (Int.toNat (List.length v7.1 : Int) - Int.toNat (IntKind.wrap .i64 (v9.1 + 1)))) v7.1)) v7.1)) (Int.toNat (((Int.toNat v9.1) + List.length (Cut.app (.part (Int.toNat (IntKind.wrap .i64 (v9.1 + 1))) (Int.toNat (List.length v7.1 : Int) - Int.toNat (IntKind.wrap .i64 (v9.1 + 1)))) v7.1)) : Int)) S_Registration.cs ((S_Registration.mk [0,0,0,0,0,0,0,0,0,0,0,0,0,0,0,0] 0 0 (S_Addr.mk 0 0 0) 0 0) : S_Registration) [] (cs := [U8 0,U8 0,U8 0,U8 0,U8 0,U8 0,U8 0,U8 0,U8 0,U8 0,U8 0,U8 0,U8 0,U8 0,U8 0,U8 0,U6 0,U8 0,I6 0,U1 0,U6 0,I6 0,I6 0]) (l := (List.take (Int.toNat v9.1) v7.1 ++ (Cut.app (.part (Int.toNat (IntKind.wrap .i64 (v9.1 + 1))) (Int.toNat (List.length v7.1 : Int) - Int.toNat (IntKind.wrap .i64 (v9.1 + 1)))) v7.1) ++ List.drop ((Int.toNat v9.1) + List.length (Cut.app (.part (Int.toNat (IntKind.wrap .i64 (v9.1 + 1))) (Int.toNat (List.length v7.1 : Int) - Int.toNat (IntKind.wrap .i64 (v9.1 + 1)))) v7.1)) v7.1)) (.part (Int.toNat (((Int.toNat v9.1) + List.length (Cut.app (.part (Int.toNat (IntKind.wrap .i64 (v9.1 + 1))) (Int.toNat (List.length v7.1 : Int) - Int.toNat (IntKind.wrap .i64 (v9.1 + 1)))) v7.1)) : Int)) (Int.toNat (List.length v7.1 : Int) - Int.toNat (((Int.toNat v9.1) + List.length (Cut.app (.part (Int.toNat (IntKind.wrap .i64 (v9.1 + 1))) (Int.toNat (List.length v7.1 : Int) - Int.toNat (IntKind.wrap .i64 (v9.1 + 1)))) v7.1)) : Int))) kr kr kr ?_; refine TS_go 6 ?_; refine TS_trunc 6 (d := 2035) (m := ((Int.toNat v9.1) + List.length (Cut.app (.part (Int.toNat (IntKind.wrap .i64 (v9.1 + 1))) (Int.toNat (List.length v7.1 : Int) - Int.toNat (IntKind.wrap .i64 (v9.1 + 1)))) v7.1))) (e := 96) (sz := 23) (N := List.length (clrL (List.take (Int.toNat v9.1) v7.1 ++ (Cut.app (.part (Int.toNat (IntKind.wrap .i64 (v9.1 + 1))) (Int.toNat (List.length v7.1 : Int) - Int.toNat (IntKind.wrap .i64 (v9.1 + 1)))) v7.1) ++ List.drop ((Int.toNat v9.1) + List.length (Cut.app (.part (Int.toNat (IntKind.wrap .i64 (v9.1 + 1))) (Int.toNat (List.length v7.1 : Int) - Int.toNat (IntKind.wrap .i64 (v9.1 + 1)))) v7.1)) v7.1) (Int.toNat (((Int.toNat v9.1) + List.length (Cut.app (.part (Int.toNat (IntKind.wrap .i64 (v9.1 + 1))) (Int.toNat (List.length v7.1 : Int) - Int.toNat (IntKind.wrap .i64 (v9.1 + 1)))) v7.1)) : Int)) (List.length (Cut.app (.part (Int.toNat (((Int.toNat v9.1) + List.length (Cut.app (.part (Int.toNat (IntKind.wrap .i64 (v9.1 + 1))) (Int.toNat (List.length v7.1 : Int) - Int.toNat (IntKind.wrap .i64 (v9.1 + 1)))) v7.1)) : Int)) (Int.toNat (List.length v7.1 : Int) - Int.toNat (((Int.toNat v9.1) + List.length (Cut.app (.part (Int.toNat (IntKind.wrap .i64 (v9.1 + 1))) (Int.toNat (List.length v7.1 : Int) - Int.toNat (IntKind.wrap .i64 (v9.1 + 1)))) v7.1)) : Int))) (List.take (Int.toNat v9.1) v7.1 ++ (Cut.app (.part (Int.toNat (IntKind.wrap .i64 (v9.1 + 1))) (Int.toNat (List.length v7.1 : Int) - Int.toNat (IntKind.wrap .i64 (v9.1 + 1)))) v7.1) ++ List.drop ((Int.toNat v9.1) + List.length (Cut.app (.part (Int.toNat (IntKind.wrap .i64 (v9.1 + 1))) (Int.toNat (List.length v7.1 : Int) - Int.toNat (IntKind.wrap .i64 (v9.1 + 1)))) v7.1)) v7.1))) ((S_Registration.mk [0,0,0,0,0,0,0,0,0,0,0,0,0,0,0,0] 0 0 (S_Addr.mk 0 0 0) 0 0) : S_Registration))) (xs := List.map S_Registration.cs (clrL (List.take (Int.toNat v9.1) v7.1 ++ (Cut.app (.part (Int.toNat (IntKind.wrap .i64 (v9.1 + 1))) (Int.toNat (List.length v7.1 : Int) - Int.toNat (IntKind.wrap .i64 (v9.1 + 1)))) v7.1) ++ List.drop ((Int.toNat v9.1) + List.length (Cut.app (.part (Int.toNat (IntKind.wrap .i64 (v9.1 + 1))) (Int.toNat (List.length v7.1 : Int) - Int.toNat (IntKind.wrap .i64 (v9.1 + 1)))) v7.1)) v7.1) (Int.toNat (((Int.toNat v9.1) + List.length (Cut.app (.part (Int.toNat (IntKind.wrap .i64 (v9.1 + 1))) (Int.toNat (List.length v7.1 : Int) - Int.toNat (IntKind.wrap .i64 (v9.1 + 1)))) v7.1)) : Int)) (List.length (Cut.app (.part (Int.toNat (((Int.toNat v9.1) + List.length (Cut.app (.part (Int.toNat (IntKind.wrap .i64 (v9.1 + 1))) (Int.toNat (List.length v7.1 : Int) - Int.toNat (IntKind.wrap .i64 (v9.1 + 1)))) v7.1)) : Int)) (Int.toNat (List.length v7.1 : Int) - Int.toNat (((Int.toNat v9.1) + List.length (Cut.app (.part (Int.toNat (IntKind.wrap .i64 (v9.1 + 1))) (Int.toNat (List.length v7.1 : Int) - Int.toNat (IntKind.wrap .i64 (v9.1 + 1)))) v7.1)) : Int))) (List.take (Int.toNat v9.1) v7.1 ++ (Cut.app (.part (Int.toNat (IntKind.wrap .i64 (v9.1 + 1))) (Int.toNat (List.length v7.1 : Int) - Int.toNat (IntKind.wrap .i64 (v9.1 + 1)))) v7.1) ++ List.drop ((Int.toNat v9.1) + List.length (Cut.app (.part (Int.toNat (IntKind.wrap .i64 (v9.1 + 1))) (Int.toNat (List.length v7.1 : Int) - Int.toNat (IntKind.wrap .i64 (v9.1 + 1)))) v7.1)) v7.1))) ((S_Registration.mk [0,0,0,0,0,0,0,0,0,0,0,0,0,0,0,0] 0 0 (S_Addr.mk 0 0 0) 0 0) : S_Registration))) (List.length (List.take ((Int.toNat v9.1) + List.length (Cut.app (.part (Int.toNat (IntKind.wrap .i64 (v9.1 + 1))) (Int.toNat (List.length v7.1 : Int) - Int.toNat (IntKind.wrap .i64 (v9.1 + 1)))) v7.1)) (clrL (List.take (Int.toNat v9.1) v7.1 ++ (Cut.app (.part (Int.toNat (IntKind.wrap .i64 (v9.1 + 1))) (Int.toNat (List.length v7.1 : Int) - Int.toNat (IntKind.wrap .i64 (v9.1 + 1)))) v7.1) ++ List.drop ((Int.toNat v9.1) + List.length (Cut.app (.part (Int.toNat (IntKind.wrap .i64 (v9.1 + 1))) (Int.toNat (List.length v7.1 : Int) - Int.toNat (IntKind.wrap .i64 (v9.1 + 1)))) v7.1)) v7.1) (Int.toNat (((Int.toNat v9.1) + List.length (Cut.app (.part (Int.toNat (IntKind.wrap .i64 (v9.1 + 1))) (Int.toNat (List.length v7.1 : Int) - Int.toNat (IntKind.wrap .i64 (v9.1 + 1)))) v7.1)) : Int)) (List.length (Cut.app (.part (Int.toNat (((Int.toNat v9.1) + List.length (Cut.app (.part (Int.toNat (IntKind.wrap .i64 (v9.1 + 1))) (Int.toNat (List.length v7.1 : Int) - Int.toNat (IntKind.wrap .i64 (v9.1 + 1)))) v7.1)) : Int)) (Int.toNat (List.length v7.1 : Int) - Int.toNat (((Int.toNat v9.1) + List.length (Cut.app (.part (Int.toNat (IntKind.wrap .i64 (v9.1 + 1))) (Int.toNat (List.length v7.1 : Int) - Int.toNat (IntKind.wrap .i64 (v9.1 + 1)))) v7.1)) : Int))) (List.take (Int.toNat v9.1) v7.1 ++ (Cut.app (.part (Int.toNat (IntKind.wrap .i64 (v9.1 + 1))) (Int.toNat (List.length v7.1 : Int) - Int.toNat (IntKind.wrap .i64 (v9.1 + 1)))) v7.1) ++ List.drop ((Int.toNat v9.1) + List.length (Cut.app (.part (Int.toNat (IntKind.wrap .i64 (v9.1 + 1))) (Int.toNat (List.length v7.1 : Int) - Int.toNat (IntKind.wrap .i64 (v9.1 + 1)))) v7.1)) v7.1))) ((S_Registration.mk [0,0,0,0,0,0,0,0,0,0,0,0,0,0,0,0] 0 0 (S_Addr.mk 0 0 0) 0 0) : S_Registration)))) (List.map S_Registration.cs (List.take ((Int.toNat v9.1) + List.length (Cut.app (.part (Int.toNat (IntKind.wrap .i64 (v9.1 + 1))) (Int.toNat (List.length v7.1 : Int) - Int.toNat (IntKind.wrap .i64 (v9.1 + 1)))) v7.1)) (clrL (List.take (Int.toNat v9.1) v7.1 ++ (Cut.app (.part (Int.toNat (IntKind.wrap .i64 (v9.1 + 1))) (Int.toNat (List.length v7.1 : Int) - Int.toNat (IntKind.wrap .i64 (v9.1 + 1)))) v7.1) ++ List.drop ((Int.toNat v9.1) + List.length (Cut.app (.part (Int.toNat (IntKind.wrap .i64 (v9.1 + 1))) (Int.toNat (List.length v7.1 : Int) - Int.toNat (IntKind.wrap .i64 (v9.1 + 1)))) v7.1)) v7.1) (Int.toNat (((Int.toNat v9.1) + List.length (Cut.app (.part (Int.toNat (IntKind.wrap .i64 (v9.1 + 1))) (Int.toNat (List.length v7.1 : Int) - Int.toNat (IntKind.wrap .i64 (v9.1 + 1)))) v7.1)) : Int)) (List.length (Cut.app (.part (Int.toNat (((Int.toNat v9.1) + List.length (Cut.app (.part (Int.toNat (IntKind.wrap .i64 (v9.1 + 1))) (Int.toNat (List.length v7.1 : Int) - Int.toNat (IntKind.wrap .i64 (v9.1 + 1)))) v7.1)) : Int)) (Int.toNat (List.length v7.1 : Int) - Int.toNat (((Int.toNat v9.1) + List.length (Cut.app (.part (Int.toNat (IntKind.wrap .i64 (v9.1 + 1))) (Int.toNat (List.length v7.1 : Int) - Int.toNat (IntKind.wrap .i64 (v9.1 + 1)))) v7.1)) : Int))) (List.take (Int.toNat v9.1) v7.1 ++ (Cut.app (.part (Int.toNat (IntKind.wrap .i64 (v9.1 + 1))) (Int.toNat (List.length v7.1 : Int) - Int.toNat (IntKind.wrap .i64 (v9.1 + 1)))) v7.1) ++ List.drop ((Int.toNat v9.1) + List.length (Cut.app (.part (Int.toNat (IntKind.wrap .i64 (v9.1 + 1))) (Int.toNat (List.length v7.1 : Int) - Int.toNat (IntKind.wrap .i64 (v9.1 + 1)))) v7.1)) v7.1))) ((S_Registration.mk [0,0,0,0,0,0,0,0,0,0,0,0,0,0,0,0] 0 0 (S_Addr.mk 0 0 0) 0 0) : S_Registration)))) List.map_take.symm (List.length_map _) kr kr ?_; refine TS_go 1 ?_; refine TS_inlR kr kr ?_; refine TS_go 4 ?_; refine TS_settle 2035 kr ?_; refine TS_fitU (fJ [10,11,12] [(2035,900000)]) kr ?_; refine TS_go 2 ?_; have ret := Option.some.inj h; subst ret; exact TS_ret kr kr kr
    refine TS_know 93 (b := false) hb15 kr kr ?_; refine TS_know 107 (b := false) hb30 kr kr ?_; refine TS_F kr rfl ?_; refine TS_go 2 ?_; refine TS_draw kr ?_; refine TD_go 7 ?_; refine TD_nc 35 23 (0 + Int.toNat v9.1) 0 kr kr ?_; refine TD_go 1 ?_; replace h := bindO h; obtain ⟨e38,he38,h⟩ := h; refine TD_stE 35 96 23 (List.length v7.1) (0 + Int.toNat v9.1) 17 S_Registration.cs (ds := [U8 a2.Sequence]) (S_Registration.mk e38.IP e38.EUI a2.Sequence e38.Link e38.State e38.Until) he38 kr kr kr kr ?_; refine TD_nc 35 23 (0 + Int.toNat v9.1) 0 kr kr ?_; refine TD_go 1 ?_; replace h := bindO h; obtain ⟨e39,he39,h⟩ := h; refine TD_stE 35 96 23 (List.length (List.set v7.1 (0 + Int.toNat v9.1) (S_Registration.mk e38.IP e38.EUI a2.Sequence e38.Link e38.State e38.Until))) (0 + Int.toNat v9.1) 18 S_Registration.cs (ds := [I6 a3.Mode,U1 a3.Short,U6 a3.EUI]) (S_Registration.mk e39.IP e39.EUI e39.Sequence a3 e39.State e39.Until) he39 kr kr kr kr ?_; refine TD_nc 35 23 (0 + Int.toNat v9.1) 0 kr kr ?_; refine TD_go 1 ?_; replace h := bindO h; obtain ⟨e40,he40,h⟩ := h; refine TD_stE 35 96 23 (List.length (List.set (List.set v7.1 (0 + Int.toNat v9.1) (S_Registration.mk e38.IP e38.EUI a2.Sequence e38.Link e38.State e38.Until)) (0 + Int.toNat v9.1) (S_Registration.mk e39.IP e39.EUI e39.Sequence a3 e39.State e39.Until))) (0 + Int.toNat v9.1) 22 S_Registration.cs (ds := [I6 (if 1099511627776 < IntKind.wrap .i64 (a4 + (IntKind.wrap .i64 a2.Lifetime)) then 1099511627776 else IntKind.wrap .i64 (a4 + (IntKind.wrap .i64 a2.Lifetime)))]) (S_Registration.mk e40.IP e40.EUI e40.Sequence e40.Link e40.State (if 1099511627776 < IntKind.wrap .i64 (a4 + (IntKind.wrap .i64 a2.Lifetime)) then 1099511627776 else IntKind.wrap .i64 (a4 + (IntKind.wrap .i64 a2.Lifetime)))) he40 kr kr kr kr ?_; refine TD_end kr ?_; refine TS_go 7 ?_; refine TS_settle 35 kr ?_; refine TS_fitU (fJ [10,11,12] [(35,900000)]) kr ?_; refine TS_go 1 ?_; have ret := Option.some.inj h; subst ret; exact TS_ret kr kr kr
  refine TS_know 52 (b := false) hb10 kr kr ?_; refine TS_know 17 (b := false) hb10 kr kr ?_; refine TS_know 53 (b := false) hb10 kr kr ?_; refine TS_know 54 (b := true) (notT hb10) kr kr ?_; refine TS_T kr rfl ?_; refine TS_go 7 ?_; replace h := condO h; rcases h with ⟨hb41,h⟩ | ⟨hb41,h⟩
  · refine TS_know 57 (b := true) hb41 kr kr ?_; refine TS_T kr rfl ?_; refine TS_go 7 ?_; refine TS_settle 35 kr ?_; refine TS_fitU (fJ [10,11,12] [(35,900000)]) kr ?_; refine TS_go 3 ?_; have ret := Option.some.inj h; subst ret; exact TS_ret kr kr kr
  refine TS_know 57 (b := false) hb41 kr kr ?_; refine TS_F kr rfl ?_; refine TS_go 8 ?_; replace h := condF h; obtain ⟨hb42,h⟩ := h; refine TS_know 61 (b := false) hb42 kr kr ?_; refine TS_F kr rfl ?_; refine TS_go 19 ?_; refine TS_litNR 74 96 23 S_Registration.cs [] ([(S_Registration.mk a1 a2.EUI a2.Sequence a3 1 (if 1099511627776 < IntKind.wrap .i64 (a4 + (IntKind.wrap .i64 a2.Lifetime)) then 1099511627776 else IntKind.wrap .i64 (a4 + (IntKind.wrap .i64 a2.Lifetime))))] : List S_Registration) kr kr ?_; replace h := bindO h; obtain ⟨_l43,hl43,h⟩ := h; refine TS_ins (d := 35) (dv := 74) (N := List.length v7.1) (i := v9.1) S_Registration.cs (fun _ => by kernel_rfl) (ins_Registration _ _ rfl rfl rfl rfl rfl) (l := v7.1) (x := (S_Registration.mk a1 a2.EUI a2.Sequence a3 1 (if 1099511627776 < IntKind.wrap .i64 (a4 + (IntKind.wrap .i64 a2.Lifetime)) then 1099511627776 else IntKind.wrap .i64 (a4 + (IntKind.wrap .i64 a2.Lifetime))))) hl43 kr kr ?_; refine TS_go 4 ?_; refine TS_settle 35 kr ?_; refine TS_fitU (fJ [10,11,12] [(35,900000)]) kr ?_; refine TS_go 2 ?_; have ret := Option.some.inj h; subst ret; exact TS_ret kr kr kr
/-- multihop/multihoptop.local -/
noncomputable def F_top_local_G2 (a0 : Int) (a1 : Int) (a2 : List Int) : Option (S_Packet) := (F_top_device a0).bind fun v1 => (F_ref04_LinkLocal v1).bind fun v2 => (F_top_device a1).bind fun v3 => (F_ref04_LinkLocal v3).bind fun v4 => some ((S_Packet.mk 0 0 17 64 v2.1 v4.1 61617 61618 a2))
theorem ok_top_local_G2 (a0 : Int) (a1 : Int) (a2 : List Int) (r : S_Packet) (h : F_top_local_G2 a0 a1 a2 = some r) : ConG Tryz.prog 78 [.c (I6 a0),.c (I6 a1),.c (.slc 1 1000003 (List.length a2) (List.map (ecI .u8) a2))] 5 1 (List.length a2) (.agg [U8 r.Class,U3 r.Flow,U8 r.Next,U8 r.Hops,U8 ((r.Src.getD 0 0)),U8 ((r.Src.getD 1 0)),U8 ((r.Src.getD 2 0)),U8 ((r.Src.getD 3 0)),U8 ((r.Src.getD 4 0)),U8 ((r.Src.getD 5 0)),U8 ((r.Src.getD 6 0)),U8 ((r.Src.getD 7 0)),U8 ((r.Src.getD 8 0)),U8 ((r.Src.getD 9 0)),U8 ((r.Src.getD 10 0)),U8 ((r.Src.getD 11 0)),U8 ((r.Src.getD 12 0)),U8 ((r.Src.getD 13 0)),U8 ((r.Src.getD 14 0)),U8 ((r.Src.getD 15 0)),U8 ((r.Dst.getD 0 0)),U8 ((r.Dst.getD 1 0)),U8 ((r.Dst.getD 2 0)),U8 ((r.Dst.getD 3 0)),U8 ((r.Dst.getD 4 0)),U8 ((r.Dst.getD 5 0)),U8 ((r.Dst.getD 6 0)),U8 ((r.Dst.getD 7 0)),U8 ((r.Dst.getD 8 0)),U8 ((r.Dst.getD 9 0)),U8 ((r.Dst.getD 10 0)),U8 ((r.Dst.getD 11 0)),U8 ((r.Dst.getD 12 0)),U8 ((r.Dst.getD 13 0)),U8 ((r.Dst.getD 14 0)),U8 ((r.Dst.getD 15 0)),U1 r.SrcPort,U1 r.DstPort,.slc 1 1000003 (List.length r.Payload) (List.map (ecI .u8) r.Payload)]) (List.length r.Payload) := by
  unfold F_top_local_G2 at h; refine con_ofG [] 27 2 Tryz.func78 rfl rfl kr rfl (fun K => ?_); refine TS_go 7 ?_; replace h := bindO h; obtain ⟨v1,hv1,h⟩ := h; refine TS_call [] (ok_top_device a0 v1 hv1) kr kr ?_; replace h := bindO h; obtain ⟨v2,hv2,h⟩ := h; refine TS_call [] (ok_ref04_LinkLocal v1 v2 hv2) kr kr ?_; refine TS_go 10 ?_; replace h := bindO h; obtain ⟨v3,hv3,h⟩ := h; refine TS_call [] (ok_top_device a1 v3 hv3) kr kr ?_; replace h := bindO h; obtain ⟨v4,hv4,h⟩ := h; refine TS_call [] (ok_ref04_LinkLocal v3 v4 hv4) kr kr ?_; refine TS_go 16 ?_; have ret := Option.some.inj h; subst ret; exact TS_retG (sz1 := 1) (xs1 := List.map (ecI .u8) a2) kr kr kr kr

/-- multihop/multihopref01.Same -/
noncomputable def b69 : Code := bodyOf Tryz.f69
noncomputable def F_ref01_Same_l1 (a0 : List Int) (a1 : List Int) (s2 : Int) : Option ((Int) ⊕ (Unit)) := bif (decide (s2 < (List.length a0 : Int))) then (idx a0 s2).bind fun e6 => (idx a1 s2).bind fun e7 => bif (e6 != e7) then none else some (Sum.inl (IntKind.wrap .i64 (s2 + 1))) else some (Sum.inr ())
noncomputable def F_ref01_Same (a0 : List Int) (a1 : List Int) : Option (Bool) := bif ((List.length a0 : Int) != (List.length a1 : Int)) then none else (loopO (F_ref01_Same_l1 a0 a1) 0).bind fun _b3 => some (true)
theorem ok_ref01_Same (a0 : List Int) (a1 : List Int) (r : Bool) (h : F_ref01_Same a0 a1 = some r) : Con Tryz.prog 69 [.c (eS 1 (ecI .u8) (a0)),.c (eS 1 (ecI .u8) (a1))] [] (.c (BL r)) [] := by
  unfold F_ref01_Same at h; refine con_of [] [] 26 Tryz.func69 rfl rfl kr (fun K => ?_); refine TS_go 13 ?_; replace h := condF h; obtain ⟨hb1,h⟩ := h; refine TS_know 10 (b := false) hb1 kr kr ?_; refine TS_F kr rfl ?_; refine TS_go 7 ?_; refine TS_cut (fI [0,1,5] []) (.mk [cA 43 b69,.blk 0,cA 15 b69] .normal ⟨[(0,.c (.slc 1 0 (List.length a0) (List.map (ecI .u8) a0))),(1,.c (.slc 1 0 (List.length a1) (List.map (ecI .u8) a1))),(5,.c (I6 0))],[]⟩) kr kr ?_; replace h := bindO h; obtain ⟨y4,hl1,hK1⟩ := h; refine TS_loopB (F_ref01_Same_l1 a0 a1) (fI [0,1,5] []) (fun (s2 : Int) => [(5,.c (I6 s2))]) (fun (s2 : Int) => []) 0 y4 (.exit 0) (fun (b : Unit) => b) (fI [] []) (fun (b3 : Unit) => []) (fun (b3 : Unit) => []) hl1 kr kr ?_ ?_
  · intro s2 x h hy1; unfold F_ref01_Same_l1 at h; refine TS_go 8 ?_; replace h := condO h; rcases h with ⟨hb5,h⟩ | ⟨hb5,h⟩
    · refine TS_know 14 (b := true) hb5 kr kr ?_; refine TS_T kr rfl ?_; refine TS_go 4 ?_; refine TS_draw kr ?_; refine TD_go 2 ?_; replace h := bindO h; obtain ⟨_e6,he6,h⟩ := h; refine TD_idx (ecI .u8) he6 kr kr ?_; refine TD_go 3 ?_; replace h := bindO h; obtain ⟨_e7,he7,h⟩ := h; refine TD_idx (ecI .u8) he7 kr kr ?_; refine TD_go 2 ?_; refine TD_end kr ?_; replace h := condF h; obtain ⟨hb8,h⟩ := h; refine TS_know 25 (b := false) hb8 kr kr ?_; refine TS_F kr rfl ?_; refine TS_go 7 ?_; have ret := Option.some.inj h; subst ret; exact TS_againB _ (fI [0,1,5] []) rfl kr kr
    refine TS_know 14 (b := false) hb5 kr kr ?_; refine TS_F kr rfl ?_; refine TS_go 2 ?_; have ret := Option.some.inj h; subst ret; exact TS_brkB () (fI [] []) rfl kr kr kr
  intro b3 hb; subst y4; have h := hK1; refine TS_go 6 ?_; have ret := Option.some.inj h; subst ret; exact TS_ret kr kr kr

/-- multihop/multihopref13.Same -/
noncomputable def F_ref13_Same (a0 : S_Packet) (a1 : S_Packet) : Option (Bool) := bif (a0.Class == a1.Class) then bif (a0.Flow == a1.Flow) then bif (a0.Next == a1.Next) then bif (a0.Hops == a1.Hops) then bif (arrEq 16 a0.Src a1.Src) then bif (arrEq 16 a0.Dst a1.Dst) then bif (a0.SrcPort == a1.SrcPort) then bif (a0.DstPort == a1.DstPort) then (F_ref01_Same a0.Payload a1.Payload).bind fun v9 => some (v9) else none else none else none else none else none else none else none else none
theorem ok_ref13_Same (a0 : S_Packet) (a1 : S_Packet) (r : Bool) (h : F_ref13_Same a0 a1 = some r) : Con Tryz.prog 19 [.agg (S_Packet.cs a0),.agg (S_Packet.cs a1)] [] (.c (BL r)) [] := by
  unfold F_ref13_Same at h; refine con_of [] [] 66 Tryz.func19 rfl rfl kr (fun K => ?_); refine TS_go 14 ?_; replace h := condT h; obtain ⟨hb1,h⟩ := h; refine TS_know 9 (b := true) hb1 kr kr ?_; refine TS_know 10 (b := true) hb1 kr kr ?_; refine TS_go 7 ?_; replace h := condT h; obtain ⟨hb2,h⟩ := h; refine TS_know 15 (b := true) hb2 kr kr ?_; refine TS_know 16 (b := true) hb2 kr kr ?_; refine TS_know 17 (b := true) hb2 kr kr ?_; refine TS_go 7 ?_; replace h := condT h; obtain ⟨hb3,h⟩ := h; refine TS_know 22 (b := true) hb3 kr kr ?_; refine TS_know 23 (b := true) hb3 kr kr ?_; refine TS_know 24 (b := true) hb3 kr kr ?_; refine TS_go 7 ?_; replace h := condT h; obtain ⟨hb4,h⟩ := h; refine TS_know 29 (b := true) hb4 kr kr ?_; refine TS_know 30 (b := true) hb4 kr kr ?_; refine TS_know 31 (b := true) hb4 kr kr ?_; refine TS_go 7 ?_; replace h := condT h; obtain ⟨hb5,h⟩ := h; refine TS_know 36 (b := true) hb5 kr kr ?_; refine TS_know 37 (b := true) hb5 kr kr ?_; refine TS_know 38 (b := true) hb5 kr kr ?_; refine TS_go 7 ?_; replace h := condT h; obtain ⟨hb6,h⟩ := h; refine TS_know 43 (b := true) hb6 kr kr ?_; refine TS_know 44 (b := true) hb6 kr kr ?_; refine TS_know 45 (b := true) hb6 kr kr ?_; refine TS_go 7 ?_; replace h := condT h; obtain ⟨hb7,h⟩ := h; refine TS_know 50 (b := true) hb7 kr kr ?_; refine TS_know 51 (b := true) hb7 kr kr ?_; refine TS_know 52 (b := true) hb7 kr kr ?_; refine TS_go 7 ?_; replace h := condT h; obtain ⟨hb8,h⟩ := h; refine TS_know 57 (b := true) hb8 kr kr ?_; refine TS_know 58 (b := true) hb8 kr kr ?_; refine TS_know 59 (b := true) hb8 kr kr ?_; refine TS_go 4 ?_; replace h := bindO h; obtain ⟨v9,hv9,h⟩ := h; refine TS_call [] (ok_ref01_Same a0.Payload a1.Payload v9 hv9) kr kr ?_; refine TS_go 4 ?_; have ret := Option.some.inj h; subst ret; exact TS_ret kr kr kr

/-- multihop/multihoptop.sane -/
noncomputable def F_top_sane  : Option (Bool) := (F_top_local_G2 0 1 ([1,2,3] : List Int)).bind fun v1 => (F_top_device 0).bind fun v2 => (F_top_device 1).bind fun v3 => (F_compress_Encode v1 v2 v3 ([] : List S_Context) 0).bind fun v4 => (F_top_device 0).bind fun v5 => (F_top_device 1).bind fun v6 => (F_compress_Decode v4.1 v5 v6 ([] : List S_Context) 0).bind fun v7 => (F_top_pair 0 1).bind fun v8 => (F_top_sealed v8.1 0 1 ([v4.1] : List (List Int))).bind fun v9 => bif (v4.2 != 0) then none else bif (v7.2 != 0) then none else bif v8.2.2 then bif v9.2.2 then bif ((List.length v9.2.1 : Int) != 1) then none else (idx v9.2.1 0).bind fun e15 => (F_top_opened v8.2.1 e15).bind fun v16 => bif v16.2.2 then (F_ref01_Same v16.2.1 v4.1).bind fun v18 => bif v18 then (F_ref13_Same v1 v7.1).bind fun v20 => some (v20) else none else none else none else none
theorem ok_top_sane  (r : Bool) (h : F_top_sane  = some r) : Con Tryz.prog 21 [] [] (.c (BL r)) [] := by
  unfold F_top_sane at h; refine con_of [] [] 83 Tryz.func21 rfl rfl kr (fun K => ?_); refine TS_go 6 ?_; refine TS_litNT 15 5 1 (ecI .u8) [] ([1,2,3] : List Int) kr kr ?_; replace h := bindO h; obtain ⟨v1,hv1,h⟩ := h; refine TS_conG 15 [] (ok_top_local_G2 0 1 ([1,2,3] : List Int) v1 hv1) kr kr kr ?_; refine TS_go 4 ?_; refine TS_draw kr ?_; refine TD_go 1 ?_; replace h := bindO h; obtain ⟨v2,hv2,h⟩ := h; refine TD_call [] (ok_top_device 0 v2 hv2) kr kr ?_; replace h := bindO h; obtain ⟨v3,hv3,h⟩ := h; refine TD_call [] (ok_top_device 1 v3 hv3) kr kr ?_; replace h := bindO h; obtain ⟨v4,hv4,h⟩ := h; refine TD_conX (d := 21) (e := 900000) [[0,0,0,0,0,0,0,0,0,0,0,0,0,0,0,0,0,0,0,0,0,0,0,0,0,0,0,0,0,0,0,0,0,0,0,0,0,0,2],[],[],[21]] (okT_compress_Encode v1 v2 v3 ([] : List S_Context) 0 v4 hv4) kr kr ?_; refine TD_go 5 ?_; refine TD_end kr ?_; refine TS_go 3 ?_; replace h := bindO h; obtain ⟨v5,hv5,h⟩ := h; refine TS_call [] (ok_top_device 0 v5 hv5) kr kr ?_; replace h := bindO h; obtain ⟨v6,hv6,h⟩ := h; refine TS_call [] (ok_top_device 1 v6 hv6) kr kr ?_; replace h := bindO h; obtain ⟨v7,hv7,h⟩ := h; refine TS_con [[2],[],[],[21]] [(28,900038)] none (okT_compress_Decode v4.1 v5 v6 ([] : List S_Context) 0 v7 hv7) kr kr kr ?_; refine TS_go 9 ?_; replace h := bindO h; obtain ⟨v8,hv8,h⟩ := h; refine TS_con [] [(32,900064),(600000,900068)] none (okT_top_pair 0 1 v8 hv8) kr kr kr ?_; refine TS_go 14 ?_; refine TS_litNT 39 29 1 (ecS 1 (ecI .u8)) [2] ([v4.1] : List (List Int)) kr kr ?_; replace h := bindO h; obtain ⟨v9,hv9,h⟩ := h; refine TS_con [[],[],[],[2]] [(40,900064)] none (okT_top_sealed v8.1 0 1 ([v4.1] : List (List Int)) v9 hv9) kr kr kr ?_; refine TS_go 15 ?_; replace h := condF h; obtain ⟨hb10,h⟩ := h; refine TS_know 45 (b := false) hb10 kr kr ?_; refine TS_know 46 (b := false) hb10 kr kr ?_; refine TS_go 4 ?_; replace h := condF h; obtain ⟨hb11,h⟩ := h; refine TS_know 48 (b := false) hb11 kr kr ?_; refine TS_know 49 (b := false) hb11 kr kr ?_; refine TS_know 50 (b := false) hb11 kr kr ?_; refine TS_go 4 ?_; replace h := condT h; obtain ⟨hb12,h⟩ := h; refine TS_know 35 (b := true) hb12 kr kr ?_; refine TS_know 8 (b := true) hb12 kr kr ?_; refine TS_know 51 (b := true) hb12 kr kr ?_; refine TS_know 52 (b := false) (notF hb12) kr kr ?_; refine TS_know 53 (b := false) (notF hb12) kr kr ?_; refine TS_know 54 (b := false) (notF hb12) kr kr ?_; refine TS_go 4 ?_; replace h := condT h; obtain ⟨hb13,h⟩ := h; refine TS_know 43 (b := true) hb13 kr kr ?_; refine TS_know 11 (b := true) hb13 kr kr ?_; refine TS_know 55 (b := true) hb13 kr kr ?_; refine TS_know 56 (b := false) (notF hb13) kr kr ?_; refine TS_know 57 (b := false) (notF hb13) kr kr ?_; refine TS_know 58 (b := false) (notF hb13) kr kr ?_; refine TS_go 5 ?_; replace h := condF h; obtain ⟨hb14,h⟩ := h; refine TS_know 61 (b := false) hb14 kr kr ?_; refine TS_know 62 (b := false) hb14 kr kr ?_; refine TS_F kr rfl ?_; refine TS_go 2 ?_; refine TS_draw kr ?_; refine TD_go 2 ?_; replace h := bindO h; obtain ⟨e15,he15,h⟩ := h; refine TD_idx (ecS 1 (ecI .u8)) he15 kr kr ?_; refine TD_go 1 ?_; replace h := bindO h; obtain ⟨v16,hv16,h⟩ := h; refine TD_call [[18,0,0,0,7]] (ok_top_opened v8.2.1 e15 v16 hv16) kr kr ?_; refine TD_go 8 ?_; refine TD_end kr ?_; refine TS_go 4 ?_; replace h := condT h; obtain ⟨hb17,h⟩ := h; refine TS_know 71 (b := true) hb17 kr kr ?_; refine TS_know 14 (b := true) hb17 kr kr ?_; refine TS_know 72 (b := true) hb17 kr kr ?_; refine TS_know 73 (b := true) hb17 kr kr ?_; refine TS_go 2 ?_; replace h := bindO h; obtain ⟨v18,hv18,h⟩ := h; refine TS_call [[],[2]] (ok_ref01_Same v16.2.1 v4.1 v18 hv18) kr kr ?_; refine TS_go 2 ?_; replace h := condT h; obtain ⟨hb19,h⟩ := h; subst hb19; refine TS_go 2 ?_; replace h := bindO h; obtain ⟨v20,hv20,h⟩ := h; refine TS_call [[0,0,0,0,0,0,0,0,0,0,0,0,0,0,0,0,0,0,0,0,0,0,0,0,0,0,0,0,0,0,0,0,0,0,0,0,0,0,2],[0,0,0,0,0,0,0,0,0,0,0,0,0,0,0,0,0,0,0,0,0,0,0,0,0,0,0,0,0,0,0,0,0,0,0,0,0,0,2]] (ok_ref13_Same v1 v7.1 v20 hv20) kr kr ?_; refine TS_go 4 ?_; have ret := Option.some.inj h; subst ret; exact TS_ret kr kr kr

/-- multihop/multihoptop.TopRegistered -/
noncomputable def b4 : Code := bodyOf Tryz.f4
noncomputable def F_top_TopRegistered_l2 (v39 : (List S_Registration) × Int × Int) (v41 : (List S_Registration) × Int × Int) (s48 : Int) : Option ((Int) ⊕ (Unit)) := bif (decide (s48 < (List.length v39.1 : Int))) then (idx v39.1 s48).bind fun e52 => (idx v41.1 s48).bind fun e53 => bif (S_Registration.eqb e52 e53) then some (Sum.inl (IntKind.wrap .i64 (s48 + 1))) else none else some (Sum.inr ())
noncomputable def F_top_TopRegistered_l1 (v5 : (List Int) × Bool) (v7 : (List Int) × Bool) (s8 : (List S_Registration) × Int × S_multihopmade_Tape × S_Guard × S_Guard) : Option (((List S_Registration) × Int × S_multihopmade_Tape × S_Guard × S_Guard) ⊕ (Unit)) := bif (decide (s8.2.1 < 8)) then (F_made_Tape_Next s8.2.2.1 6).bind fun v12 => (F_ref04_Of 2306139568115548160 (IntKind.wrap .u64 v12.1)).bind fun v13 => (F_made_Tape_Next v12.2 3).bind fun v14 => (F_made_Tape_Next v14.2 256).bind fun v15 => (F_made_Tape_Next v15.2 6).bind fun v16 => (idx ([0,127,128,240,255,IntKind.wrap .u8 v15.1] : List Int) v16.1).bind fun e17 => (F_made_Tape_Next v16.2 20).bind fun v18 => (F_top_device 0).bind fun v19 => (F_discovery_Encode (S_Message.mk 135 0 0 v13 v19 (S_Owner.mk (IntKind.wrap .u64 v14.1) e17 0 (IntKind.wrap .u16 v18.1)) true ([] : List S_PrefixInfo) ([] : List S_ContextInfo) (S_Border.mk 0 0 [0,0,0,0,0,0,0,0,0,0,0,0,0,0,0,0]) false) v5.1 v7.1).bind fun v20 => (F_top_device 0).bind fun v21 => (F_top_device 1).bind fun v22 => (F_compress_Encode (S_Packet.mk 0 0 58 255 v5.1 v7.1 0 0 v20.1) v21 v22 ([] : List S_Context) (IntKind.wrap .i64 (3 * s8.2.1))).bind fun v23 => (F_top_sealed s8.2.2.2.1 0 1 ([v23.1] : List (List Int))).bind fun v24 => bif (v20.2 != 0) then none else bif (v23.2 != 0) then none else bif v24.2.2 then (idx v24.2.1 0).bind fun e28 => (F_top_opened s8.2.2.2.2 e28).bind fun v29 => (F_top_device 0).bind fun v30 => (F_top_device 1).bind fun v31 => (F_compress_Decode v29.2.1 v30 v31 ([] : List S_Context) (IntKind.wrap .i64 (3 * s8.2.1))).bind fun v32 => (F_discovery_Decode v32.1.Payload v32.1.Src v32.1.Dst).bind fun v33 => bif v29.2.2 then bif (v32.2 != 0) then none else bif (v33.2 != 0) then none else bif (arrEq 16 v33.1.Target v13) then bif (S_Owner.eqb v33.1.Owner (S_Owner.mk (IntKind.wrap .u64 v14.1) e17 0 (IntKind.wrap .u16 v18.1))) then (F_registration_Register s8.1 v33.1.Target v33.1.Owner v33.1.Source (IntKind.wrap .i64 (3 * s8.2.1))).bind fun v39 => (F_top_device 0).bind fun v40 => (F_registration_Register s8.1 v13 (S_Owner.mk (IntKind.wrap .u64 v14.1) e17 0 (IntKind.wrap .u16 v18.1)) v40 (IntKind.wrap .i64 (3 * s8.2.1))).bind fun v41 => bif (v39.2.2 != 0) then none else bif (v41.2.2 != 0) then none else bif (v39.2.1 != v41.2.1) then none else bif ((List.length v39.1 : Int) != (List.length v41.1 : Int)) then none else (F_registration_Valid v39.1).bind fun v46 => bif v46 then (loopO (F_top_TopRegistered_l2 v39 v41) 0).bind fun _b49 => some (Sum.inl (v39.1,IntKind.wrap .i64 (s8.2.1 + 1),v18.2,v24.1,v29.1)) else none else none else none else none else none else some (Sum.inr ())
noncomputable def F_top_TopRegistered (a0 : List Int) : Option (Bool) := (F_made_New a0).bind fun v1 => (F_top_pair 0 1).bind fun v2 => bif v2.2.2 then (F_top_device 0).bind fun v4 => (F_ref04_LinkLocal v4).bind fun v5 => (F_top_device 1).bind fun v6 => (F_ref04_LinkLocal v6).bind fun v7 => (loopO (F_top_TopRegistered_l1 v5 v7) (([] : List S_Registration),0,v1,v2.1,v2.2.1)).bind fun _b9 => (F_top_sane ).bind fun v59 => some (v59) else none
theorem ok_top_TopRegistered (a0 : List Int) (r : Bool) (h : F_top_TopRegistered a0 = some r) : Con Tryz.prog 4 [.c (eS 1 (ecI .i64) (a0))] [] (.c (BL r)) [] := by
  unfold F_top_TopRegistered at h; refine con_of [] [] 219 Tryz.func4 rfl rfl kr (fun K => ?_); refine TS_go 7 ?_; replace h := bindO h; obtain ⟨v1,hv1,h⟩ := h; refine TS_con [] [(38,10)] none (ok_made_New a0 v1 hv1) kr kr kr ?_; refine TS_go 4 ?_; replace h := bindO h; obtain ⟨v2,hv2,h⟩ := h; refine TS_con [] [(40,900064),(600000,900068)] none (okT_top_pair 0 1 v2 hv2) kr kr kr ?_; refine TS_go 16 ?_; replace h := condT h; obtain ⟨hb3,h⟩ := h; refine TS_know 43 (b := true) hb3 kr kr ?_; refine TS_know 6 (b := true) hb3 kr kr ?_; refine TS_know 44 (b := true) hb3 kr kr ?_; refine TS_know 45 (b := false) (notF hb3) kr kr ?_; refine TS_F kr rfl ?_; refine TS_go 3 ?_; replace h := bindO h; obtain ⟨v4,hv4,h⟩ := h; refine TS_call [] (ok_top_device 0 v4 hv4) kr kr ?_; replace h := bindO h; obtain ⟨v5,hv5,h⟩ := h; refine TS_call [] (ok_ref04_LinkLocal v4 v5 hv5) kr kr ?_; refine TS_go 9 ?_; replace h := bindO h; obtain ⟨v6,hv6,h⟩ := h; refine TS_call [] (ok_top_device 1 v6 hv6) kr kr ?_; replace h := bindO h; obtain ⟨v7,hv7,h⟩ := h; refine TS_call [] (ok_ref04_LinkLocal v6 v7 hv7) kr kr ?_; refine TS_go 17 ?_; refine TS_nilT 11 600001 96 23 kr ?_; refine TS_cut (fI [3,4,5,7,9,11,12] [38,40,600000,4,5,7,9,600001]) (.mk [cA 1407 b4,.blk 0,cA 511 b4] .normal ⟨[(3,bx 38),(4,bx 4),(5,bx 5),(7,bx 7),(9,bx 9),(11,.c (.slc 23 600003 (List.length ([] : List S_Registration)) (List.map S_Registration.cs ([] : List S_Registration)))),(12,.c (I6 0))],[(38,.box [.slc 1 0 (List.length v1.l) (List.map (ecI .i64) v1.l),I6 v1.at_]),(40,.spare 120 17 (List.length v2.2.1.Keys)),(600000,.spare 222 6 (List.length v2.2.1.Peers)),(4,.box [.slc 17 0 (List.length v2.1.Keys) (List.map S_LinkKey.cs v2.1.Keys),U3 v2.1.Counter,U3 v2.1.Reserved,U3 v2.1.Nonce,.slc 6 0 (List.length v2.1.Peers) (List.map S_Peer.cs v2.1.Peers)]),(5,.box [.slc 17 42 (List.length v2.2.1.Keys) (List.map S_LinkKey.cs v2.2.1.Keys),U3 v2.2.1.Counter,U3 v2.2.1.Reserved,U3 v2.2.1.Nonce,.slc 6 600002 (List.length v2.2.1.Peers) (List.map S_Peer.cs v2.2.1.Peers)]),(7,.box (getsL .u8 v5.1 0 16)),(9,.box (getsL .u8 v7.1 0 16)),(600001,.spare 96 23 (List.length ([] : List S_Registration)))]⟩) kr kr ?_; replace h := bindO h; obtain ⟨y10,hl1,hK1⟩ := h; refine TS_loopB (F_top_TopRegistered_l1 v5 v7) ⟨[(3,[]),(4,[]),(5,[]),(7,[]),(9,[]),(11,[]),(12,[])],[(38,(38,[])),(4,(4,[])),(5,(5,[18,0,0,0,7])),(7,(7,[])),(9,(9,[])),(600001,(600001,[]))]⟩ (fun (s8 : (List S_Registration) × Int × S_multihopmade_Tape × S_Guard × S_Guard) => [(3,bx 38),(4,bx 4),(5,bx 5),(7,bx 7),(9,bx 9),(11,.c (.slc 23 600003 (List.length s8.1) (List.map S_Registration.cs s8.1))),(12,.c (I6 s8.2.1))]) (fun (s8 : (List S_Registration) × Int × S_multihopmade_Tape × S_Guard × S_Guard) => [(38,.box (S_multihopmade_Tape.cs s8.2.2.1)),(4,.box (S_Guard.cs s8.2.2.2.1)),(5,.box (S_Guard.cs s8.2.2.2.2)),(7,.box (getsL .u8 v5.1 0 16)),(9,.box (getsL .u8 v7.1 0 16)),(600001,.spare 96 23 (List.length s8.1))]) (([] : List S_Registration),0,v1,v2.1,v2.2.1) y10 (.exit 0) (fun (b : Unit) => b) (fI [] []) (fun (b9 : Unit) => []) (fun (b9 : Unit) => []) hl1 kr kr ?_ ?_
  · intro s8 x h hy1; unfold F_top_TopRegistered_l1 at h; refine TS_go 6 ?_; replace h := condO h; rcases h with ⟨hb11,h⟩ | ⟨hb11,h⟩
    · refine TS_know 57 (b := true) hb11 kr kr ?_; refine TS_T kr rfl ?_; refine TS_go 6 ?_; refine TS_cut (fI [3,4,5,7,9,11,12,60] [38,4,5,7,9,600001]) (.mk [oA 35199 b4 1,cA 51583 b4,.blk 1,cA 14719 b4] .normal ⟨[(3,bx 38),(4,bx 4),(5,bx 5),(7,bx 7),(9,bx 9),(11,.c (.slc 23 600003 (List.length s8.1) (List.map S_Registration.cs s8.1))),(12,.c (I6 s8.2.1)),(60,bx 38)],[(38,.box [.slc 1 0 (List.length s8.2.2.1.l) (List.map (ecI .i64) s8.2.2.1.l),I6 s8.2.2.1.at_]),(4,.box [.slc 17 0 (List.length s8.2.2.2.1.Keys) (List.map S_LinkKey.cs s8.2.2.2.1.Keys),U3 s8.2.2.2.1.Counter,U3 s8.2.2.2.1.Reserved,U3 s8.2.2.2.1.Nonce,.slc 6 0 (List.length s8.2.2.2.1.Peers) (List.map S_Peer.cs s8.2.2.2.1.Peers)]),(5,.box [.slc 17 0 (List.length s8.2.2.2.2.Keys) (List.map S_LinkKey.cs s8.2.2.2.2.Keys),U3 s8.2.2.2.2.Counter,U3 s8.2.2.2.2.Reserved,U3 s8.2.2.2.2.Nonce,.slc 6 0 (List.length s8.2.2.2.2.Peers) (List.map S_Peer.cs s8.2.2.2.2.Peers)]),(7,.box (getsL .u8 v5.1 0 16)),(9,.box (getsL .u8 v7.1 0 16)),(600001,.spare 96 23 (List.length s8.1))]⟩) kr kr ?_; refine TS_bump 2000 kr ?_; refine TS_inl 7 Tryz.func23 rfl rfl kr (fun K57 => ?_); refine TS_go 7 ?_; replace h := bindO h; obtain ⟨v12,hv12,h⟩ := h; refine TS_con [] [] (some (2038,0)) (ok_made_Tape_Next s8.2.2.1 6 v12 hv12) kr kr kr ?_; refine TS_go 1 ?_; replace h := bindO h; obtain ⟨v13,hv13,h⟩ := h; refine TS_call [] (ok_ref04_Of 2306139568115548160 (IntKind.wrap .u64 v12.1) v13 hv13) kr kr ?_; refine TS_go 3 ?_; refine TS_inlR kr kr ?_; refine TS_go 1 ?_; refine TS_cut (fI [3,4,5,7,9,11,12,61,62] [2038,2004,2005,2007,2009,602001]) (.mk [oA 35199 b4 3,cA 51583 b4,.blk 1,cA 14719 b4] .normal ⟨[(3,bx 2038),(4,bx 2004),(5,bx 2005),(7,bx 2007),(9,bx 2009),(11,.c (.slc 23 602003 (List.length s8.1) (List.map S_Registration.cs s8.1))),(12,.c (I6 s8.2.1)),(61,.agg (getsL .u8 v13 0 16)),(62,bx 2038)],[(2038,.box [.slc 1 0 (List.length v12.2.l) (List.map (ecI .i64) v12.2.l),I6 v12.2.at_]),(2004,.box [.slc 17 0 (List.length s8.2.2.2.1.Keys) (List.map S_LinkKey.cs s8.2.2.2.1.Keys),U3 s8.2.2.2.1.Counter,U3 s8.2.2.2.1.Reserved,U3 s8.2.2.2.1.Nonce,.slc 6 0 (List.length s8.2.2.2.1.Peers) (List.map S_Peer.cs s8.2.2.2.1.Peers)]),(2005,.box [.slc 17 0 (List.length s8.2.2.2.2.Keys) (List.map S_LinkKey.cs s8.2.2.2.2.Keys),U3 s8.2.2.2.2.Counter,U3 s8.2.2.2.2.Reserved,U3 s8.2.2.2.2.Nonce,.slc 6 0 (List.length s8.2.2.2.2.Peers) (List.map S_Peer.cs s8.2.2.2.2.Peers)]),(2007,.box (getsL .u8 v5.1 0 16)),(2009,.box (getsL .u8 v7.1 0 16)),(602001,.spare 96 23 (List.length s8.1))]⟩) kr kr ?_; refine TS_bump 2000 kr ?_; refine TS_inl 18 Tryz.func24 rfl rfl kr (fun K56 => ?_); refine TS_go 5 ?_; refine TS_draw kr ?_; refine TD_go 1 ?_; replace h := bindO h; obtain ⟨v14,hv14,h⟩ := h; refine TD_con (_h := []) (_h' := []) [] 4038 0 [.slc 1 0 (List.length v12.2.l) (List.map (ecI .i64) v12.2.l),I6 v12.2.at_] _ _ (ok_made_Tape_Next v12.2 3 v14 hv14) kr kr kr kr ?_; refine TD_go 2 ?_; replace h := bindO h; obtain ⟨v15,hv15,h⟩ := h; refine TD_con (_h := []) (_h' := []) [] 4038 0 [.slc 1 0 (List.length v14.2.l) (List.map (ecI .i64) v14.2.l),I6 v14.2.at_] _ _ (ok_made_Tape_Next v14.2 256 v15 hv15) kr kr kr kr ?_; refine TD_go 1 ?_; refine TD_litNT 9 5 1 (ecI .u8) [] ([0,127,128,240,255,IntKind.wrap .u8 v15.1] : List Int) kr kr ?_; refine TD_go 1 ?_; replace h := bindO h; obtain ⟨v16,hv16,h⟩ := h; refine TD_con (_h := []) (_h' := []) [] 4038 0 [.slc 1 0 (List.length v15.2.l) (List.map (ecI .i64) v15.2.l),I6 v15.2.at_] _ _ (ok_made_Tape_Next v15.2 6 v16 hv16) kr kr kr kr ?_; replace h := bindO h; obtain ⟨e17,he17,h⟩ := h; refine TD_idx (ecI .u8) he17 kr kr ?_; refine TD_go 2 ?_; replace h := bindO h; obtain ⟨v18,hv18,h⟩ := h; refine TD_con (_h := []) (_h' := []) [] 4038 0 [.slc 1 0 (List.length v16.2.l) (List.map (ecI .i64) v16.2.l),I6 v16.2.at_] _ _ (ok_made_Tape_Next v16.2 20 v18 hv18) kr kr kr kr ?_; refine TD_go 3 ?_; refine TD_end kr ?_; refine TS_go 1 ?_; refine TS_inlR kr kr ?_; refine TS_go 9 ?_; refine TS_draw kr ?_; refine TD_go 1 ?_; replace h := bindO h; obtain ⟨v19,hv19,h⟩ := h; refine TD_call [] (ok_top_device 0 v19 hv19) kr kr ?_; refine TD_go 4 ?_; replace h := bindO h; obtain ⟨v20,hv20,h⟩ := h; refine TD_conX (d := 73) (e := 900000) [[0,0,0,0,0,0,0,0,0,0,0,0,0,0,0,0,0,0,0,0,0,0,0,0,0,0,0,21,21]] (okT_discovery_Encode (S_Message.mk 135 0 0 v13 v19 (S_Owner.mk (IntKind.wrap .u64 v14.1) e17 0 (IntKind.wrap .u16 v18.1)) true ([] : List S_PrefixInfo) ([] : List S_ContextInfo) (S_Border.mk 0 0 [0,0,0,0,0,0,0,0,0,0,0,0,0,0,0,0]) false) v5.1 v7.1 v20 hv20) kr kr ?_; refine TD_go 5 ?_; refine TD_end kr ?_; refine TS_go 1 ?_; refine TS_draw kr ?_; refine TD_go 4 ?_; replace h := bindO h; obtain ⟨v21,hv21,h⟩ := h; refine TD_call [] (ok_top_device 0 v21 hv21) kr kr ?_; replace h := bindO h; obtain ⟨v22,hv22,h⟩ := h; refine TD_call [] (ok_top_device 1 v22 hv22) kr kr ?_; refine TD_go 1 ?_; replace h := bindO h; obtain ⟨v23,hv23,h⟩ := h; refine TD_conX (d := 84) (e := 900000) [[0,0,0,0,0,0,0,0,0,0,0,0,0,0,0,0,0,0,0,0,0,0,0,0,0,0,0,0,0,0,0,0,0,0,0,0,0,0,2],[],[],[21]] (okT_compress_Encode (S_Packet.mk 0 0 58 255 v5.1 v7.1 0 0 v20.1) v21 v22 ([] : List S_Context) (IntKind.wrap .i64 (3 * s8.2.1)) v23 hv23) kr kr ?_; refine TD_go 5 ?_; refine TD_end kr ?_; refine TS_go 4 ?_; refine TS_litNT 90 29 1 (ecS 1 (ecI .u8)) [2] ([v23.1] : List (List Int)) kr kr ?_; replace h := bindO h; obtain ⟨v24,hv24,h⟩ := h; refine TS_con [[],[],[],[2]] [(91,900064)] none (okT_top_sealed s8.2.2.2.1 0 1 ([v23.1] : List (List Int)) v24 hv24) kr kr kr ?_; refine TS_go 15 ?_; replace h := condF h; obtain ⟨hb25,h⟩ := h; refine TS_know 96 (b := false) hb25 kr kr ?_; refine TS_know 97 (b := false) hb25 kr kr ?_; refine TS_go 4 ?_; replace h := condF h; obtain ⟨hb26,h⟩ := h; refine TS_know 99 (b := false) hb26 kr kr ?_; refine TS_know 100 (b := false) hb26 kr kr ?_; refine TS_know 101 (b := false) hb26 kr kr ?_; refine TS_go 4 ?_; replace h := condT h; obtain ⟨hb27,h⟩ := h; refine TS_know 94 (b := true) hb27 kr kr ?_; refine TS_know 22 (b := true) hb27 kr kr ?_; refine TS_know 102 (b := true) hb27 kr kr ?_; refine TS_know 103 (b := false) (notF hb27) kr kr ?_; refine TS_know 104 (b := false) (notF hb27) kr kr ?_; refine TS_F kr rfl ?_; refine TS_go 2 ?_; refine TS_draw kr ?_; refine TD_go 2 ?_; replace h := bindO h; obtain ⟨e28,he28,h⟩ := h; refine TD_idx (ecS 1 (ecI .u8)) he28 kr kr ?_; refine TD_go 1 ?_; replace h := bindO h; obtain ⟨v29,hv29,h⟩ := h; refine TD_call [] (ok_top_opened s8.2.2.2.2 e28 v29 hv29) kr kr ?_; refine TD_go 8 ?_; refine TD_end kr ?_; refine TS_go 3 ?_; replace h := bindO h; obtain ⟨v30,hv30,h⟩ := h; refine TS_call [] (ok_top_device 0 v30 hv30) kr kr ?_; replace h := bindO h; obtain ⟨v31,hv31,h⟩ := h; refine TS_call [] (ok_top_device 1 v31 hv31) kr kr ?_; refine TS_go 1 ?_; replace h := bindO h; obtain ⟨v32,hv32,h⟩ := h; refine TS_con [[],[],[],[21]] [(119,900038)] none (okT_compress_Decode v29.2.1 v30 v31 ([] : List S_Context) (IntKind.wrap .i64 (3 * s8.2.1)) v32 hv32) kr kr kr ?_; refine TS_go 15 ?_; replace h := bindO h; obtain ⟨v33,hv33,h⟩ := h; refine TS_call [[2]] (ok_discovery_Decode v32.1.Payload v32.1.Src v32.1.Dst v33 hv33) kr kr ?_; refine TS_go 13 ?_; replace h := condT h; obtain ⟨hb34,h⟩ := h; refine TS_know 113 (b := true) hb34 kr kr ?_; refine TS_know 25 (b := true) hb34 kr kr ?_; refine TS_know 132 (b := true) hb34 kr kr ?_; refine TS_know 133 (b := false) (notF hb34) kr kr ?_; refine TS_know 134 (b := false) (notF hb34) kr kr ?_; refine TS_go 4 ?_; replace h := condF h; obtain ⟨hb35,h⟩ := h; refine TS_know 136 (b := false) hb35 kr kr ?_; refine TS_know 137 (b := false) hb35 kr kr ?_; refine TS_know 138 (b := false) hb35 kr kr ?_; refine TS_go 4 ?_; replace h := condF h; obtain ⟨hb36,h⟩ := h; refine TS_know 140 (b := false) hb36 kr kr ?_; refine TS_know 141 (b := false) hb36 kr kr ?_; refine TS_know 142 (b := false) hb36 kr kr ?_; refine TS_go 6 ?_; replace h := condT h; obtain ⟨hb37,h⟩ := h; refine TS_know 146 (b := false) (notF hb37) kr kr ?_; refine TS_know 147 (b := false) (notF hb37) kr kr ?_; refine TS_know 148 (b := false) (notF hb37) kr kr ?_; refine TS_go 6 ?_; replace h := condT h; obtain ⟨hb38,h⟩ := h; refine TS_know 152 (b := false) (notF hb38) kr kr ?_; refine TS_know 153 (b := false) (notF hb38) kr kr ?_; refine TS_F kr rfl ?_; refine TS_go 11 ?_; replace h := bindO h; obtain ⟨v39,hv39,h⟩ := h; refine TS_con [[24]] [(163,900000)] none (okT_registration_Register s8.1 v33.1.Target v33.1.Owner v33.1.Source (IntKind.wrap .i64 (3 * s8.2.1)) v39 hv39) kr kr kr ?_; refine TS_go 9 ?_; refine TS_draw kr ?_; refine TD_go 3 ?_; replace h := bindO h; obtain ⟨v40,hv40,h⟩ := h; refine TD_call [] (ok_top_device 0 v40 hv40) kr kr ?_; refine TD_go 1 ?_; replace h := bindO h; obtain ⟨v41,hv41,h⟩ := h; refine TD_conX (d := 173) (e := 900000) [[24]] (okT_registration_Register s8.1 v13 (S_Owner.mk (IntKind.wrap .u64 v14.1) e17 0 (IntKind.wrap .u16 v18.1)) v40 (IntKind.wrap .i64 (3 * s8.2.1)) v41 hv41) kr kr ?_; refine TD_go 7 ?_; refine TD_end kr ?_; refine TS_go 6 ?_; replace h := condF h; obtain ⟨hb42,h⟩ := h; refine TS_know 178 (b := false) hb42 kr kr ?_; refine TS_know 179 (b := false) hb42 kr kr ?_; refine TS_go 4 ?_; replace h := condF h; obtain ⟨hb43,h⟩ := h; refine TS_know 181 (b := false) hb43 kr kr ?_; refine TS_know 182 (b := false) hb43 kr kr ?_; refine TS_know 183 (b := false) hb43 kr kr ?_; refine TS_go 5 ?_; replace h := condF h; obtain ⟨hb44,h⟩ := h; refine TS_know 186 (b := false) hb44 kr kr ?_; refine TS_know 187 (b := false) hb44 kr kr ?_; refine TS_know 188 (b := false) hb44 kr kr ?_; refine TS_go 7 ?_; replace h := condF h; obtain ⟨hb45,h⟩ := h; refine TS_know 193 (b := false) hb45 kr kr ?_; refine TS_know 194 (b := false) hb45 kr kr ?_; refine TS_know 195 (b := false) hb45 kr kr ?_; refine TS_go 1 ?_; replace h := bindO h; obtain ⟨v46,hv46,h⟩ := h; refine TS_call [[24]] (ok_registration_Valid v39.1 v46 hv46) kr kr ?_; refine TS_go 3 ?_; replace h := condT h; obtain ⟨hb47,h⟩ := h; subst hb47; refine TS_F kr rfl ?_; refine TS_go 7 ?_; refine TS_cut (fI [3,4,5,7,9,12,20,23,30,33,36] [4038,4004,4005,4007,4009,20,23,163,173]) (.mk [cA 738183551 b4,.blk 2,cA 268421503 b4,.blk 1,cA 14719 b4] .normal ⟨[(3,bx 4038),(4,bx 4004),(5,bx 4005),(7,bx 4007),(9,bx 4009),(12,.c (I6 s8.2.1)),(20,bx 20),(23,bx 23),(30,.c (.slc 23 165 (List.length v39.1) (List.map S_Registration.cs v39.1))),(33,.c (.slc 23 175 (List.length v41.1) (List.map S_Registration.cs v41.1))),(36,.c (I6 0))],[(4038,.box [.slc 1 0 (List.length v18.2.l) (List.map (ecI .i64) v18.2.l),I6 v18.2.at_]),(4004,.box [.slc 17 0 (List.length s8.2.2.2.1.Keys) (List.map S_LinkKey.cs s8.2.2.2.1.Keys),U3 s8.2.2.2.1.Counter,U3 s8.2.2.2.1.Reserved,U3 s8.2.2.2.1.Nonce,.slc 6 0 (List.length s8.2.2.2.1.Peers) (List.map S_Peer.cs s8.2.2.2.1.Peers)]),(4005,.box [.slc 17 0 (List.length s8.2.2.2.2.Keys) (List.map S_LinkKey.cs s8.2.2.2.2.Keys),U3 s8.2.2.2.2.Counter,U3 s8.2.2.2.2.Reserved,U3 s8.2.2.2.2.Nonce,.slc 6 0 (List.length s8.2.2.2.2.Peers) (List.map S_Peer.cs s8.2.2.2.2.Peers)]),(4007,.box (getsL .u8 v5.1 0 16)),(4009,.box (getsL .u8 v7.1 0 16)),(20,.box [.slc 17 0 (List.length v24.1.Keys) (List.map S_LinkKey.cs v24.1.Keys),U3 v24.1.Counter,U3 v24.1.Reserved,U3 v24.1.Nonce,.slc 6 0 (List.length v24.1.Peers) (List.map S_Peer.cs v24.1.Peers)]),(23,.box [.slc 17 0 (List.length v29.1.Keys) (List.map S_LinkKey.cs v29.1.Keys),U3 v29.1.Counter,U3 v29.1.Reserved,U3 v29.1.Nonce,.slc 6 0 (List.length v29.1.Peers) (List.map S_Peer.cs v29.1.Peers)]),(163,.spare 96 23 (List.length v39.1)),(173,.spare 96 23 (List.length v41.1))]⟩) kr kr ?_; replace h := bindO h; obtain ⟨y50,hl2,hK2⟩ := h; refine TS_loopB (F_top_TopRegistered_l2 v39 v41) (fI [3,4,5,7,9,12,20,23,30,33,36] [4038,4004,4005,4007,4009,20,23,163,173]) (fun (s48 : Int) => [(3,bx 4038),(4,bx 4004),(5,bx 4005),(7,bx 4007),(9,bx 4009),(12,.c (I6 s8.2.1)),(20,bx 20),(23,bx 23),(30,.c (.slc 23 165 (List.length v39.1) (List.map S_Registration.cs v39.1))),(33,.c (.slc 23 175 (List.length v41.1) (List.map S_Registration.cs v41.1))),(36,.c (I6 s48))]) (fun (s48 : Int) => [(4038,.box [.slc 1 0 (List.length v18.2.l) (List.map (ecI .i64) v18.2.l),I6 v18.2.at_]),(4004,.box [.slc 17 0 (List.length s8.2.2.2.1.Keys) (List.map S_LinkKey.cs s8.2.2.2.1.Keys),U3 s8.2.2.2.1.Counter,U3 s8.2.2.2.1.Reserved,U3 s8.2.2.2.1.Nonce,.slc 6 0 (List.length s8.2.2.2.1.Peers) (List.map S_Peer.cs s8.2.2.2.1.Peers)]),(4005,.box [.slc 17 0 (List.length s8.2.2.2.2.Keys) (List.map S_LinkKey.cs s8.2.2.2.2.Keys),U3 s8.2.2.2.2.Counter,U3 s8.2.2.2.2.Reserved,U3 s8.2.2.2.2.Nonce,.slc 6 0 (List.length s8.2.2.2.2.Peers) (List.map S_Peer.cs s8.2.2.2.2.Peers)]),(4007,.box (getsL .u8 v5.1 0 16)),(4009,.box (getsL .u8 v7.1 0 16)),(20,.box [.slc 17 0 (List.length v24.1.Keys) (List.map S_LinkKey.cs v24.1.Keys),U3 v24.1.Counter,U3 v24.1.Reserved,U3 v24.1.Nonce,.slc 6 0 (List.length v24.1.Peers) (List.map S_Peer.cs v24.1.Peers)]),(23,.box [.slc 17 0 (List.length v29.1.Keys) (List.map S_LinkKey.cs v29.1.Keys),U3 v29.1.Counter,U3 v29.1.Reserved,U3 v29.1.Nonce,.slc 6 0 (List.length v29.1.Peers) (List.map S_Peer.cs v29.1.Peers)]),(163,.spare 96 23 (List.length v39.1)),(173,.spare 96 23 (List.length v41.1))]) 0 y50 (.exit 2) (fun (b : Unit) => b) (fI [3,4,5,7,9,12,20,23,30] [4038,4004,4005,4007,4009,20,23,163]) (fun (b49 : Unit) => [(3,bx 4038),(4,bx 4004),(5,bx 4005),(7,bx 4007),(9,bx 4009),(12,.c (I6 s8.2.1)),(20,bx 20),(23,bx 23),(30,.c (.slc 23 165 (List.length v39.1) (List.map S_Registration.cs v39.1)))]) (fun (b49 : Unit) => [(4038,.box [.slc 1 0 (List.length v18.2.l) (List.map (ecI .i64) v18.2.l),I6 v18.2.at_]),(4004,.box [.slc 17 0 (List.length s8.2.2.2.1.Keys) (List.map S_LinkKey.cs s8.2.2.2.1.Keys),U3 s8.2.2.2.1.Counter,U3 s8.2.2.2.1.Reserved,U3 s8.2.2.2.1.Nonce,.slc 6 0 (List.length s8.2.2.2.1.Peers) (List.map S_Peer.cs s8.2.2.2.1.Peers)]),(4005,.box [.slc 17 0 (List.length s8.2.2.2.2.Keys) (List.map S_LinkKey.cs s8.2.2.2.2.Keys),U3 s8.2.2.2.2.Counter,U3 s8.2.2.2.2.Reserved,U3 s8.2.2.2.2.Nonce,.slc 6 0 (List.length s8.2.2.2.2.Peers) (List.map S_Peer.cs s8.2.2.2.2.Peers)]),(4007,.box (getsL .u8 v5.1 0 16)),(4009,.box (getsL .u8 v7.1 0 16)),(20,.box [.slc 17 0 (List.length v24.1.Keys) (List.map S_LinkKey.cs v24.1.Keys),U3 v24.1.Counter,U3 v24.1.Reserved,U3 v24.1.Nonce,.slc 6 0 (List.length v24.1.Peers) (List.map S_Peer.cs v24.1.Peers)]),(23,.box [.slc 17 0 (List.length v29.1.Keys) (List.map S_LinkKey.cs v29.1.Keys),U3 v29.1.Counter,U3 v29.1.Reserved,U3 v29.1.Nonce,.slc 6 0 (List.length v29.1.Peers) (List.map S_Peer.cs v29.1.Peers)]),(163,.spare 96 23 (List.length v39.1))]) hl2 kr kr ?_ ?_
      · intro s48 x h hy2; unfold F_top_TopRegistered_l2 at h; refine TS_go 8 ?_; replace h := condO h; rcases h with ⟨hb51,h⟩ | ⟨hb51,h⟩
        · refine TS_know 203 (b := true) hb51 kr kr ?_; refine TS_T kr rfl ?_; refine TS_go 4 ?_; refine TS_draw kr ?_; refine TD_go 2 ?_; replace h := bindO h; obtain ⟨_e52,he52,h⟩ := h; refine TD_idx S_Registration.cs he52 kr kr ?_; refine TD_go 3 ?_; replace h := bindO h; obtain ⟨_e53,he53,h⟩ := h; refine TD_idx S_Registration.cs he53 kr kr ?_; refine TD_go 2 ?_; refine TD_end kr ?_; replace h := condT h; obtain ⟨hb54,h⟩ := h; refine TS_know 214 (b := false) (notF hb54) kr kr ?_; refine TS_F kr rfl ?_; refine TS_go 7 ?_; have ret := Option.some.inj h; subst ret; exact TS_againB _ (fI [3,4,5,7,9,12,20,23,30,33,36] [4038,4004,4005,4007,4009,20,23,163,173]) rfl kr kr
        refine TS_know 203 (b := false) hb51 kr kr ?_; refine TS_F kr rfl ?_; refine TS_go 2 ?_; have ret := Option.some.inj h; subst ret; exact TS_brkB () (fI [3,4,5,7,9,12,20,23,30] [4038,4004,4005,4007,4009,20,23,163]) rfl kr kr kr
      intro b49 hb; subst y50; have h := hK2; refine TS_go 1 ?_; refine TS_draw kr ?_; refine TD_go 6 ?_; refine TD_end kr ?_; refine TS_go 6 ?_; have ret := Option.some.inj h; subst ret; exact TS_againB _ (fJ [3,4,5,7,9,11,12] [(4038,38),(4004,4),(4005,5),(4007,7),(4009,9),(163,600001)]) rfl kr kr
    refine TS_know 57 (b := false) hb11 kr kr ?_; refine TS_F kr rfl ?_; refine TS_go 2 ?_; have ret := Option.some.inj h; subst ret; exact TS_brkB () (fI [] []) rfl kr kr kr
  intro b9 hb; subst y10; have h := hK1; refine TS_go 3 ?_; replace h := bindO h; obtain ⟨v59,hv59,h⟩ := h; refine TS_call [] (ok_top_sane  v59 hv59) kr kr ?_; refine TS_go 3 ?_; have ret := Option.some.inj h; subst ret; exact TS_ret kr kr kr
end
section
open Go.RowKit

theorem beqF {α : Type} [BEq α] [LawfulBEq α] {a b : α} (h : ¬ a = b) : (a == b) = false := by simpa using h
theorem decT {p : Prop} [Decidable p] (h : p) : decide p = true := by simpa using h
theorem decF {p : Prop} [Decidable p] (h : ¬ p) : decide p = false := by simpa using h
theorem wi {x : Int} (h0 : -9223372036854775808 ≤ x) (h1 : x ≤ 9223372036854775807) : IntKind.wrap .i64 x = x := by
  simp [IntKind.wrap, IntKind.bits, IntKind.signed]
  omega
theorem wu {x : Int} (h0 : 0 ≤ x) (h1 : x < 18446744073709551616) : IntKind.wrap .u64 x = x := by
  simp [IntKind.wrap, IntKind.bits, IntKind.signed]
  omega
theorem wu16 {x : Int} (h0 : 0 ≤ x) (h1 : x < 65536) : IntKind.wrap .u16 x = x := by
  simp [IntKind.wrap, IntKind.bits, IntKind.signed]
  omega
theorem wu8 {x : Int} (h0 : 0 ≤ x) (h1 : x < 256) : IntKind.wrap .u8 x = x := by
  simp [IntKind.wrap, IntKind.bits, IntKind.signed]
  omega
theorem wk (k : Nat) (h : k < 9223372036854775807) : IntKind.wrap .i64 ((k : Int) + 1) = ((k + 1 : Nat) : Int) := by
  rw [wi (by omega) (by omega)]; rfl
theorem wrap8 (x : Int) : IntKind.wrap .u8 x = x % 256 := by
  simp [IntKind.wrap, IntKind.bits, IntKind.signed]
theorem wrap64 (x : Int) : IntKind.wrap .u64 x = x % 18446744073709551616 := by
  simp [IntKind.wrap, IntKind.bits, IntKind.signed]
section
variable {σ ρ : Type} {step : σ → Option (σ ⊕ ρ)}
theorem loop_done {s : σ} {r : ρ} (h : step s = some (.inr r)) : loopO step s = some r := by rw [loopO_eq, h]
theorem loop_next {s s' : σ} (h : step s = some (.inl s')) : loopO step s = loopO step s' := by rw [loopO_eq, h]
/-- a loop that keeps I and ends with Q -/
theorem loop_inv (I : σ → Prop) (Q : ρ → Prop) (m : σ → Nat) (hs : ∀ s, I s → (∃ s', step s = some (.inl s') ∧ I s' ∧ m s' < m s) ∨ (∃ r, step s = some (.inr r) ∧ Q r)) (s : σ) (h : I s) : ∃ r, loopO step s = some r ∧ Q r := by
  induction hn : m s using Nat.strongRecOn generalizing s with
  | ind n ih =>
    subst hn
    rcases hs s h with ⟨s', h1, h2, h3⟩ | ⟨r, h1, h2⟩
    · obtain ⟨r, hr, hq⟩ := ih (m s') h3 s' h2 rfl
      exact ⟨r, by rw [loop_next h1]; exact hr, hq⟩
    · exact ⟨r, loop_done h1, h2⟩
/-- a loop whose states are known -/
theorem loop_to (S : Nat → σ) (n : Nat) (h : ∀ k, k < n → step (S k) = some (.inl (S (k + 1)))) : loopO step (S 0) = loopO step (S n) := by
  induction n with
  | zero => rfl
  | succ n ih => rw [ih (fun k hk => h k (by omega)), loop_next (h n (by omega))]
theorem loop_run (S : Nat → σ) (n : Nat) {r : ρ} (h : ∀ k, k < n → step (S k) = some (.inl (S (k + 1)))) (he : step (S n) = some (.inr r)) : loopO step (S 0) = some r := by
  rw [loop_to S n h, loop_done he]
end
theorem idx_nat {α : Type} (l : List α) (k : Nat) : idx l (k : Int) = l[k]? := by simp [idx]
theorem idx_lt {α : Type} {l : List α} {k : Nat} (h : k < l.length) : idx l (k : Int) = some l[k] := by rw [idx_nat]; exact List.getElem?_eq_getElem h
theorem idx_int {α : Type} {l : List α} {i : Int} (h0 : 0 ≤ i) (h1 : i < l.length) : idx l i = some (l[i.toNat]'(by omega)) := by
  unfold idx; rw [if_pos h0]; exact List.getElem?_eq_getElem _
theorem appO_some {α : Type} {by_ : Nat} {l1 l2 : List α} (h : (l1.length + l2.length) * by_ ≤ 140737488355328) (h' : l1.length + l2.length ≤ 140737488355328) : appO by_ l1 l2 = some (l1 ++ l2) := by
  unfold appO; rw [if_pos ⟨h, h'⟩]
theorem subO_some {α : Type} {l : List α} {a b : Int} (h0 : 0 ≤ a) (h1 : a ≤ b) (h2 : b ≤ l.length) : subO l a b = some ((l.take b.toNat).drop a.toNat) := by
  unfold subO; rw [if_pos ⟨h0, h1, h2⟩]

theorem arrL_id {n : Nat} {l : List Int} (h : l.length = n) : arrL n l = l := by
  apply List.ext_getElem?
  intro i
  unfold arrL
  rcases Nat.lt_or_ge i n with hi | hi
  · rw [List.getElem?_map, List.getElem?_range hi, List.getElem?_eq_getElem (by omega)]
    simp [List.getD_eq_getElem?_getD, List.getElem?_eq_getElem (show i < l.length by omega)]
  · rw [List.getElem?_eq_none (by simpa using hi), List.getElem?_eq_none (by omega)]
theorem getD_get {l : List Int} {i : Nat} (h : i < l.length) : l.getD i 0 = l[i] := by simp [List.getD_eq_getElem?_getD, List.getElem?_eq_getElem h]
theorem getD_mem {p : Int → Prop} {l : List Int} (h : ∀ z ∈ l, p z) (h0 : p 0) (i : Nat) : p (l.getD i 0) := by
  rcases Nat.lt_or_ge i l.length with hi | hi
  · rw [getD_get hi]; exact h _ (List.getElem_mem hi)
  · rw [List.getD_eq_getElem?_getD, List.getElem?_eq_none hi]; exact h0
end
section
open Go.ChangeShapes Go.WideShapes Go.ChangeAt Go.RowKit

theorem own : ownKnob Tryz.prog.godebug = none := by kernel_rfl
theorem laidOut : laidOutB Tryz.prog = true := by kernel_rfl

/-- the arguments read as before -/
theorem trodAll_below {H : Type} {enc : TypeId × Value → H} {P : Program} (hl : laidOutB P = true) {W W' : World} (hb : Below W.heap.size W W') :
    ∀ {ts : List TypeId} {vs : List Value} {ds : List (DataW H)} {ps : List MemPlace}, ts.all (fun t => P.readableRec t && decide (t < P.types.size)) = true →
      DataW.TrodAll enc P W 0 (fun _ => true) true ts vs ds ps → DataW.TrodAll enc P W' 0 (fun b => decide (b < W.heap.size)) true ts vs ds ps
  | [], _, _, _, _, h => by
    obtain ⟨rfl, rfl, rfl⟩ := trodAll_nil h
    exact trodAll_mk0
  | t :: ts, vs, ds, ps, hr, h => by
    obtain ⟨v, vs', d, ds', p, q, rfl, rfl, rfl, h1, h2⟩ := trodAll_cons h
    simp only [List.all_cons, Bool.and_eq_true, decide_eq_true_eq] at hr
    have lt : ∀ x ∈ p, x.block < W.heap.size := by obtain ⟨m, hm⟩ := h1; exact DataW.trod_lt m _ _ _ hm
    exact trodAll_cons_mk (Below.trod hl hr.1.1 hr.1.2 h1 hb lt) (trodAll_below hl hb hr.2 h2)

/-- the reader that sees all -/
def rdAll (w : World) : Rd := fun b o => w.cell? ⟨b, o, none⟩
def env0 : Env := ⟨fun _ => (0, 0), fun _ => (.slice none 0 0, .slice none 0 0)⟩
def ArgsOk (rd : Rd) (g : Env) : List Value → List SV → Prop
  | [], [] => True
  | u :: us, x :: xs => VRel rd g u x ∧ ArgsOk rd g us xs
  | _, _ => False
theorem ArgsOk.get {rd : Rd} {g : Env} : ∀ {us : List Value} {xs : List SV}, ArgsOk rd g us xs → us.length = xs.length ∧ ∀ (i : Nat) (x : SV), xs[i]? = some x → ∃ u, us[i]? = some u ∧ VRel rd g u x
  | [], [], _ => ⟨rfl, fun i x h => by simp at h⟩
  | u :: us, y :: xs, h => by
    obtain ⟨h1, h2⟩ := h
    obtain ⟨k1, k2⟩ := h2.get
    refine ⟨by simp [k1], fun i x hx => ?_⟩
    rcases i with _ | i
    · cases hx; exact ⟨u, rfl, h1⟩
    · exact k2 i x (by simpa using hx)
/-- a law that is true -/
theorem con_true {P : Program} {f : FuncId} {args : List SV} (h : Con P f args [] (.c (.lit (.bool true))) []) {W : World} {us : List Value} (ha : ArgsOk (rdAll W) env0 us args) :
    Calls P f us.toArray W fun e w' => e = .returned (.bool true) ∧ Ext W w' := by
  obtain ⟨h1, h2⟩ := ha.get
  have nol : ∀ d (x : Res), look ([] : Hp) d = some x → False := fun d x hx => by simp [look] at hx
  have noin : ∀ g b o, ¬ InFoot g ([] : Hp) b o := by rintro g b o ⟨d, r, hd, _⟩; exact nol _ _ hd
  refine (h (rdAll W) env0 W us.toArray (fun b o v hv => hv) (by simpa using h1) (fun i x hx => by simpa using h2 i x hx) (fun d x hx => (nol d x hx).elim) (fun d d' r r' b o _ hd => (nol _ _ hd).elim) (fun b o hx => (noin _ _ _ hx).elim)).mono ?_
  rintro e w' ⟨u, g', rfl, hk, _, _, _, _, hu⟩
  have hE : Ext W w' := (hk.weak (fun b o x => noin _ _ _ x)).ext
  refine ⟨?_, hE⟩
  have := (hu (rdAll w') (by
    intro b o v hv
    obtain ⟨g, rfl⟩ := hE
    have hb := World.block_lt_of_cell? _ _ hv
    unfold rdAll
    rw [cell_plus _ _ _ _ _ hb]
    exact hv) (fun b o u _ _ hc => hc)).1
  cases this
  rfl
def wfI (k : IntKind) (n : Int) : Prop := (Lit.int k n).wf = true
def Seg (rd : Rd) (cs : List Value) (off n : Nat) (l : List SC) : Prop := l.length = n ∧ ∀ (j : Nat) (y : SC), l[j]? = some y → ∃ u, cs[off + j]? = some u ∧ IRel rd u y
theorem Seg.append {rd : Rd} {cs : List Value} {off n m : Nat} {l l' : List SC} (h : Seg rd cs off n l) (k : Seg rd cs (off + n) m l') : Seg rd cs off (n + m) (l ++ l') := by
  refine ⟨by rw [List.length_append, h.1, k.1], fun j y hy => ?_⟩
  by_cases hj : j < l.length
  · rw [List.getElem?_append_left hj] at hy
    exact h.2 j y hy
  · rw [List.getElem?_append_right (by omega)] at hy
    obtain ⟨u, h1, h2⟩ := k.2 _ y hy
    have h3 := h.1
    refine ⟨u, ?_, h2⟩
    rw [← h1]
    congr 1
    omega

/-- a value of the type t is the shadow of an α -/
def Opens (P : Program) (t : TypeId) {α : Type} (f : α → List SC) (wf : α → Prop) : Prop :=
  ∀ (H : Type) (enc : TypeId × Value → H) (W : World) (fuel : Nat) (cs : List Value) (x : DataW H × List MemPlace), DataW.trod enc P W 0 (fun _ => true) true fuel t cs = some x → ∃ a : α, Seg (rdAll W) cs 0 cs.length (f a) ∧ wf a

theorem opens_int {P : Program} {t : TypeId} {k : IntKind} (ht : P.underlying t = some (.int k)) : Opens P t (ecI k) (wfI k) := by
  intro H enc W fuel cs x h
  obtain ⟨n, rfl, _, hw⟩ := DataW.trod_int ht h
  refine ⟨n, ⟨rfl, fun j y hy => ?_⟩, hw⟩
  rcases j with _ | j
  · simp only [ecI, List.getElem?_cons_zero, Option.some.injEq] at hy
    subst hy
    exact ⟨_, rfl, .lit _⟩
  · simp [ecI] at hy
end
section
open Go.RowKit

def okB (l : List Int) : Prop := ∀ z ∈ l, 0 ≤ z ∧ z ≤ 255
theorem okB.append {a b : List Int} (ha : okB a) (hb : okB b) : okB (a ++ b) := fun z h => (List.mem_append.1 h).elim (ha z) (hb z)
theorem okB.get {l : List Int} (h : okB l) {i : Nat} (hi : i < l.length) : 0 ≤ l[i] ∧ l[i] ≤ 255 := h _ (List.getElem_mem hi)
theorem okB.take {l : List Int} (h : okB l) (n : Nat) : okB (l.take n) := fun z hz => h z (List.mem_of_mem_take hz)
theorem okB.drop {l : List Int} (h : okB l) (n : Nat) : okB (l.drop n) := fun z hz => h z (List.mem_of_mem_drop hz)
theorem okB.set {l : List Int} (h : okB l) (n : Nat) {v : Int} (hv : 0 ≤ v ∧ v ≤ 255) : okB (l.set n v) := fun z hz => (List.mem_or_eq_of_mem_set hz).elim (h z) (fun e => e ▸ hv)
theorem okB.getD {l : List Int} (h : okB l) (n : Nat) : 0 ≤ l.getD n 0 ∧ l.getD n 0 ≤ 255 := getD_mem (p := fun z => 0 ≤ z ∧ z ≤ 255) h (by omega) n
theorem okB_cons {v : Int} {l : List Int} (h : 0 ≤ v ∧ v ≤ 255) (k : okB l) : okB (v :: l) := fun z hz => (List.mem_cons.1 hz).elim (fun e => e ▸ h) (k z)
theorem ishr_eq {x y : Int} (h0 : 0 ≤ y) (h1 : y < 64) : ishr .u64 x y = x / 2 ^ y.toNat := by
  unfold ishr
  rw [show min y.toNat IntKind.u64.bits = y.toNat by simp [IntKind.bits]; omega]
  exact Int.fdiv_eq_ediv_of_nonneg _ (Int.pow_nonneg (by omega))
theorem ishl_eq {x y : Int} (h0 : 0 ≤ y) (h1 : y < 64) : ishl .u64 x y = (x * 2 ^ y.toNat) % 18446744073709551616 := by
  unfold ishl
  rw [show min y.toNat IntKind.u64.bits = y.toNat by simp [IntKind.bits]; omega, wrap64]
theorem byte_eq {v : Int} {j : Int} (h0 : 0 ≤ j) (h1 : j < 64) : IntKind.wrap .u8 (ishr .u64 v j) = v / 2 ^ j.toNat % 256 := by
  rw [ishr_eq h0 h1, wrap8]
theorem ior_add {x y : Int} (i : Nat) (h0 : 0 ≤ x) (h1 : x < 2 ^ i) (h2 : 0 ≤ y) (h3 : x + y * 2 ^ i < 18446744073709551616) : ior .u64 x (y * 2 ^ i) = x + y * 2 ^ i := by
  obtain ⟨a, rfl⟩ := Int.eq_ofNat_of_zero_le h0
  obtain ⟨b, rfl⟩ := Int.eq_ofNat_of_zero_le h2
  have hp : ((b : Int) * 2 ^ i) = ((b * 2 ^ i : Nat) : Int) := by rw [Int.natCast_mul, Int.natCast_pow]; rfl
  have ha : a < 2 ^ i := by
    have e : ((2 : Int) ^ i) = ((2 ^ i : Nat) : Int) := by rw [Int.natCast_pow]; rfl
    rw [e] at h1
    omega
  rw [hp] at h3 ⊢
  have h3' : a + b * 2 ^ i < 18446744073709551616 := by omega
  unfold ior
  have e1 : (BitVec.ofInt IntKind.u64.bits (a : Int)).toNat = a := by
    rw [BitVec.toNat_ofInt]
    simp only [IntKind.bits]
    omega
  have e2 : (BitVec.ofInt IntKind.u64.bits ((b * 2 ^ i : Nat) : Int)).toNat = b * 2 ^ i := by
    rw [BitVec.toNat_ofInt]
    simp only [IntKind.bits]
    omega
  rw [BitVec.toNat_or, e1, e2, Nat.or_comm, show b * 2 ^ i ||| a = 2 ^ i * b + a by rw [Nat.two_pow_add_eq_or_of_lt ha, Nat.mul_comm]]
  rw [wrap64, Nat.mul_comm]
  omega

def beB (v : Int) (n : Nat) : List Int := (List.range n).map fun i => v / 2 ^ (8 * (n - 1 - i)) % 256
theorem beB_len (v : Int) (n : Nat) : (beB v n).length = n := by simp [beB]
theorem beB_get {v : Int} {n i : Nat} (h : i < n) : (beB v n)[i]? = some (v / 2 ^ (8 * (n - 1 - i)) % 256) := by
  unfold beB
  rw [List.getElem?_map, List.getElem?_range h]; rfl
theorem take_snoc {α : Type} {l : List α} {k : Nat} {x : α} (h : l[k]? = some x) : l.take (k + 1) = l.take k ++ [x] := by
  rw [List.take_add_one, h]; rfl
theorem set_mid {α : Type} (a b : List α) (x y : α) {k : Nat} (h : k = a.length) : (a ++ x :: b).set k y = a ++ y :: b := by
  subst h
  rw [List.set_append_right _ _ (Nat.le_refl _), Nat.sub_self]
  rfl

/-- the number of bytes, the greatest first -/
def beN : List Int → Int := fun l => l.foldl (fun v c => v * 256 + c) 0
theorem beN_snoc (l : List Int) (x : Int) : beN (l ++ [x]) = beN l * 256 + x := by simp [beN]
theorem beN_aux : ∀ (l : List Int) (v : Int), okB l → 0 ≤ v → 0 ≤ l.foldl (fun v c => v * 256 + c) v ∧ l.foldl (fun v c => v * 256 + c) v < (v + 1) * 256 ^ l.length
  | [], v, _, h => by simp; omega
  | x :: l, v, h, hv => by
    have h1 := h x (by simp)
    obtain ⟨a, b⟩ := beN_aux l (v * 256 + x) (fun z hz => h z (by simp [hz])) (by omega)
    refine ⟨a, Int.lt_of_lt_of_le b ?_⟩
    have e : (v + 1) * (256 : Int) ^ (x :: l).length = (v + 1) * 256 * 256 ^ l.length := by
      rw [List.length_cons, Int.pow_succ, Int.mul_comm ((256 : Int) ^ l.length) 256, Int.mul_assoc]
    rw [e]
    exact Int.mul_le_mul_of_nonneg_right (by omega) (Int.pow_nonneg (by omega))
theorem beN_bd {l : List Int} (h : okB l) : 0 ≤ beN l ∧ beN l < 256 ^ l.length := by
  have := beN_aux l 0 h (by omega)
  simpa [beN] using this
end
section
open Go.RowKit

theorem octets_append (a : List Int) (v : Int) (n : Nat) (hn : n ≤ 8) (ha : a.length ≤ 140737488355320) : F_octets_Append a v n = some (a ++ beB v n) := by
  unfold F_octets_Append
  rw [decF (show ¬ (n : Int) < 0 by omega), decF (show ¬ (n : Int) > 8 by omega)]
  simp only [cond_false]
  have e1 : IntKind.wrap .i64 ((a.length : Int) + (n : Int)) = ((a.length + n : Nat) : Int) := by rw [wi (by omega) (by omega)]; rfl
  rw [e1]
  have e2 : mkO 1 ((a.length + n : Nat) : Int) ((a.length + n : Nat) : Int) = some (a.length + n) := by
    unfold mkO
    rw [if_pos ⟨by omega, by omega, by omega, by omega⟩, Int.toNat_natCast]
  rw [e2, Option.bind_some]
  have e3 : cpL (List.replicate (a.length + n) (0 : Int)) 0 (List.length (Cut.app .whole (List.replicate (a.length + n) (0 : Int)))) (Cut.app .whole a) = a ++ (beB v n).take 0 ++ List.replicate (n - 0) 0 := by
    unfold cpL
    simp only [Cut.app, List.length_replicate, List.take_zero, List.nil_append, List.append_nil, Nat.zero_add, Nat.sub_zero]
    rw [show min a.length (a.length + n) = a.length by omega, List.take_length, List.drop_replicate, show a.length + n - a.length = n by omega]
  rw [e3]
  have hl := loop_run (step := F_octets_Append_l1 n a v) (S := fun k => ((k : Int), a ++ (beB v n).take k ++ List.replicate (n - k) 0)) n (r := a ++ beB v n) (fun k hk => by
    unfold F_octets_Append_l1
    dsimp only
    have w1 : IntKind.wrap .i64 ((n : Int) - 1) = (n : Int) - 1 := wi (by omega) (by omega)
    have w2 : IntKind.wrap .i64 ((n : Int) - 1 - (k : Int)) = ((n - 1 - k : Nat) : Int) := by rw [wi (by omega) (by omega)]; omega
    have w3 : IntKind.wrap .i64 (8 * ((n - 1 - k : Nat) : Int)) = ((8 * (n - 1 - k) : Nat) : Int) := by rw [wi (by omega) (by omega)]; omega
    have w4 : IntKind.wrap .i64 ((a.length : Int) + (k : Int)) = ((a.length + k : Nat) : Int) := by rw [wi (by omega) (by omega)]; rfl
    have hlen : (a ++ (beB v n).take k ++ List.replicate (n - k) (0 : Int)).length = a.length + n := by
      simp only [List.length_append, List.length_take, beB_len, List.length_replicate]; omega
    rw [decT (show (k : Int) < (n : Int) by omega), w1, w2, w3, w4, decT (show (0 : Int) ≤ ((8 * (n - 1 - k) : Nat) : Int) by omega)]
    simp only [cond_true, Cut.app, Nat.zero_add, Int.toNat_natCast]
    rw [idx_lt (by omega), Option.bind_some, List.getElem?_eq_getElem (by omega), Option.bind_some, wk k (by omega), byte_eq (by omega) (by omega), Int.toNat_natCast]
    congr 3
    obtain ⟨m, hm⟩ : ∃ m, n - k = m + 1 := ⟨n - k - 1, by omega⟩
    rw [hm, List.replicate_succ, set_mid _ _ _ _ (by simp only [List.length_append, List.length_take, beB_len]; omega), take_snoc (beB_get hk), show n - (k + 1) = m by omega]
    simp) (by
    unfold F_octets_Append_l1
    dsimp only
    rw [decF (show ¬ (n : Int) < (n : Int) by omega)]
    simp only [cond_false]
    rw [List.take_of_length_le (by rw [beB_len]; exact Nat.le_refl _), Nat.sub_self]
    simp)
  simp only [Int.natCast_zero] at hl
  rw [hl]
  rfl
theorem octets_append_R (a : List Int) (v : Int) (n : Nat) (hn : n ≤ 8) (ha : a.length ≤ 140737488355320) : F_octets_Append_R a v n = some (a ++ beB v n) := by
  unfold F_octets_Append_R
  rw [decF (show ¬ (n : Int) < 0 by omega), decF (show ¬ (n : Int) > 8 by omega)]
  simp only [cond_false]
  have e1 : IntKind.wrap .i64 ((a.length : Int) + (n : Int)) = ((a.length + n : Nat) : Int) := by rw [wi (by omega) (by omega)]; rfl
  rw [e1]
  have e2 : mkO 1 ((a.length + n : Nat) : Int) ((a.length + n : Nat) : Int) = some (a.length + n) := by
    unfold mkO
    rw [if_pos ⟨by omega, by omega, by omega, by omega⟩, Int.toNat_natCast]
  rw [e2, Option.bind_some]
  have e3 : cpL (List.replicate (a.length + n) (0 : Int)) 0 (List.length (Cut.app .whole (List.replicate (a.length + n) (0 : Int)))) (Cut.app .whole a) = a ++ (beB v n).take 0 ++ List.replicate (n - 0) 0 := by
    unfold cpL
    simp only [Cut.app, List.length_replicate, List.take_zero, List.nil_append, List.append_nil, Nat.zero_add, Nat.sub_zero]
    rw [show min a.length (a.length + n) = a.length by omega, List.take_length, List.drop_replicate, show a.length + n - a.length = n by omega]
  rw [e3]
  have hl := loop_run (step := F_octets_Append_R_l1 n a v) (S := fun k => ((k : Int), a ++ (beB v n).take k ++ List.replicate (n - k) 0)) n (r := a ++ beB v n) (fun k hk => by
    unfold F_octets_Append_R_l1
    dsimp only
    have w1 : IntKind.wrap .i64 ((n : Int) - 1) = (n : Int) - 1 := wi (by omega) (by omega)
    have w2 : IntKind.wrap .i64 ((n : Int) - 1 - (k : Int)) = ((n - 1 - k : Nat) : Int) := by rw [wi (by omega) (by omega)]; omega
    have w3 : IntKind.wrap .i64 (8 * ((n - 1 - k : Nat) : Int)) = ((8 * (n - 1 - k) : Nat) : Int) := by rw [wi (by omega) (by omega)]; omega
    have w4 : IntKind.wrap .i64 ((a.length : Int) + (k : Int)) = ((a.length + k : Nat) : Int) := by rw [wi (by omega) (by omega)]; rfl
    have hlen : (a ++ (beB v n).take k ++ List.replicate (n - k) (0 : Int)).length = a.length + n := by
      simp only [List.length_append, List.length_take, beB_len, List.length_replicate]; omega
    rw [decT (show (k : Int) < (n : Int) by omega), w1, w2, w3, w4, decT (show (0 : Int) ≤ ((8 * (n - 1 - k) : Nat) : Int) by omega)]
    simp only [cond_true, Cut.app, Nat.zero_add, Int.toNat_natCast]
    rw [idx_lt (by omega), Option.bind_some, List.getElem?_eq_getElem (by omega), Option.bind_some, wk k (by omega), byte_eq (by omega) (by omega), Int.toNat_natCast]
    congr 3
    obtain ⟨m, hm⟩ : ∃ m, n - k = m + 1 := ⟨n - k - 1, by omega⟩
    rw [hm, List.replicate_succ, set_mid _ _ _ _ (by simp only [List.length_append, List.length_take, beB_len]; omega), take_snoc (beB_get hk), show n - (k + 1) = m by omega]
    simp) (by
    unfold F_octets_Append_R_l1
    dsimp only
    rw [decF (show ¬ (n : Int) < (n : Int) by omega)]
    simp only [cond_false]
    rw [List.take_of_length_le (by rw [beB_len]; exact Nat.le_refl _), Nat.sub_self]
    simp)
  simp only [Int.natCast_zero] at hl
  rw [hl]
  rfl
end
section
open Go.RowKit

/-- the address with a number -/
def ipN (u : Nat) : List Int := [32, 1, 13, 184, 0, 0, 0, 0, 0, 0, 0, 0, 0, 0, 0, (u : Int)]
theorem of_ip (u : Nat) (hu : u < 6) : F_ref04_Of 2306139568115548160 (IntKind.wrap .u64 (u : Int)) = some (ipN u) := by
  rcases u with _ | _ | _ | _ | _ | _ | u
  all_goals first | (exfalso; omega) | kernel_rfl
theorem cmp_ip : ∀ u, u < 6 → ∀ v, v < 6 → cmpB (ipN u) (ipN v) = if u < v then -1 else if u = v then 0 else 1 := by decide +kernel
theorem compare_ip {e : S_Registration} {u v : Nat} (he : e.IP = ipN u) (hu : u < 6) (hv : v < 6) : F_registration_compare e (ipN v) = some (if u < v then -1 else if u = v then 0 else 1) := by
  unfold F_registration_compare F_bytes_Compare
  rw [he, arrL_id (by rfl), arrL_id (by rfl)]
  simp only [Cut.app, Option.bind_some]
  rw [cmp_ip u hu v hv]
def devN (n : Nat) : S_Addr := S_Addr.mk 3 0 (144115188075855872 + n + 1)
theorem dev0 : F_top_device 0 = some (devN 0) := by kernel_rfl
structure Row where
  u : Nat
  n : Nat
  q : Int
  till : Int
def reg (r : Row) : S_Registration := S_Registration.mk (ipN r.u) r.n r.q (devN 0) 1 r.till
structure RowOk (r : Row) : Prop where
  u : r.u < 6
  q0 : 0 ≤ r.q
  q1 : r.q ≤ 255
  t0 : 0 ≤ r.till
  t1 : r.till ≤ 1000
abbrev Srt (T : List Row) : Prop := T.Pairwise fun a b => a.u < b.u
structure TabOk (T : List Row) : Prop where
  ok : ∀ r ∈ T, RowOk r
  srt : Srt T
theorem TabOk.get {T : List Row} (h : TabOk T) {k : Nat} (hk : k < T.length) : RowOk T[k] := h.ok _ (List.getElem_mem hk)
theorem TabOk.filter {T : List Row} (h : TabOk T) (p : Row → Bool) : TabOk (T.filter p) := ⟨fun r hr => h.ok r ((List.mem_filter.1 hr).1), h.srt.filter p⟩
theorem TabOk.lt {T : List Row} (h : TabOk T) {i j : Nat} (hj : j < T.length) (hij : i < j) : (T[i]'(by omega)).u < (T[j]'hj).u := List.pairwise_iff_getElem.1 h.srt i j (by omega) hj hij
theorem TabOk.len {T : List Row} (h : TabOk T) : T.length ≤ 6 := by
  have : ∀ k, (hk : k < T.length) → k ≤ (T[k]'hk).u := by
    intro k
    induction k with
    | zero => intro _; omega
    | succ k ih =>
      intro hk
      have := ih (by omega)
      have := h.lt hk (Nat.lt_succ_self k)
      omega
  rcases Nat.lt_or_ge T.length 7 with h7 | h7
  · omega
  · have h1 := this 6 (by omega)
    have h2 := (h.get (show 6 < T.length by omega)).u
    omega
theorem place_spec : F_registration_place (devN 0) = some true := by kernel_rfl
theorem time_spec {t : Int} (h0 : 0 ≤ t) (h1 : t ≤ 1099511627776) : F_registration_validTime t = some true := by
  unfold F_registration_validTime
  rw [decT (show t ≥ 0 by omega), decT h1]
  rfl
theorem mcast_ip (u : Nat) : F_address_IsMulticast (ipN u) = some false := rfl
theorem valid_spec {T : List Row} (h : TabOk T) : F_registration_Valid (T.map reg) = some true := by
  have hl := h.len
  unfold F_registration_Valid
  rw [List.length_map, decF (show ¬ (T.length : Int) > 16 by omega)]
  have hl := loop_run (step := F_registration_Valid_l1 (T.map reg)) (S := fun k => (k : Int)) T.length (r := ()) (fun k hk => by
    have hr := h.get hk
    unfold F_registration_Valid_l1
    rw [List.length_map, decT (show (k : Int) < (T.length : Int) by omega), idx_lt (by rw [List.length_map]; exact hk)]
    simp only [cond_true, Option.bind_some, List.getElem_map]
    have hm : F_address_IsMulticast (reg T[k]).IP = some false := mcast_ip _
    have hp : F_registration_place (reg T[k]).Link = some true := place_spec
    have ht : F_registration_validTime (reg T[k]).Until = some true := time_spec hr.t0 (by have := hr.t1; show T[k].till ≤ _; omega)
    rw [hm, hp, ht]
    have hst : ((reg T[k]).State != 1) = false := rfl
    rw [hst, wk k (by omega)]
    rcases k with _ | k
    · simp only [Int.natCast_zero, show decide ((0 : Int) > 0) = false by decide, cond_false, cond_true, Option.bind_some]
    · rw [decT (show ((k + 1 : Nat) : Int) > 0 by omega), show IntKind.wrap .i64 (((k + 1 : Nat) : Int) - 1) = (k : Int) by rw [wi (by omega) (by omega)]; omega, idx_lt (by rw [List.length_map]; omega)]
      simp only [cond_false, cond_true, Option.bind_some, List.getElem_map]
      have hlt := h.lt hk (Nat.lt_succ_self k)
      have hc : F_registration_compare (reg (T[k]'(by omega))) (reg (T[k + 1]'hk)).IP = some (-1) := by
        have := compare_ip (e := reg (T[k]'(by omega))) (u := (T[k]'(by omega)).u) (v := (T[k + 1]'hk).u) rfl (h.get (by omega)).u hr.u
        rw [if_pos hlt] at this
        exact this
      rw [hc]
      simp only [Option.bind_some, show decide ((-1 : Int) ≥ 0) = false by decide, cond_false]) (by
    unfold F_registration_Valid_l1
    rw [List.length_map, decF (show ¬ (T.length : Int) < (T.length : Int) by omega)]
    rfl)
  simp only [Int.natCast_zero] at hl
  rw [hl]
  rfl
def live (now : Int) (r : Row) : Bool := decide (r.till > now)
theorem filter_take {α : Type} {p : α → Bool} {l : List α} {k : Nat} (hk : k < l.length) : (l.take (k + 1)).filter p = (l.take k).filter p ++ if p l[k] then [l[k]] else [] := by
  rw [take_snoc (List.getElem?_eq_getElem hk), List.filter_append]
  congr 1
  simp only [List.filter_cons, List.filter_nil]
theorem expireR_spec {T : List Row} (h : TabOk T) {now : Int} (h0 : 0 ≤ now) (h1 : now ≤ 1000) : F_registration_Expire_R (T.map reg) now = some ((T.filter (live now)).map reg, 0) := by
  have hl := h.len
  unfold F_registration_Expire_R
  rw [valid_spec h, Option.bind_some, cond_true, time_spec h0 (by omega), Option.bind_some, cond_true]
  have hl := loop_run (step := F_registration_Expire_R_l1 (T.map reg) now) (S := fun k => ((k : Int), ((T.take k).filter (live now)).map reg)) T.length (r := (T.filter (live now)).map reg) (fun k hk => by
    unfold F_registration_Expire_R_l1 F_registration_Expire_R_j2
    dsimp only
    rw [List.length_map, decT (show (k : Int) < (T.length : Int) by omega), idx_lt (by rw [List.length_map]; exact hk)]
    simp only [cond_true, Option.bind_some, List.getElem_map, wk k (show k < 9223372036854775807 by omega), filter_take hk]
    have hd : decide ((reg T[k]).Until > now) = live now T[k] := rfl
    rw [hd]
    cases hlv : live now T[k]
    · simp
    · have hle : ((T.take k).filter (live now)).length ≤ 6 := Nat.le_trans (List.length_filter_le _ _) (by rw [List.length_take]; omega)
      simp only [cond_true, Cut.app, List.take_length]
      rw [appO_some (by simp; omega) (by simp; omega)]
      simp) (by
    unfold F_registration_Expire_R_l1
    dsimp only
    rw [List.length_map, decF (show ¬ (T.length : Int) < (T.length : Int) by omega)]
    simp only [List.take_length, cond_false])
  simp only [Int.natCast_zero, List.take_zero, List.filter_nil, List.map_nil] at hl
  rw [hl]
  rfl
end
section
open Go.RowKit

theorem bind_ex {α : Type} {x : Option α} {v : α} {f : α → Option ((List S_Registration) × Int × Int)} (h : x = some v) (hr : ∃ T' status, f v = some (T'.map reg, status, 0) ∧ TabOk T') : ∃ T' status, x.bind f = some (T'.map reg, status, 0) ∧ TabOk T' := by rw [h]; exact hr
theorem half_spec {i j : Nat} (h : i + j ≤ 1000) : IntKind.wrap .i64 (ishr .u64 (IntKind.wrap .u64 (IntKind.wrap .i64 ((i : Int) + (j : Int)))) 1) = (((i + j) / 2 : Nat) : Int) := by
  have e1 : IntKind.wrap .i64 ((i : Int) + (j : Int)) = (i : Int) + (j : Int) := wi (by omega) (by omega)
  rw [e1, wu (by omega) (by omega), ishr_eq (by omega) (by omega)]
  have e2 : (2 : Int) ^ (1 : Int).toNat = 2 := rfl
  rw [e2, wi (by omega) (by omega)]
  omega
/-- where a number would stand -/
structure At (K : List Row) (v p : Nat) : Prop where
  le : p ≤ K.length
  lo : ∀ k (hk : k < K.length), k < p → K[k].u < v
  hi : ∀ k (hk : k < K.length), p ≤ k → v ≤ K[k].u
theorem bs_loop {K : List Row} (h : TabOk K) {v : Nat} (hv : v < 6) : ∃ r, loopO (F_slices_BinarySearchFunc_api_Registration_api_Registration_api_IP_F952_l1 (K.map reg) (ipN v)) (0, (List.length (K.map reg) : Int)) = some r ∧ ∃ p : Nat, r = (p : Int) ∧ At K v p := by
  have hl := h.len
  refine loop_inv (fun s => ∃ i j : Nat, s = ((i : Int), (j : Int)) ∧ i ≤ j ∧ j ≤ K.length ∧ (∀ k (hk : k < K.length), k < i → K[k].u < v) ∧ (∀ k (hk : k < K.length), j ≤ k → v ≤ K[k].u)) _ (fun s => (s.2 - s.1).toNat) ?_ _ ⟨0, K.length, by simp, by omega, by omega, fun k hk h => by omega, fun k hk h => by omega⟩
  rintro _ ⟨i, j, rfl, hij, hj, h1, h2⟩
  unfold F_slices_BinarySearchFunc_api_Registration_api_Registration_api_IP_F952_l1
  dsimp only
  by_cases hlt : i < j
  · left
    rw [decT (show (i : Int) < (j : Int) by omega), half_spec (by omega)]
    have hm : (i + j) / 2 < K.length := by omega
    simp only [cond_true]
    rw [idx_lt (by rw [List.length_map]; exact hm)]
    simp only [Option.bind_some, List.getElem_map]
    rw [compare_ip (u := K[(i + j) / 2].u) rfl (h.get hm).u hv]
    simp only [Option.bind_some]
    by_cases hc : K[(i + j) / 2].u < v
    · rw [if_pos hc, decT (show (-1 : Int) < 0 by omega), wk _ (by omega)]
      refine ⟨_, rfl, ⟨(i + j) / 2 + 1, j, rfl, by omega, hj, fun k hk hlt' => ?_, h2⟩, ?_⟩
      · by_cases hk2 : k = (i + j) / 2
        · subst hk2; exact hc
        · have := h.lt hm (show k < (i + j) / 2 by omega); omega
      · dsimp only; omega
    · have : ¬ ((if K[(i + j) / 2].u < v then -1 else if K[(i + j) / 2].u = v then 0 else 1 : Int) < 0) := by
        rw [if_neg hc]; split <;> omega
      rw [decF this]
      refine ⟨_, rfl, ⟨i, (i + j) / 2, rfl, by omega, by omega, h1, fun k hk hle => ?_⟩, ?_⟩
      · by_cases hk2 : k = (i + j) / 2
        · subst hk2; omega
        · have := h.lt hk (show (i + j) / 2 < k by omega); omega
      · dsimp only; omega
  · right
    rw [decF (show ¬ (i : Int) < (j : Int) by omega)]
    have : i = j := by omega
    subst this
    exact ⟨_, rfl, i, rfl, hj, h1, h2⟩
theorem bs_spec {K : List Row} (h : TabOk K) {v : Nat} (hv : v < 6) : ∃ p, At K v p ∧ F_slices_BinarySearchFunc_api_Registration_api_Registration_api_IP_F952 (K.map reg) (ipN v) = some ((p : Int), decide (∃ hp : p < K.length, K[p].u = v)) := by
  obtain ⟨r, h1, p, rfl, hat⟩ := bs_loop h hv
  refine ⟨p, hat, ?_⟩
  unfold F_slices_BinarySearchFunc_api_Registration_api_Registration_api_IP_F952
  rw [h1]
  simp only [Option.bind_some, List.length_map]
  by_cases hp : p < K.length
  · rw [decT (show (p : Int) < (K.length : Int) by omega), idx_lt (by rw [List.length_map]; exact hp)]
    simp only [cond_true, Option.bind_some, List.getElem_map]
    rw [compare_ip (u := K[p].u) rfl (h.get hp).u hv]
    simp only [Option.bind_some]
    have := hat.hi p hp (Nat.le_refl _)
    by_cases he : K[p].u = v
    · rw [if_neg (by omega), if_pos he, decT ⟨hp, he⟩]; rfl
    · rw [if_neg (by omega), if_neg he, decF (fun ⟨_, q⟩ => he q)]; rfl
  · rw [decF (show ¬ (p : Int) < (K.length : Int) by omega), decF (fun ⟨q, _⟩ => hp q)]; rfl
theorem newer_spec {a b : Int} (h0 : 0 ≤ b) (h1 : b ≤ 255) (h2 : 0 ≤ a) (h3 : a ≤ 255) (hne : a ≠ b) : ∃ v, F_registration_Newer a b = some v := by
  unfold F_registration_Newer
  have e1 : IntKind.wrap .i64 a = a := wi (by omega) (by omega)
  have e2 : IntKind.wrap .i64 b = b := wi (by omega) (by omega)
  have e3 : IntKind.wrap .i64 (a - b) = a - b := wi (by omega) (by omega)
  have e4 : IntKind.wrap .i64 (a - b + 128) = a - b + 128 := wi (by omega) (by omega)
  simp only [e1, e2, e3, e4]
  have key : a < 128 → b < 128 → decide (Int.tmod (a - b + 128) 128 ≥ 1) = true := by
    intro ha hb
    rw [Int.tmod_eq_emod_of_nonneg (by omega)]
    exact decT (by omega)
  by_cases ha : a ≥ 128 <;> by_cases hb : b ≥ 128 <;> by_cases ha2 : a < 128 <;> by_cases hb2 : b < 128 <;> by_cases hab : a > b <;> (try (exfalso; omega)) <;> simp only [ha, hb, ha2, hb2, hab, decide_true, decide_false, cond_true, cond_false] <;> first | exact ⟨_, rfl⟩ | (rw [key ha2 hb2]; exact ⟨_, rfl⟩)
theorem TabOk.set {K : List Row} (h : TabOk K) {p : Nat} (hp : p < K.length) {x : Row} (hx : RowOk x) (hu : x.u = K[p].u) : TabOk (K.set p x) := by
  refine ⟨fun r hr => (List.mem_or_eq_of_mem_set hr).elim (h.ok r) (fun e => e ▸ hx), List.pairwise_iff_getElem.2 fun i j hi hj hij => ?_⟩
  have hget : ∀ k (hk : k < (K.set p x).length), ((K.set p x)[k]'hk).u = (K[k]'(by rw [List.length_set] at hk; exact hk)).u := by
    intro k hk
    rw [List.getElem_set]
    split
    · rename_i e; subst e; exact hu
    · rfl
  rw [hget, hget]
  exact h.lt (by rw [List.length_set] at hj; exact hj) hij
theorem TabOk.ins {K : List Row} (h : TabOk K) {p : Nat} {x : Row} (hx : RowOk x) (ha : At K x.u p) (hn : ¬ ∃ hp : p < K.length, K[p].u = x.u) : TabOk (K.take p ++ [x] ++ K.drop p) := by
  refine ⟨fun r hr => ?_, ?_⟩
  · simp only [List.mem_append, List.mem_singleton] at hr
    rcases hr with (hr | hr) | hr
    · exact h.ok r (List.mem_of_mem_take hr)
    · rw [hr]; exact hx
    · exact h.ok r (List.mem_of_mem_drop hr)
  · have hlo : ∀ a ∈ K.take p, a.u < x.u := by
      intro a ha'
      obtain ⟨k, hk, rfl⟩ := List.getElem_of_mem ha'
      rw [List.length_take] at hk
      rw [List.getElem_take]
      exact ha.lo k (by omega) (by omega)
    have hhi : ∀ b ∈ K.drop p, x.u < b.u := by
      intro b hb
      obtain ⟨k, hk, rfl⟩ := List.getElem_of_mem hb
      rw [List.length_drop] at hk
      rw [List.getElem_drop]
      have h1 := ha.hi (p + k) (by omega) (by omega)
      rcases Nat.lt_or_ge x.u (K[p + k]'(by omega)).u with h2 | h2
      · exact h2
      · exfalso
        rcases k with _ | k
        · exact hn ⟨by omega, by simp only [Nat.add_zero] at h1 h2; omega⟩
        · have h3 := h.lt (show p + (k + 1) < K.length by omega) (show p < p + (k + 1) by omega)
          have h4 := ha.hi p (by omega) (Nat.le_refl _)
          omega
    refine List.pairwise_append.2 ⟨List.pairwise_append.2 ⟨h.srt.sublist (List.take_sublist _ _), by simp, fun a ha' b hb => by rw [List.mem_singleton.1 hb]; exact hlo a ha'⟩, h.srt.sublist (List.drop_sublist _ _), fun a ha' b hb => ?_⟩
    rcases List.mem_append.1 ha' with ha' | ha'
    · have := hlo a ha'; have := hhi b hb; omega
    · rw [List.mem_singleton.1 ha']; exact hhi b hb
theorem cut_out {α : Type} (l : List α) (z : α) {q : Nat} (hq : q < l.length) : List.take (q + (l.drop (q + 1)).length) (clrL (List.take q l ++ l.drop (q + 1) ++ List.drop (q + (l.drop (q + 1)).length) l) (q + (l.drop (q + 1)).length) (List.length (List.take (l.length - (q + (l.drop (q + 1)).length)) (List.drop (q + (l.drop (q + 1)).length) (List.take q l ++ l.drop (q + 1) ++ List.drop (q + (l.drop (q + 1)).length) l)))) z) = l.take q ++ l.drop (q + 1) := by
  have hMl : (l.drop (q + 1)).length = l.length - (q + 1) := List.length_drop
  generalize l.drop (q + 1) = M at hMl
  have hX : (l.take q ++ M ++ l.drop (q + M.length)).length = l.length := by
    simp only [List.length_append, List.length_take, List.length_drop]; omega
  unfold clrL
  rw [List.append_assoc (List.take (q + M.length) _), List.take_append_of_le_length (by rw [List.length_take, hX]; omega), List.take_take, Nat.min_self, List.take_append_of_le_length (by simp; omega), List.take_of_length_le (by simp; omega)]
theorem TabOk.del {K : List Row} (h : TabOk K) (p : Nat) : TabOk (K.take p ++ K.drop (p + 1)) := by
  have hs : (K.take p ++ K.drop (p + 1)).Sublist K := by
    have h1 : (K.drop (p + 1)).Sublist (K.drop p) := by
      rw [show K.drop (p + 1) = (K.drop p).drop 1 by rw [List.drop_drop]]
      exact List.drop_sublist _ _
    have := (List.Sublist.refl (K.take p)).append h1
    rwa [List.take_append_drop] at this
  exact ⟨fun r hr => h.ok r (hs.subset hr), h.srt.sublist hs⟩
theorem del_some {l : List S_Registration} {p : Nat} (hp : p < l.length) (hl : l.length ≤ 100) : (bif decide ((0 : Int) ≤ (p : Int) ∧ (p : Int) ≤ (IntKind.wrap .i64 ((p : Int) + 1)) ∧ (IntKind.wrap .i64 ((p : Int) + 1)) ≤ (List.length l : Int) ∧ (List.length l : Int) ≤ (List.length l : Int)) then bif ((p : Int) == (IntKind.wrap .i64 ((p : Int) + 1))) then none else bif decide ((0 : Int) ≤ 0 ∧ 0 ≤ (p : Int) ∧ (p : Int) ≤ (List.length l : Int)) then bif decide ((0 : Int) ≤ (IntKind.wrap .i64 ((p : Int) + 1)) ∧ (IntKind.wrap .i64 ((p : Int) + 1)) ≤ (List.length l : Int) ∧ (List.length l : Int) ≤ (List.length l : Int)) then bif decide ((Int.toNat (p : Int)) + List.length (Cut.app (.part (Int.toNat (IntKind.wrap .i64 ((p : Int) + 1))) (Int.toNat (List.length l : Int) - Int.toNat (IntKind.wrap .i64 ((p : Int) + 1)))) l) ≤ List.length l) then bif decide ((0 : Int) ≤ (((Int.toNat (p : Int)) + List.length (Cut.app (.part (Int.toNat (IntKind.wrap .i64 ((p : Int) + 1))) (Int.toNat (List.length l : Int) - Int.toNat (IntKind.wrap .i64 ((p : Int) + 1)))) l)) : Int) ∧ (((Int.toNat (p : Int)) + List.length (Cut.app (.part (Int.toNat (IntKind.wrap .i64 ((p : Int) + 1))) (Int.toNat (List.length l : Int) - Int.toNat (IntKind.wrap .i64 ((p : Int) + 1)))) l)) : Int) ≤ (List.length l : Int) ∧ (List.length l : Int) ≤ (List.length (List.take (Int.toNat (p : Int)) l ++ (Cut.app (.part (Int.toNat (IntKind.wrap .i64 ((p : Int) + 1))) (Int.toNat (List.length l : Int) - Int.toNat (IntKind.wrap .i64 ((p : Int) + 1)))) l) ++ List.drop ((Int.toNat (p : Int)) + List.length (Cut.app (.part (Int.toNat (IntKind.wrap .i64 ((p : Int) + 1))) (Int.toNat (List.length l : Int) - Int.toNat (IntKind.wrap .i64 ((p : Int) + 1)))) l)) l) : Int)) then some (((List.take ((Int.toNat (p : Int)) + List.length (Cut.app (.part (Int.toNat (IntKind.wrap .i64 ((p : Int) + 1))) (Int.toNat (List.length l : Int) - Int.toNat (IntKind.wrap .i64 ((p : Int) + 1)))) l)) (clrL (List.take (Int.toNat (p : Int)) l ++ (Cut.app (.part (Int.toNat (IntKind.wrap .i64 ((p : Int) + 1))) (Int.toNat (List.length l : Int) - Int.toNat (IntKind.wrap .i64 ((p : Int) + 1)))) l) ++ List.drop ((Int.toNat (p : Int)) + List.length (Cut.app (.part (Int.toNat (IntKind.wrap .i64 ((p : Int) + 1))) (Int.toNat (List.length l : Int) - Int.toNat (IntKind.wrap .i64 ((p : Int) + 1)))) l)) l) (Int.toNat (((Int.toNat (p : Int)) + List.length (Cut.app (.part (Int.toNat (IntKind.wrap .i64 ((p : Int) + 1))) (Int.toNat (List.length l : Int) - Int.toNat (IntKind.wrap .i64 ((p : Int) + 1)))) l)) : Int)) (List.length (Cut.app (.part (Int.toNat (((Int.toNat (p : Int)) + List.length (Cut.app (.part (Int.toNat (IntKind.wrap .i64 ((p : Int) + 1))) (Int.toNat (List.length l : Int) - Int.toNat (IntKind.wrap .i64 ((p : Int) + 1)))) l)) : Int)) (Int.toNat (List.length l : Int) - Int.toNat (((Int.toNat (p : Int)) + List.length (Cut.app (.part (Int.toNat (IntKind.wrap .i64 ((p : Int) + 1))) (Int.toNat (List.length l : Int) - Int.toNat (IntKind.wrap .i64 ((p : Int) + 1)))) l)) : Int))) (List.take (Int.toNat (p : Int)) l ++ (Cut.app (.part (Int.toNat (IntKind.wrap .i64 ((p : Int) + 1))) (Int.toNat (List.length l : Int) - Int.toNat (IntKind.wrap .i64 ((p : Int) + 1)))) l) ++ List.drop ((Int.toNat (p : Int)) + List.length (Cut.app (.part (Int.toNat (IntKind.wrap .i64 ((p : Int) + 1))) (Int.toNat (List.length l : Int) - Int.toNat (IntKind.wrap .i64 ((p : Int) + 1)))) l)) l))) ((S_Registration.mk [0,0,0,0,0,0,0,0,0,0,0,0,0,0,0,0] 0 0 (S_Addr.mk 0 0 0) 0 0) : S_Registration))),0,0)) else none else none else none else none else none : Option ((List S_Registration) × Int × Int)) = some (l.take p ++ l.drop (p + 1), 0, 0) := by
  rw [wk p (by omega)]
  simp only [Cut.app, Int.toNat_natCast]
  have hM : (l.drop (p + 1)).take (l.length - (p + 1)) = l.drop (p + 1) := List.take_of_length_le (by rw [List.length_drop]; exact Nat.le_refl _)
  have hMl : (l.drop (p + 1)).length = l.length - (p + 1) := List.length_drop
  simp only [hM]
  have hX : (l.take p ++ l.drop (p + 1) ++ l.drop (p + (l.drop (p + 1)).length)).length = l.length := by
    simp only [List.length_append, List.length_take, List.length_drop]; omega
  rw [hX, decT (by omega), beqF (show ¬ (p : Int) = ((p + 1 : Nat) : Int) by omega), decT (by omega), decT (by omega), decT (by omega), decT (by omega)]
  simp only [cond_true, cond_false, show ((p : Int) + ((l.drop (p + 1)).length : Int)).toNat = p + (l.drop (p + 1)).length by omega]
  rw [cut_out l _ hp]
theorem set_some {K : List Row} {p : Nat} (hp : p < K.length) {q now life : Int} (h0 : 0 ≤ now) (h1 : now ≤ 500) (hl1 : 0 ≤ life) (hl2 : life ≤ 40) : (((K.map reg)[(0 + Int.toNat (p : Int))]?).bind fun e27 => ((List.set (K.map reg) (0 + Int.toNat (p : Int)) (S_Registration.mk e27.IP e27.EUI q e27.Link e27.State e27.Until))[(0 + Int.toNat (p : Int))]?).bind fun e28 => ((List.set (List.set (K.map reg) (0 + Int.toNat (p : Int)) (S_Registration.mk e27.IP e27.EUI q e27.Link e27.State e27.Until)) (0 + Int.toNat (p : Int)) (S_Registration.mk e28.IP e28.EUI e28.Sequence (devN 0) e28.State e28.Until))[(0 + Int.toNat (p : Int))]?).bind fun e29 => some (((List.set (List.set (List.set (K.map reg) (0 + Int.toNat (p : Int)) (S_Registration.mk e27.IP e27.EUI q e27.Link e27.State e27.Until)) (0 + Int.toNat (p : Int)) (S_Registration.mk e28.IP e28.EUI e28.Sequence (devN 0) e28.State e28.Until)) (0 + Int.toNat (p : Int)) (S_Registration.mk e29.IP e29.EUI e29.Sequence e29.Link e29.State (if 1099511627776 < IntKind.wrap .i64 (now + (IntKind.wrap .i64 life)) then 1099511627776 else IntKind.wrap .i64 (now + (IntKind.wrap .i64 life))))),0,0)) : Option ((List S_Registration) × Int × Int)) = some ((K.set p { K[p] with q := q, till := now + life }).map reg, 0, 0) := by
  have hpl : p < (K.map reg).length := by rw [List.length_map]; exact hp
  have ew : IntKind.wrap .i64 (now + IntKind.wrap .i64 life) = now + life := by
    rw [show IntKind.wrap .i64 life = life from wi (by omega) (by omega)]
    exact wi (by omega) (by omega)
  have hget : (K.map reg)[p]? = some (reg K[p]) := by rw [List.getElem?_map, List.getElem?_eq_getElem hp]; rfl
  simp only [Nat.zero_add, Int.toNat_natCast]
  rw [hget, Option.bind_some, List.getElem?_set_self hpl, Option.bind_some, List.set_set, List.getElem?_set_self hpl, Option.bind_some, List.set_set]
  simp only [ew]
  rw [if_neg (show ¬ (1099511627776 : Int) < now + life by omega), List.map_set]
  rfl
/-- Register answers, and the table stays in order -/
theorem regspec {T : List Row} (h : TabOk T) {u n : Nat} {q now life : Int} (hu : u < 6) (hq1 : 0 ≤ q) (hq2 : q ≤ 255) (h0 : 0 ≤ now) (h1 : now ≤ 500) (hl1 : 0 ≤ life) (hl2 : life ≤ 40) :
    ∃ T' status, F_registration_Register (T.map reg) (ipN u) (S_Owner.mk n q 0 life) (devN 0) now = some (T'.map reg, status, 0) ∧ TabOk T' := by
  have hK := h.filter (live now)
  obtain ⟨p, hat, hbs⟩ := bs_spec hK hu
  have hKl := hK.len
  unfold F_registration_Register
  rw [valid_spec h, mcast_ip, place_spec, expireR_spec h h0 (by omega)]
  simp only [Option.bind_some, cond_true, cond_false, bne_self_eq_false]
  rw [hbs]
  simp only [Option.bind_some]
  generalize T.filter (live now) = K at *
  have ew : IntKind.wrap .i64 (now + IntKind.wrap .i64 life) = now + life := by
    rw [show IntKind.wrap .i64 life = life from wi (by omega) (by omega)]
    exact wi (by omega) (by omega)
  by_cases hf : ∃ hp : p < K.length, K[p].u = u
  · rw [decT hf, cond_true]
    obtain ⟨hp, hpu⟩ := hf
    have hpl : p < (K.map reg).length := by rw [List.length_map]; exact hp
    have hrok := hK.get hp
    have hset : TabOk (K.set p { K[p] with q := q, till := now + life }) := hK.set hp ⟨hrok.u, hq1, hq2, by dsimp only; omega, by dsimp only; omega⟩ rfl
    have hdel : TabOk (K.take p ++ K.drop (p + 1)) := hK.del p
    have hdm : (K.take p ++ K.drop (p + 1)).map reg = (K.map reg).take p ++ (K.map reg).drop (p + 1) := by rw [List.map_append, List.map_take, List.map_drop]
    have hget : (K.map reg)[(0 + (p : Int).toNat)]? = some (reg K[p]) := by
      rw [Nat.zero_add, Int.toNat_natCast, List.getElem?_map, List.getElem?_eq_getElem hp]; rfl
    refine bind_ex (idx_lt hpl) (bind_ex hget ?_)
    cases hc1 : ((reg K[p]).EUI != (S_Owner.mk (n : Int) q 0 life).EUI)
    · rw [cond_false]
      refine bind_ex hget ?_
      cases hc2 : ((reg K[p]).Sequence != (S_Owner.mk (n : Int) q 0 life).Sequence)
      · rw [cond_false]
        cases hc3 : ((S_Owner.mk (n : Int) q 0 life).Lifetime == 0)
        · rw [cond_false]
          exact ⟨_, 0, set_some hp h0 h1 hl1 hl2, hset⟩
        · rw [cond_true]
          exact ⟨_, 0, (del_some hpl (by rw [List.length_map]; omega)).trans (by rw [hdm]), hdel⟩
      · rw [cond_true]
        obtain ⟨v, hv⟩ := newer_spec hrok.q0 hrok.q1 hq1 hq2 (show q ≠ K[p].q by have : (K[p].q != q) = true := hc2; simp at this; omega)
        refine bind_ex hget (bind_ex hv ?_)
        cases v
        · rw [cond_false]; exact ⟨_, 3, rfl, hK⟩
        · rw [cond_true]
          cases hc3 : ((S_Owner.mk (n : Int) q 0 life).Lifetime == 0)
          · rw [cond_false]
            exact ⟨_, 0, set_some hp h0 h1 hl1 hl2, hset⟩
          · rw [cond_true]
            exact ⟨_, 0, (del_some hpl (by rw [List.length_map]; omega)).trans (by rw [hdm]), hdel⟩
    · rw [cond_true]; exact ⟨_, 1, rfl, hK⟩
  · rw [decF hf, cond_false]
    cases hc3 : ((S_Owner.mk (n : Int) q 0 life).Lifetime == 0)
    · rw [cond_false, List.length_map, decF (show ¬ (K.length : Int) ≥ 16 by omega), cond_false]
      simp only [ew]
      rw [if_neg (show ¬ (1099511627776 : Int) < now + life by omega)]
      have hp := hat.le
      have hins : insO 72 (K.map reg) (p : Int) (S_Registration.mk (ipN u) n q (devN 0) 1 (now + life)) = some ((K.take p ++ [Row.mk u n q (now + life)] ++ K.drop p).map reg) := by
        unfold insO
        rw [if_pos ⟨by omega, by rw [List.length_map]; omega, by rw [List.length_map]; omega, by rw [List.length_map]; unfold maxLen; omega⟩, Int.toNat_natCast]
        simp only [List.map_append, List.map_take, List.map_drop, List.map_cons, List.map_nil]
        rfl
      rw [hins]
      exact ⟨_, 0, rfl, hK.ins ⟨hu, hq1, hq2, by dsimp only; omega, by dsimp only; omega⟩ hat hf⟩
    · rw [cond_true]; exact ⟨K, 0, rfl, hK⟩
end
section
open Go.RowKit

theorem ior_comm (x y : Int) : ior .u64 x y = ior .u64 y x := by unfold ior; rw [BitVec.or_comm]
theorem be_step {v c : Int} (h0 : 0 ≤ v) (h1 : v < 72057594037927936) (c0 : 0 ≤ c) (c1 : c ≤ 255) : ior .u64 (ishl .u64 v 8) (IntKind.wrap .u64 c) = v * 256 + c := by
  have e : (2 : Int) ^ (8 : Int).toNat = 2 ^ 8 := rfl
  have e2 : (256 : Int) = 2 ^ 8 := rfl
  rw [ishl_eq (by omega) (by omega), wu c0 (by omega), e, Int.emod_eq_of_lt (Int.mul_nonneg h0 (by decide)) (by rw [← e2]; omega), ior_comm, ior_add 8 c0 (by omega) h0 (by rw [← e2]; omega)]
  omega
theorem be_fold (l : List Int) (h : okB l) (h8 : l.length ≤ 8) (k : Nat) (hk : k < l.length) : ior .u64 (ishl .u64 (beN (l.take k)) 8) (IntKind.wrap .u64 l[k]) = beN (l.take (k + 1)) := by
  have hb := beN_bd (h.take k)
  have hl : (l.take k).length = k := by rw [List.length_take]; omega
  have hp : (256 : Int) ^ k ≤ 72057594037927936 := by
    have : k ≤ 7 := by omega
    rcases k with _ | _ | _ | _ | _ | _ | _ | _ | k
    all_goals first | decide | omega
  rw [hl] at hb
  have hx := h.get hk
  rw [be_step hb.1 (by omega) hx.1 hx.2, take_snoc (List.getElem?_eq_getElem hk), beN_snoc]
theorem beN_beB (v : Int) (n : Nat) : beN (beB v n) = v % 256 ^ n := by
  induction n generalizing v with
  | zero => simp [beB, beN, Int.emod_one]
  | succ n ih =>
    have e : beB v (n + 1) = beB (v / 256) n ++ [v % 256] := by
      apply List.ext_getElem?
      intro i
      rcases Nat.lt_trichotomy i n with hi | hi | hi
      · rw [beB_get (by omega), List.getElem?_append_left (by rw [beB_len]; exact hi), beB_get hi]
        congr 2
        rw [show n + 1 - 1 - i = (n - 1 - i) + 1 by omega, Nat.mul_add, Int.pow_add]
        rw [Int.mul_comm, ← Int.ediv_ediv_of_nonneg (by decide)]
        rfl
      · subst hi
        rw [beB_get (by omega), List.getElem?_append_right (by rw [beB_len]; exact Nat.le_refl _), beB_len]
        simp
      · rw [List.getElem?_eq_none (by rw [beB_len]; omega), List.getElem?_eq_none (by simp [beB_len]; omega)]
    rw [e, beN_snoc, ih, Int.pow_succ]
    have h1 := Int.emod_add_mul_ediv v 256
    have h2 := Int.emod_add_mul_ediv (v / 256) (256 ^ n)
    have hp : (0 : Int) < 256 ^ n := Int.pow_pos (by decide)
    have h3 := Int.emod_nonneg (v / 256) (Int.ne_of_gt hp)
    have h4 := Int.emod_lt_of_pos (v / 256) hp
    have h5 := Int.emod_nonneg v (show (256 : Int) ≠ 0 by decide)
    have h6 := Int.emod_lt_of_pos v (show (0 : Int) < 256 by decide)
    have h7 : v = (v / 256 % 256 ^ n * 256 + v % 256) + (256 ^ n * 256) * (v / 256 / 256 ^ n) := by
      have : 256 * (256 ^ n * (v / 256 / 256 ^ n)) = (256 ^ n * 256) * (v / 256 / 256 ^ n) := by
        rw [← Int.mul_assoc, Int.mul_comm (256 : Int) (256 ^ n)]
      omega
    have h8 : (0 : Int) ≤ v / 256 % 256 ^ n * 256 + v % 256 := by omega
    have h9 : v / 256 % 256 ^ n * 256 + v % 256 < 256 ^ n * 256 := by omega
    conv => rhs; rw [h7]
    rw [Int.add_mul_emod_self_left, Int.emod_eq_of_lt h8 h9]
theorem uint_loop {l : List Int} (h : okB l) (h8 : l.length ≤ 8) : loopO (F_octets_Uint_l1 l) (0, 0) = some (beN l) := by
  have hl := loop_run (step := F_octets_Uint_l1 l) (S := fun k => (beN (l.take k), (k : Int))) l.length (r := beN l) (fun k hk => by
    unfold F_octets_Uint_l1
    dsimp only
    rw [decT (show (k : Int) < (l.length : Int) by omega), idx_lt hk]
    simp only [cond_true, Option.bind_some]
    rw [be_fold l h h8 k hk, wk k (by omega)]) (by
    unfold F_octets_Uint_l1
    dsimp only
    rw [decF (show ¬ (l.length : Int) < (l.length : Int) by omega)]
    simp only [cond_false, List.take_length])
  exact hl
/-- octets.Uint within the list -/
theorem uint_some {b : List Int} (h : okB b) (hb : b.length ≤ 1000000000000) (i n : Nat) (h1 : 1 ≤ n) (h8 : n ≤ 8) (hi : i + n ≤ b.length) : F_octets_Uint b i n = some (beN ((b.drop i).take n), true) := by
  unfold F_octets_Uint
  rw [decF (show ¬ (n : Int) < 1 by omega), decF (show ¬ (n : Int) > 8 by omega), decF (show ¬ (i : Int) < 0 by omega), wi (by omega) (by omega), decF (show ¬ (i : Int) > (b.length : Int) - (n : Int) by omega), wi (by omega) (by omega), subO_some (by omega) (by omega) (by omega)]
  simp only [cond_false, Option.bind_some]
  rw [show (b.take ((i : Int) + (n : Int)).toNat).drop (i : Int).toNat = (b.drop i).take n by rw [show ((i : Int) + (n : Int)).toNat = i + n by omega, Int.toNat_natCast, List.drop_take, Nat.add_sub_cancel_left]]
  rw [uint_loop ((h.drop i).take n) (by rw [List.length_take]; omega)]
  rfl
end
section
open Go.RowKit

theorem total_inner {e : List Int} (he : okB e) (hl : e.length ≤ 100) {a : Int} {f : Bool} (ha : 0 ≤ a) (hb : a ≤ 1000000000) : ∃ r, loopO (F_checksum_total_l2 e) (a, f, 0) = some r ∧ 0 ≤ r.1 ∧ r.1 ≤ a + 6553500 := by
  obtain ⟨r, h1, h2⟩ := loop_inv (step := F_checksum_total_l2 e) (fun s => 0 ≤ s.2.2 ∧ s.2.2 ≤ e.length ∧ 0 ≤ s.1 ∧ s.1 ≤ a + 65535 * s.2.2) (fun r => 0 ≤ r.1 ∧ r.1 ≤ a + 65535 * e.length) (fun s => ((e.length : Int) - s.2.2).toNat) (by
    rintro ⟨x, g, i⟩ ⟨i0, i1, x0, x1⟩
    dsimp only at i0 i1 x0 x1
    unfold F_checksum_total_l2 F_checksum_total_j3
    dsimp only
    by_cases hi : i < (e.length : Int)
    · left
      rw [decT hi, idx_int i0 hi]
      simp only [cond_true, Option.bind_some]
      have hx := he.get (show i.toNat < e.length by omega)
      generalize e[i.toNat]'(by omega) = y at hx
      have e1 : IntKind.wrap .u64 y = y := wu hx.1 (by omega)
      have e2 : ishl .u64 y 8 = y * 256 := by
        rw [ishl_eq (by omega) (by omega)]
        have : (2 : Int) ^ (8 : Int).toNat = 256 := rfl
        rw [this, Int.emod_eq_of_lt (by omega) (by omega)]
      rw [e1, e2, wi (show -9223372036854775808 ≤ i + 1 by omega) (by omega)]
      cases g
      · simp only [cond_false]
        rw [wu (by omega) (by omega)]
        refine ⟨_, rfl, ⟨by dsimp only; omega, by dsimp only; omega, by dsimp only; omega, by dsimp only; omega⟩, by dsimp only; omega⟩
      · simp only [cond_true]
        rw [wu (by omega) (by omega)]
        refine ⟨_, rfl, ⟨by dsimp only; omega, by dsimp only; omega, by dsimp only; omega, by dsimp only; omega⟩, by dsimp only; omega⟩
    · right
      rw [decF hi]
      exact ⟨_, rfl, by dsimp only; omega, by dsimp only; omega⟩) (a, f, 0) ⟨by dsimp only; omega, by dsimp only; omega, by dsimp only; omega, by dsimp only; omega⟩
  exact ⟨r, h1, h2.1, by omega⟩
theorem total_spec {l : List (List Int)} (h : ∀ e ∈ l, okB e ∧ e.length ≤ 100) (hl : l.length ≤ 100) : ∃ v, F_checksum_total l = some v ∧ 0 ≤ v ∧ v ≤ 700000000 := by
  unfold F_checksum_total
  obtain ⟨r, h1, h2⟩ := loop_inv (step := F_checksum_total_l1 l) (fun s => 0 ≤ s.2.2 ∧ s.2.2 ≤ l.length ∧ 0 ≤ s.1 ∧ s.1 ≤ 6553500 * s.2.2) (fun r => 0 ≤ r ∧ r ≤ 700000000) (fun s => ((l.length : Int) - s.2.2).toNat) (by
    rintro ⟨x, g, i⟩ ⟨i0, i1, x0, x1⟩
    dsimp only at i0 i1 x0 x1
    unfold F_checksum_total_l1
    dsimp only
    by_cases hi : i < (l.length : Int)
    · left
      rw [decT hi, idx_int i0 hi]
      simp only [cond_true, Option.bind_some]
      have he := h (l[i.toNat]'(by omega)) (List.getElem_mem _)
      obtain ⟨r, hr, r0, r1⟩ := total_inner (f := g) he.1 he.2 x0 (by omega)
      rw [hr, wi (by omega) (by omega)]
      exact ⟨_, rfl, ⟨by dsimp only; omega, by dsimp only; omega, r0, by dsimp only; omega⟩, by dsimp only; omega⟩
    · right
      rw [decF hi]
      exact ⟨_, rfl, x0, by omega⟩) (0, true, 0) ⟨by dsimp only; omega, by dsimp only; omega, by dsimp only; omega, by dsimp only; omega⟩
  rw [h1]
  exact ⟨r, rfl, h2⟩
theorem fold_spec {a : Int} (h0 : 0 ≤ a) (h1 : a ≤ 700000000) : ∃ v, F_checksum_fold a = some v ∧ 0 ≤ v ∧ v ≤ 65535 := by
  unfold F_checksum_fold
  obtain ⟨r, h2, h3⟩ := loop_inv (step := F_checksum_fold_l1) (fun s => 0 ≤ s ∧ s ≤ 700000000) (fun r => 0 ≤ r ∧ r ≤ 65535) (fun s => s.toNat) (by
    rintro x ⟨x0, x1⟩
    unfold F_checksum_fold_l1
    by_cases hx : x > 65535
    · left
      rw [decT hx]
      have e1 : Int.tmod x 65536 = x % 65536 := Int.tmod_eq_emod_of_nonneg x0
      have e2 : iquo .u64 x 65536 = x / 65536 := by
        unfold iquo
        rw [Int.tdiv_eq_ediv_of_nonneg x0, wu (by omega) (by omega)]
      rw [e1, e2, wu (by omega) (by omega)]
      exact ⟨_, rfl, ⟨by omega, by omega⟩, by omega⟩
    · right
      rw [decF hx]
      exact ⟨_, rfl, x0, by omega⟩) a ⟨h0, h1⟩
  rw [h2]
  exact ⟨_, rfl, by rw [wu16 h3.1 (by omega)]; exact h3.1, by rw [wu16 h3.1 (by omega)]; exact h3.2⟩
theorem internet_spec {l : List (List Int)} (h : ∀ e ∈ l, okB e ∧ e.length ≤ 100) (hl : l.length ≤ 100) : ∃ v, F_checksum_Internet l = some v ∧ 0 ≤ v ∧ v ≤ 65535 := by
  unfold F_checksum_Internet
  obtain ⟨t, e1, t0, t1⟩ := total_spec h hl
  obtain ⟨v, e2, v0, v1⟩ := fold_spec t0 t1
  rw [e1, Option.bind_some, e2]
  exact ⟨_, rfl, by rw [wu16 (by omega) (by omega)]; omega, by rw [wu16 (by omega) (by omega)]; omega⟩
theorem bind_of {α β : Type} {x : Option α} {v : α} {f : α → Option β} {r : β} (h : x = some v) (hr : f v = some r) : x.bind f = some r := by rw [h]; exact hr
theorem bifT {α : Type} {b : Bool} {x y r : α} (h : b = true) (hr : x = r) : (bif b then x else y) = r := by rw [h]; exact hr
theorem bifF {α : Type} {b : Bool} {x y r : α} (h : b = false) (hr : y = r) : (bif b then x else y) = r := by rw [h]; exact hr
theorem okB_lit {l : List Int} (h : l.all (fun z => decide (0 ≤ z ∧ z ≤ 255)) = true) : okB l := fun z hz => by simpa using List.all_eq_true.1 h z hz
theorem app_small (l1 l2 : List Int) (h : l1.length + l2.length ≤ 100) : appO 1 l1 l2 = some (l1 ++ l2) := appO_some (by omega) (by omega)
/-- the checksum depends on the two first bytes and on what stands behind it -/
theorem sum_spec {S D : List Int} (hS : S.length = 16) (hD : D.length = 16) (oS : okB S) (oD : okB D) {k : Int} (hk : 0 ≤ k ∧ k ≤ 255) {t : List Int} (ot : okB t) (ht : t.length = 52) : ∃ s, 0 ≤ s ∧ s ≤ 65535 ∧ ∀ x y : Int, F_discovery_Sum (k :: 0 :: x :: y :: t) S D = some s := by
  have oh : okB [k, 0, 0, 0] := okB_cons hk (okB_lit rfl)
  obtain ⟨v, e, v0, v1⟩ := internet_spec (l := [S, D, ([0, 0, 0, 56] : List Int), ([0, 0, 0, 58] : List Int), [k, 0, 0, 0], t]) (by
    intro e he
    simp only [List.mem_cons, List.not_mem_nil, or_false] at he
    rcases he with rfl | rfl | rfl | rfl | rfl | rfl
    · exact ⟨oS, by omega⟩
    · exact ⟨oD, by omega⟩
    · exact ⟨okB_lit rfl, by show (4 : Nat) ≤ 100; omega⟩
    · exact ⟨okB_lit rfl, by show (4 : Nat) ≤ 100; omega⟩
    · exact ⟨oh, by show (4 : Nat) ≤ 100; omega⟩
    · exact ⟨ot, by omega⟩) (by show (6 : Nat) ≤ 100; omega)
  refine ⟨v, v0, v1, fun x y => ?_⟩
  have hl : (k :: 0 :: x :: y :: t).length = 56 := by simp only [List.length_cons, ht]
  unfold F_discovery_Sum
  rw [hl]
  refine bind_of (v := 4) rfl ?_
  refine bind_of (v := [k, 0, 0, 0]) ?_ ?_
  · show loopO F_discovery_Sum_l1 (2, cpL (List.replicate 4 (0 : Int)) 0 4 (k :: 0 :: x :: y :: t)) = some [k, 0, 0, 0]
    rw [show cpL (List.replicate 4 (0 : Int)) 0 4 (k :: 0 :: x :: y :: t) = [k, 0, x, y] by unfold cpL; rw [hl]; rfl]
    rw [loop_next (step := F_discovery_Sum_l1) (s := (2, [k, 0, x, y])) (s' := (3, [k, 0, 0, y])) (by kernel_rfl), loop_next (step := F_discovery_Sum_l1) (s := (3, [k, 0, 0, y])) (s' := (4, [k, 0, 0, 0])) (by kernel_rfl)]
    exact loop_done (by kernel_rfl)
  refine bind_of (v := [0, 0, 0, 56]) ((octets_append [] _ 4 (by omega) (by simp)).trans rfl) ?_
  refine bind_of (v := S) (by rw [arrL_id hS, subO_some (by omega) (by omega) (by omega)]; show some ((S.take 16).drop 0) = some S; rw [List.take_of_length_le (by omega)]; rfl) ?_
  refine bind_of (v := D) (by rw [arrL_id hD, subO_some (by omega) (by omega) (by omega)]; show some ((D.take 16).drop 0) = some D; rw [List.take_of_length_le (by omega)]; rfl) ?_
  refine bind_of (v := t) (by rw [subO_some (by simp) (by show (4 : Int) ≤ 56; omega) (by rw [hl]; exact Int.le_refl _)]; show some (((k :: 0 :: x :: y :: t).take 56).drop 4) = some t; rw [List.take_of_length_le (by omega)]; rfl) ?_
  exact bind_of e rfl

def ll0 : List Int := [254, 128, 0, 0, 0, 0, 0, 0, 0, 0, 0, 0, 0, 0, 0, 1]
def ll1 : List Int := [254, 128, 0, 0, 0, 0, 0, 0, 0, 0, 0, 0, 0, 0, 0, 2]
def zeros16 : List Int := [0, 0, 0, 0, 0, 0, 0, 0, 0, 0, 0, 0, 0, 0, 0, 0]
def nsN (q life : Int) (n u : Nat) : S_Message := S_Message.mk 135 0 0 (ipN u) (devN 0) (S_Owner.mk n q 0 life) true ([] : List S_PrefixInfo) ([] : List S_ContextInfo) (S_Border.mk 0 0 zeros16) false
/-- the bytes behind the checksum -/
def tl (q life n u : Int) : List Int := [0, 0, 0, 0, 32, 1, 13, 184, 0, 0, 0, 0, 0, 0, 0, 0, 0, 0, 0, u, 1, 2, 2, 0, 0, 0, 0, 0, 0, 1, 0, 0, 0, 0, 0, 0, 33, 2, 0, 0, 0, q, 0, life, 0, 0, 0, 0, 0, 0, 0, n]
def msgB (x y q life n u : Int) : List Int := 135 :: 0 :: x :: y :: tl q life n u
def lay24 : S_discovery_layout := S_discovery_layout.mk false true true true false 24
theorem lay_135 : F_discovery_layoutOf 135 = some (lay24, true) := by kernel_rfl
theorem nvalid (q life : Int) (n u : Nat) : F_discovery_Valid (nsN q life n u) = some true := by
  unfold F_discovery_Valid
  rw [show (nsN q life n u).Type_ = 135 from rfl, lay_135]
  kernel_rfl
theorem beB_2 {v : Int} (h0 : 0 ≤ v) (h1 : v ≤ 255) : beB v 2 = [0, v] := by
  show [v / 2 ^ 8 % 256, v / 2 ^ 0 % 256] = [0, v]
  rw [show v / 2 ^ 8 % 256 = 0 by omega, show v / 2 ^ 0 % 256 = v by omega]
theorem beB_8 {v : Int} (h0 : 0 ≤ v) (h1 : v ≤ 255) : beB v 8 = [0, 0, 0, 0, 0, 0, 0, v] := by
  show [v / 2 ^ 56 % 256, v / 2 ^ 48 % 256, v / 2 ^ 40 % 256, v / 2 ^ 32 % 256, v / 2 ^ 24 % 256, v / 2 ^ 16 % 256, v / 2 ^ 8 % 256, v / 2 ^ 0 % 256] = _
  rw [show v / 2 ^ 56 % 256 = 0 by omega, show v / 2 ^ 48 % 256 = 0 by omega, show v / 2 ^ 40 % 256 = 0 by omega, show v / 2 ^ 32 % 256 = 0 by omega, show v / 2 ^ 24 % 256 = 0 by omega, show v / 2 ^ 16 % 256 = 0 by omega, show v / 2 ^ 8 % 256 = 0 by omega, show v / 2 ^ 0 % 256 = v by omega]
theorem tl_ok {q life : Int} {n u : Nat} (hq1 : 0 ≤ q) (hq2 : q ≤ 255) (hl1 : 0 ≤ life) (hl2 : life ≤ 40) (hn : n ≤ 3) (hu : u < 6) : okB (tl q life n u) := by
  intro z hz
  simp only [tl, List.mem_cons, List.not_mem_nil, or_false] at hz
  omega
theorem nenc {q life : Int} {n u : Nat} (hq1 : 0 ≤ q) (hq2 : q ≤ 255) (hl1 : 0 ≤ life) (hl2 : life ≤ 40) (hn : n ≤ 3) (hu : u < 6) : ∃ s, 0 ≤ s ∧ s ≤ 65535 ∧ F_discovery_Encode (nsN q life n u) ll0 ll1 = some (135 :: 0 :: (beB s 2 ++ tl q life n u), 0) ∧ ∀ x y : Int, F_discovery_Sum (msgB x y q life n u) ll0 ll1 = some s := by
  obtain ⟨s, s0, s1, hs⟩ := sum_spec (S := ll0) (D := ll1) rfl rfl (okB_lit rfl) (okB_lit rfl) (k := 135) (by omega) (tl_ok hq1 hq2 hl1 hl2 hn hu) rfl
  refine ⟨s, s0, s1, ?_, hs⟩
  unfold F_discovery_Encode
  refine bind_of (nvalid q life n u) (bifT rfl ?_)
  refine bind_of lay_135 ?_
  refine bind_of (v := [135]) (by kernel_rfl) ?_
  refine bind_of (v := [135, 0, 0, 0]) (by kernel_rfl) (bifF rfl (bifF rfl ?_))
  refine bind_of (v := [135, 0, 0, 0, 0, 0, 0, 0]) (by kernel_rfl) (bifT rfl ?_)
  refine bind_of (v := [135, 0, 0, 0, 0, 0, 0, 0] ++ ipN u) (show appO 1 [135, 0, 0, 0, 0, 0, 0, 0] (ipN u) = _ from app_small _ _ (by show (8 + 16 : Nat) ≤ 100; omega)) (bifF rfl (bifT rfl ?_))
  refine bind_of (v := [135, 0, 0, 0, 0, 0, 0, 0] ++ ipN u ++ [1, 2]) (show appO 1 ([135, 0, 0, 0, 0, 0, 0, 0] ++ ipN u) [1, 2] = _ from app_small _ _ (by show (24 + 2 : Nat) ≤ 100; omega)) ?_
  refine bind_of (v := [135, 0, 0, 0, 0, 0, 0, 0] ++ ipN u ++ [1, 2] ++ [2, 0, 0, 0, 0, 0, 0, 1]) ((octets_append_R _ _ 8 (by omega) (by show (26 : Nat) ≤ _; omega)).trans rfl) ?_
  refine bind_of (v := [135, 0, 0, 0, 0, 0, 0, 0] ++ ipN u ++ [1, 2] ++ [2, 0, 0, 0, 0, 0, 0, 1] ++ [0, 0, 0, 0, 0, 0]) ((octets_append_R _ _ 6 (by omega) (by show (34 : Nat) ≤ _; omega)).trans rfl) (bifT rfl (bifT rfl ?_))
  refine bind_of (v := [135, 0, 0, 0, 0, 0, 0, 0] ++ ipN u ++ [1, 2] ++ [2, 0, 0, 0, 0, 0, 0, 1] ++ [0, 0, 0, 0, 0, 0] ++ [33, 2, 0, 0, 0, q]) (show appO 1 ([135, 0, 0, 0, 0, 0, 0, 0] ++ ipN u ++ [1, 2] ++ [2, 0, 0, 0, 0, 0, 0, 1] ++ [0, 0, 0, 0, 0, 0]) [33, 2, 0, 0, 0, q] = _ from app_small _ _ (by show (40 + 6 : Nat) ≤ 100; omega)) ?_
  refine bind_of (v := [135, 0, 0, 0, 0, 0, 0, 0] ++ ipN u ++ [1, 2] ++ [2, 0, 0, 0, 0, 0, 0, 1] ++ [0, 0, 0, 0, 0, 0] ++ [33, 2, 0, 0, 0, q] ++ [0, life]) ((octets_append_R _ _ 2 (by omega) (by show (46 : Nat) ≤ _; omega)).trans (by rw [show (nsN q life n u).Owner.Lifetime = life from rfl, wu hl1 (by omega), beB_2 hl1 (by omega)])) ?_
  refine bind_of (v := msgB 0 0 q life n u) ((octets_append_R _ _ 8 (by omega) (by show (48 : Nat) ≤ _; omega)).trans (by rw [show (nsN q life n u).Owner.EUI = (n : Int) from rfl, beB_8 (by omega) (by omega)]; rfl)) ?_
  refine bind_of (v := ()) (loop_done rfl) (bind_of (v := ()) (loop_done rfl) (bifF rfl (bifT (by kernel_rfl) ?_)))
  refine bind_of (hs 0 0) ?_
  refine bind_of (v := beB s 2) ((octets_append [] _ 2 (by omega) (by simp)).trans (by rw [List.nil_append, wu s0 (by omega)])) ?_
  rfl
theorem beN_one (v : Int) (n : Nat) (h0 : 0 ≤ v) (h1 : v < 256 ^ n) : beN (beB v n) = v := by
  rw [beN_beB, Int.emod_eq_of_lt h0 h1]
theorem bytes_refl (l : List Int) : F_bytes_Equal l l = some true := by
  unfold F_bytes_Equal
  simp
/-- the two options -/
theorem nopt {q life : Int} {n u : Nat} (hq1 : 0 ≤ q) (hq2 : q ≤ 255) (hl1 : 0 ≤ life) (hl2 : life ≤ 40) (hn : n ≤ 3) (l0 : List Int) :
    loopO F_discovery_Decode_l2 ([1, 2, 2, 0, 0, 0, 0, 0, 0, 1, 0, 0, 0, 0, 0, 0, 33, 2, 0, 0, 0, q, 0, life, 0, 0, 0, 0, 0, 0, 0, (n : Int)], S_discovery_parser.mk (S_Message.mk 135 0 0 (ipN u) (S_Addr.mk 0 0 0) (S_Owner.mk 0 0 0 0) false ([] : List S_PrefixInfo) ([] : List S_ContextInfo) (S_Border.mk 0 0 zeros16) false) l0) = some (Sum.inl (S_discovery_parser.mk (nsN q life n u) [33, 2, 0, 0, 0, q, 0, life, 0, 0, 0, 0, 0, 0, 0, (n : Int)])) := by
  have ob : okB [33, 2, 0, 0, 0, q, 0, life, 0, 0, 0, 0, 0, 0, 0, (n : Int)] := by
    intro z hz
    simp only [List.mem_cons, List.not_mem_nil, or_false] at hz
    omega
  have e2 : F_octets_Uint [33, 2, 0, 0, 0, q, 0, life, 0, 0, 0, 0, 0, 0, 0, (n : Int)] 6 2 = some (life, true) := (uint_some ob (by show (16 : Nat) ≤ _; omega) 6 2 (by omega) (by omega) (by show 8 ≤ 16; omega)).trans (by
    show some (beN [0, life], true) = _
    rw [← beB_2 hl1 (by omega), beN_one life 2 hl1 (by omega)])
  have e3 : F_octets_Uint [33, 2, 0, 0, 0, q, 0, life, 0, 0, 0, 0, 0, 0, 0, (n : Int)] 8 8 = some ((n : Int), true) := (uint_some ob (by show (16 : Nat) ≤ _; omega) 8 8 (by omega) (by omega) (by show 16 ≤ 16; omega)).trans (by
    show some (beN [0, 0, 0, 0, 0, 0, 0, (n : Int)], true) = _
    rw [← beB_8 (by omega) (by omega), beN_one n 8 (by omega) (by omega)])
  rw [loop_next (step := F_discovery_Decode_l2) (s' := ([33, 2, 0, 0, 0, q, 0, life, 0, 0, 0, 0, 0, 0, 0, (n : Int)], S_discovery_parser.mk (S_Message.mk 135 0 0 (ipN u) (devN 0) (S_Owner.mk 0 0 0 0) false ([] : List S_PrefixInfo) ([] : List S_ContextInfo) (S_Border.mk 0 0 zeros16) false) [1, 2, 2, 0, 0, 0, 0, 0, 0, 1, 0, 0, 0, 0, 0, 0])) (by kernel_rfl)]
  rw [loop_next (step := F_discovery_Decode_l2) (s' := ([], S_discovery_parser.mk (nsN q life n u) [33, 2, 0, 0, 0, q, 0, life, 0, 0, 0, 0, 0, 0, 0, (n : Int)])) (by
    unfold F_discovery_Decode_l2
    refine bifT (by kernel_rfl) (bifF (by kernel_rfl) ?_)
    refine bind_of (v := 33) rfl (bind_of (v := 2) rfl (bifF (by kernel_rfl) (bifF (by kernel_rfl) (bifT (by kernel_rfl) ?_))))
    refine bind_of (v := 2) rfl (bifF (by kernel_rfl) ?_)
    refine bind_of (v := [33, 2, 0, 0, 0, q, 0, life, 0, 0, 0, 0, 0, 0, 0, (n : Int)]) (by kernel_rfl) ?_
    refine bind_of (v := S_discovery_parser.mk (nsN q life n u) [33, 2, 0, 0, 0, q, 0, life, 0, 0, 0, 0, 0, 0, 0, (n : Int)]) ?_ (bind_of (v := []) (by kernel_rfl) rfl)
    unfold F_discovery_parser_owner F_discovery_parser_number
    refine bind_of (v := 0) rfl (bind_of (v := q) rfl ?_)
    refine bind_of (v := life) (bind_of e2 rfl) (bind_of (v := (n : Int)) (bind_of e3 rfl) ?_)
    rw [wu16 hl1 (by omega)]
    rfl)]
  exact loop_done (by kernel_rfl)
/-- what is written is read -/
theorem ndec {q life : Int} {n u : Nat} (hq1 : 0 ≤ q) (hq2 : q ≤ 255) (hl1 : 0 ≤ life) (hl2 : life ≤ 40) (hn : n ≤ 3) (hu : u < 6) : ∃ x y, F_discovery_Encode (nsN q life n u) ll0 ll1 = some (msgB x y q life n u, 0) ∧ F_discovery_Decode (msgB x y q life n u) ll0 ll1 = some (nsN q life n u, 0) := by
  obtain ⟨s, s0, s1, he, hs⟩ := nenc hq1 hq2 hl1 hl2 hn hu
  refine ⟨s / 2 ^ 8 % 256, s / 2 ^ 0 % 256, he, ?_⟩
  generalize hx : s / 2 ^ 8 % 256 = x
  generalize hy : s / 2 ^ 0 % 256 = y
  have he' : F_discovery_Encode (nsN q life n u) ll0 ll1 = some (msgB x y q life n u, 0) := by rw [← hx, ← hy]; exact he
  have ob : okB (msgB x y q life n u) := okB_cons (by omega) (okB_cons (by omega) (okB_cons (by omega) (okB_cons (by omega) (tl_ok hq1 hq2 hl1 hl2 hn hu))))
  have e1 : F_octets_Uint (msgB x y q life n u) 2 2 = some (s, true) := (uint_some ob (by show (56 : Nat) ≤ _; omega) 2 2 (by omega) (by omega) (by show 4 ≤ 56; omega)).trans (by
    show some (beN [x, y], true) = _
    rw [← hx, ← hy, show [s / 2 ^ 8 % 256, s / 2 ^ 0 % 256] = beB s 2 from rfl, beN_one s 2 s0 (by omega)])
  have hj : ∀ X, F_discovery_Decode_j1 ll0 ll1 (msgB x y q life n u) (true, S_discovery_parser.mk (nsN q life n u) X) = some (nsN q life n u, 0) := fun X => by
    unfold F_discovery_Decode_j1
    exact bifT rfl (bind_of he' (bifF rfl (bind_of (bytes_refl _) rfl)))
  unfold F_discovery_Decode
  refine bifF (by kernel_rfl) ?_
  refine bind_of e1 (bind_of (hs x y) (bifF (by rw [wu16 s0 (by omega)]; simp) ?_))
  refine bind_of (v := 135) rfl (bind_of lay_135 (bifT rfl (bifF (by kernel_rfl) ?_)))
  refine bind_of (v := S_discovery_parser.mk (S_Message.mk 135 0 0 (ipN u) (S_Addr.mk 0 0 0) (S_Owner.mk 0 0 0 0) false ([] : List S_PrefixInfo) ([] : List S_ContextInfo) (S_Border.mk 0 0 zeros16) false) (msgB x y q life n u)) (by kernel_rfl) ?_
  refine bind_of (v := [1, 2, 2, 0, 0, 0, 0, 0, 0, 1, 0, 0, 0, 0, 0, 0, 33, 2, 0, 0, 0, q, 0, life, 0, 0, 0, 0, 0, 0, 0, (n : Int)]) (by kernel_rfl) ?_
  refine bind_of (nopt hq1 hq2 hl1 hl2 hn _) ?_
  rw [Sum.elim_inl]
  exact hj _
end
section
open Go.RowKit

def key1 : List Int := [17, 18, 19, 20, 21, 22, 23, 24, 25, 26, 27, 28, 29, 30, 31, 32]
def gX (i : Int) : S_Guard := S_Guard.mk [S_LinkKey.mk 1 key1] (1 + i) 1048576 0 []
def gY (i : Int) : S_Guard := S_Guard.mk [S_LinkKey.mk 1 key1] 0 1048576 9 [S_Peer.mk (devN 0) 1 i 4294967295]
def zB (x y q life n u : Int) : List Int := 123 :: 51 :: 58 :: msgB x y q life n u
def hd (i : Int) : List Int := [104, 240, 0, 0, 1, 2, 0, 0, 0, 0, 0, 0, 2, 2, 0, 0, 0, 0, 0, 0, 1, 0, 0, 0, 1 + i, 1]
def fr (x y q life n u : Int) : S_Frame := S_Frame.mk 1 true false false 0 1 (devN 1) (devN 0) 0 0 (zB x y q life n u) []
def fs (i x y q life n u : Int) (t : List Int) : S_Frame := S_Frame.mk 1 true false true 0 1 (devN 1) (devN 0) (1 + i) 1 (zB x y q life n u) t
def pkt (x y q life n u : Int) : S_Packet := S_Packet.mk 0 0 58 255 ll0 ll1 0 0 (msgB x y q life n u)
theorem pair_v : F_top_pair 0 1 = some (gX 0, gY 0, true) := by kernel_rfl
theorem dev1 : F_top_device 1 = some (devN 1) := by kernel_rfl
theorem ll_0 : F_ref04_LinkLocal (devN 0) = some (ll0, true) := by kernel_rfl
theorem ll_1 : F_ref04_LinkLocal (devN 1) = some (ll1, true) := by kernel_rfl
theorem penc (i : Nat) (hi : i < 8) (x y q life n u : Int) : F_compress_Encode (pkt x y q life n u) (devN 0) (devN 1) [] (IntKind.wrap .i64 (3 * (i : Int))) = some (zB x y q life n u, 0) := by
  rcases i with _ | _ | _ | _ | _ | _ | _ | _ | i
  all_goals first | (exfalso; omega) | kernel_rfl
theorem pdec (i : Nat) (hi : i < 8) (x y q life n u : Int) : F_compress_Decode (zB x y q life n u) (devN 0) (devN 1) [] (IntKind.wrap .i64 (3 * (i : Int))) = some (pkt x y q life n u, 0) := by
  rcases i with _ | _ | _ | _ | _ | _ | _ | _ | i
  all_goals first | (exfalso; omega) | kernel_rfl
theorem crc_in (c : Int) : ∃ r, loopO F_checksum_Extend_l2 (c, 0) = some r := by
  obtain ⟨r, h, _⟩ := loop_inv (step := F_checksum_Extend_l2) (fun s => 0 ≤ s.2 ∧ s.2 ≤ 8) (fun _ => True) (fun s => (8 - s.2).toNat) (by
    rintro ⟨a, j⟩ ⟨j0, j1⟩
    dsimp only at j0 j1
    unfold F_checksum_Extend_l2 F_checksum_Extend_j3
    dsimp only
    by_cases hj : j < 8
    · left
      rw [decT hj, cond_true, wi (show -9223372036854775808 ≤ j + 1 by omega) (by omega)]
      cases (iand .u16 a 1 == 1)
      · exact ⟨_, rfl, ⟨by dsimp only; omega, by dsimp only; omega⟩, by dsimp only; omega⟩
      · exact ⟨_, rfl, ⟨by dsimp only; omega, by dsimp only; omega⟩, by dsimp only; omega⟩
    · right
      rw [decF hj]
      exact ⟨_, rfl, trivial⟩) (c, 0) ⟨by show (0 : Int) ≤ 0; omega, by show (0 : Int) ≤ 8; omega⟩
  exact ⟨r, h⟩
theorem crc_ex {l : List Int} (hl : l.length ≤ 1000) : ∃ v, F_checksum_CRC l = some v := by
  obtain ⟨r, h, _⟩ := loop_inv (step := F_checksum_Extend_l1 l) (fun s => 0 ≤ s.2 ∧ s.2 ≤ l.length) (fun _ => True) (fun s => ((l.length : Int) - s.2).toNat) (by
    rintro ⟨a, j⟩ ⟨j0, j1⟩
    dsimp only at j0 j1
    unfold F_checksum_Extend_l1
    dsimp only
    by_cases hj : j < (l.length : Int)
    · left
      obtain ⟨r, hr⟩ := crc_in (ixor .u16 a (IntKind.wrap .u16 (l[j.toNat]'(by omega))))
      rw [decT hj, cond_true, idx_int j0 hj, wi (show -9223372036854775808 ≤ j + 1 by omega) (by omega)]
      refine ⟨(r, j + 1), bind_of rfl (bind_of hr rfl), ⟨by dsimp only; omega, by dsimp only; omega⟩, by dsimp only; omega⟩
    · right
      rw [decF hj]
      exact ⟨_, rfl, trivial⟩) (0, 0) ⟨by show (0 : Int) ≤ 0; omega, by show (0 : Int) ≤ l.length; omega⟩
  exact ⟨r, bind_of (bind_of h rfl) rfl⟩
theorem little_ex {l : List Int} (hl : l.length ≤ 1000) : ∃ v, F_siphash_little l = some v := by
  obtain ⟨r, h, _⟩ := loop_inv (step := F_siphash_little_l1 l) (fun s => 0 ≤ s.2 ∧ s.2 ≤ l.length) (fun _ => True) (fun s => ((l.length : Int) - s.2).toNat) (by
    rintro ⟨a, j⟩ ⟨j0, j1⟩
    dsimp only at j0 j1
    unfold F_siphash_little_l1
    dsimp only
    by_cases hj : j < (l.length : Int)
    · left
      rw [decT hj, cond_true, idx_int j0 hj, wi (show -9223372036854775808 ≤ j + 1 by omega) (by omega), wi (show -9223372036854775808 ≤ 8 * j by omega) (by omega)]
      refine ⟨(_, j + 1), bind_of rfl (bifT (decT (by omega)) rfl), ⟨by dsimp only; omega, by dsimp only; omega⟩, by dsimp only; omega⟩
    · right
      rw [decF hj]
      exact ⟨_, rfl, trivial⟩) (0, 0) ⟨by show (0 : Int) ≤ 0; omega, by show (0 : Int) ≤ l.length; omega⟩
  exact ⟨r, bind_of h rfl⟩
theorem rot_ex (x k : Int) (h1 : 0 ≤ iand .u64 (IntKind.wrap .u64 k) 63) (h2 : 0 ≤ IntKind.wrap .u64 (64 - iand .u64 (IntKind.wrap .u64 k) 63)) : ∃ v, F_math_bits_RotateLeft64 x k = some v := by
  unfold F_math_bits_RotateLeft64
  rw [decT h1, decT h2]
  exact ⟨_, rfl⟩
theorem rounds_ex (a : List Int) (n : Int) (h0 : 0 ≤ n) (hn : n ≤ 10) : ∃ v, F_siphash_state_rounds a n = some v := by
  obtain ⟨r, h, _⟩ := loop_inv (step := F_siphash_state_rounds_l1 n) (fun s => 0 ≤ s.1 ∧ s.1 ≤ n) (fun _ => True) (fun s => (n - s.1).toNat) (by
    rintro ⟨j, s⟩ ⟨j0, j1⟩
    dsimp only at j0 j1
    unfold F_siphash_state_rounds_l1
    dsimp only
    by_cases hj : j < n
    · left
      rw [decT hj, cond_true, wi (show -9223372036854775808 ≤ j + 1 by omega) (by omega)]
      obtain ⟨a1, e1⟩ := rot_ex (s.getD 1 0) 13 (by decide +kernel) (by decide +kernel)
      rw [e1]; simp only [Option.bind_some]
      obtain ⟨a2, e2⟩ := rot_ex (IntKind.wrap .u64 (s.getD 0 0 + s.getD 1 0)) 32 (by decide +kernel) (by decide +kernel)
      rw [e2]; simp only [Option.bind_some]
      obtain ⟨a3, e3⟩ := rot_ex (s.getD 3 0) 16 (by decide +kernel) (by decide +kernel)
      rw [e3]; simp only [Option.bind_some]
      obtain ⟨a4, e4⟩ := rot_ex (ixor .u64 a3 (IntKind.wrap .u64 (s.getD 2 0 + s.getD 3 0))) 21 (by decide +kernel) (by decide +kernel)
      rw [e4]; simp only [Option.bind_some]
      obtain ⟨a5, e5⟩ := rot_ex (ixor .u64 a1 (IntKind.wrap .u64 (s.getD 0 0 + s.getD 1 0))) 17 (by decide +kernel) (by decide +kernel)
      rw [e5]; simp only [Option.bind_some]
      obtain ⟨a6, e6⟩ := rot_ex (IntKind.wrap .u64 (IntKind.wrap .u64 (s.getD 2 0 + s.getD 3 0) + ixor .u64 a1 (IntKind.wrap .u64 (s.getD 0 0 + s.getD 1 0)))) 32 (by decide +kernel) (by decide +kernel)
      rw [e6]
      exact ⟨_, rfl, ⟨by dsimp only; omega, by dsimp only; omega⟩, by dsimp only; omega⟩
    · right
      rw [decF hj]
      exact ⟨_, rfl, trivial⟩) (0, a) ⟨by show (0 : Int) ≤ 0; omega, by show (0 : Int) ≤ n; omega⟩
  exact ⟨r, bind_of h rfl⟩
theorem mix_ex (a : List Int) (x : Int) : ∃ v, F_siphash_state_mix a x = some v := by
  obtain ⟨r, h⟩ := rounds_ex [(a.getD 0 0), (a.getD 1 0), (a.getD 2 0), ixor .u64 (a.getD 3 0) x] 2 (by omega) (by omega)
  exact ⟨_, bind_of h rfl⟩
theorem sum_ex {k l : List Int} (_hk : k.length = 16) (hl : l.length ≤ 1000) : ∃ v, F_siphash_Sum k l = some v := by
  obtain ⟨v1, e1⟩ := little_ex (l := arrL 8 k) (by simp [arrL])
  obtain ⟨v2, e2⟩ := little_ex (l := [(k.getD 8 0), (k.getD 9 0), (k.getD 10 0), (k.getD 11 0), (k.getD 12 0), (k.getD 13 0), (k.getD 14 0), (k.getD 15 0)]) (by show (8 : Nat) ≤ 1000; omega)
  have eq : iquo .i64 (l.length : Int) 8 = (l.length : Int) / 8 := by
    unfold iquo
    rw [Int.tdiv_eq_ediv_of_nonneg (by omega)]
    exact wi (by omega) (by omega)
  obtain ⟨r, h, _⟩ := loop_inv (step := F_siphash_Sum_l1 l) (fun s => 0 ≤ s.1 ∧ s.1 ≤ (l.length : Int) / 8) (fun _ => True) (fun s => ((l.length : Int) / 8 - s.1).toNat) (by
    rintro ⟨j, s⟩ ⟨j0, j1⟩
    dsimp only at j0 j1
    unfold F_siphash_Sum_l1
    dsimp only
    rw [eq]
    by_cases hj : j < (l.length : Int) / 8
    · left
      rw [decT hj, cond_true, wi (show -9223372036854775808 ≤ j + 1 by omega) (by omega), wi (show -9223372036854775808 ≤ 8 * j by omega) (by omega), wi (show -9223372036854775808 ≤ 8 * j + 8 by omega) (by omega), subO_some (by omega) (by omega) (by omega)]
      simp only [Option.bind_some]
      obtain ⟨w, ew⟩ := little_ex (l := (l.take (8 * j + 8).toNat).drop (8 * j).toNat) (by rw [List.length_drop, List.length_take]; omega)
      obtain ⟨m, em⟩ := mix_ex s w
      exact ⟨(j + 1, m), bind_of ew (bind_of em rfl), ⟨by dsimp only; omega, by dsimp only; omega⟩, by dsimp only; omega⟩
    · right
      rw [decF hj]
      exact ⟨_, rfl, trivial⟩) (0, [ixor .u64 v1 8317987319222330741, ixor .u64 v2 7237128888997146477, ixor .u64 v1 7816392313619706465, ixor .u64 v2 8387220255154660723]) ⟨by show (0 : Int) ≤ 0; omega, by show (0 : Int) ≤ _; omega⟩
  have ew : IntKind.wrap .i64 (8 * ((l.length : Int) / 8)) = 8 * ((l.length : Int) / 8) := wi (by omega) (by omega)
  obtain ⟨v3, e3⟩ := little_ex (l := (l.take ((l.length : Int)).toNat).drop (8 * ((l.length : Int) / 8)).toNat) (by rw [List.length_drop, List.length_take]; omega)
  obtain ⟨m, em⟩ := mix_ex r (ior .u64 v3 (ishl .u64 (IntKind.wrap .u64 (l.length : Int)) 56))
  obtain ⟨f, ef⟩ := rounds_ex [(m.getD 0 0), (m.getD 1 0), ixor .u64 (m.getD 2 0) 255, (m.getD 3 0)] 4 (by omega) (by omega)
  refine ⟨ixor .u64 (ixor .u64 (ixor .u64 (f.getD 0 0) (f.getD 1 0)) (f.getD 2 0)) (f.getD 3 0), ?_⟩
  unfold F_siphash_Sum
  refine bind_of e1 (bind_of e2 (bind_of h ?_))
  rw [eq, ew]
  exact bind_of (subO_some (by omega) (by omega) (by omega)) (bind_of e3 (bind_of em (bind_of ef rfl)))
theorem tag_ex {l : List Int} (hl : l.length ≤ 1000) : ∃ t0 t1 t2 t3, F_siphash_Tag key1 l 4 = some ([t0, t1, t2, t3], true) := by
  obtain ⟨v, hv⟩ := sum_ex (k := key1) rfl hl
  refine ⟨IntKind.wrap .u8 (ishr .u64 v (IntKind.wrap .i64 (8 * 0))), IntKind.wrap .u8 (ishr .u64 v (IntKind.wrap .i64 (8 * 1))), IntKind.wrap .u8 (ishr .u64 v (IntKind.wrap .i64 (8 * 2))), IntKind.wrap .u8 (ishr .u64 v (IntKind.wrap .i64 (8 * 3))), ?_⟩
  unfold F_siphash_Tag
  refine bifF rfl (bifF rfl (bind_of hv (bind_of (v := 4) rfl ?_)))
  exact bind_of (v := [IntKind.wrap .u8 (ishr .u64 v (IntKind.wrap .i64 (8 * 0))), IntKind.wrap .u8 (ishr .u64 v (IntKind.wrap .i64 (8 * 1))), IntKind.wrap .u8 (ishr .u64 v (IntKind.wrap .i64 (8 * 2))), IntKind.wrap .u8 (ishr .u64 v (IntKind.wrap .i64 (8 * 3)))]) (by kernel_rfl) rfl
end
section
open Go.RowKit

theorem gX_valid (i : Nat) (hi : i < 9) : F_guard_Valid (gX i) = some true := by
  rcases i with _ | _ | _ | _ | _ | _ | _ | _ | _ | i
  all_goals first | (exfalso; omega) | kernel_rfl
theorem gY_valid (i : Nat) (hi : i < 9) : F_guard_Valid (gY i) = some true := by
  rcases i with _ | _ | _ | _ | _ | _ | _ | _ | _ | i
  all_goals first | (exfalso; omega) | kernel_rfl
theorem fs_valid (i : Int) (x y q life n u t0 t1 t2 t3 : Int) : F_frame_Valid (fs i x y q life n u [t0, t1, t2, t3]) = some true := by kernel_rfl
/-- the bytes in front of the tag -/
def hz (i x y q life n u : Int) : List Int := hd i ++ zB x y q life n u
theorem be_1i (i : Nat) (hi : i < 8) : beB (IntKind.wrap .u64 (1 + (i : Int))) 4 = [0, 0, 0, 1 + (i : Int)] := by
  rcases i with _ | _ | _ | _ | _ | _ | _ | _ | i
  all_goals first | (exfalso; omega) | kernel_rfl
theorem append1 : F_frame_appendAddr [104, 240, 0, 0, 1] (devN 1) = some [104, 240, 0, 0, 1, 2, 0, 0, 0, 0, 0, 0, 2] := by kernel_rfl
theorem append0 : F_frame_appendAddr [104, 240, 0, 0, 1, 2, 0, 0, 0, 0, 0, 0, 2] (devN 0) = some [104, 240, 0, 0, 1, 2, 0, 0, 0, 0, 0, 0, 2, 2, 0, 0, 0, 0, 0, 0, 1] := by kernel_rfl
theorem header_j (i : Nat) (hi : i < 8) (x y q life n u : Int) (t : List Int) : F_frame_Header_j1 (fs i x y q life n u t) = some (hz i x y q life n u) := by
  unfold F_frame_Header_j1
  refine bind_of (v := 32) rfl (bind_of (v := 0) rfl (bind_of (v := 8) rfl (bifT rfl ?_)))
  refine bind_of (v := [104, 240, 0, 0, 1]) (by kernel_rfl) ?_
  refine bind_of append1 (bind_of append0 (bifT rfl ?_))
  refine bind_of (v := [104, 240, 0, 0, 1, 2, 0, 0, 0, 0, 0, 0, 2, 2, 0, 0, 0, 0, 0, 0, 1] ++ [0, 0, 0, 1 + (i : Int)]) ((octets_append _ _ 4 (by omega) (by show (21 : Nat) ≤ _; omega)).trans (by rw [show (fs i x y q life n u t).Counter = 1 + (i : Int) from rfl, be_1i i hi])) ?_
  refine bind_of (v := hd i) (show appO 1 ([104, 240, 0, 0, 1, 2, 0, 0, 0, 0, 0, 0, 2, 2, 0, 0, 0, 0, 0, 0, 1] ++ [0, 0, 0, 1 + (i : Int)]) [1] = _ from app_small _ _ (by show (25 + 1 : Nat) ≤ 100; omega)) ?_
  exact bind_of (v := hz i x y q life n u) (show appO 1 (hd i) (zB x y q life n u) = _ from app_small _ _ (by show (26 + 59 : Nat) ≤ 100; omega)) rfl
theorem header_s (i : Nat) (hi : i < 8) (x y q life n u t0 t1 t2 t3 : Int) : F_frame_Header (fs i x y q life n u [t0, t1, t2, t3]) = some (hz i x y q life n u) := by
  unfold F_frame_Header
  exact bind_of (fs_valid i x y q life n u t0 t1 t2 t3) (bifT rfl (header_j i hi x y q life n u _))
theorem header_0 (i : Nat) (hi : i < 8) (x y q life n u : Int) : F_frame_Header (fs i x y q life n u []) = some (hz i x y q life n u) := by
  unfold F_frame_Header
  refine bind_of (v := false) (by kernel_rfl) (bifF rfl (bind_of (v := 4) rfl ?_))
  exact bind_of (fs_valid i x y q life n u 0 0 0 0) (bifT rfl (header_j i hi x y q life n u _))
theorem succ_X (i : Nat) (hi : i < 8) : S_Guard.mk [S_LinkKey.mk 1 key1] (IntKind.wrap .u32 (1 + (i : Int) + 1)) 1048576 0 ([] : List S_Peer) = gX ((i : Int) + 1) := by
  rcases i with _ | _ | _ | _ | _ | _ | _ | _ | i
  all_goals first | (exfalso; omega) | kernel_rfl
/-- Seal -/
theorem seal_s (i : Nat) (hi : i < 8) (x y q life n u : Int) : ∃ t0 t1 t2 t3, F_siphash_Tag key1 (hz i x y q life n u) 4 = some ([t0, t1, t2, t3], true) ∧ F_guard_Seal (gX i) (fr x y q life n u) 1 = some (gX ((i : Int) + 1), fs i x y q life n u [t0, t1, t2, t3], 0) := by
  obtain ⟨t0, t1, t2, t3, ht⟩ := tag_ex (l := hz i x y q life n u) (by show (85 : Nat) ≤ 1000; omega)
  refine ⟨t0, t1, t2, t3, ht, ?_⟩
  unfold F_guard_Seal
  refine bind_of (gX_valid i (by omega)) (bifT rfl ?_)
  refine bind_of (v := true) (by kernel_rfl) (bifT rfl (bifF rfl (bifF rfl ?_)))
  refine bind_of (v := (key1, true)) (by kernel_rfl) (bifT rfl (bifF ?_ ?_))
  · show ((1 + (i : Int)) == 1048576) = false
    exact beqF (by omega)
  refine bind_of (header_0 i hi x y q life n u) (bind_of ht ?_)
  refine bind_of (fs_valid i x y q life n u t0 t1 t2 t3) (bifT rfl ?_)
  refine bind_of (v := zB x y q life n u) (by kernel_rfl) ?_
  refine bind_of (v := gX i) (by kernel_rfl) ?_
  rw [← succ_X i hi]
  rfl
/-- what is sent -/
def bs (i x y q life n u t0 t1 t2 t3 v : Int) : List Int := hz i x y q life n u ++ [t0, t1, t2, t3] ++ [IntKind.wrap .u8 v, IntKind.wrap .u8 (ishr .u16 v 8)]
theorem fenc (i : Nat) (hi : i < 8) (x y q life n u t0 t1 t2 t3 : Int) {v : Int} (hv : F_checksum_CRC (hz i x y q life n u ++ [t0, t1, t2, t3]) = some v) : F_frame_Encode (fs i x y q life n u [t0, t1, t2, t3]) = some (bs i x y q life n u t0 t1 t2 t3 v, 0) := by
  unfold F_frame_Encode
  refine bind_of (fs_valid i x y q life n u t0 t1 t2 t3) (bifT rfl ?_)
  refine bind_of (header_s i hi x y q life n u t0 t1 t2 t3) ?_
  refine bind_of (v := hz i x y q life n u ++ [t0, t1, t2, t3]) (by kernel_rfl) ?_
  refine bind_of (v := bs i x y q life n u t0 t1 t2 t3 v) ?_ rfl
  unfold F_checksum_Append
  refine bind_of hv (bind_of (v := 0) (by kernel_rfl) ?_)
  refine bind_of (v := hz i x y q life n u ++ [t0, t1, t2, t3]) (by kernel_rfl) ?_
  exact bind_of (v := bs i x y q life n u t0 t1 t2 t3 v) (by kernel_rfl) rfl
theorem fparse (i : Nat) (hi : i < 8) (x y q life n u t0 t1 t2 t3 : Int) : F_frame_parse (hz i x y q life n u ++ [t0, t1, t2, t3]) = some (fs i x y q life n u [t0, t1, t2, t3], true) := by
  rcases i with _ | _ | _ | _ | _ | _ | _ | _ | i
  all_goals first | (exfalso; omega) | kernel_rfl
theorem fdec (i : Nat) (hi : i < 8) (x y q life n u t0 t1 t2 t3 : Int) {v : Int} (hv : F_checksum_CRC (hz i x y q life n u ++ [t0, t1, t2, t3]) = some v) : F_frame_Decode (bs i x y q life n u t0 t1 t2 t3 v) = some (fs i x y q life n u [t0, t1, t2, t3], 0) := by
  unfold F_frame_Decode
  refine bifF (by kernel_rfl) (bifF (by kernel_rfl) ?_)
  refine bind_of (v := true) ?_ (bifT rfl ?_)
  · unfold F_checksum_Check
    refine bifF (by kernel_rfl) ?_
    refine bind_of (v := hz i x y q life n u ++ [t0, t1, t2, t3]) (by kernel_rfl) (bind_of hv ?_)
    refine bind_of (v := IntKind.wrap .u8 v) (by kernel_rfl) (bifT (by simp) ?_)
    refine bind_of (v := IntKind.wrap .u8 (ishr .u16 v 8)) (by kernel_rfl) ?_
    simp
  refine bind_of (v := hz i x y q life n u ++ [t0, t1, t2, t3]) (by kernel_rfl) ?_
  refine bind_of (fparse i hi x y q life n u t0 t1 t2 t3) (bifT rfl ?_)
  refine bind_of (fenc i hi x y q life n u t0 t1 t2 t3 hv) (bifF rfl ?_)
  exact bind_of (bytes_refl _) rfl
/-- Open -/
theorem open_s (i : Nat) (hi : i < 8) (x y q life n u t0 t1 t2 t3 : Int) (ht : F_siphash_Tag key1 (hz i x y q life n u) 4 = some ([t0, t1, t2, t3], true)) : F_guard_Open (gY i) (fs i x y q life n u [t0, t1, t2, t3]) = some (gY ((i : Int) + 1), 0) := by
  unfold F_guard_Open
  refine bind_of (gY_valid i (by omega)) (bifT rfl ?_)
  refine bind_of (fs_valid i x y q life n u t0 t1 t2 t3) (bifT rfl (bifT rfl ?_))
  refine bind_of (v := (key1, true)) (by kernel_rfl) (bifT rfl ?_)
  refine bind_of (header_s i hi x y q life n u t0 t1 t2 t3) ?_
  refine bind_of (v := true) ?_ (bifT rfl ?_)
  · unfold F_siphash_Verify
    exact bind_of ht (bifT rfl (bind_of (bytes_refl _) rfl))
  refine bind_of (v := ()) (by kernel_rfl) ?_
  refine bind_of (v := gY i) (by kernel_rfl) ?_
  refine bifT rfl (bind_of (v := S_Peer.mk (devN 0) 1 i 4294967295) rfl (bifT (by kernel_rfl) ?_))
  refine bind_of (v := S_Peer.mk (devN 0) 1 i 4294967295) rfl (bifT (by kernel_rfl) ?_)
  refine bind_of (v := S_Peer.mk (devN 0) 1 i 4294967295) rfl ?_
  refine bind_of (v := (S_Peer.mk (devN 0) 1 (1 + (i : Int)) 4294967295, 0)) ?_ (bifF rfl ?_)
  · rcases i with _ | _ | _ | _ | _ | _ | _ | _ | i
    all_goals first | (exfalso; omega) | kernel_rfl
  refine bind_of (v := S_Peer.mk (devN 0) 1 i 4294967295) rfl (bind_of (v := S_Peer.mk (devN 0) 1 i 4294967295) rfl ?_)
  rw [show (i : Int) + 1 = 1 + (i : Int) by omega]
  rfl
/-- sealed and opened -/
theorem hop (i : Nat) (hi : i < 8) (x y q life n u : Int) : ∃ b, F_top_sealed (gX i) 0 1 [zB x y q life n u] = some (gX ((i : Int) + 1), [b], true) ∧ F_top_opened (gY i) b = some (gY ((i : Int) + 1), zB x y q life n u, true) := by
  obtain ⟨t0, t1, t2, t3, ht, hs⟩ := seal_s i hi x y q life n u
  obtain ⟨v, hv⟩ := crc_ex (l := hz i x y q life n u ++ [t0, t1, t2, t3]) (by show (89 : Nat) ≤ 1000; omega)
  refine ⟨bs i x y q life n u t0 t1 t2 t3 v, ?_, ?_⟩
  · unfold F_top_sealed
    refine bind_of (v := ([bs i x y q life n u t0 t1 t2 t3 v], gX ((i : Int) + 1))) ?_ rfl
    rw [loop_next (step := F_top_sealed_l1 [zB x y q life n u] 1 0) (s' := ([bs i x y q life n u t0 t1 t2 t3 v], 1, gX ((i : Int) + 1))) (by
      unfold F_top_sealed_l1
      refine bifT rfl (bind_of dev1 (bind_of dev0 (bind_of (v := zB x y q life n u) rfl ?_)))
      refine bind_of (show F_guard_Seal (gX i) (fr x y q life n u) 1 = _ from hs) ?_
      exact bind_of (fenc i hi x y q life n u t0 t1 t2 t3 hv) (bifF rfl (bifF rfl (bind_of (v := [bs i x y q life n u t0 t1 t2 t3 v]) (by kernel_rfl) rfl))))]
    exact loop_done rfl
  · unfold F_top_opened
    exact bind_of (fdec i hi x y q life n u t0 t1 t2 t3 hv) (bifF rfl (bind_of (open_s i hi x y q life n u t0 t1 t2 t3 ht) (bifF rfl rfl)))
end
section
open Go.RowKit

structure TapeOk (t : S_multihopmade_Tape) : Prop where
  at0 : 0 ≤ t.at_
  at1 : t.at_ ≤ t.l.length
  len : t.l.length ≤ 400
theorem new_spec (l : List Int) : ∃ t, F_made_New l = some t ∧ TapeOk t := by
  unfold F_made_New F_made_New_j1
  by_cases h : (l.length : Int) > 400
  · rw [decT h, subO_some (by omega) (by omega) (by omega)]
    exact ⟨_, rfl, by simp, by simp, by simp; omega⟩
  · rw [decF h]
    exact ⟨_, rfl, by simp, by simp, by simp; omega⟩
theorem rem_spec (x n : Int) (h1 : 1 ≤ n) (h2 : n ≤ 4611686018427387904) : -4611686018427387904 < Int.tmod x n ∧ Int.tmod x n < n ∧ -n < Int.tmod x n := by
  have a := Int.tmod_lt_of_pos x (show 0 < n by omega)
  have b := Int.lt_tmod_of_pos x (show 0 < n by omega)
  omega
theorem next_spec {t : S_multihopmade_Tape} (h : TapeOk t) (n : Int) (h1 : 1 ≤ n) (h2 : n ≤ 4611686018427387904) : ∃ v t', F_made_Tape_Next t n = some (v, t') ∧ 0 ≤ v ∧ v < n ∧ TapeOk t' := by
  unfold F_made_Tape_Next F_made_Tape_Next_j1
  have a0 := h.at0
  have a1 := h.at1
  have a2 := h.len
  by_cases hc : t.at_ ≥ (t.l.length : Int)
  · rw [decT hc]
    exact ⟨0, t, rfl, by omega, by omega, h⟩
  · rw [decF hc, idx_int a0 (by omega)]
    simp only [cond_false, Option.bind_some, show decide (n ≠ 0) = true by simp; omega, cond_true]
    obtain ⟨r1, r2, r3⟩ := rem_spec (t.l[t.at_.toNat]'(by omega)) n h1 h2
    generalize Int.tmod (t.l[t.at_.toNat]'(by omega)) n = q at *
    have ew : IntKind.wrap .i64 (t.at_ + 1) = t.at_ + 1 := wi (by omega) (by omega)
    have hok : TapeOk ⟨t.l, t.at_ + 1⟩ := ⟨by dsimp only; omega, by dsimp only; omega, h.len⟩
    rw [ew]
    by_cases hq : q < 0
    · rw [decT hq, wi (by omega) (by omega)]
      exact ⟨q + n, _, rfl, by omega, by omega, hok⟩
    · rw [decF hq]
      exact ⟨q, _, rfl, by omega, by omega, hok⟩
end
section
open Go.RowKit
set_option maxRecDepth 100000 in
theorem sane_true : F_top_sane = some true := by kernel_rfl
end
section
open Go.RowKit

theorem addr_refl (a : S_Addr) : S_Addr.eqb a a = true := by unfold S_Addr.eqb; simp
theorem owner_refl (a : S_Owner) : S_Owner.eqb a a = true := by unfold S_Owner.eqb; simp
theorem arr_refl (l : List Int) : arrEq 16 l l = true := by
  unfold arrEq
  simp only [beq_self_eq_true, Bool.true_and]
  rfl
theorem reg_refl (a : S_Registration) : S_Registration.eqb a a = true := by unfold S_Registration.eqb; simp [addr_refl, arr_refl]
theorem owner_pick (v : Int) (h0 : 0 ≤ v) (h1 : v < 256) (k : Int) (k0 : 0 ≤ k) (k1 : k < 6) : ∃ q, idx ([0, 127, 128, 240, 255, IntKind.wrap .u8 v] : List Int) k = some q ∧ 0 ≤ q ∧ q ≤ 255 := by
  rw [wu8 h0 (by omega), idx_int k0 (by show k < 6; omega)]
  refine ⟨_, rfl, ?_⟩
  have h : ∀ z ∈ ([0, 127, 128, 240, 255, v] : List Int), 0 ≤ z ∧ z ≤ 255 := by
    intro z hz
    simp only [List.mem_cons, List.not_mem_nil, or_false] at hz
    omega
  exact h _ (List.getElem_mem _)
theorem l2_spec {K : List S_Registration} (hK : K.length ≤ 100) (a b : Int × Int) : loopO (F_top_TopRegistered_l2 (K, a) (K, b)) 0 = some () := by
  have := loop_run (step := F_top_TopRegistered_l2 (K, a) (K, b)) (S := fun k => (k : Int)) K.length (r := ()) (fun k hk => by
    unfold F_top_TopRegistered_l2
    refine bifT (decT (show (k : Int) < (K.length : Int) by omega)) (bind_of (idx_lt hk) (bind_of (idx_lt hk) (bifT (reg_refl _) ?_)))
    rw [wk k (by omega)]) (by
    unfold F_top_TopRegistered_l2
    exact bifF (decF (by show ¬ (K.length : Int) < (K.length : Int); omega)) rfl)
  exact this
theorem round_spec {T : List Row} (hT : TabOk T) (i : Nat) (hi : i < 8) {t : S_multihopmade_Tape} (ht : TapeOk t) :
    ∃ T' t', F_top_TopRegistered_l1 (ll0, true) (ll1, true) (T.map reg, (i : Int), t, gX i, gY i) = some (.inl (T'.map reg, (i : Int) + 1, t', gX ((i : Int) + 1), gY ((i : Int) + 1))) ∧ TabOk T' ∧ TapeOk t' := by
  obtain ⟨w, t1, e1, w0, w1, ht1⟩ := next_spec ht 6 (by omega) (by omega)
  obtain ⟨a, t2, e2, a0, a1, ht2⟩ := next_spec ht1 3 (by omega) (by omega)
  obtain ⟨b, t3, e3, b0, b1, ht3⟩ := next_spec ht2 256 (by omega) (by omega)
  obtain ⟨k, t4, e4, k0, k1, ht4⟩ := next_spec ht3 6 (by omega) (by omega)
  obtain ⟨q, e5, q0, q1⟩ := owner_pick b b0 b1 k k0 k1
  obtain ⟨l, t5, e6, l0, l1, ht5⟩ := next_spec ht4 20 (by omega) (by omega)
  obtain ⟨u, rfl⟩ : ∃ u : Nat, w = (u : Int) := ⟨w.toNat, by omega⟩
  obtain ⟨n, rfl⟩ : ∃ n : Nat, a = (n : Int) := ⟨a.toNat, by omega⟩
  have hu : u < 6 := by omega
  have wn : IntKind.wrap .u64 (n : Int) = (n : Int) := wu (by omega) (by omega)
  have wl : IntKind.wrap .u16 l = l := wu16 (by omega) (by omega)
  have w3 : IntKind.wrap .i64 (3 * (i : Int)) = 3 * (i : Int) := wi (by omega) (by omega)
  have w4 : IntKind.wrap .i64 ((i : Int) + 1) = (i : Int) + 1 := wi (by omega) (by omega)
  obtain ⟨x, y, he, hd'⟩ := ndec (n := n) (u := u) q0 q1 l0 (show l ≤ 40 by omega) (by omega) hu
  obtain ⟨bb, hs, ho⟩ := hop i hi x y q l n u
  obtain ⟨T', status, hr, hT'⟩ := regspec hT (n := n) (q := q) (now := IntKind.wrap .i64 (3 * (i : Int))) (life := l) hu q0 q1 (by omega) (by omega) l0 (by omega)
  refine ⟨T', t5, ?_, hT', ht5⟩
  unfold F_top_TopRegistered_l1
  refine bifT (decT (show (i : Int) < 8 by omega)) ?_
  refine bind_of e1 (bind_of (of_ip u hu) (bind_of e2 (bind_of e3 (bind_of e4 (bind_of e5 (bind_of e6 (bind_of dev0 ?_)))))))
  dsimp only
  rw [wn, wl]
  refine bind_of (show F_discovery_Encode (nsN q l n u) ll0 ll1 = _ from he) (bind_of dev0 (bind_of dev1 ?_))
  refine bind_of (show F_compress_Encode (pkt x y q l n u) (devN 0) (devN 1) [] (IntKind.wrap .i64 (3 * (i : Int))) = _ from penc i hi x y q l n u) ?_
  refine bind_of hs (bifF rfl (bifF rfl (bifT rfl ?_)))
  refine bind_of (v := bb) rfl (bind_of ho (bind_of dev0 (bind_of dev1 ?_)))
  refine bind_of (pdec i hi x y q l n u) ?_
  refine bind_of (show F_discovery_Decode (msgB x y q l n u) ll0 ll1 = _ from hd') ?_
  refine bifT rfl (bifF rfl (bifF rfl (bifT (arr_refl _) (bifT (owner_refl _) ?_))))
  refine bind_of (show F_registration_Register (T.map reg) (ipN u) (S_Owner.mk n q 0 l) (devN 0) (IntKind.wrap .i64 (3 * (i : Int))) = _ from hr) (bind_of dev0 ?_)
  refine bind_of hr ?_
  refine bifF rfl (bifF rfl (bifF (by simp) (bifF (by simp) ?_)))
  refine bind_of (valid_spec hT') (bifT rfl ?_)
  refine bind_of (l2_spec (by rw [List.length_map]; have := hT'.len; omega) _ _) ?_
  rw [w4]
theorem topRegistered_true (a0 : List Int) : F_top_TopRegistered a0 = some true := by
  obtain ⟨t, e1, ht⟩ := new_spec a0
  obtain ⟨r, hr, _⟩ := loop_inv (step := F_top_TopRegistered_l1 (ll0, true) (ll1, true)) (fun s => ∃ (T : List Row) (i : Nat) (t : S_multihopmade_Tape), s = (T.map reg, (i : Int), t, gX i, gY i) ∧ TabOk T ∧ i ≤ 8 ∧ TapeOk t) (fun _ => True) (fun s => (8 - s.2.1).toNat) (by
    rintro _ ⟨T, i, t, rfl, hT, hi, ht⟩
    by_cases hlt : i < 8
    · left
      obtain ⟨T', t', g1, g2, g3⟩ := round_spec hT i hlt ht
      exact ⟨_, g1, ⟨T', i + 1, t', rfl, g2, by omega, g3⟩, by dsimp only; omega⟩
    · right
      unfold F_top_TopRegistered_l1
      exact ⟨(), bifF (decF (show ¬ (i : Int) < 8 by omega)) rfl, trivial⟩) ((([] : List Row).map reg), ((0 : Nat) : Int), t, gX ((0 : Nat) : Int), gY ((0 : Nat) : Int)) ⟨[], 0, t, rfl, ⟨by simp, by simp [Srt]⟩, by omega, ht⟩
  unfold F_top_TopRegistered
  refine bind_of e1 (bind_of pair_v (bifT rfl ?_))
  refine bind_of dev0 (bind_of ll_0 (bind_of dev1 (bind_of ll_1 ?_)))
  refine bind_of hr ?_
  exact bind_of sane_true rfl
end
section
open Go.ChangeShapes Go.WideShapes Go.ChangeAt Go.RowKit

def Wt (P : Program) (t : TypeId) {H : Type} (d : DataW H) : Prop := ∀ n ∈ d.weights P t, n ≤ reachBytes
def OpensR (P : Program) (t : TypeId) {α : Type} (f : α → List SC) (wf : α → Prop) : Prop :=
  ∀ (H : Type) (enc : TypeId × Value → H) (W : World) (fuel : Nat) (cs : List Value) (x : DataW H × List MemPlace), DataW.trod enc P W 0 (fun _ => true) true fuel t cs = some x → Wt P t x.1 → ∃ a : α, Seg (rdAll W) cs 0 cs.length (f a) ∧ wf a
theorem Opens.r {P : Program} {t : TypeId} {α : Type} {f : α → List SC} {wf : α → Prop} (h : Opens P t f wf) : OpensR P t f wf := fun H enc W fuel cs x h1 _ => h H enc W fuel cs x h1
def wfR {α : Type} (p : α → Prop) (l : List α) : Prop := l.length ≤ 140737488351232 ∧ ∀ z ∈ l, p z
theorem mem_weightsAll {H : Type} {P : Program} {e : TypeId} : ∀ {l : List (DataW H)} {d : DataW H}, d ∈ l → ∀ n ∈ d.weights P e, n ∈ DataW.weightsAll P e l
  | x :: l, d, h, n, hn => by
    simp only [DataW.weightsAll, List.mem_append]
    rcases List.mem_cons.1 h with rfl | h
    · exact Or.inl hn
    · exact Or.inr (mem_weightsAll h n hn)
theorem wt_of {H : Type} {P : Program} {ts : List TypeId} {ds : List (DataW H)} (h : (DataW.weightsEach P ts ds).all (· ≤ reachBytes) = true) {j : Nat} {t : TypeId} {d : DataW H} (ht : ts[j]? = some t) (hd : ds[j]? = some d) : Wt P t d := fun n hn => by
  have := List.all_eq_true.1 h _ (DataW.weights_mem_each ht hd n hn)
  simpa using this
theorem opens_sliceR {P : Program} {t e : TypeId} {sz : Nat} (ht : P.underlying t = some (.slice e)) (hsz : P.cellsOf e = sz) {α : Type} {f : α → List SC} {wf : α → Prop} (hop : OpensR P e f wf) (hlen : ∀ a, (f a).length = sz) (hpos : decide (0 < sz) = true) (hby : decide (0 < P.bytesOf e) = true) : OpensR P t (ecS sz f) (wfR wf) := by
  intro H enc W fuel cs x h hw
  have hb := of_decide_eq_true hby
  have hp := of_decide_eq_true hpos
  rcases DataW.trod_slice ht h with ⟨rfl, _⟩ | ⟨a, len, cap, elems, rest, m, _, rfl, rfl, _, hlc, hcm, hel, hg, _⟩
  · refine ⟨[], ⟨rfl, fun j y hy => ?_⟩, by simp, fun z hz => absurd hz (by simp)⟩
    rcases j with _ | j
    · simp only [ecS, List.map_nil, List.getElem?_cons_zero, Option.some.injEq] at hy
      subst hy
      exact ⟨_, rfl, .nil _ _ _ (by decide)⟩
    · simp [ecS] at hy
  · have e0 : DataW.weights P t (.slice (elems.map (·.1)) (rest.map (·.1)) : DataW H) = (((elems.map (·.1)).length + (rest.map (·.1)).length) * P.bytesOf e :: (DataW.weightsAll P e (elems.map (·.1)) ++ DataW.weightsAll P e (rest.map (·.1)))) := by simp [DataW.weights, ht]
    have hlen' : len ≤ 140737488351232 := by
      have h2 := hw (((elems.map (·.1)).length + (rest.map (·.1)).length) * P.bytesOf e) (by rw [e0]; exact List.mem_cons_self)
      have h3 : len * 1 ≤ ((elems.map (·.1)).length + (rest.map (·.1)).length) * P.bytesOf e := Nat.mul_le_mul (by rw [List.length_map, hel]; omega) hb
      have h4 : reachBytes = 140737488351232 := rfl
      omega
    have key : ∀ i, i < len → ∃ (us : List Value) (b : α), W.cells? 0 (a.add (i * sz)) sz = some us ∧ Seg (rdAll W) us 0 us.length (f b) ∧ wf b := by
      intro i hi
      have h1 := hg i hi
      rw [hsz] at h1
      obtain ⟨y, hy⟩ : ∃ y, elems[i]? = some y := ⟨_, List.getElem?_eq_getElem (by omega)⟩
      rw [hy] at h1
      obtain ⟨us, k1, k2⟩ := Option.bind_eq_some_iff.1 h1
      obtain ⟨b, k3, k4⟩ := hop H enc W m us y k2 (fun n hn => hw n (by
        rw [e0]
        exact List.mem_cons_of_mem _ (List.mem_append_left _ (mem_weightsAll (d := y.1) (List.mem_map.2 ⟨y, List.mem_of_getElem? hy, rfl⟩) n hn))))
      exact ⟨us, b, k1, k3, k4⟩
    have key2 : ∃ l : List α, l.length = len ∧ ∀ i b, l[i]? = some b → wf b ∧ ∃ us, W.cells? 0 (a.add (i * sz)) sz = some us ∧ Seg (rdAll W) us 0 us.length (f b) := by
      have : ∀ q, q ≤ len → ∃ l : List α, l.length = q ∧ ∀ i b, l[i]? = some b → wf b ∧ ∃ us, W.cells? 0 (a.add (i * sz)) sz = some us ∧ Seg (rdAll W) us 0 us.length (f b) := by
        intro q
        induction q with
        | zero => exact fun _ => ⟨[], rfl, fun i b hb => by simp at hb⟩
        | succ q ih =>
          intro hq
          obtain ⟨l, hl, hall⟩ := ih (by omega)
          obtain ⟨us, b, k1, k2, k3⟩ := key q (by omega)
          refine ⟨l ++ [b], by simp [hl], fun i c hc => ?_⟩
          by_cases hi : i < l.length
          · rw [List.getElem?_append_left hi] at hc
            exact hall i c hc
          · rw [List.getElem?_append_right (by omega)] at hc
            have hi0 : i - l.length = 0 := by
              have := (List.getElem?_eq_some_iff.1 hc).1
              simp at this
              omega
            rw [hi0] at hc
            cases hc
            have : i = q := by omega
            subst this
            exact ⟨k3, us, k1, k2⟩
      exact this len (Nat.le_refl _)
    obtain ⟨l, hl, hall⟩ := key2
    refine ⟨l, ⟨rfl, fun j y hy => ?_⟩, by omega, fun z hz => ?_⟩
    · rcases j with _ | j
      · simp only [ecS, List.getElem?_cons_zero, Option.some.injEq] at hy
        subst hy
        refine ⟨_, rfl, ?_⟩
        rw [hl]
        by_cases hz : len = 0
        · subst hz
          have : l = [] := List.eq_nil_of_length_eq_zero hl
          subst this
          exact .nil _ _ _ hcm
        · obtain ⟨b0, hb0⟩ : ∃ b, l[0]? = some b := ⟨_, List.getElem?_eq_getElem (by omega)⟩
          obtain ⟨_, us0, k0, _⟩ := hall 0 b0 hb0
          obtain ⟨hlen0, _, hc0⟩ := World.cells?_some k0
          have hcell0 := hc0 0 (by omega)
          obtain ⟨bl, off, spot⟩ := a
          have hspot : spot = none := by
            obtain ⟨z, hz0⟩ : ∃ z, us0[0]? = some z := ⟨_, List.getElem?_eq_getElem (by omega)⟩
            rw [hz0] at hcell0
            simpa [Addr.add] using World.cell?_spot hcell0
          subst hspot
          have cellAt : ∀ i b, l[i]? = some b → ∀ j y, (f b)[j]? = some y → ∃ u, W.cell? ⟨bl, off + i * sz + j, none⟩ = some u ∧ IRel (rdAll W) u y := by
            intro i b hb j y hy
            obtain ⟨_, us, k1, k2⟩ := hall i b hb
            obtain ⟨hlen1, _, hc1⟩ := World.cells?_some k1
            obtain ⟨u, q1, q2⟩ := k2.2 j y hy
            rw [Nat.zero_add] at q1
            have hj : j < sz := by have := (List.getElem?_eq_some_iff.1 hy).1; rw [hlen b] at this; exact this
            have := hc1 j (by omega)
            rw [q1] at this
            refine ⟨u, ?_, q2⟩
            rw [Addr.add_mid, Addr.add_mid] at this
            exact this
          refine .slc bl off len cap sz (l.map f) (fun i j => (W.cell? ⟨bl, off + i * sz + j, none⟩).getD (.bool false)) (by simp [hl]) hlc hcm ?_ ?_ ?_
          · intro x hx
            obtain ⟨b, _, rfl⟩ := List.mem_map.1 hx
            exact hlen b
          · intro i x j y hx hy
            rw [List.getElem?_map] at hx
            obtain ⟨b, hb, rfl⟩ := Option.map_eq_some_iff.1 hx
            obtain ⟨u, q1, _⟩ := cellAt i b hb j y hy
            simp only [rdAll, q1, Option.getD_some]
          · intro i x j y hx hy
            rw [List.getElem?_map] at hx
            obtain ⟨b, hb, rfl⟩ := Option.map_eq_some_iff.1 hx
            obtain ⟨u, q1, q2⟩ := cellAt i b hb j y hy
            simp only [q1, Option.getD_some]
            exact q2
      · simp [ecS] at hy
    · obtain ⟨i, hi⟩ := List.getElem?_of_mem hz
      exact (hall i z hi).1

/-- a single cell as an argument -/
theorem open_cellR {P : Program} {t : TypeId} {H : Type} {enc : TypeId × Value → H} {W : World} {v : Value} {d : DataW H} {p : List MemPlace} {α : Type} {f : α → List SC} {wf : α → Prop} {c : α → SC} (hop : OpensR P t f wf) (hc : ∀ a, f a = [c a]) (hv : v.cells = #[v]) (h : DataW.Trod enc P W 0 (fun _ => true) true t v d p) (hw : Wt P t d) : ∃ a, VRel (rdAll W) env0 v (.c (c a)) ∧ wf a := by
  obtain ⟨fuel, hf⟩ := h
  obtain ⟨a, hs, hw2⟩ := hop H enc W fuel _ _ hf hw
  rw [hv] at hs
  refine ⟨a, ?_, hw2⟩
  obtain ⟨u, k1, k2⟩ := hs.2 0 (c a) (by rw [hc]; rfl)
  simp at k1
  subst k1
  exact k2.c
/-- a slice as an argument -/
theorem open_slcR {P : Program} {t e : TypeId} {H : Type} {enc : TypeId × Value → H} {W : World} {v : Value} {d : DataW H} {p : List MemPlace} {r : Reach} {b0 : Nat} {α : Type} {sz : Nat} {f : α → List SC} {wf : List α → Prop} (hop : OpensR P t (ecS sz f) wf) (ht : P.underlying t = some (.slice e))
    (hv : Value.okWide P W r b0 t v) (h : DataW.Trod enc P W 0 (fun _ => true) true t v d p) (hw : Wt P t d) : ∃ a, VRel (rdAll W) env0 v (.c (eS sz f a)) ∧ wf a := by
  obtain ⟨a0, len, cap, rfl⟩ := okWide_slice ht hv
  exact open_cellR hop (fun a => rfl) rfl h hw
end
section
open Go.ChangeShapes Go.WideShapes Go.ChangeAt Go.RowKit

set_option maxRecDepth 100000 in
theorem topRegistered_lifted (hF : ∀ (a0 : List Int), wfR (wfI .i64) a0 → F_top_TopRegistered a0 = some true) (os : Os) (started : os.Started) (H : Type) (enc : TypeId × Value → H) :
    ReturnsInHanded {} Tryz.checked os 4 .any (Rows.topRegisteredSpec.pre6 enc Tryz.prog Tryz.f4 Rows.topRegisteredRow.domain false) (Rows.topRegisteredSpec.post enc Tryz.prog Tryz.f4 false true false false) := by
  refine returnsInHanded_of_change_sized (C := Tryz.checked) own started (by kernel_rfl) Tryz.func4
    (ChangeSpec.witness6 (enc := enc) (C := Tryz.checked) false ⟨#[], #[.slice none 0 0], []⟩ 8 (by kernel_rfl) (by kernel_rfl) (by kernel_rfl) (by kernel_rfl)) ?_
  intro W base args ds gs before hval0 hW hcnd hsz0 _
  have hval : ∀ (j : Nat) t v, Tryz.f4.params[j]? = some t → args[j]? = some v → Value.okWide Tryz.prog W .any base t v := hval0
  have hW' := hW
  obtain ⟨p, q, hA0, hV, rfl, hfz, hnd⟩ := hW
  have hA : DataW.TrodAll enc Tryz.prog W 0 (fun _ => true) true Tryz.f4.params.toList args.toList ds p := hA0
  have hAll := hA
  rw [Tryz.params4] at hA hval hAll
  obtain ⟨v0, vs0, d0, ds0, p0, q0, hargs, rfl, rfl, h0, r0⟩ := trodAll_cons hA
  obtain ⟨rfl, rfl, rfl⟩ := trodAll_nil r0
  obtain rfl : args = #[v0] := by cases args; simp_all
  obtain ⟨rfl, rfl⟩ := trodVars_none hV
  obtain ⟨x0, hR0, w0⟩ := open_slcR (opens_sliceR (sz := 1) Tryz.underlying22 (by kernel_rfl) (opens_int (k := .i64) Tryz.underlying3).r (fun _ => by kernel_rfl) (by kernel_rfl) (by kernel_rfl)) Tryz.underlying22 (hval 0 22 v0 rfl rfl) h0 (wt_of hsz0 (j := 0) (by kernel_rfl) rfl)
  clear hA0 hval0 hsz0
  refine (con_true (us := [v0]) (ok_top_TopRegistered x0 true (hF x0 w0)) ⟨hR0, trivial⟩).mono fun e W' ⟨he, hx⟩ => ?_
  subst he
  have bel := hx.below
  exact ⟨_, rfl, _, _, _, [], _, [], hW', trodAll_mk1 (shut_bool Tryz.underlying4 _), trodAll_below laidOut bel (by kernel_rfl) hAll, rfl, bel.frame _, fun h => by cases h⟩

theorem topRegistered_of (hF : ∀ (a0 : List Int), wfR (wfI .i64) a0 → F_top_TopRegistered a0 = some true) : Rows.TopRegisteredSaid :=
  OpenClaim.holds_of_wide 4 Tryz.f4 rfl rfl rfl rfl rfl rfl rfl ⟨rfl, rfl, rfl, rfl, rfl⟩ rfl rfl rfl rfl rfl (by kernel_rfl) Tryz.func4 (by kernel_rfl)
    (of_decide_eq_true (by kernel_rfl)) (by unfold Func.isWrapper; first | (rw [if_pos (by decide +kernel)]; kernel_rfl) | (rw [if_neg (by decide +kernel)]; exact ⟨rfl, rfl⟩))
    (fun os started H enc _ => topRegistered_lifted hF os started H enc)
end
section
open Go.RowKit
theorem topRegistered_holds : Rows.TopRegisteredSaid := topRegistered_of fun a0 _ => topRegistered_true a0
end
end Go.Proofs.YtplihihjfjmbfaaGreat
