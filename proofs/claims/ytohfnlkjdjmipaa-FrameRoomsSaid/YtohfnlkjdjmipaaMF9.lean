/-
  Which frames are valid, for all frames of the sizes that arguments have: the program and the reference agree.
-/
import Derived.Test.YtohfnlkjdjmipaaMF6
namespace Go.Proofs.Ytohfnlkjdjmipaa
open Go.RowKit

theorem bF {a b : Int} (h : a ≠ b) : (a == b) = false := beq_eq_false_iff_ne.2 h
theorem bT {a b : Int} (h : a = b) : (a == b) = true := beq_iff_eq.2 h
structure AdrWf (a : S_Addr) : Prop where
  short : 0 ≤ a.Short ∧ a.Short ≤ 65535
  eui : 0 ≤ a.EUI ∧ a.EUI ≤ 18446744073709551615
instance (a : S_Addr) : Decidable (AdrOk a) := by unfold AdrOk; infer_instance
instance (a : S_Addr) : Decidable (bcast a) := by unfold bcast; infer_instance
structure WfF (f : S_Frame) : Prop where
  seq : 0 ≤ f.Seq ∧ f.Seq ≤ 255
  pan : 0 ≤ f.Pan ∧ f.Pan ≤ 65535
  dst : AdrWf f.Dst
  src : AdrWf f.Src
  cnt : 0 ≤ f.Counter ∧ f.Counter ≤ 4294967295
  key : 0 ≤ f.Key ∧ f.Key ≤ 255
  pay : okB f.Payload
  payl : f.Payload.length ≤ 140737488351232
  mic : okB f.MIC
  micl : f.MIC.length ≤ 140737488351232
/-- what the place of a frame allows: the length may be counted, the header may be built -/
structure HdOk (f : S_Frame) : Prop where
  wf : WfF f
  kind : f.Kind = 1 ∨ f.Kind = 3
  dst : AdrOk f.Dst
  src : AdrOk f.Src
theorem HdOk.k2 {f : S_Frame} (h : HdOk f) : f.Kind ≠ 2 := by have := h.kind; omega
theorem avalid_not {a : S_Addr} (w : AdrWf a) (h : ¬ AdrOk a) : F_address_Valid a = some false ∨ (F_address_Valid a = some true ∧ a.Mode = 0) := by
  have h1 := w.short
  have h2 := w.eui
  unfold F_address_Valid
  by_cases m0 : a.Mode = 0
  · rw [m0]
    cases S_Addr.eqb a (S_Addr.mk 0 0 0)
    · exact Or.inl rfl
    · exact Or.inr ⟨rfl, rfl⟩
  refine Or.inl ?_
  rw [bF m0]
  by_cases m2 : a.Mode = 2
  · have : a.EUI ≠ 0 := fun e => h (Or.inl ⟨m2, e, h1⟩)
    rw [bT m2, bF this]; rfl
  by_cases m3 : a.Mode = 3
  · have : a.Short ≠ 0 := fun e => h (Or.inr ⟨m3, e, h2⟩)
    rw [bF m2, bT m3, bF this]; rfl
  · rw [bF m2, bF m3]; rfl
theorem ravalid_not {a : S_Addr} (w : AdrWf a) (h : ¬ AdrOk a) : F_ref04_Some a = some false := by
  have h1 := w.short
  have h2 := w.eui
  unfold F_ref04_Some F_ref04_Valid
  by_cases m0 : a.Mode = 0
  · rw [m0]
    cases a.Short == 0
    · rfl
    · cases a.EUI == 0 <;> rfl
  rw [bF m0]
  by_cases m2 : a.Mode = 2
  · have : a.EUI ≠ 0 := fun e => h (Or.inl ⟨m2, e, h1⟩)
    rw [bT m2, bF this]; rfl
  by_cases m3 : a.Mode = 3
  · have : a.Short ≠ 0 := fun e => h (Or.inr ⟨m3, e, h2⟩)
    rw [bF m2, bT m3, bF this]; rfl
  · rw [bF m2, bF m3]; rfl
theorem abc_yes {a : S_Addr} (w : AdrOk a) (h : bcast a) : F_address_IsBroadcast a = some true := by
  unfold F_address_IsBroadcast S_Addr.eqb
  rcases w with w | w
  · rw [h.1, h.2, w.2.1]; rfl
  · have := h.1; omega
theorem rabc_yes {a : S_Addr} (w : AdrOk a) (h : bcast a) : F_ref04_IsBroadcast a = some true := by
  unfold F_ref04_IsBroadcast
  rw [r_avalid w, h.1, h.2]; rfl
theorem rone_no {a : S_Addr} (w : AdrOk a) (h : bcast a) : F_ref04_One a = some false := by
  unfold F_ref04_One
  rw [r_some w, rabc_yes w h]; rfl
theorem rone_not {a : S_Addr} (w : AdrWf a) (h : ¬ AdrOk a) : F_ref04_One a = some false := by
  unfold F_ref04_One
  rw [ravalid_not w h]; rfl
theorem len_any {f : S_Frame} (h : HdOk f) : F_frame_length f = some (lenF f) ∧ 0 ≤ lenF f ∧ lenF f ≤ 281474976702600 := by
  have hp := h.wf.payl
  have hm := h.wf.micl
  unfold F_frame_length F_frame_length_j1 F_frame_length_j2 lenF
  rw [show (f.Kind != 2) = true by simp [h.k2], if_neg h.k2, f_addrBytes h.dst, f_addrBytes h.src]
  simp only [cond_true, Option.bind_some]
  generalize ea : (if f.Dst.Mode = 2 then (2 : Int) else 8) = x
  generalize eb : (if f.Src.Mode = 2 then (2 : Int) else 8) = y
  have hx : 0 ≤ x ∧ x ≤ 8 := by rw [← ea]; split <;> omega
  have hy : 0 ≤ y ∧ y ≤ 8 := by rw [← eb]; split <;> omega
  rw [wi (x := 3 + (f.Payload.length : Int)) (by omega) (by omega), wi (x := 3 + (f.Payload.length : Int) + 2) (by omega) (by omega), wi (x := 2 + x) (by omega) (by omega), wi (x := 2 + x + y) (by omega) (by omega), wi (x := 3 + (f.Payload.length : Int) + 2 + (2 + x + y)) (by omega) (by omega)]
  cases f.Secure
  · simp only [cond_false]
    exact ⟨by congr 1; omega, by omega, by omega⟩
  · simp only [cond_true]
    rw [wi (x := 5 + (f.MIC.length : Int)) (by omega) (by omega), wi (by omega) (by omega)]
    exact ⟨rfl, by omega, by omega⟩
theorem secs_len (f : S_Frame) : ((secs f).length : Int) = (bif f.Secure then 5 else 0) := by
  unfold secs
  cases f.Secure
  · rfl
  · simp only [cond_true, List.length_append, beB_len, List.length_singleton]; rfl
theorem lenF_hd {f : S_Frame} (h : HdOk f) (hm : f.Secure = false → f.MIC.length = 0) : lenF f = ((hdL f).length : Int) + f.MIC.length + 2 := by
  have hs := secs_len f
  have ha : ((adrs f).length : Int) = 2 + (if f.Dst.Mode = 2 then 2 else 8) + (if f.Src.Mode = 2 then 2 else 8) := by
    unfold adrs
    rw [if_neg h.k2]
    simp only [List.length_append, beB_len, adrL_len]
    split <;> split <;> rfl
  unfold lenF hdL
  rw [if_neg h.k2]
  simp only [List.length_append, hd3_len]
  cases hc : f.Secure
  · rw [hc] at hs
    simp only [cond_false] at hs ⊢
    have := hm hc
    omega
  · rw [hc] at hs
    simp only [cond_true] at hs ⊢
    omega
/-- the rule for the security -/
def secB (f : S_Frame) : Bool := bif f.Secure then (f.MIC.length : Int) == 4 else ((f.Counter == 0) && ((f.Key == 0) && ((f.MIC.length : Int) == 0)))
noncomputable def tailF (f : S_Frame) : Option Bool := bif f.Secure then
                    bif ((List.length f.MIC : Int) != 4) then
                      some (false)
                    else
                      (F_frame_length f).bind fun v14 =>
                      some ((decide (v14 ≤ 127)))
                  else
                    bif (f.Counter != 0) then
                      some (false)
                    else
                      bif (f.Key != 0) then
                        some (false)
                      else
                        bif ((List.length f.MIC : Int) != 0) then
                          some (false)
                        else
                          (F_frame_length f).bind fun v18 =>
                          some ((decide (v18 ≤ 127)))
noncomputable def tailR (f : S_Frame) : Option Bool := bif f.Secure then
              bif ((List.length f.MIC : Int) != 4) then
                some (false)
              else
                (F_ref05_header f).bind fun v21 =>
                some ((decide ((IntKind.wrap .i64 ((IntKind.wrap .i64 ((List.length v21 : Int) + (List.length f.MIC : Int))) + 2)) ≤ 127)))
            else
              bif (f.Counter != 0) then
                some (false)
              else
                bif (f.Key != 0) then
                  some (false)
                else
                  bif ((List.length f.MIC : Int) != 0) then
                    some (false)
                  else
                    (F_ref05_header f).bind fun v25 =>
                    some ((decide ((IntKind.wrap .i64 ((IntKind.wrap .i64 ((List.length v25 : Int) + (List.length f.MIC : Int))) + 2)) ≤ 127)))
theorem tailF_eq {f : S_Frame} (h : HdOk f) : tailF f = some (secB f && decide (lenF f ≤ 127)) := by
  unfold tailF secB
  rw [(len_any h).1]
  simp only [Option.bind_some, bne]
  cases f.Secure
  · cases f.Counter == 0
    · rfl
    · cases f.Key == 0
      · rfl
      · cases (f.MIC.length : Int) == 0 <;> simp
  · cases (f.MIC.length : Int) == 4 <;> simp
theorem r_j1' {f : S_Frame} (h : HdOk f) (l : List Int) (hl : l.length ≤ 100) : F_ref05_header_j1 f l = some (l ++ secs f ++ f.Payload) := by
  have hp := h.wf.payl
  unfold F_ref05_header_j1 F_ref05_header_j2 secs
  cases hs : f.Secure
  · simp only [cond_false, Cut.app, List.append_nil]
    rw [appO_some (by omega) (by omega)]; rfl
  · obtain ⟨c0, c1⟩ := h.wf.cnt
    simp only [cond_true, Cut.app]
    rw [wu (x := f.Counter) c0 (by omega), rc4 l f.Counter (by omega), Option.bind_some, appO_some (by simp only [List.length_append, beB_len, List.length_singleton]; omega) (by simp only [List.length_append, beB_len, List.length_singleton]; omega), Option.bind_some, appO_some (by simp only [List.length_append, beB_len, List.length_singleton]; omega) (by simp only [List.length_append, beB_len, List.length_singleton]; omega), Option.bind_some, List.append_assoc l]
theorem r_header' {f : S_Frame} (h : HdOk f) : F_ref05_header f = some (hdL f) := by
  unfold F_ref05_header
  have p0 := h.wf.pan
  have l1 := adrL_le f.Dst
  have l2 := adrL_le f.Src
  rw [r_flag, r_flag, r_flag]
  simp only [Option.bind_some]
  rw [r_byte0 _ _ _ _ (h.kind.elim Or.inl fun e => Or.inr (Or.inr e)), r_byte1 _ _ (adr_mode h.dst) (adr_mode h.src), show (f.Kind != 2) = true by simp [h.k2]]
  simp only [cond_true]
  rw [wu (x := f.Pan) p0.1 (by omega), rc2 _ f.Pan (by simp), Option.bind_some, r_adr _ h.dst (by simp [beB_len]), Option.bind_some, r_adr _ h.src (by simp only [List.length_append, List.length_cons, List.length_nil, beB_len]; omega), Option.bind_some, r_j1' h _ (by simp only [List.length_append, List.length_cons, List.length_nil, beB_len]; omega)]
  unfold hdL adrs hd3
  rw [if_neg h.k2]
  simp only [List.append_assoc]
theorem tailR_eq {f : S_Frame} (h : HdOk f) : tailR f = some (secB f && decide (lenF f ≤ 127)) := by
  have hm := h.wf.micl
  have hh := hd_le f
  have hp := h.wf.payl
  have key : (f.Secure = false → f.MIC.length = 0) → decide ((IntKind.wrap .i64 ((IntKind.wrap .i64 ((List.length (hdL f) : Int) + (List.length f.MIC : Int))) + 2)) ≤ 127) = decide (lenF f ≤ 127) := fun e => by
    rw [wi (x := ((hdL f).length : Int) + (f.MIC.length : Int)) (by omega) (by omega), wi (by omega) (by omega), lenF_hd h e]
  unfold tailR secB
  rw [r_header' h]
  simp only [Option.bind_some, bne]
  cases hs : f.Secure
  · cases f.Counter == 0
    · rfl
    · cases f.Key == 0
      · rfl
      · cases hz : (f.MIC.length : Int) == 0
        · rfl
        · rw [key (fun _ => by have := eq_of_beq hz; omega)]; rfl
  · cases (f.MIC.length : Int) == 4
    · rfl
    · rw [key (fun e => by rw [hs] at e; cases e)]; rfl
/-- the rule for data and commands -/
def dataB (f : S_Frame) : Bool := decide (AdrOk f.Dst ∧ AdrOk f.Src ∧ ¬ bcast f.Src ∧ (f.AckRequest = true → ¬ bcast f.Dst)) && (secB f && decide (lenF f ≤ 127))
theorem dataB_of {f : S_Frame} (d : AdrOk f.Dst) (s : AdrOk f.Src) (n : ¬ bcast f.Src) (a : f.AckRequest = true → ¬ bcast f.Dst) : dataB f = (secB f && decide (lenF f ≤ 127)) := by
  unfold dataB
  rw [decide_eq_true (show AdrOk f.Dst ∧ AdrOk f.Src ∧ ¬ bcast f.Src ∧ (f.AckRequest = true → ¬ bcast f.Dst) from ⟨d, s, n, a⟩), Bool.true_and]
theorem dataB_not {f : S_Frame} (h : ¬ (AdrOk f.Dst ∧ AdrOk f.Src ∧ ¬ bcast f.Src ∧ (f.AckRequest = true → ¬ bcast f.Dst))) : dataB f = false := by
  unfold dataB
  rw [decide_eq_false h, Bool.false_and]
theorem vdata_eq {f : S_Frame} (w : WfF f) (hk : f.Kind = 1 ∨ f.Kind = 3) : F_frame_validData f = some (dataB f) := by
  have e : F_frame_validData f = ((F_address_Valid f.Dst).bind fun v1 => bif v1 then bif (f.Dst.Mode == 0) then some false else (F_address_Valid f.Src).bind fun v4 => bif v4 then bif (f.Src.Mode == 0) then some false else (F_address_IsBroadcast f.Src).bind fun v7 => bif v7 then some false else bif f.AckRequest then (F_address_IsBroadcast f.Dst).bind fun v10 => bif v10 then some false else tailF f else tailF f else some false else some false) := rfl
  rw [e]
  by_cases d : AdrOk f.Dst
  · by_cases s : AdrOk f.Src
    · rw [f_avalid d, f_avalid s, f_amode d, f_amode s, tailF_eq ⟨w, hk, d, s⟩]
      simp only [Option.bind_some, cond_true, cond_false]
      by_cases n : bcast f.Src
      · rw [abc_yes s n, dataB_not (fun q => q.2.2.1 n)]; rfl
      · rw [f_abc n]
        simp only [Option.bind_some, cond_false]
        cases ha : f.AckRequest
        · rw [dataB_of d s n (fun e => by rw [ha] at e; cases e)]; rfl
        · by_cases b : bcast f.Dst
          · rw [abc_yes d b, dataB_not (fun q => q.2.2.2 ha b)]; rfl
          · rw [f_abc b, dataB_of d s n (fun _ => b)]; rfl
    · rw [f_avalid d, f_amode d, dataB_not (fun q => s q.2.1)]
      simp only [Option.bind_some, cond_true, cond_false]
      rcases avalid_not w.src s with q | ⟨q, q2⟩
      · rw [q]; rfl
      · rw [q, q2]; rfl
  · rw [dataB_not (fun q => d q.1)]
    rcases avalid_not w.dst d with q | ⟨q, q2⟩
    · rw [q]; rfl
    · rw [q, q2]; rfl
theorem rdata_eq {f : S_Frame} (w : WfF f) (hk : f.Kind = 1 ∨ f.Kind = 3) : F_ref05_Valid_j1 f true = some (dataB f) := by
  have e : F_ref05_Valid_j1 f true = ((F_ref04_Some f.Dst).bind fun v12 => bif v12 then (F_ref04_One f.Src).bind fun v14 => bif v14 then bif f.AckRequest then (F_ref04_IsBroadcast f.Dst).bind fun v17 => bif v17 then some false else tailR f else tailR f else some false else some false) := rfl
  rw [e]
  by_cases d : AdrOk f.Dst
  · by_cases s : AdrOk f.Src
    · rw [r_some d, tailR_eq ⟨w, hk, d, s⟩]
      simp only [Option.bind_some, cond_true]
      by_cases n : bcast f.Src
      · rw [rone_no s n, dataB_not (fun q => q.2.2.1 n)]; rfl
      · rw [r_one s n]
        simp only [Option.bind_some, cond_true]
        cases ha : f.AckRequest
        · rw [dataB_of d s n (fun e => by rw [ha] at e; cases e)]; rfl
        · by_cases b : bcast f.Dst
          · rw [rabc_yes d b, dataB_not (fun q => q.2.2.2 ha b)]; rfl
          · rw [r_abc d b, dataB_of d s n (fun _ => b)]; rfl
    · rw [r_some d, rone_not w.src s, dataB_not (fun q => s q.2.1)]; rfl
  · rw [dataB_not (fun q => d q.1), ravalid_not w.dst d]; rfl
noncomputable def validB (f : S_Frame) : Bool := bif f.Kind == 2 then (F_frame_validAck f).getD false else bif (f.Kind == 1) || (f.Kind == 3) then dataB f else false
theorem ack_some (f : S_Frame) : F_frame_validAck f = some ((F_frame_validAck f).getD false) := by
  unfold F_frame_validAck
  cases f.AckRequest <;> cases f.Secure <;> cases f.Pan == 0 <;> cases f.Counter == 0 <;> cases f.Key == 0 <;> cases S_Addr.eqb f.Dst (S_Addr.mk 0 0 0) <;> cases S_Addr.eqb f.Src (S_Addr.mk 0 0 0) <;> cases (f.Payload.length : Int) == 0 <;> rfl
theorem f_valid_eq {f : S_Frame} (w : WfF f) : F_frame_Valid f = some (validB f) := by
  unfold F_frame_Valid F_frame_Valid_j1 validB
  by_cases k2 : f.Kind = 2
  · rw [k2, ack_some f]; rfl
  · rw [show (f.Kind == 2) = false by simp [k2]]
    by_cases k1 : f.Kind = 1
    · rw [vdata_eq w (Or.inl k1), k1]; rfl
    · by_cases k3 : f.Kind = 3
      · rw [vdata_eq w (Or.inr k3), k3]; rfl
      · rw [show (f.Kind == 1) = false by simp [k1], show (f.Kind == 3) = false by simp [k3]]; rfl
theorem r_valid_eq {f : S_Frame} (w : WfF f) : F_ref05_Valid f = some (validB f) := by
  have e : F_ref05_Valid f = (bif f.Kind == 2 then F_frame_validAck f else bif f.Kind == 1 then F_ref05_Valid_j1 f true else F_ref05_Valid_j1 f (f.Kind == 3)) := rfl
  rw [e]
  unfold validB
  by_cases k2 : f.Kind = 2
  · rw [k2, ack_some f]; rfl
  · rw [show (f.Kind == 2) = false by simp [k2]]
    by_cases k1 : f.Kind = 1
    · rw [rdata_eq w (Or.inl k1), k1]; rfl
    · by_cases k3 : f.Kind = 3
      · rw [k3]
        rw [show ((3 : Int) == 1) = false by rfl, show ((3 : Int) == 3) = true by rfl, rdata_eq w (Or.inr k3)]; rfl
      · rw [show (f.Kind == 1) = false by simp [k1], show (f.Kind == 3) = false by simp [k3]]; rfl
theorem bifO {b : Bool} {x : Option Bool} (h : (bif b then x else some false) = some true) : b = true ∧ x = some true := by
  cases b
  · cases h
  · exact ⟨rfl, h⟩
theorem bifN {b : Bool} {x : Option Bool} (h : (bif b then some false else x) = some true) : b = false ∧ x = some true := by
  cases b
  · exact ⟨rfl, h⟩
  · cases h
theorem addr_eq {a b : S_Addr} (h : S_Addr.eqb a b = true) : a = b := by
  obtain ⟨a1, a2, a3⟩ := a
  obtain ⟨b1, b2, b3⟩ := b
  unfold S_Addr.eqb at h
  simp only [Bool.and_eq_true, beq_iff_eq] at h
  obtain ⟨rfl, rfl, rfl, _⟩ := h
  rfl
theorem ack_true {f : S_Frame} (k : f.Kind = 2) (h : F_frame_validAck f = some true) : f = S_Frame.mk 2 false f.Pending false f.Seq 0 A00 A00 0 0 [] [] := by
  unfold F_frame_validAck at h
  obtain ⟨e1, h⟩ := bifN h
  obtain ⟨e2, h⟩ := bifN h
  obtain ⟨e3, h⟩ := bifO h
  obtain ⟨e4, h⟩ := bifO h
  obtain ⟨e5, h⟩ := bifO h
  obtain ⟨e6, h⟩ := bifO h
  obtain ⟨e7, h⟩ := bifO h
  obtain ⟨e8, h⟩ := bifO h
  have e9 := beq_iff_eq.1 (Option.some.inj h)
  have e10 := beq_iff_eq.1 e8
  have p1 : f.Payload = [] := List.eq_nil_of_length_eq_zero (by omega)
  have p2 : f.MIC = [] := List.eq_nil_of_length_eq_zero (by omega)
  have q3 := beq_iff_eq.1 e3
  have q4 := beq_iff_eq.1 e4
  have q5 := beq_iff_eq.1 e5
  have q6 := addr_eq e6
  have q7 := addr_eq e7
  clear e3 e4 e5 e6 e7 e8 e9 e10 h
  obtain ⟨_, _, _, _, _, _, _, _, _, _, _, _⟩ := f
  dsimp only at k e1 e2 q3 q4 q5 q6 q7 p1 p2
  subst k e1 e2 q3 q4 q5 q6 q7 p1 p2
  rfl
/-- what is valid is good -/
theorem good_of {f : S_Frame} (w : WfF f) (h : validB f = true) : GoodF f := by
  unfold validB at h
  by_cases k2 : f.Kind = 2
  · rw [k2] at h
    have ha : F_frame_validAck f = some true := by
      rw [ack_some f]
      exact congrArg some h
    have e := ack_true k2 ha
    rw [e]
    exact good_ack _ _ w.seq
  · rw [show (f.Kind == 2) = false by simp [k2]] at h
    by_cases hk : f.Kind = 1 ∨ f.Kind = 3
    · rw [show ((f.Kind == 1) || (f.Kind == 3)) = true by rcases hk with e | e <;> rw [e] <;> rfl] at h
      simp only [cond_true, cond_false] at h
      by_cases q : AdrOk f.Dst ∧ AdrOk f.Src ∧ ¬ bcast f.Src ∧ (f.AckRequest = true → ¬ bcast f.Dst)
      · obtain ⟨d, s, n, a⟩ := q
        rw [dataB_of d s n a, Bool.and_eq_true] at h
        obtain ⟨h1, h2⟩ := h
        have h2' := of_decide_eq_true h2
        have hns : f.Secure = false → f.Counter = 0 ∧ f.Key = 0 ∧ f.MIC = [] := fun e => by
          unfold secB at h1
          rw [e] at h1
          simp only [cond_false, Bool.and_eq_true, beq_iff_eq] at h1
          exact ⟨h1.1, h1.2.1, List.eq_nil_of_length_eq_zero (by omega)⟩
        exact {
          kind := by omega
          seq := w.seq
          ack := fun e => absurd e k2
          adr := fun _ => ⟨d, s, n, a, w.pan⟩
          sec := fun e => by
            unfold secB at h1
            rw [e] at h1
            simp only [cond_true, beq_iff_eq] at h1
            exact ⟨w.cnt.1, w.cnt.2, w.key.1, w.key.2, by omega⟩
          nos := hns
          pay := w.pay
          mic := w.mic
          size := by
            have := lenF_hd ⟨w, hk, d, s⟩ (fun e => by rw [(hns e).2.2]; rfl)
            omega }
      · rw [dataB_not q] at h; cases h
    · rw [show ((f.Kind == 1) || (f.Kind == 3)) = false by simp; omega] at h
      cases h
theorem good_wf {f : S_Frame} (h : GoodF f) : WfF f where
  seq := h.seq
  pan := by
    by_cases k : f.Kind = 2
    · rw [h.ack k]; exact ⟨Int.le_refl 0, by show (0 : Int) ≤ 65535; omega⟩
    · exact (h.adr k).2.2.2.2
  dst := by
    by_cases k : f.Kind = 2
    · rw [h.ack k]; exact ⟨⟨Int.le_refl 0, by show (0 : Int) ≤ 65535; omega⟩, Int.le_refl 0, by show (0 : Int) ≤ 18446744073709551615; omega⟩
    · rcases (h.adr k).1 with q | q
      · exact ⟨q.2.2, by omega⟩
      · exact ⟨by omega, q.2.2⟩
  src := by
    by_cases k : f.Kind = 2
    · rw [h.ack k]; exact ⟨⟨Int.le_refl 0, by show (0 : Int) ≤ 65535; omega⟩, Int.le_refl 0, by show (0 : Int) ≤ 18446744073709551615; omega⟩
    · rcases (h.adr k).2.1 with q | q
      · exact ⟨q.2.2, by omega⟩
      · exact ⟨by omega, q.2.2⟩
  cnt := by
    cases e : f.Secure
    · rw [(h.nos e).1]; decide
    · exact ⟨(h.sec e).1, (h.sec e).2.1⟩
  key := by
    cases e : f.Secure
    · rw [(h.nos e).2.1]; decide
    · exact ⟨(h.sec e).2.2.1, (h.sec e).2.2.2.1⟩
  pay := h.pay
  payl := by have := (good_pay h).1; omega
  mic := h.mic
  micl := by have := (good_pay h).2; omega
theorem valid_good {f : S_Frame} (h : GoodF f) : validB f = true := by
  have := f_valid_eq (good_wf h)
  rw [f_valid h] at this
  exact (Option.some.inj this).symm
/-- Encode, for all frames -/
theorem enc_any {f : S_Frame} (w : WfF f) : (GoodF f ∧ F_frame_Encode f = some (encL f, 0) ∧ F_ref05_Encode f = some (encL f, 0)) ∨ (validB f = false ∧ F_frame_Encode f = some ([], 1) ∧ F_ref05_Encode f = some ([], 1)) := by
  cases hv : validB f
  · refine Or.inr ⟨rfl, ?_, ?_⟩
    · unfold F_frame_Encode
      rw [f_valid_eq w, hv]; rfl
    · unfold F_ref05_Encode
      rw [r_valid_eq w, hv]; rfl
  · have g := good_of w hv
    exact Or.inl ⟨g, f_encode g, r_encode g⟩
end Go.Proofs.Ytohfnlkjdjmipaa
