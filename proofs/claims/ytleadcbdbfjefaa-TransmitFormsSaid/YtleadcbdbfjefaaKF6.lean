/-
  TransmitForms, proved for all links, frames, slots and tapes.
-/
import Derived.Test.YtleadcbdbfjefaaKF5
namespace Go.Proofs.Ytleadcbdbfjefaa
section
open Go.RowKit

theorem device_spec {t : S_multihopmade_Tape} (h : TapeOk t) : ∃ a t', F_made_Tape_Device t = some (a, t') ∧ AdrOk a ∧ ¬ bcast a ∧ TapeOk t' := by
  unfold F_made_Tape_Device
  obtain ⟨v1, t1, e1, a0, a1, k1⟩ := next_spec h 5 (by omega) (by omega)
  obtain ⟨v2, t2, e2, k2⟩ := bool_spec k1 2 (by omega) (by omega)
  simp only [e1, e2, Option.bind_some]
  cases v2
  · refine ⟨_, _, rfl, Or.inl ⟨rfl, rfl, ?_⟩, ?_, k2⟩
    · dsimp only
      rw [wrap16]; omega
    · rintro ⟨_, e⟩
      dsimp only at e
      rw [wrap16] at e
      omega
  · refine ⟨_, _, rfl, Or.inr ⟨rfl, rfl, ?_⟩, ?_, k2⟩
    · dsimp only
      rw [wrap64]; omega
    · rintro ⟨e, _⟩
      dsimp only at e
      omega
theorem hd_le (f : S_Frame) : (hdL f).length ≤ 26 + f.Payload.length := by
  have h1 := adrs_le f
  have h2 := secs_le f
  unfold hdL
  simp only [List.length_append, hd3_len]
  omega
theorem kind_ok {v : Int} (h0 : 0 ≤ v) (h1 : v < 2) : IntKind.wrap .i64 (1 + (IntKind.wrap .i64 (2 * v))) = 1 ∨ IntKind.wrap .i64 (1 + (IntKind.wrap .i64 (2 * v))) = 3 := by
  rw [wi (x := 2 * v) (by omega) (by omega), wi (by omega) (by omega)]
  omega
/-- a plain frame -/
theorem good_plain {k : Int} (hk : k = 1 ∨ k = 3) {a p : Bool} {s n : Int} {d c : S_Addr} {l : List Int} (hs : 0 ≤ s ∧ s ≤ 255) (hn : 0 ≤ n ∧ n ≤ 65535) (hd : AdrOk d) (hc : AdrOk c) (hb : ¬ bcast c) (ha : a = true → ¬ bcast d) (hl : okB l) (hz : l.length ≤ 60) : GoodF (S_Frame.mk k a p false s n d c 0 0 l []) where
  kind := by dsimp only; omega
  seq := hs
  ack := fun e => by dsimp only at e; omega
  adr := fun _ => ⟨hd, hc, hb, ha, hn⟩
  sec := fun e => by cases e
  nos := fun _ => ⟨rfl, rfl, rfl⟩
  pay := hl
  mic := okB_nil
  size := by
    have := hd_le (S_Frame.mk k a p false s n d c 0 0 l [])
    dsimp only at this
    dsimp only [List.length_nil]
    omega
theorem frame_spec {t : S_multihopmade_Tape} (h : TapeOk t) (n : Nat) (hn : n ≤ 60) : ∃ f t', F_made_Tape_Frame t n = some (f, t') ∧ GoodF f ∧ f.Kind ≠ 2 ∧ f.Secure = false ∧ f.Payload.length ≤ n ∧ TapeOk t' := by
  unfold F_made_Tape_Frame F_made_Tape_Frame_j1
  obtain ⟨v1, t1, e1, a0, a1, k1⟩ := next_spec h 2 (by omega) (by omega)
  obtain ⟨v2, t2, e2, k2⟩ := bool_spec k1 2 (by omega) (by omega)
  obtain ⟨v3, t3, e3, k3⟩ := bool_spec k2 4 (by omega) (by omega)
  obtain ⟨v4, t4, e4, b0, b1, k4⟩ := next_spec k3 256 (by omega) (by omega)
  obtain ⟨v5, t5, e5, c0, c1, k5⟩ := next_spec k4 3 (by omega) (by omega)
  obtain ⟨v6, t6, e6, d6, n6, k6⟩ := device_spec k5
  obtain ⟨v7, t7, e7, d7, n7, k7⟩ := device_spec k6
  obtain ⟨v8, t8, e8, o8, l8, k8⟩ := bytes_spec k7 n (by omega)
  obtain ⟨v9, t9, e9, k9⟩ := bool_spec k8 5 (by omega) (by omega)
  simp only [e1, e2, e3, e4, e5, e6, e7, e8, e9, Option.bind_some]
  have hk := kind_ok a0 a1
  have hp : 0 ≤ IntKind.wrap .u16 v5 ∧ IntKind.wrap .u16 v5 ≤ 65535 := by rw [wrap16]; omega
  have hne : IntKind.wrap .i64 (1 + (IntKind.wrap .i64 (2 * v1))) ≠ 2 := by omega
  cases v9
  · exact ⟨_, _, rfl, good_plain hk (wrap8_bd _) hp d6 d7 n7 (fun _ => n6) o8 (by omega), hne, rfl, l8, k9⟩
  · exact ⟨_, _, rfl, good_plain hk (wrap8_bd _) hp (Or.inl ⟨rfl, rfl, by dsimp only; omega, by dsimp only; omega⟩) d7 n7 (fun e => by cases e) o8 (by omega), hne, rfl, l8, k9⟩
theorem good_secure {f : S_Frame} (h : GoodF f) (hk : f.Kind ≠ 2) (hp : f.Payload.length ≤ 60) {c k : Int} {m : List Int} (hc : 0 ≤ c ∧ c ≤ 4294967295) (hy : 0 ≤ k ∧ k ≤ 255) (hm : okB m) (hl : m.length = 4) : GoodF (S_Frame.mk f.Kind f.AckRequest f.Pending true f.Seq f.Pan f.Dst f.Src c k f.Payload m) where
  kind := h.kind
  seq := h.seq
  ack := fun e => absurd e hk
  adr := fun _ => h.adr hk
  sec := fun _ => ⟨hc.1, hc.2, hy.1, hy.2, hl⟩
  nos := fun e => by cases e
  pay := h.pay
  mic := hm
  size := by
    have := hd_le (S_Frame.mk f.Kind f.AckRequest f.Pending true f.Seq f.Pan f.Dst f.Src c k f.Payload m)
    dsimp only at this ⊢
    omega
/-- another payload -/
theorem hd_pay {f : S_Frame} (l : List Int) : (hdL (S_Frame.mk f.Kind f.AckRequest f.Pending f.Secure f.Seq f.Pan f.Dst f.Src f.Counter f.Key l f.MIC)).length + f.Payload.length = (hdL f).length + l.length := by
  unfold hdL
  simp only [List.length_append]
  have e1 : (hd3 (S_Frame.mk f.Kind f.AckRequest f.Pending f.Secure f.Seq f.Pan f.Dst f.Src f.Counter f.Key l f.MIC)) = hd3 f := rfl
  have e2 : (adrs (S_Frame.mk f.Kind f.AckRequest f.Pending f.Secure f.Seq f.Pan f.Dst f.Src f.Counter f.Key l f.MIC)) = adrs f := rfl
  have e3 : (secs (S_Frame.mk f.Kind f.AckRequest f.Pending f.Secure f.Seq f.Pan f.Dst f.Src f.Counter f.Key l f.MIC)) = secs f := rfl
  rw [e1, e2, e3]
  omega
theorem good_pay' {f : S_Frame} (h : GoodF f) (hk : f.Kind ≠ 2) {l : List Int} (hl : okB l) (hz : (hdL f).length + f.MIC.length + 2 + l.length ≤ 127 + f.Payload.length) : GoodF (S_Frame.mk f.Kind f.AckRequest f.Pending f.Secure f.Seq f.Pan f.Dst f.Src f.Counter f.Key l f.MIC) where
  kind := h.kind
  seq := h.seq
  ack := fun e => absurd e hk
  adr := fun _ => h.adr hk
  sec := h.sec
  nos := h.nos
  pay := hl
  mic := h.mic
  size := by
    have := hd_pay (f := f) l
    dsimp only
    omega
theorem any_spec {t : S_multihopmade_Tape} (h : TapeOk t) : ∃ f t', F_made_Tape_AnyFrame t = some (f, t') ∧ GoodF f ∧ TapeOk t' := by
  unfold F_made_Tape_AnyFrame F_made_Tape_AnyFrame_j1
  obtain ⟨f, t1, e1, g1, hk, hs, hl, k1⟩ := frame_spec h 20 (by omega)
  have e1' : F_made_Tape_Frame t 20 = some (f, t1) := e1
  obtain ⟨v2, t2, e2, a0, a1, k2⟩ := next_spec k1 4 (by omega) (by omega)
  simp only [e1', e2, Option.bind_some]
  by_cases c0 : v2 = 0
  · obtain ⟨v3, t3, e3, k3⟩ := bool_spec k2 2 (by omega) (by omega)
    simp only [c0, BEq.rfl, cond_true, e3, Option.bind_some]
    exact ⟨_, _, rfl, good_ack _ _ g1.seq, k3⟩
  rw [show (v2 == 0) = false by simp [c0]]
  simp only [cond_false]
  by_cases c1 : v2 = 1
  · obtain ⟨v3, t3, e3, k3⟩ := word_spec k2
    obtain ⟨v4, t4, e4, _, _, k4⟩ := next_spec k3 3 (by omega) (by omega)
    obtain ⟨v5, t5, e5, o5, l5, k5⟩ := fill_spec k4 4 (by omega)
    have e5' : F_made_Tape_Fill t4 4 = some (v5, t5) := e5
    simp only [c1, BEq.rfl, cond_true, e3, e4, e5', Option.bind_some]
    exact ⟨_, _, rfl, good_secure g1 hk (by omega) (by rw [wrap32]; omega) (wrap8_bd _) o5 l5, k5⟩
  rw [show (v2 == 1) = false by simp [c1]]
  simp only [cond_false]
  by_cases c2 : v2 = 2
  · obtain ⟨v3, t3, e3, b0, b1, k3⟩ := next_spec k2 3 (by omega) (by omega)
    have hz := g1.size
    have hrm := r_room g1 hk
    have hp := (good_pay g1).1
    generalize hr : 127 - (((hdL f).length : Int) + f.MIC.length + 2) = r at hrm
    have er : IntKind.wrap .i64 (1 + r) = 1 + r := wi (by omega) (by omega)
    have m1 := Int.tmod_lt_of_pos v3 (show 0 < 1 + r by omega)
    have m0 := Int.tmod_nonneg (1 + r) b0
    generalize hq : Int.tmod v3 (1 + r) = q at m0 m1
    have ew : IntKind.wrap .i64 ((IntKind.wrap .i64 (r + (f.Payload.length : Int))) - q) = ((r + f.Payload.length - q).toNat : Int) := by
      rw [wi (x := r + (f.Payload.length : Int)) (by omega) (by omega), wi (by omega) (by omega)]
      omega
    obtain ⟨v5, t5, e5, o5, l5, k5⟩ := fill_spec k3 (r + f.Payload.length - q).toNat (by omega)
    simp only [c2, BEq.rfl, cond_true, e3, hrm, er, hq, ew, e5, Option.bind_some, decT (show 1 + r ≠ 0 by omega)]
    exact ⟨_, _, rfl, good_pay' g1 hk o5 (by omega), k5⟩
  · rw [show (v2 == 2) = false by simp [c2]]
    exact ⟨_, _, rfl, g1, k2⟩
end
section
open Go.RowKit

theorem addr_refl (a : S_Addr) : S_Addr.eqb a a = true := by
  unfold S_Addr.eqb
  simp
end
section
open Go.RowKit

theorem same_refl (a : List Int) (ha : a.length ≤ 1000000000000) : F_ref01_Same a a = some true := by
  unfold F_ref01_Same
  rw [show ((a.length : Int) != (a.length : Int)) = false by simp]
  simp only [cond_false]
  have hl := loop_run (step := F_ref01_Same_l1 a a) (S := fun k => (k : Int)) a.length (r := Sum.inl ()) (fun k hk => by
    unfold F_ref01_Same_l1
    rw [decT (show (k : Int) < (a.length : Int) by omega), idx_lt hk, wk k (by omega)]
    simp) (by
    unfold F_ref01_Same_l1
    rw [decF (show ¬ (a.length : Int) < (a.length : Int) by omega)]
    rfl)
  simp only [Int.natCast_zero] at hl
  rw [hl]
  rfl
end
section
open Go.RowKit

theorem fsame_refl {f : S_Frame} (h : GoodF f) : F_ref05_Same f f = some true := by
  obtain ⟨hP, hM⟩ := good_pay h
  unfold F_ref05_Same
  rw [addr_refl, addr_refl, same_refl _ (by omega), same_refl _ (by omega)]
  simp
end
section
open Go.RowKit

theorem bF {a b : Int} (h : a ≠ b) : (a == b) = false := beq_eq_false_iff_ne.2 h
theorem bT {a b : Int} (h : a = b) : (a == b) = true := beq_iff_eq.2 h
structure AdrWf (a : S_Addr) : Prop where
  short : 0 ≤ a.Short ∧ a.Short ≤ 65535
  eui : 0 ≤ a.EUI ∧ a.EUI ≤ 18446744073709551615
instance (a : S_Addr) : Decidable (AdrOk a) := by unfold AdrOk; infer_instance
instance (a : S_Addr) : Decidable (bcast a) := by unfold bcast; infer_instance
structure WfF (f : S_Frame) : Prop where
  seq : 0 ≤ f.Seq ∧ f.Seq ≤ 255
  pan : 0 ≤ f.Pan ∧ f.Pan ≤ 65535
  dst : AdrWf f.Dst
  src : AdrWf f.Src
  cnt : 0 ≤ f.Counter ∧ f.Counter ≤ 4294967295
  key : 0 ≤ f.Key ∧ f.Key ≤ 255
  pay : okB f.Payload
  payl : f.Payload.length ≤ 140737488351232
  mic : okB f.MIC
  micl : f.MIC.length ≤ 140737488351232
/-- what the place of a frame allows: the length may be counted, the header may be built -/
structure HdOk (f : S_Frame) : Prop where
  wf : WfF f
  kind : f.Kind = 1 ∨ f.Kind = 3
  dst : AdrOk f.Dst
  src : AdrOk f.Src
theorem HdOk.k2 {f : S_Frame} (h : HdOk f) : f.Kind ≠ 2 := by have := h.kind; omega
theorem avalid_not {a : S_Addr} (w : AdrWf a) (h : ¬ AdrOk a) : F_address_Valid a = some false ∨ (F_address_Valid a = some true ∧ a.Mode = 0) := by
  have h1 := w.short
  have h2 := w.eui
  unfold F_address_Valid
  by_cases m0 : a.Mode = 0
  · rw [m0]
    cases S_Addr.eqb a (S_Addr.mk 0 0 0)
    · exact Or.inl rfl
    · exact Or.inr ⟨rfl, rfl⟩
  refine Or.inl ?_
  rw [bF m0]
  by_cases m2 : a.Mode = 2
  · have : a.EUI ≠ 0 := fun e => h (Or.inl ⟨m2, e, h1⟩)
    rw [bT m2, bF this]; rfl
  by_cases m3 : a.Mode = 3
  · have : a.Short ≠ 0 := fun e => h (Or.inr ⟨m3, e, h2⟩)
    rw [bF m2, bT m3, bF this]; rfl
  · rw [bF m2, bF m3]; rfl
theorem ravalid_not {a : S_Addr} (w : AdrWf a) (h : ¬ AdrOk a) : F_ref04_Some a = some false := by
  have h1 := w.short
  have h2 := w.eui
  unfold F_ref04_Some F_ref04_Valid
  by_cases m0 : a.Mode = 0
  · rw [m0]
    cases a.Short == 0
    · rfl
    · cases a.EUI == 0 <;> rfl
  rw [bF m0]
  by_cases m2 : a.Mode = 2
  · have : a.EUI ≠ 0 := fun e => h (Or.inl ⟨m2, e, h1⟩)
    rw [bT m2, bF this]; rfl
  by_cases m3 : a.Mode = 3
  · have : a.Short ≠ 0 := fun e => h (Or.inr ⟨m3, e, h2⟩)
    rw [bF m2, bT m3, bF this]; rfl
  · rw [bF m2, bF m3]; rfl
theorem abc_yes {a : S_Addr} (w : AdrOk a) (h : bcast a) : F_address_IsBroadcast a = some true := by
  unfold F_address_IsBroadcast S_Addr.eqb
  rcases w with w | w
  · rw [h.1, h.2, w.2.1]; rfl
  · have := h.1; omega
theorem rabc_yes {a : S_Addr} (w : AdrOk a) (h : bcast a) : F_ref04_IsBroadcast a = some true := by
  unfold F_ref04_IsBroadcast
  rw [r_avalid w, h.1, h.2]; rfl
theorem rone_no {a : S_Addr} (w : AdrOk a) (h : bcast a) : F_ref04_One a = some false := by
  unfold F_ref04_One
  rw [r_some w, rabc_yes w h]; rfl
theorem rone_not {a : S_Addr} (w : AdrWf a) (h : ¬ AdrOk a) : F_ref04_One a = some false := by
  unfold F_ref04_One
  rw [ravalid_not w h]; rfl
theorem len_any {f : S_Frame} (h : HdOk f) : F_frame_length f = some (lenF f) ∧ 0 ≤ lenF f ∧ lenF f ≤ 281474976702600 := by
  have hp := h.wf.payl
  have hm := h.wf.micl
  unfold F_frame_length F_frame_length_j1 F_frame_length_j2 lenF
  rw [show (f.Kind != 2) = true by simp [h.k2], if_neg h.k2, f_addrBytes h.dst, f_addrBytes h.src]
  simp only [cond_true, Option.bind_some]
  generalize ea : (if f.Dst.Mode = 2 then (2 : Int) else 8) = x
  generalize eb : (if f.Src.Mode = 2 then (2 : Int) else 8) = y
  have hx : 0 ≤ x ∧ x ≤ 8 := by rw [← ea]; split <;> omega
  have hy : 0 ≤ y ∧ y ≤ 8 := by rw [← eb]; split <;> omega
  rw [wi (x := 3 + (f.Payload.length : Int)) (by omega) (by omega), wi (x := 3 + (f.Payload.length : Int) + 2) (by omega) (by omega), wi (x := 2 + x) (by omega) (by omega), wi (x := 2 + x + y) (by omega) (by omega), wi (x := 3 + (f.Payload.length : Int) + 2 + (2 + x + y)) (by omega) (by omega)]
  cases f.Secure
  · simp only [cond_false]
    exact ⟨by congr 1; omega, by omega, by omega⟩
  · simp only [cond_true]
    rw [wi (x := 5 + (f.MIC.length : Int)) (by omega) (by omega), wi (by omega) (by omega)]
    exact ⟨rfl, by omega, by omega⟩
theorem secs_len (f : S_Frame) : ((secs f).length : Int) = (bif f.Secure then 5 else 0) := by
  unfold secs
  cases f.Secure
  · rfl
  · simp only [cond_true, List.length_append, beB_len, List.length_singleton]; rfl
theorem lenF_hd {f : S_Frame} (h : HdOk f) (hm : f.Secure = false → f.MIC.length = 0) : lenF f = ((hdL f).length : Int) + f.MIC.length + 2 := by
  have hs := secs_len f
  have ha : ((adrs f).length : Int) = 2 + (if f.Dst.Mode = 2 then 2 else 8) + (if f.Src.Mode = 2 then 2 else 8) := by
    unfold adrs
    rw [if_neg h.k2]
    simp only [List.length_append, beB_len, adrL_len]
    split <;> split <;> rfl
  unfold lenF hdL
  rw [if_neg h.k2]
  simp only [List.length_append, hd3_len]
  cases hc : f.Secure
  · rw [hc] at hs
    simp only [cond_false] at hs ⊢
    have := hm hc
    omega
  · rw [hc] at hs
    simp only [cond_true] at hs ⊢
    omega
/-- the rule for the security -/
def secB (f : S_Frame) : Bool := bif f.Secure then (f.MIC.length : Int) == 4 else ((f.Counter == 0) && ((f.Key == 0) && ((f.MIC.length : Int) == 0)))
noncomputable def tailF (f : S_Frame) : Option Bool := bif f.Secure then
                    bif ((List.length f.MIC : Int) != 4) then
                      some (false)
                    else
                      (F_frame_length f).bind fun v14 =>
                      some ((decide (v14 ≤ 127)))
                  else
                    bif (f.Counter != 0) then
                      some (false)
                    else
                      bif (f.Key != 0) then
                        some (false)
                      else
                        bif ((List.length f.MIC : Int) != 0) then
                          some (false)
                        else
                          (F_frame_length f).bind fun v18 =>
                          some ((decide (v18 ≤ 127)))
noncomputable def tailR (f : S_Frame) : Option Bool := bif f.Secure then
              bif ((List.length f.MIC : Int) != 4) then
                some (false)
              else
                (F_ref05_header f).bind fun v21 =>
                some ((decide ((IntKind.wrap .i64 ((IntKind.wrap .i64 ((List.length v21 : Int) + (List.length f.MIC : Int))) + 2)) ≤ 127)))
            else
              bif (f.Counter != 0) then
                some (false)
              else
                bif (f.Key != 0) then
                  some (false)
                else
                  bif ((List.length f.MIC : Int) != 0) then
                    some (false)
                  else
                    (F_ref05_header f).bind fun v25 =>
                    some ((decide ((IntKind.wrap .i64 ((IntKind.wrap .i64 ((List.length v25 : Int) + (List.length f.MIC : Int))) + 2)) ≤ 127)))
theorem tailF_eq {f : S_Frame} (h : HdOk f) : tailF f = some (secB f && decide (lenF f ≤ 127)) := by
  unfold tailF secB
  rw [(len_any h).1]
  simp only [Option.bind_some, bne]
  cases f.Secure
  · cases f.Counter == 0
    · rfl
    · cases f.Key == 0
      · rfl
      · cases (f.MIC.length : Int) == 0 <;> simp
  · cases (f.MIC.length : Int) == 4 <;> simp
theorem r_j1' {f : S_Frame} (h : HdOk f) (l : List Int) (hl : l.length ≤ 100) : F_ref05_header_j1 f l = some (l ++ secs f ++ f.Payload) := by
  have hp := h.wf.payl
  unfold F_ref05_header_j1 F_ref05_header_j2 secs
  cases hs : f.Secure
  · simp only [cond_false, Cut.app, List.append_nil]
    rw [appO_some (by omega) (by omega)]; rfl
  · obtain ⟨c0, c1⟩ := h.wf.cnt
    simp only [cond_true, Cut.app]
    rw [wu (x := f.Counter) c0 (by omega), rc4 l f.Counter (by omega), Option.bind_some, appO_some (by simp only [List.length_append, beB_len, List.length_singleton]; omega) (by simp only [List.length_append, beB_len, List.length_singleton]; omega), Option.bind_some, appO_some (by simp only [List.length_append, beB_len, List.length_singleton]; omega) (by simp only [List.length_append, beB_len, List.length_singleton]; omega), Option.bind_some, List.append_assoc l]
theorem r_header' {f : S_Frame} (h : HdOk f) : F_ref05_header f = some (hdL f) := by
  unfold F_ref05_header
  have p0 := h.wf.pan
  have l1 := adrL_le f.Dst
  have l2 := adrL_le f.Src
  rw [r_flag, r_flag, r_flag]
  simp only [Option.bind_some]
  rw [r_byte0 _ _ _ _ (h.kind.elim Or.inl fun e => Or.inr (Or.inr e)), r_byte1 _ _ (adr_mode h.dst) (adr_mode h.src), show (f.Kind != 2) = true by simp [h.k2]]
  simp only [cond_true]
  rw [wu (x := f.Pan) p0.1 (by omega), rc2 _ f.Pan (by simp), Option.bind_some, r_adr _ h.dst (by simp [beB_len]), Option.bind_some, r_adr _ h.src (by simp only [List.length_append, List.length_cons, List.length_nil, beB_len]; omega), Option.bind_some, r_j1' h _ (by simp only [List.length_append, List.length_cons, List.length_nil, beB_len]; omega)]
  unfold hdL adrs hd3
  rw [if_neg h.k2]
  simp only [List.append_assoc]
theorem tailR_eq {f : S_Frame} (h : HdOk f) : tailR f = some (secB f && decide (lenF f ≤ 127)) := by
  have hm := h.wf.micl
  have hh := hd_le f
  have hp := h.wf.payl
  have key : (f.Secure = false → f.MIC.length = 0) → decide ((IntKind.wrap .i64 ((IntKind.wrap .i64 ((List.length (hdL f) : Int) + (List.length f.MIC : Int))) + 2)) ≤ 127) = decide (lenF f ≤ 127) := fun e => by
    rw [wi (x := ((hdL f).length : Int) + (f.MIC.length : Int)) (by omega) (by omega), wi (by omega) (by omega), lenF_hd h e]
  unfold tailR secB
  rw [r_header' h]
  simp only [Option.bind_some, bne]
  cases hs : f.Secure
  · cases f.Counter == 0
    · rfl
    · cases f.Key == 0
      · rfl
      · cases hz : (f.MIC.length : Int) == 0
        · rfl
        · rw [key (fun _ => by have := eq_of_beq hz; omega)]; rfl
  · cases (f.MIC.length : Int) == 4
    · rfl
    · rw [key (fun e => by rw [hs] at e; cases e)]; rfl
/-- the rule for data and commands -/
def dataB (f : S_Frame) : Bool := decide (AdrOk f.Dst ∧ AdrOk f.Src ∧ ¬ bcast f.Src ∧ (f.AckRequest = true → ¬ bcast f.Dst)) && (secB f && decide (lenF f ≤ 127))
theorem dataB_of {f : S_Frame} (d : AdrOk f.Dst) (s : AdrOk f.Src) (n : ¬ bcast f.Src) (a : f.AckRequest = true → ¬ bcast f.Dst) : dataB f = (secB f && decide (lenF f ≤ 127)) := by
  unfold dataB
  rw [decide_eq_true (show AdrOk f.Dst ∧ AdrOk f.Src ∧ ¬ bcast f.Src ∧ (f.AckRequest = true → ¬ bcast f.Dst) from ⟨d, s, n, a⟩), Bool.true_and]
theorem dataB_not {f : S_Frame} (h : ¬ (AdrOk f.Dst ∧ AdrOk f.Src ∧ ¬ bcast f.Src ∧ (f.AckRequest = true → ¬ bcast f.Dst))) : dataB f = false := by
  unfold dataB
  rw [decide_eq_false h, Bool.false_and]
theorem vdata_eq {f : S_Frame} (w : WfF f) (hk : f.Kind = 1 ∨ f.Kind = 3) : F_frame_validData f = some (dataB f) := by
  have e : F_frame_validData f = ((F_address_Valid f.Dst).bind fun v1 => bif v1 then bif (f.Dst.Mode == 0) then some false else (F_address_Valid f.Src).bind fun v4 => bif v4 then bif (f.Src.Mode == 0) then some false else (F_address_IsBroadcast f.Src).bind fun v7 => bif v7 then some false else bif f.AckRequest then (F_address_IsBroadcast f.Dst).bind fun v10 => bif v10 then some false else tailF f else tailF f else some false else some false) := rfl
  rw [e]
  by_cases d : AdrOk f.Dst
  · by_cases s : AdrOk f.Src
    · rw [f_avalid d, f_avalid s, f_amode d, f_amode s, tailF_eq ⟨w, hk, d, s⟩]
      simp only [Option.bind_some, cond_true, cond_false]
      by_cases n : bcast f.Src
      · rw [abc_yes s n, dataB_not (fun q => q.2.2.1 n)]; rfl
      · rw [f_abc n]
        simp only [Option.bind_some, cond_false]
        cases ha : f.AckRequest
        · rw [dataB_of d s n (fun e => by rw [ha] at e; cases e)]; rfl
        · by_cases b : bcast f.Dst
          · rw [abc_yes d b, dataB_not (fun q => q.2.2.2 ha b)]; rfl
          · rw [f_abc b, dataB_of d s n (fun _ => b)]; rfl
    · rw [f_avalid d, f_amode d, dataB_not (fun q => s q.2.1)]
      simp only [Option.bind_some, cond_true, cond_false]
      rcases avalid_not w.src s with q | ⟨q, q2⟩
      · rw [q]; rfl
      · rw [q, q2]; rfl
  · rw [dataB_not (fun q => d q.1)]
    rcases avalid_not w.dst d with q | ⟨q, q2⟩
    · rw [q]; rfl
    · rw [q, q2]; rfl
theorem rdata_eq {f : S_Frame} (w : WfF f) (hk : f.Kind = 1 ∨ f.Kind = 3) : F_ref05_Valid_j1 f true = some (dataB f) := by
  have e : F_ref05_Valid_j1 f true = ((F_ref04_Some f.Dst).bind fun v12 => bif v12 then (F_ref04_One f.Src).bind fun v14 => bif v14 then bif f.AckRequest then (F_ref04_IsBroadcast f.Dst).bind fun v17 => bif v17 then some false else tailR f else tailR f else some false else some false) := rfl
  rw [e]
  by_cases d : AdrOk f.Dst
  · by_cases s : AdrOk f.Src
    · rw [r_some d, tailR_eq ⟨w, hk, d, s⟩]
      simp only [Option.bind_some, cond_true]
      by_cases n : bcast f.Src
      · rw [rone_no s n, dataB_not (fun q => q.2.2.1 n)]; rfl
      · rw [r_one s n]
        simp only [Option.bind_some, cond_true]
        cases ha : f.AckRequest
        · rw [dataB_of d s n (fun e => by rw [ha] at e; cases e)]; rfl
        · by_cases b : bcast f.Dst
          · rw [rabc_yes d b, dataB_not (fun q => q.2.2.2 ha b)]; rfl
          · rw [r_abc d b, dataB_of d s n (fun _ => b)]; rfl
    · rw [r_some d, rone_not w.src s, dataB_not (fun q => s q.2.1)]; rfl
  · rw [dataB_not (fun q => d q.1), ravalid_not w.dst d]; rfl
noncomputable def validB (f : S_Frame) : Bool := bif f.Kind == 2 then (F_frame_validAck f).getD false else bif (f.Kind == 1) || (f.Kind == 3) then dataB f else false
theorem ack_some (f : S_Frame) : F_frame_validAck f = some ((F_frame_validAck f).getD false) := by
  unfold F_frame_validAck
  cases f.AckRequest <;> cases f.Secure <;> cases f.Pan == 0 <;> cases f.Counter == 0 <;> cases f.Key == 0 <;> cases S_Addr.eqb f.Dst (S_Addr.mk 0 0 0) <;> cases S_Addr.eqb f.Src (S_Addr.mk 0 0 0) <;> cases (f.Payload.length : Int) == 0 <;> rfl
theorem f_valid_eq {f : S_Frame} (w : WfF f) : F_frame_Valid f = some (validB f) := by
  unfold F_frame_Valid F_frame_Valid_j1 validB
  by_cases k2 : f.Kind = 2
  · rw [k2, ack_some f]; rfl
  · rw [show (f.Kind == 2) = false by simp [k2]]
    by_cases k1 : f.Kind = 1
    · rw [vdata_eq w (Or.inl k1), k1]; rfl
    · by_cases k3 : f.Kind = 3
      · rw [vdata_eq w (Or.inr k3), k3]; rfl
      · rw [show (f.Kind == 1) = false by simp [k1], show (f.Kind == 3) = false by simp [k3]]; rfl
theorem r_valid_eq {f : S_Frame} (w : WfF f) : F_ref05_Valid f = some (validB f) := by
  have e : F_ref05_Valid f = (bif f.Kind == 2 then F_frame_validAck f else bif f.Kind == 1 then F_ref05_Valid_j1 f true else F_ref05_Valid_j1 f (f.Kind == 3)) := rfl
  rw [e]
  unfold validB
  by_cases k2 : f.Kind = 2
  · rw [k2, ack_some f]; rfl
  · rw [show (f.Kind == 2) = false by simp [k2]]
    by_cases k1 : f.Kind = 1
    · rw [rdata_eq w (Or.inl k1), k1]; rfl
    · by_cases k3 : f.Kind = 3
      · rw [k3]
        rw [show ((3 : Int) == 1) = false by rfl, show ((3 : Int) == 3) = true by rfl, rdata_eq w (Or.inr k3)]; rfl
      · rw [show (f.Kind == 1) = false by simp [k1], show (f.Kind == 3) = false by simp [k3]]; rfl
theorem bifO {b : Bool} {x : Option Bool} (h : (bif b then x else some false) = some true) : b = true ∧ x = some true := by
  cases b
  · cases h
  · exact ⟨rfl, h⟩
theorem bifN {b : Bool} {x : Option Bool} (h : (bif b then some false else x) = some true) : b = false ∧ x = some true := by
  cases b
  · exact ⟨rfl, h⟩
  · cases h
theorem addr_eq {a b : S_Addr} (h : S_Addr.eqb a b = true) : a = b := by
  obtain ⟨a1, a2, a3⟩ := a
  obtain ⟨b1, b2, b3⟩ := b
  unfold S_Addr.eqb at h
  simp only [Bool.and_eq_true, beq_iff_eq] at h
  obtain ⟨rfl, rfl, rfl, _⟩ := h
  rfl
theorem ack_true {f : S_Frame} (k : f.Kind = 2) (h : F_frame_validAck f = some true) : f = S_Frame.mk 2 false f.Pending false f.Seq 0 A00 A00 0 0 [] [] := by
  unfold F_frame_validAck at h
  obtain ⟨e1, h⟩ := bifN h
  obtain ⟨e2, h⟩ := bifN h
  obtain ⟨e3, h⟩ := bifO h
  obtain ⟨e4, h⟩ := bifO h
  obtain ⟨e5, h⟩ := bifO h
  obtain ⟨e6, h⟩ := bifO h
  obtain ⟨e7, h⟩ := bifO h
  obtain ⟨e8, h⟩ := bifO h
  have e9 := beq_iff_eq.1 (Option.some.inj h)
  have e10 := beq_iff_eq.1 e8
  have p1 : f.Payload = [] := List.eq_nil_of_length_eq_zero (by omega)
  have p2 : f.MIC = [] := List.eq_nil_of_length_eq_zero (by omega)
  have q3 := beq_iff_eq.1 e3
  have q4 := beq_iff_eq.1 e4
  have q5 := beq_iff_eq.1 e5
  have q6 := addr_eq e6
  have q7 := addr_eq e7
  clear e3 e4 e5 e6 e7 e8 e9 e10 h
  obtain ⟨_, _, _, _, _, _, _, _, _, _, _, _⟩ := f
  dsimp only at k e1 e2 q3 q4 q5 q6 q7 p1 p2
  subst k e1 e2 q3 q4 q5 q6 q7 p1 p2
  rfl
/-- what is valid is good -/
theorem good_of {f : S_Frame} (w : WfF f) (h : validB f = true) : GoodF f := by
  unfold validB at h
  by_cases k2 : f.Kind = 2
  · rw [k2] at h
    have ha : F_frame_validAck f = some true := by
      rw [ack_some f]
      exact congrArg some h
    have e := ack_true k2 ha
    rw [e]
    exact good_ack _ _ w.seq
  · rw [show (f.Kind == 2) = false by simp [k2]] at h
    by_cases hk : f.Kind = 1 ∨ f.Kind = 3
    · rw [show ((f.Kind == 1) || (f.Kind == 3)) = true by rcases hk with e | e <;> rw [e] <;> rfl] at h
      simp only [cond_true, cond_false] at h
      by_cases q : AdrOk f.Dst ∧ AdrOk f.Src ∧ ¬ bcast f.Src ∧ (f.AckRequest = true → ¬ bcast f.Dst)
      · obtain ⟨d, s, n, a⟩ := q
        rw [dataB_of d s n a, Bool.and_eq_true] at h
        obtain ⟨h1, h2⟩ := h
        have h2' := of_decide_eq_true h2
        have hns : f.Secure = false → f.Counter = 0 ∧ f.Key = 0 ∧ f.MIC = [] := fun e => by
          unfold secB at h1
          rw [e] at h1
          simp only [cond_false, Bool.and_eq_true, beq_iff_eq] at h1
          exact ⟨h1.1, h1.2.1, List.eq_nil_of_length_eq_zero (by omega)⟩
        exact {
          kind := by omega
          seq := w.seq
          ack := fun e => absurd e k2
          adr := fun _ => ⟨d, s, n, a, w.pan⟩
          sec := fun e => by
            unfold secB at h1
            rw [e] at h1
            simp only [cond_true, beq_iff_eq] at h1
            exact ⟨w.cnt.1, w.cnt.2, w.key.1, w.key.2, by omega⟩
          nos := hns
          pay := w.pay
          mic := w.mic
          size := by
            have := lenF_hd ⟨w, hk, d, s⟩ (fun e => by rw [(hns e).2.2]; rfl)
            omega }
      · rw [dataB_not q] at h; cases h
    · rw [show ((f.Kind == 1) || (f.Kind == 3)) = false by simp; omega] at h
      cases h
theorem good_wf {f : S_Frame} (h : GoodF f) : WfF f where
  seq := h.seq
  pan := by
    by_cases k : f.Kind = 2
    · rw [h.ack k]; exact ⟨Int.le_refl 0, by show (0 : Int) ≤ 65535; omega⟩
    · exact (h.adr k).2.2.2.2
  dst := by
    by_cases k : f.Kind = 2
    · rw [h.ack k]; exact ⟨⟨Int.le_refl 0, by show (0 : Int) ≤ 65535; omega⟩, Int.le_refl 0, by show (0 : Int) ≤ 18446744073709551615; omega⟩
    · rcases (h.adr k).1 with q | q
      · exact ⟨q.2.2, by omega⟩
      · exact ⟨by omega, q.2.2⟩
  src := by
    by_cases k : f.Kind = 2
    · rw [h.ack k]; exact ⟨⟨Int.le_refl 0, by show (0 : Int) ≤ 65535; omega⟩, Int.le_refl 0, by show (0 : Int) ≤ 18446744073709551615; omega⟩
    · rcases (h.adr k).2.1 with q | q
      · exact ⟨q.2.2, by omega⟩
      · exact ⟨by omega, q.2.2⟩
  cnt := by
    cases e : f.Secure
    · rw [(h.nos e).1]; decide
    · exact ⟨(h.sec e).1, (h.sec e).2.1⟩
  key := by
    cases e : f.Secure
    · rw [(h.nos e).2.1]; decide
    · exact ⟨(h.sec e).2.2.1, (h.sec e).2.2.2.1⟩
  pay := h.pay
  payl := by have := (good_pay h).1; omega
  mic := h.mic
  micl := by have := (good_pay h).2; omega
theorem valid_good {f : S_Frame} (h : GoodF f) : validB f = true := by
  have := f_valid_eq (good_wf h)
  rw [f_valid h] at this
  exact (Option.some.inj this).symm
end
section
open Go.RowKit

def B0 : S_Backoff := S_Backoff.mk 0 0 0 0 0
def L0 : S_Link := S_Link.mk [] 0 0 B0 0
structure WfL (l : S_Link) : Prop where
  fr : ∀ f ∈ l.Queue, WfF f
  len : l.Queue.length ≤ 140737488351232
noncomputable def sendB (f : S_Frame) : Bool := validB f && (f.Kind != 2)
def headAck (q : List S_Frame) : Bool := match q with
  | [] => false
  | f :: _ => f.AckRequest
noncomputable def linkB (l : S_Link) : Bool := decide (l.Queue.length ≤ 16) && l.Queue.all sendB &&
  (if l.Queue.length = 0 then (l.Phase == 0) && (l.Attempts == 0) && S_Backoff.eqb l.Backoff B0 && (l.Left == 0)
   else if l.Phase = 1 then decide (0 ≤ l.Attempts) && decide (l.Attempts ≤ 3) && bvB (bk l.Backoff) && !endedB (bk l.Backoff) && (l.Left == 0)
   else if l.Phase = 2 then headAck l.Queue && decide (1 ≤ l.Attempts) && decide (l.Attempts ≤ 4) && S_Backoff.eqb l.Backoff B0 && decide (1 ≤ l.Left) && decide (l.Left ≤ 3)
   else false)
theorem send_p {f : S_Frame} (w : WfF f) : F_transmit_validFrame f = some (sendB f) := by
  unfold F_transmit_validFrame sendB
  rw [f_valid_eq w]
  cases validB f <;> rfl
theorem send_r {f : S_Frame} (w : WfF f) : F_ref09_sendable f = some (sendB f) := by
  unfold F_ref09_sendable sendB
  rw [r_valid_eq w]
  cases validB f <;> rfl
/-- a loop that asks something of every element -/
theorem loop_every {α : Type} (q : List α) (p : α → Bool) (hq : q.length ≤ 4611686018427387904) {step : Int → Option (Int ⊕ (Unit ⊕ Bool))}
    (h : ∀ k (hk : k < q.length), step (k : Int) = if p q[k] then some (.inl (IntKind.wrap .i64 ((k : Int) + 1))) else some (.inr (.inr false))) (he : step (q.length : Int) = some (.inr (.inl ()))) : loopO step 0 = some (if q.all p then .inl () else .inr false) := by
  have hl := loop_all (step := step) (S := fun k => (k : Int)) q.length (fun k => if hk : k < q.length then p q[k] else true) (rt := .inl ()) (rf := .inr false) (fun k hk hp => by
    rw [dif_pos hk] at hp
    rw [h k hk, if_pos hp, wk k (by omega)]) (fun k hk hp => by
    rw [dif_pos hk] at hp
    rw [h k hk, if_neg (by rw [hp]; simp)]) he
  simp only [Int.natCast_zero] at hl
  rw [hl]
  congr 1
  by_cases ha : q.all p = true
  · rw [if_pos ha, if_pos]
    intro k hk
    rw [dif_pos hk]
    exact List.all_eq_true.1 ha _ (List.getElem_mem hk)
  · rw [if_neg ha, if_neg]
    intro hh
    apply ha
    rw [List.all_eq_true]
    intro x hx
    obtain ⟨k, hk, rfl⟩ := List.getElem_of_mem hx
    have := hh k hk
    rwa [dif_pos hk] at this
theorem idxK {α : Type} {l : List α} {k : Nat} (h : k < l.length) : idx l (k : Int) = some l[k] := by
  unfold idx
  rw [if_pos (by omega), Int.toNat_natCast, List.getElem?_eq_getElem h]
theorem vl_p {l : S_Link} (w : WfL l) : loopO (F_transmit_Valid_l1 l) 0 = some (if l.Queue.all sendB then .inl () else .inr false) := by
  have hl := w.len
  refine loop_every l.Queue sendB (by omega) (fun k hk => ?_) ?_
  · unfold F_transmit_Valid_l1
    rw [decT (show (k : Int) < (l.Queue.length : Int) by omega), idxK hk, Option.bind_some, send_p (w.fr _ (List.getElem_mem hk))]
    simp only [cond_true, Option.bind_some]
    cases sendB l.Queue[k] <;> rfl
  · unfold F_transmit_Valid_l1
    rw [decF (by omega)]
    rfl
theorem vl_r {l : S_Link} (w : WfL l) : loopO (F_ref09_Valid_l1 l) 0 = some (if l.Queue.all sendB then .inl () else .inr false) := by
  have hl := w.len
  refine loop_every l.Queue sendB (by omega) (fun k hk => ?_) ?_
  · unfold F_ref09_Valid_l1
    rw [decT (show (k : Int) < (l.Queue.length : Int) by omega), idxK hk, Option.bind_some, send_r (w.fr _ (List.getElem_mem hk))]
    simp only [cond_true, Option.bind_some]
    cases sendB l.Queue[k] <;> rfl
  · unfold F_ref09_Valid_l1
    rw [decF (by omega)]
    rfl
theorem valid_p {l : S_Link} (w : WfL l) : F_transmit_Valid l = some (linkB l) := by
  unfold F_transmit_Valid linkB
  by_cases h16 : l.Queue.length ≤ 16
  · rw [decF (show ¬ (l.Queue.length : Int) > 16 by omega), vl_p w, decT h16]
    simp only [cond_false, Option.bind_some, Bool.true_and]
    cases ha : l.Queue.all sendB
    · rfl
    simp only [if_true, Sum.elim_inl, Bool.true_and, valid_eq, ended_eq, Option.bind_some]
    by_cases h0 : l.Queue.length = 0
    · rw [if_pos h0, show ((l.Queue.length : Int) == 0) = true by simp [h0], cond_true]
      cases (l.Phase == 0) <;> cases (l.Attempts == 0) <;> (unfold B0; cases S_Backoff.eqb l.Backoff (S_Backoff.mk 0 0 0 0 0)) <;> simp
    · rw [if_neg h0, show ((l.Queue.length : Int) == 0) = false from beqF (by omega), cond_false]
      by_cases p1 : l.Phase = 1
      · rw [if_pos p1, show (l.Phase == 1) = true by simp [p1], cond_true]
        cases h1 : decide (0 ≤ l.Attempts) <;> simp only [ge_iff_le, h1, cond_true, cond_false, Bool.false_and, Bool.true_and]
        cases h2 : decide (l.Attempts ≤ 3) <;> simp only [cond_true, cond_false, Bool.false_and, Bool.true_and]
        cases bvB (bk l.Backoff) <;> cases endedB (bk l.Backoff) <;> simp
      · rw [if_neg p1, show (l.Phase == 1) = false by simp [p1], cond_false]
        by_cases p2 : l.Phase = 2
        · rw [if_pos p2, show (l.Phase == 2) = true by simp [p2], cond_true]
          obtain ⟨q, ph, at_, b, lf⟩ := l
          cases q with
          | nil => simp at h0
          | cons f r =>
            have e0 : idx (f :: r) 0 = some f := rfl
            simp only [e0, Option.bind_some, headAck]
            cases f.AckRequest <;> simp only [cond_true, cond_false, Bool.false_and, Bool.true_and]
            cases h1 : decide (1 ≤ at_) <;> simp only [ge_iff_le, h1, cond_true, cond_false, Bool.false_and, Bool.true_and]
            cases h2 : decide (at_ ≤ 4) <;> simp only [cond_true, cond_false, Bool.false_and, Bool.true_and]
            unfold B0
            cases S_Backoff.eqb b (S_Backoff.mk 0 0 0 0 0) <;> simp only [cond_true, cond_false, Bool.false_and, Bool.true_and]
            cases h3 : decide (1 ≤ lf) <;> rfl
        · rw [if_neg p2, show (l.Phase == 2) = false by simp [p2], cond_false]
  · rw [decT (show (l.Queue.length : Int) > 16 by omega), decF h16]
    simp
theorem valid_r {l : S_Link} (w : WfL l) : F_ref09_Valid l = some (linkB l) := by
  rw [← valid_p w]
  unfold F_transmit_Valid F_ref09_Valid
  rw [vl_p w, vl_r w]
  simp only [valid_eq, ended_eq, rvalid_eq, rended_eq]
structure LinkOk (l : S_Link) : Prop where
  len : l.Queue.length ≤ 16
  send : ∀ f ∈ l.Queue, sendB f = true
theorem link_ok {l : S_Link} (h : linkB l = true) : LinkOk l := by
  unfold linkB at h
  simp only [Bool.and_eq_true, decide_eq_true_eq, List.all_eq_true] at h
  exact ⟨h.1.1, h.1.2⟩
theorem own_f {f : S_Frame} (w : WfF f) : F_transmit_ownFrame f = some f := by
  have h1 := w.payl
  have h2 := w.micl
  unfold F_transmit_ownFrame
  simp only [Cut.app]
  rw [appO_some (by simp; omega) (by simp; omega), Option.bind_some, appO_some (by simp; omega) (by simp; omega), Option.bind_some]
  rfl
theorem cop_f {f : S_Frame} (w : WfF f) : F_ref09_copied f = some f := by
  have h1 := w.payl
  have h2 := w.micl
  unfold F_ref09_copied
  simp only [Cut.app]
  rw [appO_some (by simp; omega) (by simp; omega), Option.bind_some, appO_some (by simp; omega) (by simp; omega), Option.bind_some]
  rfl
theorem own_l {l : S_Link} (w : WfL l) (h : l.Queue.length ≤ 16) : F_transmit_own l = some l := by
  unfold F_transmit_own
  have hl := loop_run (step := F_transmit_own_l1 l) (S := fun k => (l.Queue.take k, (k : Int))) l.Queue.length (r := l.Queue) (fun k hk => by
    unfold F_transmit_own_l1
    dsimp only
    rw [decT (show (k : Int) < (l.Queue.length : Int) by omega), idxK hk, Option.bind_some, own_f (w.fr _ (List.getElem_mem hk))]
    simp only [cond_true, Option.bind_some, Cut.app]
    rw [appO_some (by simp; omega) (by simp; omega), Option.bind_some, wk k (by omega), take_snoc (List.getElem?_eq_getElem hk)]) (by
    unfold F_transmit_own_l1
    dsimp only
    rw [decF (by omega), List.take_length]
    rfl)
  simp only [Int.natCast_zero, List.take_zero] at hl
  rw [hl]
  rfl
theorem rest_l {l : S_Link} (w : WfL l) (h : l.Queue.length ≤ 16) : F_ref09_rest l.Queue = some l.Queue := by
  unfold F_ref09_rest
  have hl := loop_run (step := F_ref09_rest_l1 l.Queue) (S := fun k => (l.Queue.take k, (k : Int))) l.Queue.length (r := l.Queue) (fun k hk => by
    unfold F_ref09_rest_l1
    dsimp only
    rw [decT (show (k : Int) < (l.Queue.length : Int) by omega), idxK hk, Option.bind_some, cop_f (w.fr _ (List.getElem_mem hk))]
    simp only [cond_true, Option.bind_some, Cut.app]
    rw [appO_some (by simp; omega) (by simp; omega), Option.bind_some, wk k (by omega), take_snoc (List.getElem?_eq_getElem hk)]) (by
    unfold F_ref09_rest_l1
    dsimp only
    rw [decF (by omega), List.take_length]
    rfl)
  simp only [Int.natCast_zero, List.take_zero] at hl
  rw [hl]
  rfl
def startL (q : List S_Frame) (d : Int) : S_Link := if q = [] then L0 else S_Link.mk q 1 0 (sb (beginB d)) 0
noncomputable def enqS (l : S_Link) (f : S_Frame) (d : Int) : S_Link × Int := if linkB l = true ∧ sendB f = true then
    (if l.Queue.length = 16 then (L0, 10) else if l.Queue = [] then (S_Link.mk [f] 1 0 (sb (beginB d)) 0, 0) else (S_Link.mk (l.Queue ++ [f]) l.Phase l.Attempts l.Backoff l.Left, 0))
  else (L0, 1)
theorem enq_p {l : S_Link} (w : WfL l) {f : S_Frame} (wf : WfF f) {d : Int} (d0 : 0 ≤ d) (d1 : d ≤ 4294967295) : F_transmit_Enqueue l f d = some (enqS l f d) := by
  unfold F_transmit_Enqueue F_transmit_Enqueue_j1 enqS
  rw [valid_p w, Option.bind_some]
  cases hv : linkB l
  · simp [L0, B0]
  have hk := link_ok hv
  have hk1 := hk.len
  rw [send_p wf, cond_true, Option.bind_some]
  cases hs : sendB f
  · simp [L0, B0]
  simp only [cond_true, and_self, if_true]
  by_cases h16 : l.Queue.length = 16
  · rw [if_pos h16, show ((l.Queue.length : Int) == 16) = true by simp; omega]
    rfl
  · rw [if_neg h16, show ((l.Queue.length : Int) == 16) = false from beqF (by omega), own_l w hk.len, own_f wf]
    simp only [cond_false, Option.bind_some, Cut.app]
    rw [appO_some (by simp; omega) (by simp; omega), Option.bind_some, begin_eq d d0 d1]
    by_cases h0 : l.Queue = []
    · rw [if_pos h0, h0]
      rfl
    · have hp : 0 < l.Queue.length := List.length_pos_iff.2 h0
      rw [if_neg h0, show (((l.Queue ++ [f]).length : Int) == 1) = false from beqF (by rw [List.length_append, List.length_singleton]; omega)]
      rfl
theorem enq_r {l : S_Link} (w : WfL l) {f : S_Frame} (wf : WfF f) {d : Int} (d0 : 0 ≤ d) (d1 : d ≤ 4294967295) : F_ref09_Enqueue l f d = some (enqS l f d) := by
  unfold F_ref09_Enqueue F_ref09_Enqueue_j1 enqS
  rw [valid_r w, Option.bind_some]
  cases hv : linkB l
  · simp [L0, B0]
  have hk := link_ok hv
  have hk1 := hk.len
  rw [send_r wf, cond_true, Option.bind_some]
  cases hs : sendB f
  · simp [L0, B0]
  simp only [cond_true, and_self, if_true]
  by_cases h16 : l.Queue.length = 16
  · rw [if_pos h16, show ((l.Queue.length : Int) == 16) = true by simp; omega]
    rfl
  · rw [if_neg h16, show ((l.Queue.length : Int) == 16) = false from beqF (by omega), rest_l w hk.len, cop_f wf, rbegin_eq d d0 d1]
    simp only [cond_false, Option.bind_some, Cut.app]
    rw [appO_some (by simp; omega) (by simp; omega), Option.bind_some]
    by_cases h0 : l.Queue = []
    · rw [if_pos h0, h0]
      rfl
    · have hp : 0 < l.Queue.length := List.length_pos_iff.2 h0
      rw [if_neg h0, show ((l.Queue.length : Int) == 0) = false from beqF (by omega)]
      rfl
def failL (f : S_Frame) (r : List S_Frame) (n d : Int) : S_Link × List S_Outcome := if n > 3 then (startL r d, [S_Outcome.mk f false n]) else (S_Link.mk (f :: r) 1 n (sb (beginB d)) 0, [])
noncomputable def stpS (l : S_Link) (x : S_Slot) : S_Link × Bool × List S_Outcome := if linkB l then
    (match l.Queue with
    | [] => (l, false, [])
    | f :: r => if l.Phase = 1 then
        (let b := (bk l.Backoff).step x.Busy x.Draw
         if b.st = 3 then (if f.AckRequest then (S_Link.mk (f :: r) 2 (l.Attempts + 1) B0 3, true, []) else (startL r x.Draw, true, [S_Outcome.mk f true (l.Attempts + 1)]))
         else if b.st = 4 then ((failL f r (l.Attempts + 1) x.Draw).1, false, (failL f r (l.Attempts + 1) x.Draw).2)
         else (S_Link.mk (f :: r) 1 l.Attempts (sb b) l.Left, false, []))
      else if x.Ack = true ∧ x.Seq = f.Seq then (startL r x.Draw, false, [S_Outcome.mk f true l.Attempts])
      else if l.Left - 1 = 0 then ((failL f r l.Attempts x.Draw).1, false, (failL f r l.Attempts x.Draw).2)
      else (S_Link.mk (f :: r) l.Phase l.Attempts l.Backoff (l.Left - 1), false, []))
  else (L0, false, [])
theorem link_cases {f : S_Frame} {r : List S_Frame} {ph a lf : Int} {b : S_Backoff} (h : linkB (S_Link.mk (f :: r) ph a b lf) = true) : (ph = 1 ∧ 0 ≤ a ∧ a ≤ 3 ∧ (bk b).Valid ∧ (b.State = 1 ∨ b.State = 2) ∧ lf = 0) ∨ (ph = 2 ∧ f.AckRequest = true ∧ 1 ≤ a ∧ a ≤ 4 ∧ b = B0 ∧ 1 ≤ lf ∧ lf ≤ 3) := by
  unfold linkB at h
  simp only [Bool.and_eq_true] at h
  have h2 := h.2
  rw [if_neg (by simp)] at h2
  by_cases p1 : ph = 1
  · rw [if_pos p1] at h2
    simp only [Bool.and_eq_true, decide_eq_true_eq, beq_iff_eq, Bool.not_eq_true'] at h2
    obtain ⟨⟨⟨⟨q1, q2⟩, q3⟩, q4⟩, q5⟩ := h2
    have q3' : (bk b).Valid := by simpa [bvB] using q3
    have q4' : ¬ (b.State = 3 ∨ b.State = 4) := by
      intro hh
      have : endedB (bk b) = true := by unfold endedB; exact decide_eq_true ⟨q3', hh⟩
      rw [this] at q4; cases q4
    refine .inl ⟨p1, q1, q2, q3', ?_, q5⟩
    obtain ⟨_, _, _, hs⟩ := q3'
    simp only [bk] at hs
    omega
  · rw [if_neg p1] at h2
    by_cases p2 : ph = 2
    · rw [if_pos p2] at h2
      simp only [Bool.and_eq_true, decide_eq_true_eq, headAck] at h2
      obtain ⟨⟨⟨⟨⟨q1, q2⟩, q3⟩, q4⟩, q5⟩, q6⟩ := h2
      refine .inr ⟨p2, q1, q2, q3, ?_, q5, q6⟩
      obtain ⟨b1, b2, b3, b4, b5⟩ := b
      simp only [S_Backoff.eqb, B0, Bool.and_true, Bool.and_eq_true, beq_iff_eq] at q4
      obtain ⟨rfl, rfl, rfl, rfl, rfl⟩ := q4
      rfl
    · rw [if_neg p2] at h2; cases h2
theorem link_nil {ph a lf : Int} {b : S_Backoff} (h : linkB (S_Link.mk [] ph a b lf) = true) : S_Link.mk [] ph a b lf = L0 := by
  unfold linkB at h
  simp only [Bool.and_eq_true] at h
  have h2 := h.2
  rw [if_pos (by simp)] at h2
  simp only [Bool.and_eq_true, beq_iff_eq] at h2
  obtain ⟨⟨⟨rfl, rfl⟩, q⟩, rfl⟩ := h2
  obtain ⟨b1, b2, b3, b4, b5⟩ := b
  simp only [S_Backoff.eqb, B0, Bool.and_true, Bool.and_eq_true, beq_iff_eq] at q
  obtain ⟨rfl, rfl, rfl, rfl, rfl⟩ := q
  rfl
theorem tail_p (f : S_Frame) (r : List S_Frame) : subO (f :: r) 1 ((f :: r).length : Int) = some r := by
  rw [subO_some (by omega) (by simp; omega) (by omega)]
  simp
theorem head_i (f : S_Frame) (r : List S_Frame) : idx (f :: r) 0 = some f := rfl
theorem one_o (o : S_Outcome) : appO 136 ([] : List S_Outcome) (Cut.app .whole ([o] : List S_Outcome)) = some [o] := rfl
theorem tail_o {r : List S_Frame} (h : r.length ≤ 16) : appO 120 ([] : List S_Frame) (Cut.app .whole r) = some r := by
  simp only [Cut.app]
  rw [appO_some (by simp; omega) (by simp; omega), List.nil_append]
theorem isnil (r : List S_Frame) : ((r.length : Int) == 0) = decide (r = []) := by
  cases r with
  | nil => rfl
  | cons f r => exact beqF (by simp; omega)
theorem stp_p {l : S_Link} (w : WfL l) {x : S_Slot} (d0 : 0 ≤ x.Draw) (d1 : x.Draw ≤ 4294967295) : F_transmit_Step l x = some (stpS l x) := by
  unfold F_transmit_Step F_transmit_Step_j3 F_transmit_Step_j2 F_transmit_Step_j1 stpS
  rw [valid_p w, Option.bind_some]
  cases hv : linkB l
  · rfl
  have hk := link_ok hv
  rw [own_l w hk.len]
  simp only [cond_true, Option.bind_some, if_true]
  obtain ⟨q, ph, a, b, lf⟩ := l
  cases q with
  | nil =>
    have := link_nil hv
    simp only [L0, S_Link.mk.injEq, true_and] at this
    obtain ⟨rfl, rfl, rfl, rfl⟩ := this
    rfl
  | cons f r =>
    have hlen := hk.len
    simp only [List.length_cons] at hlen
    have e2 := tail_o (r := r) (by omega)
    have e3 := tail_p f r
    have eb := begin_eq x.Draw d0 d1
    rcases link_cases hv with ⟨rfl, a0, a3, hb, hbs, rfl⟩ | ⟨rfl, hack, a1, a4, rfl, l1, l3⟩
    · have w1 : IntKind.wrap .i64 (a + 1) = a + 1 := wi (by omega) (by omega)
      simp only [show ((1 : Int) == 1) = true from rfl, cond_true, step_eq b x.Busy x.Draw d0 d1, Option.bind_some, w1, head_i, one_o, e3, e2, eb, isnil, if_true, failL, startL]
      generalize (bk b).step x.Busy x.Draw = B
      by_cases s3 : B.st = 3
      · simp only [sb, s3, show ((3 : Int) == 3) = true from rfl, cond_true, if_true]
        cases f.AckRequest
        · simp only [cond_false, Bool.false_eq_true, if_false]
          by_cases hr : r = [] <;> simp only [hr, decide_true, decide_false, cond_true, cond_false, if_true, if_false, sb, L0, B0]
        · rfl
      · have s3' : (B.st == 3) = false := beqF s3
        simp only [sb, s3', s3, cond_false, if_false]
        by_cases s4 : B.st = 4
        · simp only [s4, show ((4 : Int) == 4) = true from rfl, cond_true, if_true]
          by_cases ha : a + 1 > 3
          · simp only [ha, decide_true, cond_true, if_true]
            by_cases hr : r = [] <;> simp only [hr, decide_true, decide_false, cond_true, cond_false, if_true, if_false, sb, L0, B0]
          · simp only [ha, decide_false, cond_false, if_false, sb]
        · have s4' : (B.st == 4) = false := beqF s4
          simp only [s4', s4, cond_false, if_false]
    · have w1 : IntKind.wrap .i64 (lf - 1) = lf - 1 := wi (by omega) (by omega)
      simp only [show ((2 : Int) == 1) = false from rfl, show ((2 : Int) == 2) = true from rfl, cond_true, cond_false, Option.bind_some, w1, head_i, one_o, e3, e2, eb, isnil, failL, startL, show ¬ ((2 : Int) = 1) by omega, if_false]
      cases hA : x.Ack
      · simp only [cond_false, Bool.false_eq_true, false_and, if_false]
        by_cases h1 : lf - 1 = 0
        · simp only [h1, show ((0 : Int) == 0) = true from rfl, cond_true, if_true]
          by_cases ha : a > 3
          · simp only [ha, decide_true, cond_true, if_true]
            by_cases hr : r = [] <;> simp only [hr, decide_true, decide_false, cond_true, cond_false, if_true, if_false, sb, L0, B0]
          · simp only [ha, decide_false, cond_false, if_false, sb]
        · simp only [beqF h1, h1, cond_false, if_false]
      · simp only [cond_true, true_and]
        by_cases hs : x.Seq = f.Seq
        · simp only [hs, BEq.rfl, cond_true, if_true]
          by_cases hr : r = [] <;> simp only [hr, decide_true, decide_false, cond_true, cond_false, if_true, if_false, sb, L0, B0]
        · simp only [beqF hs, hs, cond_false, if_false]
          by_cases h1 : lf - 1 = 0
          · simp only [h1, show ((0 : Int) == 0) = true from rfl, cond_true, if_true]
            by_cases ha : a > 3
            · simp only [ha, decide_true, cond_true, if_true]
              by_cases hr : r = [] <;> simp only [hr, decide_true, decide_false, cond_true, cond_false, if_true, if_false, sb, L0, B0]
            · simp only [ha, decide_false, cond_false, if_false, sb]
          · simp only [beqF h1, h1, cond_false, if_false]
theorem begin_r (q : List S_Frame) {d : Int} (d0 : 0 ≤ d) (d1 : d ≤ 4294967295) : F_ref09_begin q d = some (startL q d) := by
  unfold F_ref09_begin startL
  rw [rbegin_eq d d0 d1, isnil]
  by_cases h : q = [] <;> simp only [h, decide_true, decide_false, cond_true, cond_false, if_true, if_false, Option.bind_some, L0, B0]
theorem finish_r (f : S_Frame) (r : List S_Frame) (ph a lf : Int) (b : S_Backoff) (s : Bool) {d : Int} (d0 : 0 ≤ d) (d1 : d ≤ 4294967295) : F_ref09_finish (S_Link.mk (f :: r) ph a b lf) s d = some (startL r d, [S_Outcome.mk f s a]) := by
  unfold F_ref09_finish
  simp only [head_i, tail_p, begin_r r d0 d1, Option.bind_some]
theorem stp_r {l : S_Link} (w : WfL l) {x : S_Slot} (d0 : 0 ≤ x.Draw) (d1 : x.Draw ≤ 4294967295) : F_ref09_Step l x = some (stpS l x) := by
  unfold F_ref09_Step F_ref09_Step_j4 F_ref09_Step_j3 F_ref09_Step_j2 F_ref09_Step_j1 stpS
  rw [valid_r w, Option.bind_some]
  cases hv : linkB l
  · rfl
  have hk := link_ok hv
  rw [rest_l w hk.len]
  simp only [cond_true, Option.bind_some, if_true]
  obtain ⟨q, ph, a, b, lf⟩ := l
  cases q with
  | nil =>
    have := link_nil hv
    simp only [L0, S_Link.mk.injEq, true_and] at this
    obtain ⟨rfl, rfl, rfl, rfl⟩ := this
    rfl
  | cons f r =>
    have eb := rbegin_eq x.Draw d0 d1
    have ef := fun ph a lf b s => finish_r f r ph a lf b s d0 d1
    rcases link_cases hv with ⟨rfl, a0, a3, hb, hbs, rfl⟩ | ⟨rfl, hack, a1, a4, rfl, l1, l3⟩
    · have w1 : IntKind.wrap .i64 (a + 1) = a + 1 := wi (by omega) (by omega)
      simp only [show ((1 : Int) == 1) = true from rfl, cond_true, rstep_eq b x.Busy x.Draw d0 d1, Option.bind_some, w1, head_i, ef, eb, if_true, failL]
      generalize (bk b).step x.Busy x.Draw = B
      by_cases s3 : B.st = 3
      · simp only [sb, s3, show ((3 : Int) == 4) = false from rfl, show ((3 : Int) != 3) = false from rfl, cond_false, if_true]
        cases f.AckRequest <;> rfl
      · have s3' : (B.st != 3) = true := by simp [s3]
        simp only [sb, s3', s3, if_false]
        by_cases s4 : B.st = 4
        · simp only [s4, show ((4 : Int) == 4) = true from rfl, cond_true, if_true]
          by_cases ha : a + 1 > 3 <;> simp only [ha, decide_true, decide_false, cond_true, cond_false, if_true, if_false, sb]
        · have s4' : (B.st == 4) = false := beqF s4
          simp only [s4', s4, cond_false, cond_true, if_false]
    · have w1 : IntKind.wrap .i64 (lf - 1) = lf - 1 := wi (by omega) (by omega)
      simp only [show ((2 : Int) == 1) = false from rfl, show ((2 : Int) == 2) = true from rfl, cond_true, cond_false, Option.bind_some, w1, head_i, ef, eb, failL, show ¬ ((2 : Int) = 1) by omega, if_false]
      cases hA : x.Ack
      · simp only [cond_false, Bool.false_eq_true, false_and, if_false]
        by_cases h1 : lf - 1 = 0
        · simp only [h1, show ((0 : Int) == 0) = true from rfl, cond_true, if_true]
          by_cases ha : a > 3 <;> simp only [ha, decide_true, decide_false, cond_true, cond_false, if_true, if_false, sb]
        · simp only [beqF h1, h1, cond_false, if_false]
      · simp only [cond_true, true_and]
        by_cases hs : x.Seq = f.Seq
        · simp only [hs, BEq.rfl, cond_true, if_true]
        · simp only [beqF hs, hs, cond_false, if_false]
          by_cases h1 : lf - 1 = 0
          · simp only [h1, show ((0 : Int) == 0) = true from rfl, cond_true, if_true]
            by_cases ha : a > 3 <;> simp only [ha, decide_true, decide_false, cond_true, cond_false, if_true, if_false, sb]
          · simp only [beqF h1, h1, cond_false, if_false]
end
section
open Go.RowKit

theorem adr_wf {a : S_Addr} (h : AdrOk a) : AdrWf a := by
  rcases h with q | q
  · exact ⟨q.2.2, by omega⟩
  · exact ⟨by omega, q.2.2⟩
theorem addr_spec {t : S_multihopmade_Tape} (h : TapeOk t) : ∃ a t', F_made_Tape_Addr t = some (a, t') ∧ AdrWf a ∧ TapeOk t' := by
  unfold F_made_Tape_Addr
  obtain ⟨v, t1, e1, _, _, k1⟩ := next_spec h 6 (by omega) (by omega)
  simp only [e1, Option.bind_some]
  cases v == 4
  · cases v == 5
    · obtain ⟨a, t2, e2, q, _, k2⟩ := device_spec k1
      simp only [e2, Option.bind_some]
      exact ⟨_, _, rfl, adr_wf q, k2⟩
    · exact ⟨_, _, rfl, ⟨by decide, by decide⟩, k1⟩
  · exact ⟨_, _, rfl, ⟨by decide, by decide⟩, k1⟩
theorem r_room_any {f : S_Frame} (w : WfF f) : ∃ n, F_ref05_Room f = some n ∧ 0 ≤ n ∧ n ≤ 127 := by
  cases hv : validB f
  · refine ⟨0, ?_, by omega, by omega⟩
    unfold F_ref05_Room
    rw [r_valid_eq w, hv]; rfl
  · have g := good_of w hv
    have hz := g.size
    by_cases hk : f.Kind = 2
    · refine ⟨0, ?_, by omega, by omega⟩
      unfold F_ref05_Room
      rw [r_valid g, hk]; rfl
    · exact ⟨_, r_room g hk, by omega, by omega⟩
theorem spoiled_spec {t : S_multihopmade_Tape} (h : TapeOk t) {f : S_Frame} (g : GoodF f) : ∃ f' t', F_made_Tape_Spoiled t f = some (f', t') ∧ WfF f' ∧ TapeOk t' := by
  have w := good_wf g
  have hp := (good_pay g).1
  unfold F_made_Tape_Spoiled F_made_Tape_Spoiled_j1
  obtain ⟨v, t1, e1, _, _, k1⟩ := next_spec h 8 (by omega) (by omega)
  simp only [e1, Option.bind_some]
  by_cases c0 : v = 0
  · obtain ⟨v2, t2, e2, _, _, k2⟩ := next_spec k1 6 (by omega) (by omega)
    simp only [c0, BEq.rfl, cond_true, e2, Option.bind_some]
    exact ⟨_, _, rfl, ⟨w.seq, w.pan, w.dst, w.src, w.cnt, w.key, w.pay, w.payl, w.mic, w.micl⟩, k2⟩
  rw [show (v == 0) = false by simp [c0]]
  by_cases c1 : v = 1
  · obtain ⟨v2, t2, e2, _, _, k2⟩ := next_spec k1 5 (by omega) (by omega)
    obtain ⟨v3, t3, e3, _, _, k3⟩ := next_spec k2 2 (by omega) (by omega)
    obtain ⟨v4, t4, e4, _, _, k4⟩ := next_spec k3 2 (by omega) (by omega)
    simp only [c1, BEq.rfl, cond_true, cond_false, e2, e3, e4, Option.bind_some]
    exact ⟨_, _, rfl, ⟨w.seq, w.pan, ⟨by dsimp only; rw [wrap16]; omega, by dsimp only; rw [wrap64]; omega⟩, w.src, w.cnt, w.key, w.pay, w.payl, w.mic, w.micl⟩, k4⟩
  rw [show (v == 1) = false by simp [c1]]
  by_cases c2 : v = 2
  · obtain ⟨a, t2, e2, q, k2⟩ := addr_spec k1
    simp only [c2, BEq.rfl, cond_true, cond_false, e2, Option.bind_some]
    exact ⟨_, _, rfl, ⟨w.seq, w.pan, w.dst, q, w.cnt, w.key, w.pay, w.payl, w.mic, w.micl⟩, k2⟩
  rw [show (v == 2) = false by simp [c2]]
  by_cases c3 : v = 3
  · simp only [c3, BEq.rfl, cond_true, cond_false]
    exact ⟨_, _, rfl, ⟨w.seq, w.pan, w.dst, w.src, w.cnt, w.key, w.pay, w.payl, w.mic, w.micl⟩, k1⟩
  rw [show (v == 3) = false by simp [c3]]
  by_cases c4 : v = 4
  · obtain ⟨l, t2, e2, o, ll, k2⟩ := bytes_spec k1 6 (by omega)
    have e2' : F_made_Tape_Bytes t1 6 = some (l, t2) := e2
    simp only [c4, BEq.rfl, cond_true, cond_false, e2', Option.bind_some]
    exact ⟨_, _, rfl, ⟨w.seq, w.pan, w.dst, w.src, w.cnt, w.key, w.pay, w.payl, o, by dsimp only; omega⟩, k2⟩
  rw [show (v == 4) = false by simp [c4]]
  by_cases c5 : v = 5
  · obtain ⟨n, e2, n0, n1⟩ := r_room_any w
    have ew : IntKind.wrap .i64 ((IntKind.wrap .i64 (n + (f.Payload.length : Int))) + 1) = ((n.toNat + f.Payload.length + 1 : Nat) : Int) := by
      rw [wi (x := n + (f.Payload.length : Int)) (by omega) (by omega), wi (by omega) (by omega)]; omega
    obtain ⟨l, t2, e3, o, ll, k2⟩ := fill_spec k1 (n.toNat + f.Payload.length + 1) (by omega)
    simp only [c5, BEq.rfl, cond_true, cond_false, e2, ew, e3, Option.bind_some]
    exact ⟨_, _, rfl, ⟨w.seq, w.pan, w.dst, w.src, w.cnt, w.key, o, by dsimp only; omega, w.mic, w.micl⟩, k2⟩
  rw [show (v == 5) = false by simp [c5]]
  by_cases c6 : v = 6
  · simp only [c6, BEq.rfl, cond_true, cond_false]
    exact ⟨_, _, rfl, ⟨w.seq, w.pan, w.dst, w.src, by dsimp only; rw [wrap32]; omega, w.key, w.pay, w.payl, w.mic, w.micl⟩, k1⟩
  rw [show (v == 6) = false by simp [c6]]
  simp only [cond_false]
  exact ⟨_, _, rfl, ⟨w.seq, w.pan, w.dst, w.src, w.cnt, w.key, w.pay, w.payl, w.mic, w.micl⟩, k1⟩
end
section
open Go.RowKit

structure GoodL (l : S_Link) : Prop where
  fr : ∀ f ∈ l.Queue, GoodF f
  len : l.Queue.length ≤ 16
theorem GoodL.wf {l : S_Link} (h : GoodL l) : WfL l := ⟨fun f hf => good_wf (h.fr f hf), by have := h.len; omega⟩
theorem goodL0 : GoodL L0 := ⟨fun f hf => by simp [L0] at hf, by simp [L0]⟩
theorem send_good {f : S_Frame} (w : WfF f) (h : sendB f = true) : GoodF f := good_of w (by
  unfold sendB at h
  simp only [Bool.and_eq_true] at h
  exact h.1)
theorem enq_good {l : S_Link} (w : WfL l) {f : S_Frame} (wf : WfF f) (d : Int) : GoodL (enqS l f d).1 := by
  unfold enqS
  split
  · rename_i h
    obtain ⟨hv, hs⟩ := h
    have hk := link_ok hv
    have gf := send_good wf hs
    have gq : ∀ g ∈ l.Queue, GoodF g := fun g hg => send_good (w.fr g hg) (hk.send g hg)
    split
    · exact goodL0
    · rename_i h16
      have := hk.len
      split
      · exact ⟨fun g hg => by rw [List.mem_singleton.1 hg]; exact gf, by simp⟩
      · refine ⟨fun g hg => ?_, by simp; omega⟩
        rcases List.mem_append.1 hg with h | h
        · exact gq g h
        · rw [List.mem_singleton.1 h]; exact gf
  · exact goodL0
theorem start_good {r : List S_Frame} (h : ∀ f ∈ r, GoodF f) (hl : r.length ≤ 16) (d : Int) : GoodL (startL r d) := by
  unfold startL
  split
  · exact goodL0
  · exact ⟨h, hl⟩
theorem fail_good {f : S_Frame} {r : List S_Frame} (h : ∀ g ∈ f :: r, GoodF g) (hl : (f :: r).length ≤ 16) (n d : Int) : GoodL (failL f r n d).1 ∧ (failL f r n d).2.length ≤ 1 ∧ ∀ o ∈ (failL f r n d).2, GoodF o.Frame := by
  unfold failL
  split
  · exact ⟨start_good (fun g hg => h g (List.mem_cons_of_mem _ hg)) (by simp at hl ⊢; omega) d, by simp, fun o ho => by rw [List.mem_singleton.1 ho]; exact h f List.mem_cons_self⟩
  · exact ⟨⟨h, hl⟩, by simp, fun o ho => by simp at ho⟩
theorem stp_good {l : S_Link} (w : WfL l) (x : S_Slot) : GoodL (stpS l x).1 ∧ (stpS l x).2.2.length ≤ 1 ∧ ∀ o ∈ (stpS l x).2.2, GoodF o.Frame := by
  unfold stpS
  split
  rotate_left
  · exact ⟨goodL0, by simp, fun o ho => by simp at ho⟩
  rename_i hv
  have hk := link_ok hv
  have gq : ∀ g ∈ l.Queue, GoodF g := fun g hg => send_good (w.fr g hg) (hk.send g hg)
  have hlen := hk.len
  obtain ⟨q, ph, a, b, lf⟩ := l
  cases q with
  | nil => exact ⟨⟨gq, hlen⟩, by simp, fun o ho => by simp at ho⟩
  | cons f r =>
    have gr : ∀ g ∈ r, GoodF g := fun g hg => gq g (List.mem_cons_of_mem _ hg)
    have hr : r.length ≤ 16 := by simp at hlen; omega
    have g1 : ∀ n, GoodF (S_Outcome.mk f true n).Frame := fun n => gq f List.mem_cons_self
    dsimp only
    split
    · split
      · split
        · exact ⟨⟨gq, hlen⟩, by simp, fun o ho => by simp at ho⟩
        · exact ⟨start_good gr hr _, by simp, fun o ho => by rw [List.mem_singleton.1 ho]; exact g1 _⟩
      · split
        · exact fail_good gq hlen _ _
        · exact ⟨⟨gq, hlen⟩, by simp, fun o ho => by simp at ho⟩
    · split
      · exact ⟨start_good gr hr _, by simp, fun o ho => by rw [List.mem_singleton.1 ho]; exact g1 _⟩
      · split
        · exact fail_good gq hlen _ _
        · exact ⟨⟨gq, hlen⟩, by simp, fun o ho => by simp at ho⟩
theorem same_l {l : S_Link} (g : GoodL l) : F_ref09_Same l l = some true := by
  have hl := g.len
  unfold F_ref09_Same
  simp only [bne_self_eq_false, cond_false, eqb_self, cond_true]
  rw [loop_every l.Queue (fun _ => true) (by omega) (step := F_ref09_Same_l1 l l) (fun k hk => by
    unfold F_ref09_Same_l1
    rw [decT (show (k : Int) < (l.Queue.length : Int) by omega), idxK hk]
    simp only [cond_true, Option.bind_some, fsame_refl (g.fr _ (List.getElem_mem hk)), if_true]) (by
    unfold F_ref09_Same_l1
    rw [decF (by omega)]
    rfl)]
  simp
theorem same_o {l : List S_Outcome} (g : ∀ o ∈ l, GoodF o.Frame) (hl : l.length ≤ 1) : F_ref09_SameOutcomes l l = some true := by
  unfold F_ref09_SameOutcomes
  simp only [bne_self_eq_false, cond_false]
  rw [loop_every l (fun _ => true) (by omega) (step := F_ref09_SameOutcomes_l1 l l) (fun k hk => by
    unfold F_ref09_SameOutcomes_l1
    rw [decT (show (k : Int) < (l.length : Int) by omega), idxK hk]
    simp only [cond_true, Option.bind_some, fsame_refl (g _ (List.getElem_mem hk)), if_true, BEq.rfl, bne_self_eq_false, cond_false]) (by
    unfold F_ref09_SameOutcomes_l1
    rw [decF (by omega)]
    rfl)]
  simp
theorem samp_eq (s : Int) (a : Bool) : F_law09_sample s a = some (S_Frame.mk 1 a false false s 0 (S_Addr.mk 2 2 0) (S_Addr.mk 2 1 0) 0 0 [] []) := rfl
def samp (s : Int) (a : Bool) : S_Frame := S_Frame.mk 1 a false false s 0 (S_Addr.mk 2 2 0) (S_Addr.mk 2 1 0) 0 0 [] []
theorem samp_good {s : Int} (h : 0 ≤ s ∧ s ≤ 255) (a : Bool) : GoodF (samp s a) := by
  refine good_plain (.inl rfl) h (by omega) (by unfold AdrOk; decide) (by unfold AdrOk; decide) (by unfold bcast; decide) (fun _ => by unfold bcast; decide) okB_nil (by simp)
theorem samp_send {s : Int} (h : 0 ≤ s ∧ s ≤ 255) (a : Bool) : sendB (samp s a) = true := by
  unfold sendB
  rw [valid_good (samp_good h a)]
  rfl
theorem link0 : linkB L0 = true := by simp [linkB, L0, B0, S_Backoff.eqb]
theorem link_back {f : S_Frame} {r : List S_Frame} (hs : ∀ g ∈ f :: r, sendB g = true) (hl : (f :: r).length ≤ 16) {a : Int} (a0 : 0 ≤ a) (a3 : a ≤ 3) {b : Bk} (hb : b.Valid) (hst : b.st = 1 ∨ b.st = 2) : linkB (S_Link.mk (f :: r) 1 a (sb b) 0) = true := by
  have he : endedB b = false := by
    unfold endedB
    refine decide_eq_false ?_
    rintro ⟨_, h⟩
    omega
  have hv : bvB b = true := decide_eq_true hb
  unfold linkB
  dsimp only
  rw [decT hl, List.all_eq_true.2 hs, if_neg (by simp), if_pos rfl, decT a0, decT a3, bk_sb, hv, he]
  rfl
theorem known_true9 : F_law09_known = some true := by
  unfold F_law09_known
  rw [samp_eq, Option.bind_some]
  have hs := samp_send (s := 1) (by omega) false
  have gs := samp_good (s := 1) (by omega) false
  have e1 : enqS L0 (samp 1 false) 0 = (S_Link.mk [samp 1 false] 1 0 (sb ⟨2, 0, 3, 2, 0⟩) 0, 0) := by
    unfold enqS
    rw [if_pos ⟨link0, hs⟩]
    rfl
  have p1 : F_transmit_Enqueue (S_Link.mk [] 0 0 (S_Backoff.mk 0 0 0 0 0) 0) (S_Frame.mk 1 false false false 1 0 (S_Addr.mk 2 2 0) (S_Addr.mk 2 1 0) 0 0 [] []) 0 = some (S_Link.mk [samp 1 false] 1 0 (sb ⟨2, 0, 3, 2, 0⟩) 0, 0) := by
    rw [← e1]
    exact enq_p goodL0.wf (good_wf gs) (by omega) (by omega)
  rw [p1, Option.bind_some]
  have all1 : ∀ g ∈ [samp 1 false], sendB g = true := fun g hg => by rw [List.mem_singleton.1 hg]; exact hs
  have w1 : ∀ b, WfL (S_Link.mk [samp 1 false] 1 0 b 0) := fun b => ⟨fun g hg => by rw [List.mem_singleton.1 hg]; exact good_wf gs, by simp⟩
  have v1 := link_back all1 (by simp) (a := 0) (by omega) (by omega) (b := ⟨2, 0, 3, 2, 0⟩) (by decide) (by decide)
  have v2 := link_back all1 (by simp) (a := 0) (by omega) (by omega) (b := ⟨2, 0, 3, 1, 0⟩) (by decide) (by decide)
  have s1 : stpS (S_Link.mk [samp 1 false] 1 0 (sb ⟨2, 0, 3, 2, 0⟩) 0) (S_Slot.mk false false 0 0) = (S_Link.mk [samp 1 false] 1 0 (sb ⟨2, 0, 3, 1, 0⟩) 0, false, []) := by
    unfold stpS
    rw [if_pos v1]
    rfl
  have s2 : stpS (S_Link.mk [samp 1 false] 1 0 (sb ⟨2, 0, 3, 1, 0⟩) 0) (S_Slot.mk false false 0 0) = (L0, true, [S_Outcome.mk (samp 1 false) true 1]) := by
    unfold stpS
    rw [if_pos v2]
    rfl
  rw [stp_p (w1 _) (by simp) (by simp), s1, Option.bind_some, stp_p (w1 _) (by simp) (by simp), s2]
  rfl
theorem link_spec {t : S_multihopmade_Tape} (h : TapeOk t) : ∃ l t', F_made_Tape_Link t = some (l, t') ∧ GoodL l ∧ TapeOk t' := by
  unfold F_made_Tape_Link
  obtain ⟨n, t1, e1, n0, n1, k1⟩ := next_spec h 5 (by omega) (by omega)
  rw [e1, Option.bind_some]
  obtain ⟨b, e2, k2, g2⟩ := loop_inv (step := F_made_Tape_Link_l1) (fun s => 0 ≤ s.1 ∧ s.1 ≤ 5 ∧ TapeOk s.2.1 ∧ GoodL s.2.2) (fun r => TapeOk r.1 ∧ GoodL r.2) (fun s => s.1.toNat) (fun s ⟨i0, i1, ht, hl⟩ => by
    unfold F_made_Tape_Link_l1
    by_cases hi : s.1 > 0
    · left
      obtain ⟨f, t2, e3, gf, _, _, _, k3⟩ := frame_spec ht 3 (by omega)
      have e3' : F_made_Tape_Frame s.2.1 3 = some (f, t2) := e3
      obtain ⟨d, t3, e4, d0, d1, k4⟩ := next_spec k3 1000 (by omega) (by omega)
      rw [decT hi, cond_true, e3', Option.bind_some, e4, Option.bind_some, wu32 (by omega) (by omega), enq_r hl.wf (good_wf gf) d0 (by omega), Option.bind_some, wi (by omega) (by omega)]
      refine ⟨_, rfl, ⟨by dsimp only; omega, by dsimp only; omega, k4, enq_good hl.wf (good_wf gf) d⟩, by dsimp only; omega⟩
    · right
      rw [decF hi]
      exact ⟨_, rfl, ht, hl⟩) (n, t1, L0) ⟨n0, by dsimp only; omega, k1, goodL0⟩
  have e2' : loopO F_made_Tape_Link_l1 ((n, t1).1, (n, t1).2, S_Link.mk [] 0 0 (S_Backoff.mk 0 0 0 0 0) 0) = some b := e2
  rw [e2', Option.bind_some]
  obtain ⟨m, t4, e5, m0, m1, k5⟩ := next_spec k2 60 (by omega) (by omega)
  rw [e5, Option.bind_some]
  obtain ⟨c, e6, g6⟩ := loop_inv (step := F_made_Tape_Link_l2) (fun s => 0 ≤ s.1 ∧ s.1 ≤ 60 ∧ GoodL s.2) (fun r => GoodL r) (fun s => s.1.toNat) (fun s ⟨i0, i1, hl⟩ => by
    unfold F_made_Tape_Link_l2
    by_cases hi : s.1 > 0
    · left
      rw [decT hi, cond_true, wu32 (by omega) (by omega), stp_r hl.wf (by dsimp only; omega) (by dsimp only; omega), Option.bind_some, wi (by omega) (by omega)]
      exact ⟨_, rfl, ⟨by dsimp only; omega, by dsimp only; omega, (stp_good hl.wf _).1⟩, by dsimp only; omega⟩
    · right
      rw [decF hi]
      exact ⟨_, rfl, hl⟩) (m, b.2) ⟨m0, by dsimp only; omega, g2⟩
  have e6' : loopO F_made_Tape_Link_l2 ((m, t4).1, b.2) = some c := e6
  rw [e6', Option.bind_some]
  exact ⟨_, _, rfl, g6, k5⟩
theorem forms_j {a : S_Link} (wa : WfL a) {v2 : S_Link × S_multihopmade_Tape} (w2 : GoodL v2.1) {f : S_Frame} (wf : WfF f) {d : Int} (d0 : 0 ≤ d) (d1 : d ≤ 4294967295) {x : S_Slot} (x0 : 0 ≤ x.Draw) (x1 : x.Draw ≤ 4294967295) {v3 : S_multihopmade_Tape × S_Link} (k3 : TapeOk v3.1) (w3 : WfL v3.2) : F_law09_TransmitForms_j1 a v2 f d x v3 = some true := by
  unfold F_law09_TransmitForms_j1
  obtain ⟨f4, t4, e4, g4, _, _, _, k4⟩ := frame_spec k3 4 (by omega)
  have e4' : F_made_Tape_Frame v3.1 4 = some (f4, t4) := e4
  obtain ⟨f5, t5, e5, g5, _⟩ := any_spec k4
  simp only [e4', e5, Option.bind_some]
  have hl := loop_run (step := F_law09_TransmitForms_l2 a v2 v3 f (f4, t4) (f5, t5) d x) (S := fun k => (k : Int)) 4 (r := Sum.inl ()) (fun k hk => by
    have key : ∃ L F, idx ([a, v2.1, v2.1, v3.2] : List S_Link) (k : Int) = some L ∧ idx ([f, f, f4, f5] : List S_Frame) (k : Int) = some F ∧ WfL L ∧ WfF F := by
      have hk4 : k = 0 ∨ k = 1 ∨ k = 2 ∨ k = 3 := by omega
      rcases hk4 with rfl | rfl | rfl | rfl
      · exact ⟨_, _, rfl, rfl, wa, wf⟩
      · exact ⟨_, _, rfl, rfl, w2.wf, wf⟩
      · exact ⟨_, _, rfl, rfl, w2.wf, good_wf g4⟩
      · exact ⟨_, _, rfl, rfl, w3, good_wf g5⟩
    obtain ⟨L, F, i1, i2, wL, wF⟩ := key
    unfold F_law09_TransmitForms_l2
    rw [decT (show (k : Int) < (([a, v2.1, v2.1, v3.2] : List S_Link).length : Int) by simp; omega)]
    have sg := stp_good wL (S_Slot.mk x.Busy x.Ack (Int.tmod x.Seq 4) x.Draw)
    simp only [cond_true, i1, i2, Option.bind_some, enq_p wL wF d0 d1, enq_r wL wF d0 d1, stp_p wL (x := S_Slot.mk x.Busy x.Ack (Int.tmod x.Seq 4) x.Draw) x0 x1, stp_r wL (x := S_Slot.mk x.Busy x.Ack (Int.tmod x.Seq 4) x.Draw) x0 x1, valid_p wL, valid_r wL, BEq.rfl, bne_self_eq_false, cond_false, same_l (enq_good wL wF d), same_l sg.1, same_o sg.2.2 sg.2.1]
    rw [wk k (by omega)]) (by
    unfold F_law09_TransmitForms_l2
    rw [decF (by simp)]
    rfl)
  simp only [Int.natCast_zero] at hl
  rw [hl, Option.bind_some, Sum.elim_inl, known_true9]
  rfl
theorem forms_law9 {a : S_Link} (wa : WfL a) {f : S_Frame} (wf : WfF f) {x : S_Slot} (x0 : 0 ≤ x.Draw) (x1 : x.Draw ≤ 4294967295) (t : List Int) {d : Int} (d0 : 0 ≤ d) (d1 : d ≤ 4294967295) : F_law09_TransmitForms a f x t d = some true := by
  unfold F_law09_TransmitForms
  obtain ⟨k, e1, k1⟩ := new_spec t
  obtain ⟨l, t2, e2, g2, k2⟩ := link_spec k1
  obtain ⟨v, t3, e3, v0, v5, k3⟩ := next_spec k2 5 (by omega) (by omega)
  rw [e1, Option.bind_some, e2, Option.bind_some, e3, Option.bind_some]
  have fin : ∀ (tt : S_multihopmade_Tape) (L : S_Link), TapeOk tt → L.Queue = l.Queue → F_law09_TransmitForms_j1 a (l, t2) f d x (tt, L) = some true := fun tt L ht hq =>
    forms_j wa (v2 := (l, t2)) g2 wf d0 d1 x0 x1 (v3 := (tt, L)) ht ⟨fun f hf => good_wf (g2.fr f (by dsimp only at hf; rwa [hq] at hf)), by have := g2.len; dsimp only; rw [hq]; omega⟩
  cases h0 : (v == 0) <;> simp only [cond_true, cond_false]
  rotate_left
  · obtain ⟨u, t4, e4, _, _, k4⟩ := next_spec k3 4 (by omega) (by omega)
    rw [e4, Option.bind_some]
    exact fin _ _ k4 rfl
  cases h1 : (v == 1) <;> simp only [cond_true, cond_false]
  rotate_left
  · obtain ⟨u, t4, e4, _, _, k4⟩ := next_spec k3 9 (by omega) (by omega)
    rw [e4, Option.bind_some]
    exact fin _ _ k4 rfl
  cases h2 : (v == 2) <;> simp only [cond_true, cond_false]
  rotate_left
  · obtain ⟨u, t4, e4, _, _, k4⟩ := next_spec k3 5 (by omega) (by omega)
    rw [e4, Option.bind_some]
    exact fin _ _ k4 rfl
  cases h3 : (v == 3) <;> simp only [cond_true, cond_false]
  rotate_left
  · obtain ⟨u, t4, e4, _, _, k4⟩ := next_spec k3 5 (by omega) (by omega)
    rw [e4, Option.bind_some]
    exact fin _ _ k4 rfl
  have hlen := g2.len
  simp only [Cut.app]
  rw [appO_some (by simp; omega) (by simp; omega), Option.bind_some, List.nil_append]
  obtain ⟨f6, t6, e6, g6, _, _, _, k6⟩ := frame_spec k3 2 (by omega)
  have e6' : F_made_Tape_Frame t3 2 = some (f6, t6) := e6
  obtain ⟨f7, t7, e7, w7, k7⟩ := spoiled_spec k6 g6
  rw [e6', Option.bind_some, e7, Option.bind_some, appO_some (by simp; omega) (by simp; omega), Option.bind_some]
  refine forms_j wa (v2 := (l, t2)) g2 wf d0 d1 x0 x1 (v3 := (t7, _)) k7 ⟨fun g hg => ?_, by simp; omega⟩
  rcases List.mem_append.1 hg with h | h
  · exact good_wf (g2.fr g h)
  · rw [List.mem_singleton.1 h]; exact w7
end
section
open Go.RowKit
theorem wf_addr {a : S_Addr} (h : S_Addr.wf a) : AdrWf a := by
  obtain ⟨_, h2, h3⟩ := h
  simp [wfI, Lit.wf, IntKind.min, IntKind.max, IntKind.bits, IntKind.signed] at h2 h3
  exact ⟨by omega, by omega⟩
theorem wf_frame {f : S_Frame} (h : S_Frame.wf f) : WfF f := by
  obtain ⟨_, _, _, _, h5, h6, h7, h8, h9, h10, h11, h12⟩ := h
  simp [wfI, Lit.wf, IntKind.min, IntKind.max, IntKind.bits, IntKind.signed] at h5 h6 h9 h10
  exact ⟨by omega, by omega, wf_addr h7, wf_addr h8, by omega, by omega, okB_wf h11.2, h11.1, okB_wf h12.2, h12.1⟩
theorem transmitForms_holds : Rows.TransmitFormsSaid := transmitForms_of fun _ _ _ t _ h1 h2 h3 _ h5 =>
  forms_law9 ⟨fun f hf => wf_frame (h1.1.2 f hf), h1.1.1⟩ (wf_frame h2) (u32_bd h3.2.2.2).1 (u32_bd h3.2.2.2).2 t (u32_bd h5).1 (u32_bd h5).2
end
end Go.Proofs.Ytleadcbdbfjefaa
