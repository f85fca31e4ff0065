/-
  The makers' frames are good.
-/
import Derived.Test.YtohfnlkjdjmipaaMF3
import Derived.Test.YtohfnlkjdjmipaaQTBool
import Derived.Test.YtohfnlkjdjmipaaQTBytes
import Derived.Test.YtohfnlkjdjmipaaQTFill
namespace Go.Proofs.Ytohfnlkjdjmipaa
open Go.RowKit

theorem device_spec {t : S_multihopmade_Tape} (h : TapeOk t) : ∃ a t', F_made_Tape_Device t = some (a, t') ∧ AdrOk a ∧ ¬ bcast a ∧ TapeOk t' := by
  unfold F_made_Tape_Device
  obtain ⟨v1, t1, e1, a0, a1, k1⟩ := next_spec h 5 (by omega) (by omega)
  obtain ⟨v2, t2, e2, k2⟩ := bool_spec k1 2 (by omega) (by omega)
  simp only [e1, e2, Option.bind_some]
  cases v2
  · refine ⟨_, _, rfl, Or.inl ⟨rfl, rfl, ?_⟩, ?_, k2⟩
    · dsimp only
      rw [wrap16]; omega
    · rintro ⟨_, e⟩
      dsimp only at e
      rw [wrap16] at e
      omega
  · refine ⟨_, _, rfl, Or.inr ⟨rfl, rfl, ?_⟩, ?_, k2⟩
    · dsimp only
      rw [wrap64]; omega
    · rintro ⟨e, _⟩
      dsimp only at e
      omega
theorem hd_le (f : S_Frame) : (hdL f).length ≤ 26 + f.Payload.length := by
  have h1 := adrs_le f
  have h2 := secs_le f
  unfold hdL
  simp only [List.length_append, hd3_len]
  omega
theorem kind_ok {v : Int} (h0 : 0 ≤ v) (h1 : v < 2) : IntKind.wrap .i64 (1 + (IntKind.wrap .i64 (2 * v))) = 1 ∨ IntKind.wrap .i64 (1 + (IntKind.wrap .i64 (2 * v))) = 3 := by
  rw [wi (x := 2 * v) (by omega) (by omega), wi (by omega) (by omega)]
  omega
/-- a plain frame -/
theorem good_plain {k : Int} (hk : k = 1 ∨ k = 3) {a p : Bool} {s n : Int} {d c : S_Addr} {l : List Int} (hs : 0 ≤ s ∧ s ≤ 255) (hn : 0 ≤ n ∧ n ≤ 65535) (hd : AdrOk d) (hc : AdrOk c) (hb : ¬ bcast c) (ha : a = true → ¬ bcast d) (hl : okB l) (hz : l.length ≤ 60) : GoodF (S_Frame.mk k a p false s n d c 0 0 l []) where
  kind := by dsimp only; omega
  seq := hs
  ack := fun e => by dsimp only at e; omega
  adr := fun _ => ⟨hd, hc, hb, ha, hn⟩
  sec := fun e => by cases e
  nos := fun _ => ⟨rfl, rfl, rfl⟩
  pay := hl
  mic := okB_nil
  size := by
    have := hd_le (S_Frame.mk k a p false s n d c 0 0 l [])
    dsimp only at this
    dsimp only [List.length_nil]
    omega
theorem frame_spec {t : S_multihopmade_Tape} (h : TapeOk t) (n : Nat) (hn : n ≤ 60) : ∃ f t', F_made_Tape_Frame t n = some (f, t') ∧ GoodF f ∧ f.Kind ≠ 2 ∧ f.Secure = false ∧ f.Payload.length ≤ n ∧ TapeOk t' := by
  unfold F_made_Tape_Frame F_made_Tape_Frame_j1
  obtain ⟨v1, t1, e1, a0, a1, k1⟩ := next_spec h 2 (by omega) (by omega)
  obtain ⟨v2, t2, e2, k2⟩ := bool_spec k1 2 (by omega) (by omega)
  obtain ⟨v3, t3, e3, k3⟩ := bool_spec k2 4 (by omega) (by omega)
  obtain ⟨v4, t4, e4, b0, b1, k4⟩ := next_spec k3 256 (by omega) (by omega)
  obtain ⟨v5, t5, e5, c0, c1, k5⟩ := next_spec k4 3 (by omega) (by omega)
  obtain ⟨v6, t6, e6, d6, n6, k6⟩ := device_spec k5
  obtain ⟨v7, t7, e7, d7, n7, k7⟩ := device_spec k6
  obtain ⟨v8, t8, e8, o8, l8, k8⟩ := bytes_spec k7 n (by omega)
  obtain ⟨v9, t9, e9, k9⟩ := bool_spec k8 5 (by omega) (by omega)
  simp only [e1, e2, e3, e4, e5, e6, e7, e8, e9, Option.bind_some]
  have hk := kind_ok a0 a1
  have hp : 0 ≤ IntKind.wrap .u16 v5 ∧ IntKind.wrap .u16 v5 ≤ 65535 := by rw [wrap16]; omega
  have hne : IntKind.wrap .i64 (1 + (IntKind.wrap .i64 (2 * v1))) ≠ 2 := by omega
  cases v9
  · exact ⟨_, _, rfl, good_plain hk (wrap8_bd _) hp d6 d7 n7 (fun _ => n6) o8 (by omega), hne, rfl, l8, k9⟩
  · exact ⟨_, _, rfl, good_plain hk (wrap8_bd _) hp (Or.inl ⟨rfl, rfl, by dsimp only; omega, by dsimp only; omega⟩) d7 n7 (fun e => by cases e) o8 (by omega), hne, rfl, l8, k9⟩
theorem good_secure {f : S_Frame} (h : GoodF f) (hk : f.Kind ≠ 2) (hp : f.Payload.length ≤ 60) {c k : Int} {m : List Int} (hc : 0 ≤ c ∧ c ≤ 4294967295) (hy : 0 ≤ k ∧ k ≤ 255) (hm : okB m) (hl : m.length = 4) : GoodF (S_Frame.mk f.Kind f.AckRequest f.Pending true f.Seq f.Pan f.Dst f.Src c k f.Payload m) where
  kind := h.kind
  seq := h.seq
  ack := fun e => absurd e hk
  adr := fun _ => h.adr hk
  sec := fun _ => ⟨hc.1, hc.2, hy.1, hy.2, hl⟩
  nos := fun e => by cases e
  pay := h.pay
  mic := hm
  size := by
    have := hd_le (S_Frame.mk f.Kind f.AckRequest f.Pending true f.Seq f.Pan f.Dst f.Src c k f.Payload m)
    dsimp only at this ⊢
    omega
/-- another payload -/
theorem hd_pay {f : S_Frame} (l : List Int) : (hdL (S_Frame.mk f.Kind f.AckRequest f.Pending f.Secure f.Seq f.Pan f.Dst f.Src f.Counter f.Key l f.MIC)).length + f.Payload.length = (hdL f).length + l.length := by
  unfold hdL
  simp only [List.length_append]
  have e1 : (hd3 (S_Frame.mk f.Kind f.AckRequest f.Pending f.Secure f.Seq f.Pan f.Dst f.Src f.Counter f.Key l f.MIC)) = hd3 f := rfl
  have e2 : (adrs (S_Frame.mk f.Kind f.AckRequest f.Pending f.Secure f.Seq f.Pan f.Dst f.Src f.Counter f.Key l f.MIC)) = adrs f := rfl
  have e3 : (secs (S_Frame.mk f.Kind f.AckRequest f.Pending f.Secure f.Seq f.Pan f.Dst f.Src f.Counter f.Key l f.MIC)) = secs f := rfl
  rw [e1, e2, e3]
  omega
theorem good_pay' {f : S_Frame} (h : GoodF f) (hk : f.Kind ≠ 2) {l : List Int} (hl : okB l) (hz : (hdL f).length + f.MIC.length + 2 + l.length ≤ 127 + f.Payload.length) : GoodF (S_Frame.mk f.Kind f.AckRequest f.Pending f.Secure f.Seq f.Pan f.Dst f.Src f.Counter f.Key l f.MIC) where
  kind := h.kind
  seq := h.seq
  ack := fun e => absurd e hk
  adr := fun _ => h.adr hk
  sec := h.sec
  nos := h.nos
  pay := hl
  mic := h.mic
  size := by
    have := hd_pay (f := f) l
    dsimp only
    omega
theorem any_spec {t : S_multihopmade_Tape} (h : TapeOk t) : ∃ f t', F_made_Tape_AnyFrame t = some (f, t') ∧ GoodF f ∧ TapeOk t' := by
  unfold F_made_Tape_AnyFrame F_made_Tape_AnyFrame_j1
  obtain ⟨f, t1, e1, g1, hk, hs, hl, k1⟩ := frame_spec h 20 (by omega)
  have e1' : F_made_Tape_Frame t 20 = some (f, t1) := e1
  obtain ⟨v2, t2, e2, a0, a1, k2⟩ := next_spec k1 4 (by omega) (by omega)
  simp only [e1', e2, Option.bind_some]
  by_cases c0 : v2 = 0
  · obtain ⟨v3, t3, e3, k3⟩ := bool_spec k2 2 (by omega) (by omega)
    simp only [c0, BEq.rfl, cond_true, e3, Option.bind_some]
    exact ⟨_, _, rfl, good_ack _ _ g1.seq, k3⟩
  rw [show (v2 == 0) = false by simp [c0]]
  simp only [cond_false]
  by_cases c1 : v2 = 1
  · obtain ⟨v3, t3, e3, k3⟩ := word_spec k2
    obtain ⟨v4, t4, e4, _, _, k4⟩ := next_spec k3 3 (by omega) (by omega)
    obtain ⟨v5, t5, e5, o5, l5, k5⟩ := fill_spec k4 4 (by omega)
    have e5' : F_made_Tape_Fill t4 4 = some (v5, t5) := e5
    simp only [c1, BEq.rfl, cond_true, e3, e4, e5', Option.bind_some]
    exact ⟨_, _, rfl, good_secure g1 hk (by omega) (by rw [wrap32]; omega) (wrap8_bd _) o5 l5, k5⟩
  rw [show (v2 == 1) = false by simp [c1]]
  simp only [cond_false]
  by_cases c2 : v2 = 2
  · obtain ⟨v3, t3, e3, b0, b1, k3⟩ := next_spec k2 3 (by omega) (by omega)
    have hz := g1.size
    have hrm := r_room g1 hk
    have hp := (good_pay g1).1
    generalize hr : 127 - (((hdL f).length : Int) + f.MIC.length + 2) = r at hrm
    have er : IntKind.wrap .i64 (1 + r) = 1 + r := wi (by omega) (by omega)
    have m1 := Int.tmod_lt_of_pos v3 (show 0 < 1 + r by omega)
    have m0 := Int.tmod_nonneg (1 + r) b0
    generalize hq : Int.tmod v3 (1 + r) = q at m0 m1
    have ew : IntKind.wrap .i64 ((IntKind.wrap .i64 (r + (f.Payload.length : Int))) - q) = ((r + f.Payload.length - q).toNat : Int) := by
      rw [wi (x := r + (f.Payload.length : Int)) (by omega) (by omega), wi (by omega) (by omega)]
      omega
    obtain ⟨v5, t5, e5, o5, l5, k5⟩ := fill_spec k3 (r + f.Payload.length - q).toNat (by omega)
    simp only [c2, BEq.rfl, cond_true, e3, hrm, er, hq, ew, e5, Option.bind_some, decT (show 1 + r ≠ 0 by omega)]
    exact ⟨_, _, rfl, good_pay' g1 hk o5 (by omega), k5⟩
  · rw [show (v2 == 2) = false by simp [c2]]
    exact ⟨_, _, rfl, g1, k2⟩
end Go.Proofs.Ytohfnlkjdjmipaa
