/-
  The forms: Valid, Size, Room, Header, Encode and AckFor are the reference's, for all frames.
-/
import Derived.Test.YtohfnlkjdjmipaaMF9
namespace Go.Proofs.Ytohfnlkjdjmipaa
open Go.RowKit

theorem f_header_j1 {f : S_Frame} (h : GoodF f) : F_frame_Header_j1 f = some (hdL f) := by
  have e := f_header h
  unfold F_frame_Header at e
  rw [f_valid h] at e
  exact e
theorem r_header_j1 {f : S_Frame} (h : GoodF f) : F_ref05_Header_j1 f = some (hdL f) := by
  unfold F_ref05_Header_j1
  rw [r_header h]; rfl
theorem fsame_refl' {f : S_Frame} (hP : f.Payload.length ≤ 1000) (hM : f.MIC.length ≤ 1000) : F_ref05_Same f f = some true := by
  unfold F_ref05_Same
  rw [addr_refl, addr_refl, same_refl _ (by omega), same_refl _ (by omega)]
  simp
def micF (f : S_Frame) : S_Frame := S_Frame.mk f.Kind f.AckRequest f.Pending f.Secure f.Seq f.Pan f.Dst f.Src f.Counter f.Key f.Payload (List.replicate 4 (0 : Int))
theorem micF_wf {f : S_Frame} (w : WfF f) : WfF (micF f) := ⟨w.seq, w.pan, w.dst, w.src, w.cnt, w.key, w.pay, w.payl, fun z hz => by rw [(List.mem_replicate.1 hz).2]; omega, by show 4 ≤ _; omega⟩
theorem header_any {f : S_Frame} (w : WfF f) : ∃ l, F_frame_Header f = some l ∧ F_ref05_Header f = some l ∧ l.length ≤ 1000 := by
  have lg : ∀ {g : S_Frame}, GoodF g → (hdL g).length ≤ 1000 := fun h => by have := h.size; omega
  have em : mkO 1 4 4 = some 4 := rfl
  unfold F_frame_Header F_ref05_Header
  rw [f_valid_eq w, r_valid_eq w]
  simp only [Option.bind_some]
  cases hv : validB f
  · rw [em]
    simp only [Option.bind_some, cond_false]
    show ∃ l, ((F_frame_Valid (micF f)).bind fun v18 => bif v18 then F_frame_Header_j1 (micF f) else some []) = some l ∧ ((F_ref05_Valid (micF f)).bind fun v6 => bif v6 then F_ref05_Header_j1 (micF f) else some []) = some l ∧ l.length ≤ 1000
    rw [f_valid_eq (micF_wf w), r_valid_eq (micF_wf w)]
    simp only [Option.bind_some]
    cases hm : validB (micF f)
    · exact ⟨[], rfl, rfl, by simp⟩
    · have g := good_of (micF_wf w) hm
      exact ⟨_, f_header_j1 g, r_header_j1 g, lg g⟩
  · have g := good_of w hv
    exact ⟨_, f_header_j1 g, r_header_j1 g, lg g⟩
theorem size_any {f : S_Frame} (w : WfF f) : ∃ n, F_frame_Size f = some n ∧ F_ref05_Size f = some n := by
  cases hv : validB f
  · refine ⟨0, ?_, ?_⟩
    · unfold F_frame_Size
      rw [f_valid_eq w, hv]; rfl
    · unfold F_ref05_Size
      rw [r_valid_eq w, hv]; rfl
  · have g := good_of w hv
    exact ⟨_, f_size g, by rw [r_size g, lenF_eq g]⟩
theorem room_any {f : S_Frame} (w : WfF f) : ∃ n, F_frame_Room f = some n ∧ F_ref05_Room f = some n ∧ 0 ≤ n ∧ n ≤ 127 := by
  cases hv : validB f
  · refine ⟨0, ?_, ?_, by omega, by omega⟩
    · unfold F_frame_Room
      rw [f_valid_eq w, hv]; rfl
    · unfold F_ref05_Room
      rw [r_valid_eq w, hv]; rfl
  · have g := good_of w hv
    have hz := g.size
    by_cases hk : f.Kind = 2
    · refine ⟨0, ?_, ?_, by omega, by omega⟩
      · unfold F_frame_Room
        rw [f_valid g, hk]; rfl
      · unfold F_ref05_Room
        rw [r_valid g, hk]; rfl
    · refine ⟨_, ?_, r_room g hk, by omega, by omega⟩
      unfold F_frame_Room
      rw [f_valid g, f_length g, show (f.Kind == 2) = false by simp [hk], lenF_eq g]
      simp only [Option.bind_some, cond_true, cond_false]
      rw [wi (by omega) (by omega)]
theorem ack_any {f : S_Frame} (w : WfF f) : ∃ g b, F_frame_AckFor f = some (g, b) ∧ F_ref05_AckFor f = some (g, b) ∧ g.Payload = [] ∧ g.MIC = [] := by
  unfold F_frame_AckFor F_ref05_AckFor
  rw [f_valid_eq w, r_valid_eq w]
  simp only [Option.bind_some]
  cases validB f
  · exact ⟨_, _, rfl, rfl, rfl, rfl⟩
  · cases f.AckRequest
    · exact ⟨_, _, rfl, rfl, rfl, rfl⟩
    · exact ⟨_, _, rfl, rfl, rfl, rfl⟩
theorem forms_law {f : S_Frame} (w : WfF f) : F_law05_forms f = some true := by
  unfold F_law05_forms
  obtain ⟨g, b, a1, a2, gp, gm⟩ := ack_any w
  obtain ⟨n, s1, s2⟩ := size_any w
  obtain ⟨m, m1, m2, _, _⟩ := room_any w
  obtain ⟨l, h1, h2, hl⟩ := header_any w
  have hs := fsame_refl' (f := g) (by rw [gp]; simp) (by rw [gm]; simp)
  rcases enc_any w with ⟨gd, e1, e2⟩ | ⟨_, e1, e2⟩
  · have hb := bodyL_len gd
    have hl2 := encL_len (f := f)
    simp only [e1, e2, a1, a2, f_valid_eq w, r_valid_eq w, s1, s2, m1, m2, h1, h2, same_refl l (by omega), same_refl (encL f) (by omega), hs, Option.bind_some, BEq.rfl, cond_true]
  · simp only [e1, e2, a1, a2, f_valid_eq w, r_valid_eq w, s1, s2, m1, m2, h1, h2, same_refl l (by omega), same_refl [] (by simp), hs, Option.bind_some, BEq.rfl, cond_true]
theorem adr_wf {a : S_Addr} (h : AdrOk a) : AdrWf a := by
  rcases h with q | q
  · exact ⟨q.2.2, by omega⟩
  · exact ⟨by omega, q.2.2⟩
theorem addr_spec {t : S_multihopmade_Tape} (h : TapeOk t) : ∃ a t', F_made_Tape_Addr t = some (a, t') ∧ AdrWf a ∧ TapeOk t' := by
  unfold F_made_Tape_Addr
  obtain ⟨v, t1, e1, _, _, k1⟩ := next_spec h 6 (by omega) (by omega)
  simp only [e1, Option.bind_some]
  cases v == 4
  · cases v == 5
    · obtain ⟨a, t2, e2, q, _, k2⟩ := device_spec k1
      simp only [e2, Option.bind_some]
      exact ⟨_, _, rfl, adr_wf q, k2⟩
    · exact ⟨_, _, rfl, ⟨by decide, by decide⟩, k1⟩
  · exact ⟨_, _, rfl, ⟨by decide, by decide⟩, k1⟩
theorem spoiled_spec {t : S_multihopmade_Tape} (h : TapeOk t) {f : S_Frame} (g : GoodF f) : ∃ f' t', F_made_Tape_Spoiled t f = some (f', t') ∧ WfF f' ∧ TapeOk t' := by
  have w := good_wf g
  have hp := (good_pay g).1
  unfold F_made_Tape_Spoiled F_made_Tape_Spoiled_j1
  obtain ⟨v, t1, e1, _, _, k1⟩ := next_spec h 8 (by omega) (by omega)
  simp only [e1, Option.bind_some]
  by_cases c0 : v = 0
  · obtain ⟨v2, t2, e2, _, _, k2⟩ := next_spec k1 6 (by omega) (by omega)
    simp only [c0, BEq.rfl, cond_true, e2, Option.bind_some]
    exact ⟨_, _, rfl, ⟨w.seq, w.pan, w.dst, w.src, w.cnt, w.key, w.pay, w.payl, w.mic, w.micl⟩, k2⟩
  rw [show (v == 0) = false by simp [c0]]
  by_cases c1 : v = 1
  · obtain ⟨v2, t2, e2, _, _, k2⟩ := next_spec k1 5 (by omega) (by omega)
    obtain ⟨v3, t3, e3, _, _, k3⟩ := next_spec k2 2 (by omega) (by omega)
    obtain ⟨v4, t4, e4, _, _, k4⟩ := next_spec k3 2 (by omega) (by omega)
    simp only [c1, BEq.rfl, cond_true, cond_false, e2, e3, e4, Option.bind_some]
    exact ⟨_, _, rfl, ⟨w.seq, w.pan, ⟨by dsimp only; rw [wrap16]; omega, by dsimp only; rw [wrap64]; omega⟩, w.src, w.cnt, w.key, w.pay, w.payl, w.mic, w.micl⟩, k4⟩
  rw [show (v == 1) = false by simp [c1]]
  by_cases c2 : v = 2
  · obtain ⟨a, t2, e2, q, k2⟩ := addr_spec k1
    simp only [c2, BEq.rfl, cond_true, cond_false, e2, Option.bind_some]
    exact ⟨_, _, rfl, ⟨w.seq, w.pan, w.dst, q, w.cnt, w.key, w.pay, w.payl, w.mic, w.micl⟩, k2⟩
  rw [show (v == 2) = false by simp [c2]]
  by_cases c3 : v = 3
  · simp only [c3, BEq.rfl, cond_true, cond_false]
    exact ⟨_, _, rfl, ⟨w.seq, w.pan, w.dst, w.src, w.cnt, w.key, w.pay, w.payl, w.mic, w.micl⟩, k1⟩
  rw [show (v == 3) = false by simp [c3]]
  by_cases c4 : v = 4
  · obtain ⟨l, t2, e2, o, ll, k2⟩ := bytes_spec k1 6 (by omega)
    have e2' : F_made_Tape_Bytes t1 6 = some (l, t2) := e2
    simp only [c4, BEq.rfl, cond_true, cond_false, e2', Option.bind_some]
    exact ⟨_, _, rfl, ⟨w.seq, w.pan, w.dst, w.src, w.cnt, w.key, w.pay, w.payl, o, by dsimp only; omega⟩, k2⟩
  rw [show (v == 4) = false by simp [c4]]
  by_cases c5 : v = 5
  · obtain ⟨n, _, e2, n0, n1⟩ := room_any w
    have ew : IntKind.wrap .i64 ((IntKind.wrap .i64 (n + (f.Payload.length : Int))) + 1) = ((n.toNat + f.Payload.length + 1 : Nat) : Int) := by
      rw [wi (x := n + (f.Payload.length : Int)) (by omega) (by omega), wi (by omega) (by omega)]; omega
    obtain ⟨l, t2, e3, o, ll, k2⟩ := fill_spec k1 (n.toNat + f.Payload.length + 1) (by omega)
    simp only [c5, BEq.rfl, cond_true, cond_false, e2, ew, e3, Option.bind_some]
    exact ⟨_, _, rfl, ⟨w.seq, w.pan, w.dst, w.src, w.cnt, w.key, o, by dsimp only; omega, w.mic, w.micl⟩, k2⟩
  rw [show (v == 5) = false by simp [c5]]
  by_cases c6 : v = 6
  · simp only [c6, BEq.rfl, cond_true, cond_false]
    exact ⟨_, _, rfl, ⟨w.seq, w.pan, w.dst, w.src, by dsimp only; rw [wrap32]; omega, w.key, w.pay, w.payl, w.mic, w.micl⟩, k1⟩
  rw [show (v == 6) = false by simp [c6]]
  simp only [cond_false]
  exact ⟨_, _, rfl, ⟨w.seq, w.pan, w.dst, w.src, w.cnt, w.key, w.pay, w.payl, w.mic, w.micl⟩, k1⟩
theorem forms_of_law {f : S_Frame} (w : WfF f) (t : List Int) : F_law05_FrameForms f t = some true := by
  unfold F_law05_FrameForms
  obtain ⟨k, e1, k1⟩ := new_spec t
  obtain ⟨f2, k2, e2, g2, k2'⟩ := any_spec k1
  obtain ⟨f3, k3, e3, w3, k3'⟩ := spoiled_spec k2' g2
  obtain ⟨f4, k4, e4, g4, _, _, _, k4'⟩ := frame_spec k3' 4 (by omega)
  have e4' : F_made_Tape_Frame k3 4 = some (f4, k4) := e4
  obtain ⟨f5, k5, e5, w5, _⟩ := spoiled_spec k4' g4
  simp only [e1, e2, e3, e4', e5, known_true, forms_law w, forms_law (good_wf g2), forms_law w3, forms_law w5, Option.bind_some, cond_true]
end Go.Proofs.Ytohfnlkjdjmipaa
