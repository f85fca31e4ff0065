/-
  FrameRooms: the payload can grow by Room bytes, and by no more.
-/
import Derived.Test.YtohfnlkjdjmipaaLwFrameRooms
import Derived.Test.YtohfnlkjdjmipaaMF9
import Derived.Test.YtohfnlkjdjmipaaQTMod
namespace Go.Proofs.Ytohfnlkjdjmipaa
open Go.RowKit

theorem room_good {f : S_Frame} (g : GoodF f) (hk : f.Kind ≠ 2) : F_frame_Room f = some (127 - lenF f) := by
  have hz := g.size
  unfold F_frame_Room
  rw [f_valid g, f_length g, show (f.Kind == 2) = false by simp [hk], lenF_eq g]
  simp only [Option.bind_some, cond_true, cond_false]
  rw [wi (by omega) (by omega)]
theorem rooms_law (t : List Int) (n : Int) : F_law05_FrameRooms t n = some true := by
  unfold F_law05_FrameRooms
  obtain ⟨k, e1, k1⟩ := new_spec t
  obtain ⟨f, k2, e2, g, _⟩ := any_spec k1
  simp only [e1, e2, Option.bind_some]
  by_cases hk : f.Kind = 2
  · have hr : F_frame_Room f = some 0 := by unfold F_frame_Room; rw [f_valid g, hk]; rfl
    simp only [hr, Option.bind_some, bT hk, cond_true, known_true]
    rfl
  have hz := g.size
  have hl := lenF_eq g
  obtain ⟨R, hR⟩ : ∃ R, 127 - lenF f = R := ⟨_, rfl⟩
  have hR0 : 0 ≤ R ∧ R ≤ 127 := by omega
  have hr := room_good g hk
  rw [hR] at hr
  obtain ⟨hP, hM⟩ := good_pay g
  have w1 : IntKind.wrap .i64 (R + 1) = R + 1 := wi (by omega) (by omega)
  obtain ⟨m, em, m0, m1⟩ := mod_spec n (R + 1) (by omega) (by omega)
  have a1 : appO 1 ([] : List Int) (Cut.app .whole f.Payload) = some f.Payload := by
    simp only [Cut.app]
    rw [appO_some (by simp; omega) (by simp; omega), List.nil_append]
  have a2 : appZO 1 f.Payload (0 : Int) m = some (f.Payload ++ List.replicate m.toNat 0) := by
    unfold appZO
    rw [if_pos m0, appO_some (by simp; omega) (by simp; omega)]
  have w2 : IntKind.wrap .i64 ((f.Payload.length : Int) + R) = (f.Payload.length : Int) + R := wi (by omega) (by omega)
  have w3 : IntKind.wrap .i64 ((f.Payload.length : Int) + R + 1) = (f.Payload.length : Int) + R + 1 := wi (by omega) (by omega)
  have a3 : mkO 1 ((f.Payload.length : Int) + R + 1) ((f.Payload.length : Int) + R + 1) = some (((f.Payload.length : Int) + R + 1).toNat) := by
    unfold mkO
    rw [if_pos ⟨by omega, by omega, by omega, by omega⟩]
  have zok : ∀ q, okB (List.replicate q 0) := fun q z hz => by rw [(List.mem_replicate.1 hz).2]; omega
  have gm := good_pay' g hk (l := f.Payload ++ List.replicate m.toNat 0) (g.pay.append (zok _)) (by
    rw [List.length_append, List.length_replicate]; omega)
  have hd1 := hd_pay (f := f) (f.Payload ++ List.replicate m.toNat 0)
  rw [List.length_append, List.length_replicate] at hd1
  have hl2 := lenF_eq gm
  dsimp only at hl2
  have hr2 := room_good gm hk
  rw [show 127 - lenF (S_Frame.mk f.Kind f.AckRequest f.Pending f.Secure f.Seq f.Pan f.Dst f.Src f.Counter f.Key (f.Payload ++ List.replicate m.toNat 0) f.MIC) = R - m by omega] at hr2
  have w4 : IntKind.wrap .i64 (R - m) = R - m := wi (by omega) (by omega)
  have wf := good_wf g
  have wm : WfF (S_Frame.mk f.Kind f.AckRequest f.Pending f.Secure f.Seq f.Pan f.Dst f.Src f.Counter f.Key (List.replicate ((f.Payload.length : Int) + R + 1).toNat 0) f.MIC) :=
    ⟨wf.seq, wf.pan, wf.dst, wf.src, wf.cnt, wf.key, zok _, by dsimp only; rw [List.length_replicate]; omega, wf.mic, wf.micl⟩
  have hv : validB (S_Frame.mk f.Kind f.AckRequest f.Pending f.Secure f.Seq f.Pan f.Dst f.Src f.Counter f.Key (List.replicate ((f.Payload.length : Int) + R + 1).toNat 0) f.MIC) = false := by
    rw [Bool.eq_false_iff]
    intro hv
    have g2 := good_of wm hv
    have hz2 := g2.size
    have hd2 := hd_pay (f := f) (List.replicate ((f.Payload.length : Int) + R + 1).toNat 0)
    rw [List.length_replicate] at hd2
    dsimp only at hz2
    omega
  simp only [hr, Option.bind_some, bF hk, cond_false, w1, em, a1, a2, w2, w3, a3, known_true, cond_true, f_valid gm, hr2, w4, BEq.rfl, f_valid_eq wm, hv]
  rfl
theorem frameRooms_holds : Rows.FrameRoomsSaid := frameRooms_of fun t n _ _ => rooms_law t n
#print axioms frameRooms_holds
end Go.Proofs.Ytohfnlkjdjmipaa
