/-
  Decode undoes Encode; acknowledgements.
-/
import Derived.Test.YtohfnlkjdjmipaaMF4
import Derived.Test.YtohfnlkjdjmipaaMF5
import Derived.Test.YtohfnlkjdjmipaaQSame
namespace Go.Proofs.Ytohfnlkjdjmipaa
open Go.RowKit

theorem fsame_refl {f : S_Frame} (h : GoodF f) : F_ref05_Same f f = some true := by
  obtain ⟨hP, hM⟩ := good_pay h
  unfold F_ref05_Same
  rw [addr_refl, addr_refl, same_refl _ (by omega), same_refl _ (by omega)]
  simp
theorem back_law (t : List Int) : F_law05_FrameBack t = some true := by
  unfold F_law05_FrameBack
  obtain ⟨k, e1, k1⟩ := new_spec t
  obtain ⟨f, k2, e2, g, _⟩ := any_spec k1
  have hs := g.size
  have hl := encL_len (f := f)
  have hb := bodyL_len g
  have el : lenF f = ((encL f).length : Int) := by
    rw [lenF_eq g, hl]
    unfold bodyL
    rw [List.length_append]
    omega
  simp only [e1, e2, f_encode g, f_decode g, known_true, fsame_refl g, f_valid g, f_size g, Option.bind_some, el, BEq.rfl, cond_true]
  rw [decT (by omega)]
theorem ack_for {f : S_Frame} (g : GoodF f) : F_frame_AckFor f = some (bif f.AckRequest then (S_Frame.mk 2 false false false f.Seq 0 (S_Addr.mk 0 0 0) (S_Addr.mk 0 0 0) 0 0 [] [], true) else (S_Frame.mk 0 false false false 0 0 (S_Addr.mk 0 0 0) (S_Addr.mk 0 0 0) 0 0 [] [], false)) := by
  unfold F_frame_AckFor
  rw [f_valid g]
  cases f.AckRequest <;> rfl
theorem acks_law (t : List Int) : F_law05_FrameAcks t = some true := by
  unfold F_law05_FrameAcks
  obtain ⟨k, e1, k1⟩ := new_spec t
  obtain ⟨f, k2, e2, g, _⟩ := any_spec k1
  simp only [e1, e2, ack_for g, Option.bind_some]
  cases f.AckRequest
  · simp only [cond_false, known_true, Option.bind_some]
    rfl
  · have ga := good_ack f.Seq false g.seq
    simp only [cond_true, ack_for ga, known_true, Option.bind_some, f_valid ga, f_size ga, BEq.rfl]
    rfl
end Go.Proofs.Ytohfnlkjdjmipaa
