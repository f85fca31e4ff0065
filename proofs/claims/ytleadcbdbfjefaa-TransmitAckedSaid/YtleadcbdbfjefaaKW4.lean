/-
  TransmitAcked, proved for all draws, slots and numbers.
-/
import Derived.Test.YtleadcbdbfjefaaKW3
namespace Go.Proofs.Ytleadcbdbfjefaa
section
open Go.RowKit

def Ak (f : S_Frame) (since : Int) (l : S_Link) : Prop :=
  (∃ (b : Bk) (a : Int), l = S_Link.mk [f] 1 a (sb b) 0 ∧ 0 ≤ a ∧ a ≤ 3 ∧ b.Valid ∧ (b.st = 1 ∨ b.st = 2) ∧ 3 ≤ since) ∨
  (∃ a lf : Int, l = S_Link.mk [f] 2 a B0 lf ∧ 1 ≤ a ∧ a ≤ 4 ∧ 1 ≤ lf ∧ lf ≤ 3 ∧ since = 3 - lf)
theorem ak_link {f : S_Frame} (hs : sendB f = true) (hg : GoodF f) (hk : f.AckRequest = true) {since : Int} {l : S_Link} (h : Ak f since l) : linkB l = true ∧ GoodL l := by
  have h1 : ∀ g ∈ [f], sendB g = true := fun g hg => by rw [List.mem_singleton.1 hg]; exact hs
  have h2 : ∀ g ∈ [f], GoodF g := fun g h => by rw [List.mem_singleton.1 h]; exact hg
  rcases h with ⟨b, a, rfl, a0, a3, hb, hst, _⟩ | ⟨a, lf, rfl, a1, a4, l1, l3, _⟩
  · exact ⟨link_back h1 (by simp) a0 a3 hb hst, ⟨h2, by simp⟩⟩
  · exact ⟨link_wait h1 (by simp) hk a1 a4 l1 l3, ⟨h2, by simp⟩⟩
theorem ak_fail (f : S_Frame) {since : Int} (h3 : 3 ≤ since) {n : Int} (n1 : 1 ≤ n) (d : Int) :
    ((failL f [] n d).2 = [] ∧ Ak f since (failL f [] n d).1) ∨ ((failL f [] n d).2 = [S_Outcome.mk f false n] ∧ (failL f [] n d).1.Phase = 0) := by
  unfold failL
  by_cases h4 : n > 3
  · rw [if_pos h4]
    exact .inr ⟨rfl, rfl⟩
  · rw [if_neg h4]
    exact .inl ⟨rfl, .inl ⟨beginB d, n, rfl, by omega, by omega, (begin_valid d).1, (begin_valid d).2.2.2, h3⟩⟩
theorem ak_step {f : S_Frame} (hs : sendB f = true) (hg : GoodF f) (hk : f.AckRequest = true) {since : Int} {l : S_Link} (h : Ak f since l) (x : S_Slot) :
    ((stpS l x).2.2 = [] ∧ ((x.Ack = true ∧ x.Seq = f.Seq) → ¬ since + 1 ≤ 3) ∧ Ak f (if (stpS l x).2.1 then 0 else since + 1) (stpS l x).1) ∨
    (∃ s a, (stpS l x).2.2 = [S_Outcome.mk f s a] ∧ (stpS l x).1.Phase = 0 ∧ s = decide ((x.Ack = true ∧ x.Seq = f.Seq) ∧ since + 1 ≤ 3)) := by
  obtain ⟨hv, _⟩ := ak_link hs hg hk h
  rcases h with ⟨b, a, rfl, a0, a3, hb, hst, h3⟩ | ⟨a, lf, rfl, a1, a4, l1, l3, h3⟩
  · rw [stp1 hv]
    obtain ⟨k1, _, k3⟩ := bk_step hb hst x.Busy x.Draw
    generalize b.step x.Busy x.Draw = B at *
    by_cases e3 : B.st = 3
    · rw [if_pos e3, if_pos hk]
      left
      exact ⟨rfl, fun _ => by omega, .inr ⟨a + 1, 3, rfl, by omega, by omega, by omega, by omega, by simp⟩⟩
    · rw [if_neg e3]
      by_cases e4 : B.st = 4
      · rw [if_pos e4]
        rcases ak_fail f (since := since + 1) (by omega) (n := a + 1) (by omega) x.Draw with ⟨q1, q2⟩ | ⟨q1, q2⟩
        · exact .inl ⟨q1, fun _ => by omega, q2⟩
        · exact .inr ⟨false, a + 1, q1, q2, (decide_eq_false (by omega)).symm⟩
      · rw [if_neg e4]
        left
        exact ⟨rfl, fun _ => by omega, .inl ⟨B, a, rfl, a0, a3, k1, by omega, by simp only [Bool.false_eq_true, if_false]; omega⟩⟩
  · rw [stp2 hv]
    by_cases hA : x.Ack = true ∧ x.Seq = f.Seq
    · rw [if_pos hA]
      exact .inr ⟨true, a, rfl, rfl, (decide_eq_true ⟨hA, by omega⟩).symm⟩
    · rw [if_neg hA]
      by_cases hl : lf - 1 = 0
      · rw [if_pos hl]
        rcases ak_fail f (since := since + 1) (by omega) (n := a) a1 x.Draw with ⟨q1, q2⟩ | ⟨q1, q2⟩
        · exact .inl ⟨q1, fun h => absurd h hA, q2⟩
        · exact .inr ⟨false, a, q1, q2, (decide_eq_false (fun h => hA h.1)).symm⟩
      · rw [if_neg hl]
        left
        exact ⟨rfl, fun h => absurd h hA, .inr ⟨a, lf - 1, rfl, a1, a4, by omega, by omega, by simp only [Bool.false_eq_true, if_false]; omega⟩⟩
theorem ak_j2 {q : Int} (q0 : 0 ≤ q) (q1 : q ≤ 255) {since : Int} {i : Nat} (hi : i < 600) (s0 : 0 ≤ since) (s1 : since ≤ 1000) {l : S_Link} (h : Ak (samp q true) since l) {x : S_Slot} (x0 : 0 ≤ x.Draw) (x1 : x.Draw ≤ 4294967295) :
    F_law09_TransmitAcked_j2 (since, (i : Int), l) q x = some (.inr (.inr true)) ∨
    ∃ since' l', F_law09_TransmitAcked_j2 (since, (i : Int), l) q x = some (.inl (since', ((i + 1 : Nat) : Int), l')) ∧ 0 ≤ since' ∧ since' ≤ since + 1 ∧ Ak (samp q true) since' l' := by
  have hs := samp_send (s := q) ⟨q0, q1⟩ true
  have hg := samp_good (s := q) ⟨q0, q1⟩ true
  obtain ⟨hv, g⟩ := ak_link hs hg rfl h
  have hstep := ak_step hs hg rfl h x
  unfold F_law09_TransmitAcked_j2
  dsimp only
  rw [stp_p g.wf x0 x1, Option.bind_some]
  have wi1 : IntKind.wrap .i64 ((i : Int) + 1) = ((i + 1 : Nat) : Int) := wk i (by omega)
  have ws1 : IntKind.wrap .i64 (since + 1) = since + 1 := wi (by omega) (by omega)
  generalize hst : stpS l x = p at *
  obtain ⟨l', now, o⟩ := p
  have hq : (samp q true).Seq = q := rfl
  rw [hq] at hstep
  unfold F_law09_TransmitAcked_j3 F_law09_TransmitAcked_j4 F_law09_TransmitAcked_j5
  dsimp only at hstep ⊢
  rw [ws1, wi1]
  have hsame : F_ref05_Same (samp q true) (S_Frame.mk 1 true false false q 0 (S_Addr.mk 2 2 0) (S_Addr.mk 2 1 0) 0 0 [] []) = some true := fsame_refl hg
  rcases hstep with ⟨rfl, hd, hr⟩ | ⟨s, a, rfl, hp, rfl⟩
  · right
    refine ⟨if now = true then 0 else since + 1, l', ?_, by split <;> omega, by split <;> omega, hr⟩
    have e0 : decide (((([] : List S_Outcome).length : Nat) : Int) > 0) = false := rfl
    rw [e0]
    simp only [cond_false]
    cases hA : x.Ack
    · cases now <;> rfl
    · by_cases hB : x.Seq = q
      · rw [decF (hd ⟨hA, hB⟩), hB, BEq.rfl]
        cases now <;> rfl
      · rw [beqF hB]
        cases now <;> rfl
  · left
    have e0 : ∀ s, decide (((([S_Outcome.mk (samp q true) s a] : List S_Outcome).length : Nat) : Int) > 0) = true := fun _ => rfl
    have e1 : ∀ s, idx ([S_Outcome.mk (samp q true) s a] : List S_Outcome) 0 = some (S_Outcome.mk (samp q true) s a) := fun _ => rfl
    rw [e0, e1, hp]
    simp only [cond_true, known_true9, Option.bind_some, samp_eq, hsame, show ((0 : Int) == 0) = true from rfl]
    cases hA : x.Ack
    · simp
    · by_cases hB : x.Seq = q
      · by_cases h3 : since + 1 ≤ 3 <;> simp [hB, h3]
      · simp [hB, beqF hB]
theorem acked_law {d : Int} (d0 : 0 ≤ d) (d1 : d ≤ 4294967295) {sl : List Int} (hsl : sl.length ≤ 140737488351232) {q : Int} (q0 : 0 ≤ q) (q1 : q ≤ 255) : F_law09_TransmitAcked d sl q = some true := by
  have hs := samp_send (s := q) ⟨q0, q1⟩ true
  have hg := samp_good (s := q) ⟨q0, q1⟩ true
  unfold F_law09_TransmitAcked
  have hp : F_transmit_Enqueue (S_Link.mk [] 0 0 (S_Backoff.mk 0 0 0 0 0) 0) (S_Frame.mk 1 true false false q 0 (S_Addr.mk 2 2 0) (S_Addr.mk 2 1 0) 0 0 [] []) d = some (S_Link.mk [samp q true] 1 0 (sb (beginB d)) 0, 0) := by
    have := enq_p goodL0.wf (good_wf hg) d0 d1
    have e : enqS L0 (samp q true) d = (S_Link.mk [samp q true] 1 0 (sb (beginB d)) 0, 0) := by
      unfold enqS
      rw [if_pos ⟨link0, hs⟩]
      rfl
    rw [e] at this
    exact this
  rw [samp_eq, Option.bind_some, hp, Option.bind_some]
  dsimp only
  rw [show ((0 : Int) != 0) = false from rfl, cond_false]
  obtain ⟨r, e2, hr⟩ := loop_inv (step := F_law09_TransmitAcked_l1 sl q) (fun s => ∃ since, ∃ i : Nat, ∃ l, s = (since, (i : Int), l) ∧ i ≤ 600 ∧ 0 ≤ since ∧ since ≤ 4 + i ∧ Ak (samp q true) since l) (fun r => r = Sum.inl () ∨ r = Sum.inr true) (fun s => ((600 : Int) - s.2.1).toNat) (fun s ⟨since, i, l, hs, hi, s0, s1, hrun⟩ => by
    subst hs
    unfold F_law09_TransmitAcked_l1
    dsimp only
    by_cases h1 : i < sl.length
    · rw [decT (show (i : Int) < (sl.length : Int) by omega)]
      simp only [cond_true]
      by_cases h2 : i < 600
      · rw [decT (show (i : Int) < 600 by omega), idxK h1]
        simp only [cond_true, Option.bind_some]
        obtain ⟨x, ex, x0, x1⟩ := slot_eq sl[i]
        rw [ex, Option.bind_some]
        have fin : ∀ x : S_Slot, 0 ≤ x.Draw → x.Draw ≤ 4294967295 → (∃ s', F_law09_TransmitAcked_j2 (since, (i : Int), l) q x = some (Sum.inl s') ∧ (∃ since, ∃ i : Nat, ∃ l, s' = (since, (i : Int), l) ∧ i ≤ 600 ∧ 0 ≤ since ∧ since ≤ 4 + i ∧ Ak (samp q true) since l) ∧ ((600 : Int) - s'.2.1).toNat < ((600 : Int) - (i : Int)).toNat) ∨ ∃ r, F_law09_TransmitAcked_j2 (since, (i : Int), l) q x = some (Sum.inr r) ∧ (r = Sum.inl () ∨ r = Sum.inr true) := by
          intro x x0 x1
          rcases ak_j2 q0 q1 h2 s0 (by omega) hrun x0 x1 with e | ⟨since', l', e, t0, t1, hr⟩
          · exact .inr ⟨_, e, .inr rfl⟩
          · exact .inl ⟨_, e, ⟨since', i + 1, l', rfl, by omega, t0, by omega, hr⟩, by dsimp only; omega⟩
        cases (Int.tmod sl[i] 5 == 0)
        · exact fin x x0 x1
        · exact fin (S_Slot.mk x.Busy x.Ack q x.Draw) x0 x1
      · rw [decF (show ¬ (i : Int) < 600 by omega)]
        exact .inr ⟨_, rfl, .inl rfl⟩
    · rw [decF (show ¬ (i : Int) < (sl.length : Int) by omega)]
      exact .inr ⟨_, rfl, .inl rfl⟩) (4, 0, S_Link.mk [samp q true] 1 0 (sb (beginB d)) 0) ⟨4, 0, _, rfl, by omega, by omega, by omega, .inl ⟨beginB d, 0, rfl, by omega, by omega, (begin_valid d).1, (begin_valid d).2.2.2, by omega⟩⟩
  rw [e2]
  rcases hr with rfl | rfl
  · simp only [Option.bind_some, Sum.elim_inl, known_true9]
  · rfl
end
section
open Go.RowKit
theorem transmitAcked_holds : Rows.TransmitAckedSaid := transmitAcked_of fun _ _ _ h1 h2 h3 => acked_law (u32_bd h1).1 (u32_bd h1).2 h2.1 (u8_bd h3).1 (u8_bd h3).2
end
end Go.Proofs.Ytleadcbdbfjefaa
