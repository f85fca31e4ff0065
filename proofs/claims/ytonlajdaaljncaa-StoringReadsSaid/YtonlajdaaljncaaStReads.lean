/-
  StoringReads: Valid, Drop, Expire, Next and Export return what the chapter says. Proved for all lists, tapes, times, children and addresses.
-/
import Derived.Test.YtonlajdaaljncaaPS6
import Derived.Test.YtonlajdaaljncaaStSpoil
import Derived.Test.YtonlajdaaljncaaLwStoringReads
namespace Go.Proofs.Ytonlajdaaljncaa
open Go.RowKit

theorem reads_all (raw : List S_Down) (l : List Int) (now via : Int) (dst : List Int) (hraw : ∀ d ∈ raw, wfD d) (hd : Bytes dst) : F_law33_StoringReads raw l now via dst = some true := by
  unfold F_law33_StoringReads
  by_cases hlen : (raw.length : Int) > 150
  · rw [decT hlen, known_eq]; rfl
  · rw [decF hlen]
    obtain ⟨t1, e1, k1⟩ := new_spec l
    obtain ⟨v2, t2, e2, c2, k2⟩ := base_spec k1
    obtain ⟨m, t3, e3, hg, k3⟩ := downs_spec k2 c2
    simp only [cond_false, e1, Option.bind_some, e2, e3]
    obtain ⟨r, e, hr⟩ := loop_inv (step := F_law33_StoringReads_l1 (v2, t2) (m, t3)) (fun s => 0 ≤ s.1 ∧ s.1 ≤ 4 ∧ TapeOk s.2) (fun r => ∃ t, r = Sum.inl t ∧ TapeOk t) (fun s => (4 - s.1).toNat) (by
      rintro ⟨i, t⟩ ⟨i0, i1, ht⟩
      dsimp only at i0 i1 ht
      unfold F_law33_StoringReads_l1
      dsimp only
      by_cases hi : i < 4
      · left
        obtain ⟨v4, t4, e4, c4, k4⟩ := time_spec ht c2
        obtain ⟨v5, t5, e5, _, _, k5⟩ := eui_spec k4
        obtain ⟨v6, t6, e6, _, c6, k6⟩ := ip_spec k5
        rw [decT hi, wi (by omega) (by omega)]
        simp only [cond_true, e4, Option.bind_some, e5, e6, reads_true hg.w c6]
        exact ⟨_, rfl, ⟨by dsimp only; omega, by dsimp only; omega, k6⟩, by dsimp only; omega⟩
      · right
        rw [decF hi]
        exact ⟨_, rfl, t, rfl, ht⟩) (0, t3) ⟨by simp, by simp, k3⟩
    obtain ⟨t, rfl, ht⟩ := hr
    rw [e]
    simp only [Option.bind_some, Sum.elim_inl]
    obtain ⟨m2, t7, e7, hw7, _⟩ := spoiled_spec hg ht
    rw [reads_true hraw hd, reads_true hg.w hd, e7]
    simp only [Option.bind_some, cond_true]
    rw [reads_true hw7 hd, known_eq]
    rfl
theorem storingReads_holds : Rows.StoringReadsSaid := storingReads_of fun a0 a1 a2 a3 a4 h0 _ _ _ h4 => reads_all a0 a1 a2 a3 a4 (fun d hd => wf_down (h0.2 d hd).1.1 (h0.2 d hd).2.2.1) (wfA_bytes h4)
#print axioms storingReads_holds
end Go.Proofs.Ytonlajdaaljncaa
