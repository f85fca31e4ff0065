/-
  StoringNests: a packet is sent down by the most specific route. Proved for all tapes and addresses.
-/
import Derived.Test.YtonlajdaaljncaaPW
import Derived.Test.YtonlajdaaljncaaLwStoringNests
namespace Go.Proofs.Ytonlajdaaljncaa
open Go.RowKit

def bestF (now : Int) (dst : List Int) (s : Int × Int) (d : S_Down) : Int × Int := if d.Until > now ∧ inP d.Target dst = true ∧ d.Target.Bits > s.1 then (d.Target.Bits, d.Via) else s
theorem best_next (now : Int) (dst : List Int) (l : List S_Down) (s : Int × Int) : l.foldl (bestF now dst) (s.2, s.1) = ((l.foldl (nextF now dst) s).2, (l.foldl (nextF now dst) s).1) := by
  induction l generalizing s with
  | nil => rfl
  | cons x l ih =>
    rw [List.foldl_cons, List.foldl_cons, ← ih]
    congr 1
    unfold bestF nextF
    by_cases h : x.Until > now ∧ x.Target.Bits > s.2 ∧ inP x.Target dst = true
    · rw [if_pos h, if_pos ⟨h.1, h.2.2, h.2.1⟩]
    · rw [if_neg h, if_neg (fun q => h ⟨q.1, q.2.2, q.2.1⟩)]
theorem next_inv (now : Int) (dst : List Int) (l : List S_Down) : ∀ s : Int × Int, (s.2 = -1 ∧ s.1 = 0 ∨ s.2 ≥ 0) → ((l.foldl (nextF now dst) s).2 = -1 ∧ (l.foldl (nextF now dst) s).1 = 0 ∨ (l.foldl (nextF now dst) s).2 ≥ 0) := by
  induction l with
  | nil => exact fun s h => h
  | cons x l ih =>
    intro s h
    rw [List.foldl_cons]
    apply ih
    unfold nextF
    split
    · rename_i hx
      have hv : vpB x.Target = true := by
        have := hx.2.2
        unfold inP at this
        simp only [Bool.and_eq_true] at this
        exact this.1
      exact .inr (vpB_iff.1 hv).1
    · exact h
theorem nests_end {l : List S_Down} {now : Int} {t : S_multihopmade_Tape} {t2 : S_multihopmade_Tape} {v : Int} (hv : now = Int.tmod v 1000) (hg : GoodD l) (hnow : isT now = true) {dst : List Int} (hd : Bytes dst) : F_law33_StoringNests_j1 (l, t) (v, t2) dst = some true := by
  unfold F_law33_StoringNests_j1
  dsimp only
  rw [← hv, st_next hg hnow hd]
  simp only [Option.bind_some]
  have hlen := hg.v.len
  have hf := loop_fold (step := F_law33_StoringNests_l2 (l, t) (v, t2) dst) l (fun (s : Int × Int) k => (s.1, s.2, (k : Int))) (bestF now dst) (fun s => (s.1, s.2)) (fun _ _ => True) (by
    intro k hk s _
    refine ⟨?_, trivial⟩
    unfold F_law33_StoringNests_l2 F_law33_StoringNests_j3 bestF
    dsimp only
    rw [decT (by omega), idx_lt hk, ← hv]
    simp only [cond_true, Option.bind_some]
    rw [ref_contains, wk k (by omega)]
    by_cases h1 : l[k].Until > now
    · rw [decT h1]
      cases h3 : inP l[k].Target dst with
      | true =>
        by_cases h2 : l[k].Target.Bits > s.1
        · rw [decT h2]; simp [h1, h2]
        · rw [decF h2]; simp [h2]
      | false => simp
    · rw [decF h1]; simp [h1]) (by
    intro s _
    unfold F_law33_StoringNests_l2
    rw [decF (by dsimp only; omega)]
    rfl) (-1, 0) trivial
  have e : loopO (F_law33_StoringNests_l2 (l, t) (v, t2) dst) ((-1), 0, 0) = some (l.foldl (bestF now dst) (-1, 0)) := hf.1
  rw [e, known_eq]
  simp only [Option.bind_some]
  have h1 := best_next now dst l (0, -1)
  have h2 := next_inv now dst l (0, -1) (.inl ⟨rfl, rfl⟩)
  dsimp only at h1
  rw [h1]
  unfold nextS
  dsimp only
  generalize l.foldl (nextF now dst) (0, -1) = s at *
  rcases h2 with ⟨h2, h3⟩ | h2
  · rw [if_pos (by omega), decF (by omega), h3]
    rfl
  · rw [if_neg (by omega), decT h2]
    simp
theorem nests_true (l : List Int) (dst : List Int) (hd : Bytes dst) : F_law33_StoringNests l dst = some true := by
  unfold F_law33_StoringNests
  obtain ⟨t1, e1, k1⟩ := new_spec l
  obtain ⟨v2, t2, e2, c2, k2⟩ := base_spec k1
  have hm : isT (Int.tmod v2 1000) = true := by
    have := isT_iff.1 c2
    obtain ⟨q1, q2, q3⟩ := rem_spec v2 1000 (by omega) (by omega)
    have := Int.tmod_nonneg 1000 this.1
    exact isT_iff.2 (by omega)
  obtain ⟨m, t3, e3, hg, k3⟩ := downs_spec k2 hm
  simp only [e1, Option.bind_some, e2, e3]
  have hj := fun (d : List Int) (h : Bytes d) => nests_end (t := t3) (t2 := t2) (v := v2) rfl hg hm h
  by_cases hl : (m.length : Int) > 0
  · rw [decT hl]
    obtain ⟨v4, t4, e4, k4⟩ := bool_spec k3 4 (by omega) (by omega)
    have hlen := hg.v.len
    obtain ⟨v5, t5, e5, a5, b5, k5⟩ := next_spec k4 (m.length : Int) (by omega) (by omega)
    simp only [cond_true, e4, Option.bind_some, e5]
    cases v4 with
    | true => exact hj dst hd
    | false =>
      rw [idx_int a5 b5]
      exact hj _ (hg.w _ (List.getElem_mem _)).1.2
  · rw [decF hl]
    exact hj dst hd
theorem storingNests_holds : Rows.StoringNestsSaid := storingNests_of fun a0 a1 _ h1 => nests_true a0 a1 (wfA_bytes h1)
#print axioms storingNests_holds
end Go.Proofs.Ytonlajdaaljncaa
