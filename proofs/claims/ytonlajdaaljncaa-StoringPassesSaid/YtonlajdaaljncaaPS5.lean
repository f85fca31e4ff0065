/-
  Accept whole: both give the same, and what they give is valid. Next. The makers of the storing laws.
-/
import Derived.Test.YtonlajdaaljncaaPS4
namespace Go.Proofs.Ytonlajdaaljncaa
open Go.RowKit

/-- a valid list, well formed -/
structure GoodD (l : List S_Down) : Prop where
  v : ValidD l
  w : ∀ d ∈ l, wfD d
theorem goodNil : GoodD [] := ⟨⟨by simp, by simp, List.Pairwise.nil⟩, by simp⟩
inductive AccR (l : List S_Down) (now via : Int) (r : S_Register) : List S_Down × Bool × Int → Prop
  | bad (e : Int) (h : e = 1 ∨ e = 2) : AccR l now via r ([], false, e)
  | there (A : List S_Down) (x : S_Down) (B : List S_Down) (hl : l = A ++ x :: B) (hA : ∀ a ∈ A, cmpP a.Target r.Target < 0) (hx : x.Target = r.Target) (hB : ∀ b ∈ B, cmpP b.Target r.Target > 0) (hg : GoodD l) (hvr : vrB r = true) (hvia : via ≠ 0) (hnow : isT now = true) : AccR l now via r (accT A x B now via r)
  | new (A B : List S_Down) (hl : l = A ++ B) (hA : ∀ a ∈ A, cmpP a.Target r.Target < 0) (hB : ∀ b ∈ B, cmpP b.Target r.Target > 0) (hg : GoodD l) (hvr : vrB r = true) (hvia : via ≠ 0) (hnow : isT now = true) : AccR l now via r (accN A B now via r)
theorem acc_both {l : List S_Down} {now via : Int} {r : S_Register} (hw : ∀ d ∈ l, wfD d) (hr : wfP r.Target) : ∃ a, F_storing_Accept l now via r = some a ∧ F_ref33_Accept l now via r = some a ∧ AccR l now via r a := by
  cases hv : validB l with
  | false =>
    refine ⟨([], false, 1), ?_, ?_, .bad 1 (.inl rfl)⟩
    · unfold F_storing_Accept; rw [st_valid hw, hv]; rfl
    · unfold F_ref33_Accept; rw [rf_valid hw, hv]; rfl
  | true =>
    cases hvr : vrB r with
    | false =>
      refine ⟨([], false, 1), ?_, ?_, .bad 1 (.inl rfl)⟩
      · unfold F_storing_Accept; rw [st_valid hw, hv, st_validReg hr, hvr]; rfl
      · unfold F_ref33_Accept; rw [rf_valid hw, hv, rf_validReg, hvr]; rfl
    | true =>
      by_cases hvia : via = 0
      · subst hvia
        refine ⟨([], false, 1), ?_, ?_, .bad 1 (.inl rfl)⟩
        · unfold F_storing_Accept; rw [st_valid hw, hv, st_validReg hr, hvr]; rfl
        · unfold F_ref33_Accept; rw [rf_valid hw, hv, rf_validReg, hvr]; rfl
      · cases hnow : isT now with
        | false =>
          refine ⟨([], false, 2), ?_, ?_, .bad 2 (.inr rfl)⟩
          · unfold F_storing_Accept; rw [st_valid hw, hv, st_validReg hr, hvr, st_isTime, hnow]; simp only [Option.bind_some, cond_true, beqF hvia, cond_false]
          · unfold F_ref33_Accept; rw [rf_valid hw, hv, rf_validReg, hvr, ref_isTime, hnow]; simp only [Option.bind_some, cond_true, beqF hvia, cond_false]
        | true =>
          have hv' := validB_iff.1 hv
          rcases part_spec hv' r.Target with ⟨A, x, B, rfl, hA, hx, hB⟩ | ⟨A, B, rfl, hA, hB⟩
          · exact ⟨_, st_acceptT hv' hw hr hvr hvia hnow hA hx, rf_acceptT hv' hw hr hvr hvia hnow hA hx hB, .there A x B rfl hA hx hB ⟨hv', hw⟩ hvr hvia hnow⟩
          · exact ⟨_, st_acceptN hv' hw hr hvr hvia hnow hA hB, rf_acceptN hv' hw hr hvr hvia hnow hA hB, .new A B rfl hA hB ⟨hv', hw⟩ hvr hvia hnow⟩
theorem newD_ok {now via : Int} {r : S_Register} (hvr : vrB r = true) (hvia : via ≠ 0) (hnow : isT now = true) : okD (newD now via r) = true := by
  unfold vrB at hvr
  simp only [Bool.and_eq_true] at hvr
  unfold okD newD
  dsimp only
  rw [hvr.1, show (via != 0) = true by simpa using hvia]
  have h1 := isT_iff.1 hnow
  have h2 := isT_iff.1 hvr.2
  rw [Bool.and_self, Bool.true_and, isT_iff]
  unfold upto
  split <;> omega
theorem good_ins {A B M : List S_Down} {d : S_Down} (hM : M = [] ∨ ∃ x, M = [x]) (hg : GoodD (A ++ M ++ B)) (hl : A.length + B.length < 128) (hd : okD d = true) (hw : wfD d) (hA : ∀ a ∈ A, cmpP a.Target d.Target < 0) (hB : ∀ b ∈ B, cmpP b.Target d.Target > 0) : GoodD (A ++ d :: B) := by
  have hsub : (A ++ B).Sublist (A ++ M ++ B) := by
    rw [List.append_assoc]
    exact List.Sublist.append (List.Sublist.refl A) (List.sublist_append_right M B)
  refine ⟨⟨by simp; omega, ?_, ?_⟩, ?_⟩
  · intro z hz
    rcases List.mem_append.1 hz with h | h
    · exact hg.v.ok z (hsub.subset (by simp [h]))
    · rcases List.mem_cons.1 h with rfl | h
      · exact hd
      · exact hg.v.ok z (hsub.subset (by simp [h]))
  · have hp := hg.v.ord.sublist hsub
    rw [List.pairwise_append] at hp ⊢
    refine ⟨hp.1, ?_, ?_⟩
    · rw [List.pairwise_cons]
      refine ⟨fun b hb => ?_, hp.2.1⟩
      have := hB b hb
      have h2 := cmpP_swap b.Target d.Target
      unfold ltD
      omega
    · intro a ha b hb
      rcases List.mem_cons.1 hb with rfl | hb
      · exact hA a ha
      · exact hp.2.2 a ha b hb
  · intro z hz
    rcases List.mem_append.1 hz with h | h
    · exact hg.w z (hsub.subset (by simp [h]))
    · rcases List.mem_cons.1 h with rfl | h
      · exact hw
      · exact hg.w z (hsub.subset (by simp [h]))
theorem good_sub {l m : List S_Down} (hg : GoodD l) (hs : m.Sublist l) : GoodD m :=
  ⟨⟨Nat.le_trans hs.length_le hg.v.len, fun d hd => hg.v.ok d (hs.subset hd), hg.v.ord.sublist hs⟩, fun d hd => hg.w d (hs.subset hd)⟩
/-- what is accepted is valid -/
theorem acc_good {l : List S_Down} {now via : Int} {r : S_Register} {a : List S_Down × Bool × Int} (hr : wfR r) (h : AccR l now via r a) (h0 : a.2.2 = 0) : GoodD a.1 := by
  cases h with
  | bad e he => dsimp only at h0; omega
  | there A x B hl hA hx hB hg hvr hvia hnow =>
    subst hl
    have hwn : wfD (newD now via r) := hr
    have hins : GoodD (A ++ newD now via r :: B) := good_ins (M := [x]) (.inr ⟨x, rfl⟩) (by simpa using hg) (by have := hg.v.len; simp at this; omega) (newD_ok hvr hvia hnow) hwn hA hB
    have hdel : GoodD (A ++ B) := good_sub hg (List.Sublist.append (List.Sublist.refl A) (List.sublist_cons_self x B))
    unfold accT at h0 ⊢
    revert h0
    cases (decide (x.Until > now) && stale x via r) with
    | true => intro h0; cases h0
    | false =>
      cases (r.Lifetime == 0) with
      | true =>
        cases decide (x.Until > now)
        · intro _; exact hg
        · intro _; exact hdel
      | false =>
        cases (decide (x.Until > now) && (x.Via == via) && (x.Sequence == r.Sequence) && decide (x.Until ≥ upto now r.Lifetime))
        · intro _; exact hins
        · intro _; exact hg
  | new A B hl hA hB hg hvr hvia hnow =>
    subst hl
    have hwn : wfD (newD now via r) := hr
    unfold accN at h0 ⊢
    revert h0
    cases (r.Lifetime == 0) with
    | true => intro _; exact hg
    | false =>
      by_cases hf : (A ++ B).length ≥ 128
      · rw [decT hf]; intro h0; cases h0
      · rw [decF hf]
        intro _
        exact good_ins (M := []) (.inl rfl) (by simpa using hg) (by simp at hf; omega) (newD_ok hvr hvia hnow) hwn hA hB

/-! ### Next -/
def nextF (now : Int) (dst : List Int) (s : Int × Int) (d : S_Down) : Int × Int := if d.Until > now ∧ d.Target.Bits > s.2 ∧ inP d.Target dst = true then (d.Via, d.Target.Bits) else s
def nextS (l : List S_Down) (now : Int) (dst : List Int) : Int × Int :=
  let s := l.foldl (nextF now dst) (0, -1)
  if s.2 < 0 then (0, 15) else (s.1, 0)
theorem st_next {l : List S_Down} {now : Int} {dst : List Int} (hg : GoodD l) (hnow : isT now = true) (hd : Bytes dst) : F_storing_Next l now dst = some (nextS l now dst) := by
  unfold F_storing_Next
  rw [st_valid hg.w, validB_iff.2 hg.v, st_isTime, hnow]
  simp only [Option.bind_some, cond_true]
  have hlen := hg.v.len
  have hf := loop_fold (step := F_storing_Next_l1 l now dst) l (fun (s : Int × Int) k => (s.1, s.2, (k : Int))) (nextF now dst) (fun s => (s.1, s.2)) (fun _ _ => True) (by
    intro k hk s _
    refine ⟨?_, trivial⟩
    unfold F_storing_Next_l1 F_storing_Next_j2 nextF
    dsimp only
    rw [decT (by omega), idx_lt hk]
    simp only [cond_true, Option.bind_some]
    rw [addr_contains (hg.w _ (List.getElem_mem hk)).1 hd, wk k (by omega)]
    by_cases h1 : l[k].Until > now
    · rw [decT h1]
      by_cases h2 : l[k].Target.Bits > s.2
      · rw [decT h2]
        cases h3 : inP l[k].Target dst with
        | true => simp [h1, h2]
        | false => simp
      · rw [decF h2]; simp [h2]
    · rw [decF h1]; simp [h1]) (by
    intro s _
    unfold F_storing_Next_l1
    rw [decF (by dsimp only; omega)]
    rfl) (0, -1) trivial
  have e : loopO (F_storing_Next_l1 l now dst) (0, (-1), 0) = some ((l.foldl (nextF now dst) (0, -1)).1, (l.foldl (nextF now dst) (0, -1)).2) := hf.1
  rw [e]
  unfold nextS
  simp only [Option.bind_some]
  by_cases h : (l.foldl (nextF now dst) (0, -1)).2 < 0
  · rw [decT h, if_pos h]; rfl
  · rw [decF h, if_neg h]; rfl
def tgt (n : Int) : S_Prefix := S_Prefix.mk [32, 1, 0, 0, 0, 0, 0, 0, 0, 0, 0, 0, 0, 0, 0, IntKind.wrap .u8 n] 128
theorem target_eq (n : Int) : F_law33_target n = some (tgt n) := rfl
theorem tgt_wf (n : Int) : wfP (tgt n) := by
  have := wrap8_bd n
  refine ⟨rfl, ?_⟩
  intro z hz
  simp only [tgt, List.mem_cons, List.not_mem_nil, or_false] at hz
  omega
theorem tgt_vp (n : Int) : vpB (tgt n) = true := by
  rw [vpB_iff]
  refine ⟨by simp [tgt], by simp [tgt], ?_⟩
  intro k hk hb
  simp [tgt] at hb
  omega
theorem known_eq : F_law33_known = some true := by
  unfold F_law33_known
  simp only [target_eq, Option.bind_some]
  have hr1 : vrB (S_Register.mk (tgt 1) 7 10) = true := by unfold vrB; rw [tgt_vp]; rfl
  have e1 := st_acceptN (A := []) (B := []) (now := 5) (via := 2) (r := S_Register.mk (tgt 1) 7 10) goodNil.v goodNil.w (tgt_wf 1) hr1 (by omega) rfl (by simp) (by simp)
  have hacc : accN [] [] 5 2 (S_Register.mk (tgt 1) 7 10) = ([⟨tgt 1, 2, 7, 15⟩], true, 0) := rfl
  rw [hacc] at e1
  simp only [List.append_nil] at e1
  rw [e1]
  simp only [Option.bind_some]
  have hgd : GoodD [⟨tgt 1, 2, 7, 15⟩] := by
    have := acc_good (l := []) (now := 5) (via := 2) (r := S_Register.mk (tgt 1) 7 10) (a := ([⟨tgt 1, 2, 7, 15⟩], true, 0)) ⟨tgt_wf 1, by decide, by decide⟩ (.new [] [] rfl (by simp) (by simp) goodNil hr1 (by omega) rfl) rfl
    exact this
  rw [st_next hgd rfl (tgt_wf 1).2, st_next hgd rfl (tgt_wf 1).2]
  have hin : inP (tgt 1) (tgt 1).IP = true := by
    unfold inP
    rw [tgt_vp, Bool.true_and, decide_eq_true_iff]
    intro k _ _
    rfl
  have n1 : nextS [⟨tgt 1, 2, 7, 15⟩] 14 (tgt 1).IP = (2, 0) := by
    simp only [nextS, List.foldl_cons, List.foldl_nil, nextF, hin]
    rfl
  have n2 : nextS [⟨tgt 1, 2, 7, 15⟩] 15 (tgt 1).IP = (0, 15) := by
    simp only [nextS, List.foldl_cons, List.foldl_nil, nextF, hin]
    rfl
  have hr2 : vrB (S_Register.mk (tgt 1) 6 10) = true := by unfold vrB; rw [tgt_vp]; rfl
  have e2 := st_acceptT (A := []) (B := []) (x := ⟨tgt 1, 2, 7, 15⟩) (now := 6) (via := 3) (r := S_Register.mk (tgt 1) 6 10) hgd.v hgd.w (tgt_wf 1) hr2 (by omega) rfl (by simp) rfl
  have hacc2 : accT [] ⟨tgt 1, 2, 7, 15⟩ [] 6 3 (S_Register.mk (tgt 1) 6 10) = ([], false, 16) := rfl
  rw [hacc2] at e2
  simp only [List.nil_append] at e2
  rw [n1, n2, e2]
  rfl
end Go.Proofs.Ytonlajdaaljncaa
