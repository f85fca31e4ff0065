/-
  The reference's Find and Accept.
-/
import Derived.Test.YtonlajdaaljncaaPS3
namespace Go.Proofs.Ytonlajdaaljncaa
open Go.RowKit

def zeroD : S_Down := S_Down.mk (S_Prefix.mk [0, 0, 0, 0, 0, 0, 0, 0, 0, 0, 0, 0, 0, 0, 0, 0] 0) 0 0 0
def isAt (now : Int) (t : S_Prefix) (d : S_Down) : Bool := decide (d.Target = t) && decide (d.Until > now)
def findD (l : List S_Down) (now : Int) (t : S_Prefix) : S_Down × Bool := match l.find? (isAt now t) with
  | some d => (d, true)
  | none => (zeroD, false)
theorem rf_find {l : List S_Down} {now : Int} {t : S_Prefix} (hw : ∀ d ∈ l, wfD d) (ht : wfP t) (hlen : l.length ≤ maxLen) : F_ref33_Find l now t = some (findD l now t) := by
  unfold F_ref33_Find
  have hl : l.length ≤ 9223372036854775807 := by simp [maxLen] at hlen; omega
  have hst : ∀ k (hk : k < l.length), F_ref33_Find_l1 l t now (k : Int) = if isAt now t l[k] = true then some (Sum.inr (Sum.inr (l[k], true))) else some (Sum.inl ((k + 1 : Nat) : Int)) := by
    intro k hk
    unfold F_ref33_Find_l1 isAt
    rw [decT (by omega), idx_lt hk]
    simp only [cond_true, Option.bind_some]
    rw [eqb_P (hw _ (List.getElem_mem hk)).1 ht, wk k (by omega)]
    cases decide (l[k].Target = t) <;> cases decide (l[k].Until > now) <;> rfl
  have e := loop_first (step := F_ref33_Find_l1 l t now) (S := fun k => (k : Int)) l.length (fun k => match l[k]? with | some d => !(isAt now t d) | none => true) (fun k => Sum.inr ((l[k]?).getD zeroD, true)) (re := Sum.inl ()) (by
      intro k hk hp
      simp only [List.getElem?_eq_getElem hk] at hp
      rw [hst k hk, if_neg (by simpa using hp)]) (by
      intro k hk hp
      simp only [List.getElem?_eq_getElem hk, Bool.not_eq_false'] at hp
      rw [hst k hk, if_pos hp, List.getElem?_eq_getElem hk]
      rfl) (by
      unfold F_ref33_Find_l1
      rw [decF (by omega)]
      rfl)
  rw [show ((0 : Nat) : Int) = 0 from rfl] at e
  rcases e with ⟨k, hk, hp, hall, e⟩ | ⟨hall, e⟩
  · rw [e]
    simp only [List.getElem?_eq_getElem hk, Bool.not_eq_false'] at hp
    have hf : l.find? (isAt now t) = some l[k] := by
      rw [List.find?_eq_some_iff_getElem]
      refine ⟨hp, k, hk, rfl, fun j hj => ?_⟩
      have := hall j hj
      simp only [List.getElem?_eq_getElem (show j < l.length by omega)] at this
      exact this
    simp only [Option.bind_some, Sum.elim_inr, findD, hf, List.getElem?_eq_getElem hk, Option.getD_some]
  · rw [e]
    have hf : l.find? (isAt now t) = none := by
      rw [List.find?_eq_none]
      intro x hx
      obtain ⟨j, hj, rfl⟩ := List.getElem_of_mem hx
      have := hall j hj
      simp only [List.getElem?_eq_getElem hj, Bool.not_eq_true'] at this
      rw [this]
      exact Bool.false_ne_true
    simp only [Option.bind_some, Sum.elim_inl, findD, hf]
    rfl
theorem findT {A B : List S_Down} {x : S_Down} {now : Int} {t : S_Prefix} (hA : ∀ a ∈ A, cmpP a.Target t < 0) (hx : x.Target = t) (hB : ∀ b ∈ B, cmpP b.Target t > 0) : findD (A ++ x :: B) now t = if x.Until > now then (x, true) else (zeroD, false) := by
  have hne : ∀ (d : S_Down), cmpP d.Target t ≠ 0 → isAt now t d = false := by
    intro d hd
    unfold isAt
    rw [decF (fun h => hd (cmpP_zero.2 h))]
    rfl
  have h1 : A.find? (isAt now t) = none := by
    rw [List.find?_eq_none]
    intro a ha
    rw [hne a (by have := hA a ha; omega)]
    exact Bool.false_ne_true
  have h2 : B.find? (isAt now t) = none := by
    rw [List.find?_eq_none]
    intro a ha
    rw [hne a (by have := hB a ha; omega)]
    exact Bool.false_ne_true
  unfold findD
  rw [List.find?_append, h1, Option.none_or, List.find?_cons]
  have h3 : isAt now t x = decide (x.Until > now) := by unfold isAt; rw [decT hx, Bool.true_and]
  rw [h3, h2]
  by_cases h : x.Until > now
  · rw [decT h, if_pos h]
  · rw [decF h, if_neg h]
theorem findN {A B : List S_Down} {now : Int} {t : S_Prefix} (hA : ∀ a ∈ A, cmpP a.Target t < 0) (hB : ∀ b ∈ B, cmpP b.Target t > 0) : findD (A ++ B) now t = (zeroD, false) := by
  have hne : ∀ (d : S_Down), cmpP d.Target t ≠ 0 → isAt now t d = false := by
    intro d hd
    unfold isAt
    rw [decF (fun h => hd (cmpP_zero.2 h))]
    rfl
  have h1 : (A ++ B).find? (isAt now t) = none := by
    rw [List.find?_eq_none]
    intro a ha
    rw [hne a (by rcases List.mem_append.1 ha with h | h; (have := hA a h; omega); (have := hB a h; omega))]
    exact Bool.false_ne_true
  unfold findD
  rw [h1]
def putF (d : S_Down) (s : List S_Down × Bool) (y : S_Down) : List S_Down × Bool :=
  let s1 := if cmpP y.Target d.Target ≥ 0 ∧ s.2 = false then (s.1 ++ [d], true) else (if cmpP y.Target d.Target ≥ 0 then (s.1, true) else s)
  if cmpP y.Target d.Target ≠ 0 then (s1.1 ++ [y], s1.2) else s1
theorem rf_put {l : List S_Down} {d : S_Down} (hw : ∀ x ∈ l, wfD x) (hd : wfP d.Target) (hlen : l.length ≤ 128) : F_ref33_put l d = some (let s := l.foldl (putF d) ([], false); if s.2 then s.1 else s.1 ++ [d]) := by
  unfold F_ref33_put
  have hf := loop_fold (step := F_ref33_put_l1 l d) l (fun (s : List S_Down × Bool) k => (s.1, s.2, (k : Int))) (putF d) (fun s => (s.1, s.2)) (fun s k => s.1.length ≤ 2 * k) (by
    intro k hk s hi
    have happ : ∀ (o : List S_Down) (z : S_Down), o.length ≤ 2 * k + 1 → appO 48 o (Cut.app .whole [z]) = some (o ++ [z]) := by
      intro o z ho
      exact appO_some (by simp [Cut.app]; omega) (by simp [Cut.app]; omega)
    unfold F_ref33_put_l1 F_ref33_put_j3 F_ref33_put_j2 putF
    dsimp only
    rw [decT (by omega), idx_lt hk]
    simp only [cond_true, Option.bind_some]
    rw [ref_compare (hw _ (List.getElem_mem hk)).1 hd, wk k (by omega)]
    simp only [Option.bind_some]
    generalize cmpP l[k].Target d.Target = c
    by_cases h1 : c ≥ 0
    · rw [decT h1]
      cases h2 : s.2 with
      | true =>
        by_cases h3 : c = 0
        · subst h3
          refine ⟨rfl, by simp; omega⟩
        · rw [show (c != 0) = true by simpa using h3]
          simp only [cond_true, happ s.1 _ (by omega), Option.bind_some]
          simp [h1, h3]
          omega
      | false =>
        by_cases h3 : c = 0
        · subst h3
          simp only [cond_true, cond_false, happ s.1 _ (by omega), Option.bind_some, bne_self_eq_false]
          simp
          omega
        · rw [show (c != 0) = true by simpa using h3]
          simp only [cond_true, cond_false, happ s.1 _ (by omega), Option.bind_some, happ (s.1 ++ [d]) _ (by simp; omega)]
          simp [h1, h3]
          omega
    · rw [decF h1]
      have h3 : ¬ c = 0 := by omega
      rw [show (c != 0) = true by simpa using h3]
      simp only [cond_true, cond_false, happ s.1 _ (by omega), Option.bind_some]
      simp [h1, h3]
      omega) (by
    intro s hi
    unfold F_ref33_put_l1
    rw [decF (by dsimp only; omega)]
    rfl) ([], false) (by simp)
  obtain ⟨e, hi⟩ := hf
  have e' : loopO (F_ref33_put_l1 l d) (([] : List S_Down), false, 0) = some ((l.foldl (putF d) ([], false)).1, (l.foldl (putF d) ([], false)).2) := e
  rw [e']
  simp only [Option.bind_some]
  generalize l.foldl (putF d) ([], false) = s at *
  unfold F_ref33_put_j4
  cases s.2 with
  | true => rfl
  | false =>
    rw [appO_some (by simp [Cut.app]; omega) (by simp [Cut.app]; omega)]
    rfl
theorem put_lt {d : S_Down} : ∀ (A : List S_Down) (o : List S_Down), (∀ a ∈ A, cmpP a.Target d.Target < 0) → A.foldl (putF d) (o, false) = (o ++ A, false)
  | [], o, _ => by simp
  | a :: A, o, h => by
    have h1 := h a (by simp)
    rw [List.foldl_cons]
    have e : putF d (o, false) a = (o ++ [a], false) := by
      unfold putF
      have h2 : ¬ cmpP a.Target d.Target ≥ 0 := by omega
      have h3 : cmpP a.Target d.Target ≠ 0 := by omega
      simp [h2, h3]
    rw [e, put_lt A _ (fun b hb => h b (by simp [hb]))]
    simp
theorem put_gt {d : S_Down} : ∀ (B : List S_Down) (o : List S_Down), (∀ b ∈ B, cmpP b.Target d.Target > 0) → B.foldl (putF d) (o, true) = (o ++ B, true)
  | [], o, _ => by simp
  | b :: B, o, h => by
    have h1 := h b (by simp)
    rw [List.foldl_cons]
    have e : putF d (o, true) b = (o ++ [b], true) := by
      unfold putF
      have h2 : cmpP b.Target d.Target ≥ 0 := by omega
      have h3 : cmpP b.Target d.Target ≠ 0 := by omega
      simp [h2, h3]
    rw [e, put_gt B _ (fun c hc => h c (by simp [hc]))]
    simp
theorem putT {A B : List S_Down} {x d : S_Down} (hA : ∀ a ∈ A, cmpP a.Target d.Target < 0) (hx : x.Target = d.Target) (hB : ∀ b ∈ B, cmpP b.Target d.Target > 0) : (let s := (A ++ x :: B).foldl (putF d) ([], false); if s.2 then s.1 else s.1 ++ [d]) = A ++ d :: B := by
  have e : putF d (A, false) x = (A ++ [d], true) := by
    unfold putF
    rw [hx, cmpP_zero.2 rfl]
    simp
  rw [List.foldl_append, put_lt A _ hA, List.nil_append, List.foldl_cons, e, put_gt B _ hB]
  simp
theorem putN {A B : List S_Down} {d : S_Down} (hA : ∀ a ∈ A, cmpP a.Target d.Target < 0) (hB : ∀ b ∈ B, cmpP b.Target d.Target > 0) : (let s := (A ++ B).foldl (putF d) ([], false); if s.2 then s.1 else s.1 ++ [d]) = A ++ d :: B := by
  rw [List.foldl_append, put_lt A _ hA, List.nil_append]
  cases B with
  | nil => simp
  | cons b B =>
    have h1 := hB b (by simp)
    have e : putF d (A, false) b = (A ++ [d, b], true) := by
      unfold putF
      have h2 : cmpP b.Target d.Target ≥ 0 := by omega
      have h3 : cmpP b.Target d.Target ≠ 0 := by omega
      simp [h2, h3]
    rw [List.foldl_cons, e, put_gt B _ (fun c hc => hB c (by simp [hc]))]
    simp
theorem rf_l1 {l : List S_Down} {r : S_Register} (hw : ∀ x ∈ l, wfD x) (hr : wfP r.Target) (hlen : l.length ≤ 128) : loopO (F_ref33_Accept_l1 l r) (([] : List S_Down), 0) = some (l.filter fun y => !decide (y.Target = r.Target)) := by
  have hf := loop_fold (step := F_ref33_Accept_l1 l r) l (fun (s : List S_Down) k => (s, (k : Int))) (fun o y => if (!decide (y.Target = r.Target)) then o ++ [y] else o) (fun s => s) (fun s k => s.length ≤ k) (by
    intro k hk s hi
    unfold F_ref33_Accept_l1 F_ref33_Accept_j2
    dsimp only
    rw [decT (by omega), idx_lt hk]
    simp only [cond_true, Option.bind_some]
    rw [eqb_P (hw _ (List.getElem_mem hk)).1 hr, wk k (by omega)]
    cases decide (l[k].Target = r.Target) with
    | true => exact ⟨rfl, by simp; omega⟩
    | false =>
      rw [appO_some (by simp [Cut.app]; omega) (by simp [Cut.app]; omega)]
      exact ⟨rfl, by simp; omega⟩) (by
    intro s hi
    unfold F_ref33_Accept_l1
    rw [decF (by dsimp only; omega)]
    rfl) [] (by simp)
  have := hf.1
  rw [fold_filter] at this
  exact this
theorem rf_l3 {l : List S_Down} {r : S_Register} (hw : ∀ x ∈ l, wfD x) (hr : wfP r.Target) (hlen : l.length ≤ 128) : loopO (F_ref33_Accept_l3 l r) (([] : List S_Down), 0) = some (l.filter fun y => !decide (y.Target = r.Target)) := rf_l1 hw hr hlen
theorem rf_l5 {l : List S_Down} (hlen : l.length ≤ 128) : loopO (F_ref33_Accept_l5 l) (([] : List S_Down), 0) = some l := by
  have hf := loop_fold (step := F_ref33_Accept_l5 l) l (fun (s : List S_Down) k => (s, (k : Int))) (fun o y => o ++ [y]) (fun s => s) (fun s k => s.length ≤ k) (by
    intro k hk s hi
    unfold F_ref33_Accept_l5
    dsimp only
    rw [decT (by omega), idx_lt hk]
    simp only [cond_true, Option.bind_some]
    rw [wk k (by omega), appO_some (by simp [Cut.app]; omega) (by simp [Cut.app]; omega)]
    exact ⟨rfl, by simp; omega⟩) (by
    intro s hi
    unfold F_ref33_Accept_l5
    rw [decF (by dsimp only; omega)]
    rfl) [] (by simp)
  have := hf.1
  rw [fold_map (fun y => y)] at this
  simpa using this
theorem filtT {A B : List S_Down} {x : S_Down} {t : S_Prefix} (hA : ∀ a ∈ A, cmpP a.Target t < 0) (hx : x.Target = t) (hB : ∀ b ∈ B, cmpP b.Target t > 0) : ((A ++ x :: B).filter fun y => !decide (y.Target = t)) = A ++ B := by
  have hne : ∀ (d : S_Down), cmpP d.Target t ≠ 0 → (!decide (d.Target = t)) = true := by
    intro d hd
    rw [decF (fun h => hd (cmpP_zero.2 h))]
    rfl
  rw [List.filter_append, List.filter_cons_of_neg (by rw [decT hx]; simp), List.filter_eq_self.2 (fun a ha => hne a (by have := hA a ha; omega)), List.filter_eq_self.2 (fun a ha => hne a (by have := hB a ha; omega))]
theorem rf_acceptT {A B : List S_Down} {x : S_Down} {now via : Int} {r : S_Register} (hv : ValidD (A ++ x :: B)) (hw : ∀ d ∈ A ++ x :: B, wfD d) (hr : wfP r.Target) (hvr : vrB r = true) (hvia : via ≠ 0) (hnow : isT now = true) (hA : ∀ a ∈ A, cmpP a.Target r.Target < 0) (hx : x.Target = r.Target) (hB : ∀ b ∈ B, cmpP b.Target r.Target > 0) :
    F_ref33_Accept (A ++ x :: B) now via r = some (accT A x B now via r) := by
  unfold F_ref33_Accept
  have hlen := hv.len
  have hlen' : (A ++ newD now via r :: B).length ≤ 128 := by simpa using hlen
  have hlife : isT r.Lifetime = true := by unfold vrB at hvr; simp only [Bool.and_eq_true] at hvr; exact hvr.2
  rw [rf_valid hw, validB_iff.2 hv, rf_validReg, hvr, ref_isTime, hnow, rf_find hw hr (by simp [maxLen] at *; omega), findT hA hx hB]
  simp only [Option.bind_some, cond_true, beqF hvia, cond_false]
  have hput : F_ref33_put (A ++ x :: B) (S_Down.mk r.Target via r.Sequence (upto now r.Lifetime)) = some (A ++ newD now via r :: B) := by
    rw [rf_put hw hr hlen]
    exact congrArg some (putT (d := newD now via r) hA hx hB)
  have happ : appO 48 ([] : List S_Down) (Cut.app .whole (A ++ x :: B)) = some (A ++ x :: B) := by
    rw [appO_some (by simp only [Cut.app, List.length_nil]; omega) (by simp only [Cut.app, List.length_nil]; omega)]
    rfl
  have hfull : decide (((A ++ newD now via r :: B).length : Int) > 128) = false := decF (by omega)
  unfold accT stale F_ref22_After
  rw [upto_wrap hnow hlife, rf_l1 hw hr hlen, rf_l3 hw hr hlen, rf_l5 hlen, filtT hA hx hB]
  simp only [Option.bind_some, happ, ref_newer, hput, hfull, cond_false]
  by_cases hc : x.Until > now
  · rw [if_pos hc, decT hc]
    simp only [cond_true, Bool.true_and, Option.bind_some]
    cases newB x.Sequence r.Sequence with
    | true => rfl
    | false =>
      cases hs : (x.Sequence == r.Sequence) with
      | false =>
        cases (r.Lifetime == 0) <;> cases (x.Via == via) <;> rfl
      | true =>
        cases hvv : (x.Via == via) with
        | false =>
          have : (x.Via != via) = true := by simp [bne, hvv]
          rw [this]
          rfl
        | true =>
          have : (x.Via != via) = false := by simp [bne, hvv]
          rw [this]
          cases (r.Lifetime == 0) <;> cases decide (x.Until ≥ upto now r.Lifetime) <;> rfl
  · rw [if_neg hc, decF hc]
    simp only [Bool.false_and, cond_false]
    cases (r.Lifetime == 0) <;> rfl
theorem rf_acceptN {A B : List S_Down} {now via : Int} {r : S_Register} (hv : ValidD (A ++ B)) (hw : ∀ d ∈ A ++ B, wfD d) (hr : wfP r.Target) (hvr : vrB r = true) (hvia : via ≠ 0) (hnow : isT now = true) (hA : ∀ a ∈ A, cmpP a.Target r.Target < 0) (hB : ∀ b ∈ B, cmpP b.Target r.Target > 0) :
    F_ref33_Accept (A ++ B) now via r = some (accN A B now via r) := by
  unfold F_ref33_Accept
  have hlen := hv.len
  have hlife : isT r.Lifetime = true := by unfold vrB at hvr; simp only [Bool.and_eq_true] at hvr; exact hvr.2
  rw [rf_valid hw, validB_iff.2 hv, rf_validReg, hvr, ref_isTime, hnow, rf_find hw hr (by simp [maxLen] at *; omega), findN hA hB]
  simp only [Option.bind_some, cond_true, beqF hvia, cond_false]
  have hput : F_ref33_put (A ++ B) (S_Down.mk r.Target via r.Sequence (upto now r.Lifetime)) = some (A ++ newD now via r :: B) := by
    rw [rf_put hw hr hlen]
    exact congrArg some (putN (d := newD now via r) hA hB)
  unfold accN F_ref22_After
  rw [upto_wrap hnow hlife, rf_l5 hlen]
  simp only [Option.bind_some, hput]
  cases (r.Lifetime == 0) with
  | true => rfl
  | false =>
    simp only [cond_false]
    by_cases hf : (A ++ B).length ≥ 128
    · rw [decT hf, decT (by simp at hf ⊢; omega)]
      rfl
    · rw [decF hf, decF (by simp at hf ⊢; omega)]
      rfl
end Go.Proofs.Ytonlajdaaljncaa
