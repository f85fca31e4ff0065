/-
  Drop, Expire, Export and Next, of the program and of the reference.
-/
import Derived.Test.YtonlajdaaljncaaPS5
import Derived.Test.YtonlajdaaljncaaStEq
namespace Go.Proofs.Ytonlajdaaljncaa
open Go.RowKit

theorem fold_fmap {α β : Type} (p : α → Bool) (g : α → β) (l : List α) (out : List β) : l.foldl (fun o y => if p y then o ++ [g y] else o) out = out ++ (l.filter p).map g := by
  induction l generalizing out with
  | nil => simp
  | cons x l ih =>
    rw [List.foldl_cons, ih]
    by_cases h : p x = true
    · rw [if_pos h, List.filter_cons_of_pos h]; simp
    · rw [if_neg h, List.filter_cons_of_neg h]
def curB (now : Int) (d : S_Down) : Bool := decide (d.Until > now)
def expS (l : List S_Down) (now : Int) : List S_Down := bif validB l then (bif isT now then l.filter (curB now) else []) else []
def exR (now : Int) (d : S_Down) : S_Register := ⟨d.Target, d.Sequence, IntKind.wrap .i64 (d.Until - now)⟩
theorem st_expire {l : List S_Down} {now : Int} (hw : ∀ d ∈ l, wfD d) : F_storing_Expire l now = some (expS l now) := by
  unfold F_storing_Expire expS
  rw [st_valid hw, st_isTime]
  cases hv : validB l with
  | false => rfl
  | true =>
    cases ht : isT now with
    | false => rfl
    | true =>
      simp only [Option.bind_some, cond_true]
      have hlen := (validB_iff.1 hv).len
      have hf := loop_fold (step := F_storing_Expire_l1 l now) l (fun (s : List S_Down) k => (s, (k : Int))) (fun o y => if curB now y then o ++ [y] else o) (fun s => s) (fun s k => s.length ≤ k) (by
        intro k hk s hi
        unfold F_storing_Expire_l1 F_storing_Expire_j2 curB
        dsimp only
        rw [decT (by omega), idx_lt hk, wk k (by omega)]
        simp only [cond_true, Option.bind_some]
        cases decide (l[k].Until > now) with
        | false => exact ⟨rfl, by simp; omega⟩
        | true =>
          rw [appO_some (by simp [Cut.app]; omega) (by simp [Cut.app]; omega)]
          exact ⟨rfl, by simp; omega⟩) (by
        intro s hi
        unfold F_storing_Expire_l1
        rw [decF (by dsimp only; omega)]
        rfl) [] (by simp)
      have := hf.1
      rw [fold_filter] at this
      rw [show loopO (F_storing_Expire_l1 l now) (([] : List S_Down), 0) = some ([] ++ l.filter (curB now)) from this]
      rfl
theorem rf_expire {l : List S_Down} {now : Int} (hw : ∀ d ∈ l, wfD d) : F_ref33_Expire l now = some (expS l now) := by
  unfold F_ref33_Expire expS
  rw [rf_valid hw, ref_isTime]
  cases hv : validB l with
  | false => rfl
  | true =>
    cases ht : isT now with
    | false => rfl
    | true =>
      simp only [Option.bind_some, cond_true]
      have hlen := (validB_iff.1 hv).len
      have hf := loop_fold (step := F_ref33_Expire_l1 l now) l (fun (s : List S_Down) k => (s, (k : Int))) (fun o y => if curB now y then o ++ [y] else o) (fun s => s) (fun s k => s.length ≤ k) (by
        intro k hk s hi
        unfold F_ref33_Expire_l1 F_ref33_Expire_j2 curB
        dsimp only
        rw [decT (by omega), idx_lt hk, wk k (by omega)]
        simp only [cond_true, Option.bind_some]
        cases decide (l[k].Until > now) with
        | false => exact ⟨rfl, by simp; omega⟩
        | true =>
          rw [appO_some (by simp [Cut.app]; omega) (by simp [Cut.app]; omega)]
          exact ⟨rfl, by simp; omega⟩) (by
        intro s hi
        unfold F_ref33_Expire_l1
        rw [decF (by dsimp only; omega)]
        rfl) [] (by simp)
      have := hf.1
      rw [fold_filter] at this
      rw [show loopO (F_ref33_Expire_l1 l now) (([] : List S_Down), 0) = some ([] ++ l.filter (curB now)) from this]
      rfl
theorem expS_len {l : List S_Down} {now : Int} : (expS l now).length ≤ 128 := by
  unfold expS
  cases hv : validB l with
  | false => simp
  | true =>
    have hlen := (validB_iff.1 hv).len
    cases isT now with
    | false => simp
    | true =>
      have := List.length_filter_le (curB now) l
      simp only [cond_true]
      omega
theorem st_export {l : List S_Down} {now : Int} (hw : ∀ d ∈ l, wfD d) : F_storing_Export l now = some ((expS l now).map (exR now)) := by
  unfold F_storing_Export expS
  rw [st_valid hw, st_isTime]
  cases hv : validB l with
  | false => rfl
  | true =>
    cases ht : isT now with
    | false => rfl
    | true =>
      simp only [Option.bind_some, cond_true]
      have hlen := (validB_iff.1 hv).len
      have hf := loop_fold (step := F_storing_Export_l1 l now) l (fun (s : List S_Register) k => (s, (k : Int))) (fun o y => if curB now y then o ++ [exR now y] else o) (fun s => s) (fun s k => s.length ≤ k) (by
        intro k hk s hi
        unfold F_storing_Export_l1 F_storing_Export_j2 curB
        dsimp only
        rw [decT (by omega), idx_lt hk, wk k (by omega)]
        simp only [cond_true, Option.bind_some]
        cases decide (l[k].Until > now) with
        | false => exact ⟨rfl, by simp; omega⟩
        | true =>
          rw [appO_some (by simp [Cut.app]; omega) (by simp [Cut.app]; omega)]
          exact ⟨rfl, by simp; omega⟩) (by
        intro s hi
        unfold F_storing_Export_l1
        rw [decF (by dsimp only; omega)]
        rfl) [] (by simp)
      have := hf.1
      rw [fold_fmap] at this
      rw [show loopO (F_storing_Export_l1 l now) (([] : List S_Register), 0) = some ([] ++ (l.filter (curB now)).map (exR now)) from this]
      rfl
theorem rf_export {l : List S_Down} {now : Int} (hw : ∀ d ∈ l, wfD d) : F_ref33_Export l now = some ((expS l now).map (exR now)) := by
  unfold F_ref33_Export
  rw [rf_expire hw]
  simp only [Option.bind_some]
  have hlen := expS_len (l := l) (now := now)
  generalize expS l now = m at *
  have hf := loop_fold (step := F_ref33_Export_l1 m now) m (fun (s : List S_Register) k => (s, (k : Int))) (fun o y => o ++ [exR now y]) (fun s => s) (fun s k => s.length ≤ k) (by
    intro k hk s hi
    unfold F_ref33_Export_l1
    dsimp only
    rw [decT (by omega), idx_lt hk, wk k (by omega)]
    simp only [cond_true, Option.bind_some]
    rw [appO_some (by simp [Cut.app]; omega) (by simp [Cut.app]; omega)]
    exact ⟨rfl, by simp; omega⟩) (by
    intro s hi
    unfold F_ref33_Export_l1
    rw [decF (by dsimp only; omega)]
    rfl) [] (by simp)
  have := hf.1
  rw [fold_map] at this
  rw [show loopO (F_ref33_Export_l1 m now) (([] : List S_Register), 0) = some ([] ++ m.map (exR now)) from this]
  rfl
def endR (d : S_Down) : S_Register := ⟨d.Target, d.Sequence, 0⟩
def dropF (via : Int) (s : List S_Down × List S_Register) (y : S_Down) : List S_Down × List S_Register := if (y.Via == via) = true then (s.1, s.2 ++ [endR y]) else (s.1 ++ [y], s.2)
theorem drop_fold (via : Int) (l : List S_Down) (s : List S_Down × List S_Register) : l.foldl (dropF via) s = (s.1 ++ l.filter (fun y => !(y.Via == via)), s.2 ++ (l.filter (fun y => y.Via == via)).map endR) := by
  induction l generalizing s with
  | nil => simp
  | cons x l ih =>
    rw [List.foldl_cons, ih]
    unfold dropF
    cases h : (x.Via == via) with
    | true => simp [h]
    | false => simp [h]
def dropS (l : List S_Down) (via : Int) : List S_Down × List S_Register := bif validB l then (l.filter (fun y => !(y.Via == via)), (l.filter (fun y => y.Via == via)).map endR) else ([], [])
theorem st_drop {l : List S_Down} {via : Int} (hw : ∀ d ∈ l, wfD d) : F_storing_Drop l via = some (dropS l via) := by
  unfold F_storing_Drop dropS
  rw [st_valid hw]
  cases hv : validB l with
  | false => rfl
  | true =>
    simp only [Option.bind_some, cond_true]
    have hlen := (validB_iff.1 hv).len
    have hf := loop_fold (step := F_storing_Drop_l1 l via) l (fun (s : List S_Down × List S_Register) k => (s.1, (k : Int), s.2)) (dropF via) (fun s => (s.1, s.2)) (fun s k => s.1.length ≤ k ∧ s.2.length ≤ k) (by
      intro k hk s hi
      obtain ⟨i1, i2⟩ := hi
      unfold F_storing_Drop_l1 F_storing_Drop_j3 F_storing_Drop_j2 dropF
      dsimp only
      rw [decT (by omega), idx_lt hk, wk k (by omega)]
      simp only [cond_true, cond_false, Option.bind_some]
      rw [appO_some (l1 := s.2) (by simp [Cut.app]; omega) (by simp [Cut.app]; omega), appO_some (l1 := s.1) (by simp [Cut.app]; omega) (by simp [Cut.app]; omega)]
      cases (l[k].Via == via) with
      | false => exact ⟨rfl, by simp; omega⟩
      | true => exact ⟨rfl, by simp; omega⟩) (by
      intro s hi
      unfold F_storing_Drop_l1
      rw [decF (by dsimp only; omega)]
      rfl) ([], []) (by simp)
    have := hf.1
    rw [drop_fold] at this
    rw [show loopO (F_storing_Drop_l1 l via) (([] : List S_Down), 0, ([] : List S_Register)) = some ([] ++ l.filter (fun y => !(y.Via == via)), [] ++ (l.filter (fun y => y.Via == via)).map endR) from this]
    rfl
theorem rf_drop {l : List S_Down} {via : Int} (hw : ∀ d ∈ l, wfD d) : F_ref33_Drop l via = some (dropS l via) := by
  unfold F_ref33_Drop dropS
  rw [rf_valid hw]
  cases hv : validB l with
  | false => rfl
  | true =>
    simp only [Option.bind_some, cond_true]
    have hlen := (validB_iff.1 hv).len
    have hf := loop_fold (step := F_ref33_Drop_l1 l via) l (fun (s : List S_Down × List S_Register) k => (s.1, s.2, (k : Int))) (dropF via) (fun s => (s.1, s.2)) (fun s k => s.1.length ≤ k ∧ s.2.length ≤ k) (by
      intro k hk s hi
      obtain ⟨i1, i2⟩ := hi
      unfold F_ref33_Drop_l1 F_ref33_Drop_j2 dropF
      dsimp only
      rw [decT (by omega), idx_lt hk, wk k (by omega)]
      simp only [cond_true, Option.bind_some]
      rw [appO_some (l1 := s.2) (by simp [Cut.app]; omega) (by simp [Cut.app]; omega), appO_some (l1 := s.1) (by simp [Cut.app]; omega) (by simp [Cut.app]; omega)]
      cases (l[k].Via == via) with
      | false => exact ⟨rfl, by simp; omega⟩
      | true => exact ⟨rfl, by simp; omega⟩) (by
      intro s hi
      unfold F_ref33_Drop_l1
      rw [decF (by dsimp only; omega)]
      rfl) ([], []) (by simp)
    have := hf.1
    rw [drop_fold] at this
    rw [show loopO (F_ref33_Drop_l1 l via) (([] : List S_Down), ([] : List S_Register), 0) = some ([] ++ l.filter (fun y => !(y.Via == via)), [] ++ (l.filter (fun y => y.Via == via)).map endR) from this]
    rfl
theorem eqb_R {a b : S_Register} (ha : wfP a.Target) (hb : wfP b.Target) : S_Register.eqb a b = true ↔ a = b := by
  unfold S_Register.eqb
  rw [eqb_P ha hb]
  obtain ⟨t, s, u⟩ := a
  obtain ⟨t', s', u'⟩ := b
  simp
theorem eqR_self {l : List S_Register} (hl : ∀ d ∈ l, wfP d.Target) (hlen : l.length ≤ 128) : F_slices_Equal_api_Register_api_Register l l = some true := by
  unfold F_slices_Equal_api_Register_api_Register
  rw [show ((l.length : Int) != (l.length : Int)) = false by simp]
  simp only [cond_false]
  have e := loop_run (step := F_slices_Equal_api_Register_api_Register_l1 l l) (S := fun k => (k : Int)) l.length (r := Sum.inl ()) (by
      intro k hk
      unfold F_slices_Equal_api_Register_api_Register_l1
      rw [decT (by omega), idx_lt hk, wk k (by omega)]
      simp only [cond_true, Option.bind_some]
      rw [(eqb_R (hl _ (List.getElem_mem hk)) (hl _ (List.getElem_mem hk))).2 rfl]
      rfl) (by
      unfold F_slices_Equal_api_Register_api_Register_l1
      rw [decF (by omega)]
      rfl)
  rw [show ((0 : Nat) : Int) = 0 from rfl] at e
  rw [e]
  rfl
theorem next_both {l : List S_Down} {now : Int} {dst : List Int} (hw : ∀ d ∈ l, wfD d) (hd : Bytes dst) : ∃ a, F_storing_Next l now dst = some a ∧ F_ref33_Next l now dst = some a := by
  cases hv : validB l with
  | false =>
    refine ⟨(0, 1), ?_, ?_⟩
    · unfold F_storing_Next; rw [st_valid hw, hv]; rfl
    · unfold F_ref33_Next; rw [rf_valid hw, hv]; rfl
  | true =>
    cases ht : isT now with
    | false =>
      refine ⟨(0, 2), ?_, ?_⟩
      · unfold F_storing_Next; rw [st_valid hw, hv, st_isTime, ht]; rfl
      · unfold F_ref33_Next; rw [rf_valid hw, hv, ref_isTime, ht]; rfl
    | true =>
      have hg : GoodD l := ⟨validB_iff.1 hv, hw⟩
      refine ⟨_, st_next hg ht hd, ?_⟩
      unfold F_ref33_Next
      rw [rf_valid hw, hv, ref_isTime, ht]
      simp only [Option.bind_some, cond_true]
      have hlen := hg.v.len
      have hf := loop_fold (step := F_ref33_Next_l1 l now dst) l (fun (s : Int × Int) k => (s.2, s.1, (k : Int))) (nextF now dst) (fun s => (s.2, s.1)) (fun _ _ => True) (by
        intro k hk s _
        refine ⟨?_, trivial⟩
        unfold F_ref33_Next_l1 F_ref33_Next_j2 nextF
        dsimp only
        rw [decT (by omega), idx_lt hk]
        simp only [cond_true, Option.bind_some]
        rw [ref_contains, wk k (by omega)]
        by_cases h1 : l[k].Until > now
        · rw [decT h1]
          by_cases h2 : l[k].Target.Bits > s.2
          · rw [decT h2]
            cases h3 : inP l[k].Target dst with
            | true => simp [h1, h2]
            | false => simp
          · rw [decF h2]; simp [h2]
        · rw [decF h1]; simp [h1]) (by
        intro s _
        unfold F_ref33_Next_l1
        rw [decF (by dsimp only; omega)]
        rfl) (0, -1) trivial
      have e : loopO (F_ref33_Next_l1 l now dst) ((-1), 0, 0) = some ((l.foldl (nextF now dst) (0, -1)).2, (l.foldl (nextF now dst) (0, -1)).1) := hf.1
      rw [e]
      unfold nextS
      simp only [Option.bind_some]
      by_cases h : (l.foldl (nextF now dst) (0, -1)).2 < 0
      · rw [decT h, if_pos h]; rfl
      · rw [decF h, if_neg h]; rfl
theorem expS_sub (l : List S_Down) (now : Int) : (expS l now).Sublist l := by
  unfold expS
  cases validB l with
  | false => exact List.nil_sublist _
  | true =>
    cases isT now with
    | false => exact List.nil_sublist _
    | true => exact List.filter_sublist
theorem reads_true {l : List S_Down} {now via : Int} {dst : List Int} (hw : ∀ d ∈ l, wfD d) (hd : Bytes dst) : F_law33_reads l now via dst = some true := by
  unfold F_law33_reads
  obtain ⟨a, e1, e2⟩ := next_both (now := now) hw hd
  rw [st_drop hw, rf_drop hw, e1, e2, st_valid hw, rf_valid hw, st_expire hw, rf_expire hw, st_export hw, rf_export hw]
  simp only [Option.bind_some, beq_self_eq_true, cond_true]
  have hexp := expS_sub l now
  have hw2 : ∀ d ∈ expS l now, wfD d := fun d h => hw d (hexp.subset h)
  have hex := expS_len (l := l) (now := now)
  have hd1 : (∀ d ∈ (dropS l via).1, wfD d) ∧ (dropS l via).1.length ≤ 128 ∧ (∀ d ∈ (dropS l via).2, wfP d.Target) ∧ (dropS l via).2.length ≤ 128 := by
    unfold dropS
    cases hv : validB l with
    | false => simp
    | true =>
      have hlen := (validB_iff.1 hv).len
      simp only [cond_true]
      refine ⟨fun d h => hw d (List.mem_filter.1 h).1, Nat.le_trans (List.length_filter_le _ _) hlen, ?_, by rw [List.length_map]; exact Nat.le_trans (List.length_filter_le _ _) hlen⟩
      intro d h
      obtain ⟨x, hx, rfl⟩ := List.mem_map.1 h
      exact (hw x (List.mem_filter.1 hx).1).1
  rw [eqD_self hd1.1 hd1.2.1, eqR_self hd1.2.2.1 hd1.2.2.2, eqD_self hw2 hex, eqR_self (l := (expS l now).map (exR now)) (fun d h => by
    obtain ⟨x, hx, rfl⟩ := List.mem_map.1 h
    exact (hw2 x hx).1) (by rw [List.length_map]; exact hex)]
  rfl
end Go.Proofs.Ytonlajdaaljncaa
