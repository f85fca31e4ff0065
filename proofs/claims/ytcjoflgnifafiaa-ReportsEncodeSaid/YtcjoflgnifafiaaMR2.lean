/-
  Merge, Report: the program's and the reference's are one; lists that are alike.
-/
import Derived.Test.YtcjoflgnifafiaaMR1
namespace Go.Proofs.Ytcjoflgnifafiaa
open Go.RowKit

theorem drop_get {α : Type} {l : List α} {i : Nat} (h : i < l.length) : l.drop i = l[i] :: l.drop (i + 1) := List.drop_eq_getElem_cons h
theorem ref_union {a b : List DR} (ha : smallR a) (hb : smallR b) : loopO (F_ref39_Merge_l1 a b) (([] : List DR), 0, 0) = some (unionS a b) := by
  have hla := ha.len
  have hlb := hb.len
  obtain ⟨r, hr, q⟩ := loop_inv (step := F_ref39_Merge_l1 a b) (fun s => ∃ i k : Nat, s.2.1 = i ∧ s.2.2 = k ∧ i ≤ a.length ∧ k ≤ b.length ∧ s.1 ++ unionS (a.drop i) (b.drop k) = unionS a b ∧ s.1.length ≤ i + k) (fun r => r = unionS a b) (fun s => (a.length - s.2.1).toNat + (b.length - s.2.2).toNat) (by
    rintro ⟨out, i', k'⟩ ⟨i, k, rfl, rfl, hi, hk, h1, h2⟩
    dsimp only at h1 h2
    unfold F_ref39_Merge_l1 F_ref39_Merge_j2 F_ref39_Merge_j3
    dsimp only
    have hlen : out.length ≤ 1000 := by omega
    rcases Nat.lt_or_ge i a.length with ci | ci
    · have hx := ha.data _ (List.getElem_mem ci)
      rw [drop_get ci] at h1
      rw [decT (show (i : Int) < (a.length : Int) by omega), idx_lt ci]
      have e0 : ((i : Int) == (a.length : Int)) = false := beqF (by omega)
      simp only [cond_true, Option.bind_some, e0]
      rcases Nat.lt_or_ge k b.length with ck | ck
      · have hy := hb.data _ (List.getElem_mem ck)
        rw [drop_get ck] at h1
        have e1 : ((k : Int) == (b.length : Int)) = false := beqF (by omega)
        rw [idx_lt ck]
        simp only [cond_false, Option.bind_some, e1]
        left
        by_cases c1 : a[i].Node < b[k].Node
        · rw [decT c1]
          rw [unionS, if_pos c1, ← drop_get ck] at h1
          refine ⟨(out ++ [a[i]], ((i + 1 : Nat) : Int), (k : Int)), ?_, ⟨i + 1, k, rfl, rfl, by omega, by omega, by simpa using h1, by simp; omega⟩, by dsimp only; omega⟩
          simp only [cond_true]
          rw [copy_spec hx.2, Option.bind_some, app1 hlen, Option.bind_some, wk i (by omega)]
        · rw [decF c1]
          by_cases c2 : b[k].Node < a[i].Node
          · rw [decT c2]
            rw [unionS, if_neg c1, if_pos c2, ← drop_get ci] at h1
            refine ⟨(out ++ [b[k]], (i : Int), ((k + 1 : Nat) : Int)), ?_, ⟨i, k + 1, rfl, rfl, by omega, by omega, by simpa using h1, by simp; omega⟩, by dsimp only; omega⟩
            simp only [cond_true, cond_false]
            rw [copy_spec hy.2, Option.bind_some, app1 hlen, Option.bind_some, wk k (by omega)]
          · rw [decF c2]
            rw [unionS, if_neg c1, if_neg c2] at h1
            refine ⟨(out ++ [if betterB b[k] a[i] then b[k] else a[i]], ((i + 1 : Nat) : Int), ((k + 1 : Nat) : Int)), ?_, ⟨i + 1, k + 1, rfl, rfl, by omega, by omega, by simpa using h1, by simp; omega⟩, by dsimp only; omega⟩
            simp only [cond_false]
            rw [ref_better hy.1 hx.1, Option.bind_some, wk i (by omega), wk k (by omega)]
            cases betterB b[k] a[i] with
            | true =>
              simp only [cond_true, if_true]
              rw [copy_spec hy.2, Option.bind_some, app1 hlen]
              rfl
            | false =>
              simp only [cond_false, Bool.false_eq_true, if_false]
              rw [copy_spec hx.2, Option.bind_some, app1 hlen]
              rfl
      · obtain rfl : k = b.length := by omega
        left
        rw [List.drop_length, unionS_nil] at h1
        refine ⟨(out ++ [a[i]], ((i + 1 : Nat) : Int), (b.length : Int)), ?_, ⟨i + 1, b.length, rfl, rfl, by omega, by omega, by rw [List.drop_length, unionS_nil]; simpa using h1, by simp; omega⟩, by dsimp only; omega⟩
        simp only [beq_self_eq_true, cond_true]
        rw [copy_spec hx.2, Option.bind_some, app1 hlen, Option.bind_some, wk i (by omega)]
    · obtain rfl : i = a.length := by omega
      rw [List.drop_length, nil_unionS] at h1
      rw [decF (show ¬ (a.length : Int) < (a.length : Int) by omega)]
      simp only [cond_false]
      rcases Nat.lt_or_ge k b.length with ck | ck
      · have hy := hb.data _ (List.getElem_mem ck)
        left
        rw [drop_get ck] at h1
        have e1 : ((k : Int) == (b.length : Int)) = false := beqF (by omega)
        refine ⟨(out ++ [b[k]], (a.length : Int), ((k + 1 : Nat) : Int)), ?_, ⟨a.length, k + 1, rfl, rfl, by omega, by omega, by rw [List.drop_length, nil_unionS]; simpa using h1, by simp; omega⟩, by dsimp only; omega⟩
        rw [decT (show (k : Int) < (b.length : Int) by omega), idx_lt ck, e1]
        simp only [cond_true, cond_false, beq_self_eq_true, Option.bind_some]
        rw [copy_spec hy.2, Option.bind_some, app1 hlen, Option.bind_some, wk k (by omega)]
      · right
        obtain rfl : k = b.length := by omega
        rw [List.drop_length, List.append_nil] at h1
        rw [decF (show ¬ (b.length : Int) < (b.length : Int) by omega)]
        exact ⟨out, rfl, h1⟩) (([] : List DR), 0, 0) ⟨0, 0, rfl, rfl, by omega, by omega, by simp, by simp⟩
  rw [hr, q]
structure wfL' (l : List DR) : Prop where
  node : ∀ d ∈ l, 0 ≤ d.Node
  data : ∀ d ∈ l, okB d.Data
theorem wfL'.r {l : List DR} (h : wfL' l) : ∀ d ∈ l, wfR d := fun d hd => ⟨h.node d hd, h.data d hd⟩
theorem small_of {l : List DR} (h : wfL' l) (hv : validR l = true) : smallR l := by
  have hv := validR_iff.1 hv
  exact ⟨hv.len, fun d hd => ⟨h.data d hd, (hv.ok d hd).len⟩⟩
def mergeS (a b : List DR) : List DR × Int := if validR a = false ∨ validR b = false then ([], 1) else if (unionS a b).length > 64 then ([], 10) else (unionS a b, 0)
theorem prog_merge {a b : List DR} (ha : wfL' a) (hb : wfL' b) : F_management_Merge a b = some (mergeS a b) := by
  unfold F_management_Merge F_management_Merge_j1 mergeS
  rw [prog_validR ha.r, prog_validR hb.r]
  simp only [Option.bind_some]
  cases hva : validR a with
  | false => simp
  | true =>
    cases hvb : validR b with
    | false => simp
    | true =>
      simp only [cond_true, Bool.true_eq_false, or_self, if_false]
      rw [prog_union (small_of ha hva) (small_of hb hvb), Option.bind_some]
      by_cases c : (unionS a b).length > 64
      · rw [decT (show ((unionS a b).length : Int) > 64 by omega), if_pos c]; rfl
      · rw [decF (show ¬ ((unionS a b).length : Int) > 64 by omega), if_neg c]; rfl
theorem ref_merge {a b : List DR} (ha : wfL' a) (hb : wfL' b) : F_ref39_Merge a b = some (mergeS a b) := by
  unfold F_ref39_Merge mergeS
  rw [ref_validR, ref_validR]
  simp only [Option.bind_some]
  cases hva : validR a with
  | false => simp
  | true =>
    cases hvb : validR b with
    | false => simp
    | true =>
      simp only [cond_true, Bool.true_eq_false, or_self, if_false]
      rw [ref_union (small_of ha hva) (small_of hb hvb), Option.bind_some]
      by_cases c : (unionS a b).length > 64
      · rw [decT (show ((unionS a b).length : Int) > 64 by omega), if_pos c]; rfl
      · rw [decF (show ¬ ((unionS a b).length : Int) > 64 by omega), if_neg c]; rfl
theorem mergeS_ok {a b : List DR} (ha : wfL' a) (hb : wfL' b) : wfL' (mergeS a b).1 ∧ ((mergeS a b).2 = 0 → validR (mergeS a b).1 = true) := by
  unfold mergeS
  split
  · exact ⟨⟨by simp, by simp⟩, by simp⟩
  · rename_i h
    simp only [not_or, Bool.not_eq_false] at h
    split
    · exact ⟨⟨by simp, by simp⟩, by simp⟩
    · rename_i h2
      have va := validR_iff.1 h.1
      have vb := validR_iff.1 h.2
      have hm := unionS_mem a b
      refine ⟨⟨fun d hd => (hm d hd).elim (ha.node d) (hb.node d), fun d hd => (hm d hd).elim (ha.data d) (hb.data d)⟩, fun _ => validR_iff.2 ⟨by dsimp only; omega, fun d hd => (hm d hd).elim (va.ok d) (vb.ok d), unionS_ord a b va.ord vb.ord⟩⟩
def okDB (d : DR) : Bool := (d.Node != 0) && decide (d.Data.length ≤ 64)
def reportS (l : List DR) (d : DR) : List DR × Int := if validR l = false ∨ okDB d = false then ([], 1) else if d.Number < 0 ∨ d.Number > 1073741824 then ([], 2) else if (unionS l [d]).length > 64 then ([], 10) else (unionS l [d], 0)
theorem single_valid {d : DR} (h : okDB d = true) (h1 : ¬ (d.Number < 0 ∨ d.Number > 1073741824)) : validR [d] = true := by
  simp only [okDB, Bool.and_eq_true, bne_iff_ne, decide_eq_true_eq] at h
  exact validR_iff.2 ⟨by simp, fun e he => by rw [List.mem_singleton.1 he]; exact ⟨h.1, h.2, by omega, by omega⟩, by simp⟩
theorem prog_report {l : List DR} {d : DR} (hl : wfL' l) (hd : okB d.Data) : F_management_Report l d = some (reportS l d) := by
  unfold F_management_Report F_management_Report_j1 F_management_validNumber reportS okDB
  rw [prog_validR hl.r, Option.bind_some]
  cases hv : validR l with
  | false => simp
  | true =>
    simp only [cond_true]
    by_cases c1 : d.Node = 0
    · simp [c1]
    by_cases c2 : d.Data.length > 64
    · simp [c1, show (d.Data.length : Int) > 64 by omega, c2]
    have hs : smallR [d] := ⟨by simp, fun e he => by rw [List.mem_singleton.1 he]; exact ⟨hd, by omega⟩⟩
    rw [prog_union (small_of hl hv) hs]
    rw [beqF c1, decF (show ¬ (d.Data.length : Int) > 64 by omega)]
    grind
theorem ref_report {l : List DR} {d : DR} (hl : wfL' l) (hn : 0 ≤ d.Node) (hd : okB d.Data) : F_ref39_Report l d = some (reportS l d) := by
  unfold F_ref39_Report F_ref39_validReport reportS
  rw [ref_validR, Option.bind_some]
  cases hv : validR l with
  | false => simp
  | true =>
    simp only [cond_true]
    have hw : wfL' [d] := ⟨fun e he => by rw [List.mem_singleton.1 he]; exact hn, fun e he => by rw [List.mem_singleton.1 he]; exact hd⟩
    rw [ref_merge hl hw]
    cases ho : okDB d with
    | false =>
      unfold okDB at ho
      grind
    | true =>
      by_cases c : d.Number < 0 ∨ d.Number > 1073741824
      · unfold okDB at ho
        grind
      · unfold mergeS
        rw [hv, single_valid ho c]
        unfold okDB at ho
        grind
theorem reportS_ok {l : List DR} {d : DR} (hl : wfL' l) (hn : 0 ≤ d.Node) (hd : okB d.Data) : wfL' (reportS l d).1 := by
  have hm := unionS_mem l [d]
  unfold reportS
  split
  · exact ⟨by simp, by simp⟩
  · split
    · exact ⟨by simp, by simp⟩
    · split
      · exact ⟨by simp, by simp⟩
      · refine ⟨fun e he => (hm e he).elim (hl.node e) (fun q => ?_), fun e he => (hm e he).elim (hl.data e) (fun q => ?_)⟩
        · rw [List.mem_singleton.1 q]; exact hn
        · rw [List.mem_singleton.1 q]; exact hd
theorem same_report (d : DR) : F_world_sameReport d d = some true := by
  unfold F_world_sameReport F_bytes_Equal
  simp
theorem same_reports (l : List DR) (hl : l.length ≤ 1000000) : F_world_SameReports l l = some true := by
  unfold F_world_SameReports F_slices_EqualFunc_api_Diagnostic_api_Diagnostic_api_Diagnostic_api_Diagnostic_F572
  have hl' := loop_run (step := F_slices_EqualFunc_api_Diagnostic_api_Diagnostic_api_Diagnostic_api_Diagnostic_F572_l1 l l) (S := fun k => (k : Int)) l.length (r := .inl ()) (fun k hk => by
    unfold F_slices_EqualFunc_api_Diagnostic_api_Diagnostic_api_Diagnostic_api_Diagnostic_F572_l1
    rw [decT (show (k : Int) < (l.length : Int) by omega), idx_lt hk, wk k (by omega)]
    simp only [cond_true, Option.bind_some]
    rw [same_report]
    rfl) (by
    unfold F_slices_EqualFunc_api_Diagnostic_api_Diagnostic_api_Diagnostic_api_Diagnostic_F572_l1
    rw [decF (by omega)]
    rfl)
  simp only [Int.natCast_zero] at hl'
  simp only [bne_self_eq_false, cond_false]
  rw [hl']
  rfl
end Go.Proofs.Ytcjoflgnifafiaa
