/-
  The law ReportsMerge.
-/
import Derived.Test.YtcjoflgnifafiaaMR3
import Derived.Test.YtcjoflgnifafiaaOp
namespace Go.Proofs.Ytcjoflgnifafiaa
open Go.RowKit

theorem small_some {l : List DR} (hl : l.length ≤ 9223372036854775807) : ∃ b, F_law39_small l = some b := by
  unfold F_law39_small
  obtain ⟨r, hr, _⟩ := loop_inv (step := F_law39_small_l1 l) (fun s => 0 ≤ s.2 ∧ s.2 ≤ (l.length : Int)) (fun _ => True) (fun s => ((l.length : Int) - s.2).toNat) (by
    rintro ⟨n, i⟩ ⟨a0, a1⟩
    dsimp only at a0 a1
    unfold F_law39_small_l1
    dsimp only
    by_cases hi : i < (l.length : Int)
    · left
      rw [decT hi, idx_int a0 hi]
      simp only [cond_true, Option.bind_some]
      rw [wi (x := i + 1) (by omega) (by omega)]
      exact ⟨_, rfl, ⟨by dsimp only; omega, by dsimp only; omega⟩, by dsimp only; omega⟩
    · right
      rw [decF hi]
      exact ⟨_, rfl, trivial⟩) ((l.length : Int), 0) ⟨by dsimp only; omega, by dsimp only; omega⟩
  rw [hr]
  exact ⟨_, rfl⟩
theorem clone_R {l : List DR} (h : l.length ≤ 1000) : F_slices_Clone_api_Diagnostic_api_Diagnostic_R l = some l := by
  unfold F_slices_Clone_api_Diagnostic_api_Diagnostic_R
  simp only [Cut.app, List.length_nil, List.take_nil]
  rw [appO_some (by simp; omega) (by simp; omega)]
  rfl
theorem set_last {l : List DR} {x y : DR} : (l ++ [x]).set l.length y = l ++ [y] := by simp
theorem spoiled_spec {t : S_multihopmade_Tape} (h : TapeOk t) {l : List DR} (hl : MadeR l) : ∃ m t', F_law39_spoiled t l = some (m, t') ∧ wfL' m ∧ m.length ≤ 100 ∧ TapeOk t' := by
  unfold F_law39_spoiled F_law39_spoiled_j1
  have h5 := hl.len
  rw [clone_R (by omega), Option.bind_some]
  simp only [Cut.app, List.take_length]
  rw [appO_some (by simp; omega) (by simp; omega), Option.bind_some]
  have hlen : (l ++ [S_Diagnostic.mk 99 0 ([] : List Int)]).length = l.length + 1 := by simp
  have e1 : IntKind.wrap .i64 (((l ++ [S_Diagnostic.mk 99 0 ([] : List Int)]).length : Int) - 1) = (l.length : Int) := by rw [hlen, wi (by omega) (by omega)]; omega
  rw [e1, idx_lt (by omega), Option.bind_some, Int.toNat_natCast, Nat.zero_add]
  have eg : (l ++ [S_Diagnostic.mk 99 0 ([] : List Int)])[l.length]? = some (S_Diagnostic.mk 99 0 []) := by simp
  obtain ⟨v, t1, et, h0, h1, k1⟩ := next_spec h 4 (by omega) (by omega)
  have hw := hl.wf
  have mk : ∀ x : DR, 0 ≤ x.Node → okB x.Data → wfL' (l ++ [x]) := fun x h1 h2 => ⟨fun d hd => (List.mem_append.1 hd).elim (hw.node d) (fun q => by rw [List.mem_singleton.1 q]; exact h1), fun d hd => (List.mem_append.1 hd).elim (hw.data d) (fun q => by rw [List.mem_singleton.1 q]; exact h2)⟩
  rw [et, Option.bind_some]
  dsimp only
  rw [eg]
  simp only [Option.bind_some, set_last]
  by_cases c1 : v = 0
  · subst c1
    exact ⟨_, _, rfl, mk _ (by simp) okB_nil, by simp; omega, k1⟩
  rw [beqF c1]
  by_cases c2 : v = 1
  · subst c2
    exact ⟨_, _, rfl, mk _ (by simp) okB_nil, by simp; omega, k1⟩
  rw [beqF c2]
  by_cases c3 : v = 2
  · subst c3
    have em : mkO 1 65 65 = some 65 := rfl
    rw [em]
    refine ⟨_, _, rfl, mk _ (by simp) (fun z hz => ?_), by simp; omega, k1⟩
    have := (List.mem_replicate.1 hz).2
    omega
  rw [beqF c3]
  simp only [cond_false]
  rw [appO_some (by simp; omega) (by simp; omega)]
  have hm := mk (S_Diagnostic.mk 99 0 []) (by simp) okB_nil
  refine ⟨_, _, rfl, ⟨fun d hd => (List.mem_append.1 hd).elim (hm.node d) (fun q => by rw [List.mem_singleton.1 q]; simp), fun d hd => (List.mem_append.1 hd).elim (hm.data d) (fun q => by rw [List.mem_singleton.1 q]; exact okB_nil)⟩, by simp; omega, k1⟩
theorem valid_len {l : List DR} (h : validR l = true) : l.length ≤ 64 := (validR_iff.1 h).len
theorem mergeS_len (a b : List DR) : (mergeS a b).1.length ≤ 64 := by
  unfold mergeS
  split
  · simp
  · split
    · simp
    · dsimp only; omega
theorem reportS_len (l : List DR) (d : DR) : (reportS l d).1.length ≤ 64 := by
  unfold reportS
  split
  · simp
  · split
    · simp
    · split
      · simp
      · dsimp only; omega
theorem merge_law {p q : List DR} (hp : wfL' p) (hq : wfL' q) (lp : p.length ≤ 9223372036854775807) (lq : q.length ≤ 9223372036854775807) {d : DR} (dn : 0 ≤ d.Node) (od : okB d.Data) (t : List Int) : F_law39_ReportsMerge p q d t = some true := by
  unfold F_law39_ReportsMerge
  obtain ⟨b1, s1⟩ := small_some lp
  obtain ⟨b2, s2⟩ := small_some lq
  rw [s1, Option.bind_some, known_true]
  cases b1 with
  | false => rfl
  | true =>
  simp only [cond_true]
  rw [s2, Option.bind_some]
  cases b2 with
  | false => rfl
  | true =>
  simp only [cond_true]
  by_cases c1 : (d.Data.length : Int) > 200
  · rw [decT c1]; rfl
  rw [decF c1]
  simp only [cond_false]
  obtain ⟨t0, e0, k0⟩ := new_spec t
  obtain ⟨a, t1, e1, ha, k1⟩ := reports_spec k0
  obtain ⟨b, t2, e2, hb, k2⟩ := reports_spec k1
  obtain ⟨v, t3, e3, v0, v1, k3⟩ := eui_spec k2
  obtain ⟨m, t4, e4, m0, m1, k4⟩ := next_spec k3 4 (by omega) (by omega)
  obtain ⟨x, t5, e5, ox, hx, k5⟩ := bytes_spec k4 6 (by omega)
  rw [show ((6 : Nat) : Int) = 6 from rfl] at e5
  obtain ⟨sp, t6, e6, hsp, lsp, k6⟩ := spoiled_spec k5 ha
  rw [e0, Option.bind_some, e1, Option.bind_some]
  dsimp only
  rw [e2, Option.bind_some]
  dsimp only
  rw [e3, Option.bind_some]
  dsimp only
  rw [e4, Option.bind_some]
  dsimp only
  rw [e5, Option.bind_some]
  dsimp only
  rw [e6, Option.bind_some]
  have hloop : loopO (F_law39_ReportsMerge_l1 p q (a, t1) (b, t2) (sp, t6) d (v, t3) (m, t4) (x, t5)) 0 = some (.inl ()) := by
    generalize hL : ([p, q, a, b, sp] : List (List DR)) = L
    have hlen5 : L.length = 5 := by rw [← hL]; rfl
    have hw : ∀ y ∈ L, wfL' y := by
      intro y hy
      rw [← hL] at hy
      simp only [List.mem_cons, List.not_mem_nil, or_false] at hy
      rcases hy with rfl | rfl | rfl | rfl | rfl
      · exact hp
      · exact hq
      · exact ha.wf
      · exact hb.wf
      · exact hsp
    refine loop_run (step := F_law39_ReportsMerge_l1 p q (a, t1) (b, t2) (sp, t6) d (v, t3) (m, t4) (x, t5)) (S := fun j => ((j : Nat) : Int)) L.length (fun j hj => ?_) ?_
    · unfold F_law39_ReportsMerge_l1
      rw [hL, decT (show (j : Int) < (L.length : Int) by omega), idx_lt hj, wk j (by omega)]
      simp only [cond_true, Option.bind_some]
      have hE := hw _ (List.getElem_mem hj)
      generalize L[j] = E at hE ⊢
      have hin : loopO (F_law39_ReportsMerge_l2 p q (a, t1) (b, t2) (sp, t6) E) 0 = some (.inl ()) := by
        refine loop_run (step := F_law39_ReportsMerge_l2 p q (a, t1) (b, t2) (sp, t6) E) (S := fun i => ((i : Nat) : Int)) L.length (fun i hi => ?_) ?_
        · unfold F_law39_ReportsMerge_l2
          rw [hL, decT (show (i : Int) < (L.length : Int) by omega), idx_lt hi, wk i (by omega)]
          simp only [cond_true, Option.bind_some]
          have hF := hw _ (List.getElem_mem hi)
          generalize L[i] = F at hF ⊢
          rw [prog_merge hE hF, ref_merge hE hF]
          simp only [Option.bind_some, bne_self_eq_false, cond_false]
          obtain ⟨ok1, ok2⟩ := mergeS_ok hE hF
          rw [same_reports _ (by have := mergeS_len E F; omega), Option.bind_some]
          by_cases c : (mergeS E F).2 = 0
          · rw [c, prog_validR ok1.r, ok2 c]; rfl
          · rw [beqF c]; rfl
        · unfold F_law39_ReportsMerge_l2
          rw [hL, decF (by omega)]
          rfl
      have hin2 : loopO (F_law39_ReportsMerge_l3 d (v, t3) (m, t4) (x, t5) E) 0 = some (.inl ()) := by
        generalize hM : ([d, (S_Diagnostic.mk v m x)] : List DR) = M
        have hlen2 : M.length = 2 := by rw [← hM]; rfl
        have hwM : ∀ y ∈ M, 0 ≤ y.Node ∧ okB y.Data := by
          intro y hy
          rw [← hM] at hy
          simp only [List.mem_cons, List.not_mem_nil, or_false] at hy
          rcases hy with rfl | rfl
          · exact ⟨dn, od⟩
          · exact ⟨by dsimp only; omega, ox⟩
        refine loop_run (step := F_law39_ReportsMerge_l3 d (v, t3) (m, t4) (x, t5) E) (S := fun i => ((i : Nat) : Int)) M.length (fun i hi => ?_) ?_
        · unfold F_law39_ReportsMerge_l3
          dsimp only
          rw [hM, decT (show (i : Int) < (M.length : Int) by omega), idx_lt hi, wk i (by omega)]
          simp only [cond_true, Option.bind_some]
          have hF := hwM _ (List.getElem_mem hi)
          generalize M[i] = F at hF ⊢
          rw [prog_report hE hF.2, ref_report hE hF.1 hF.2]
          simp only [Option.bind_some, bne_self_eq_false, cond_false]
          rw [same_reports _ (by have := reportS_len E F; omega)]
          rfl
        · unfold F_law39_ReportsMerge_l3
          dsimp only
          rw [hM, decF (by omega)]
          rfl
      rw [hin]
      simp only [Option.bind_some, Sum.elim_inl]
      rw [hin2]
      simp only [Option.bind_some, Sum.elim_inl]
      rw [prog_validR hE.r, ref_validR]
      simp
    · unfold F_law39_ReportsMerge_l1
      rw [hL, decF (by omega)]
      rfl
  rw [hloop]
  rfl
theorem wfL'_of {l : List DR} (h : wfL S_Diagnostic.wf l) : wfL' l := ⟨fun d hd => by
  have := (h.2 d hd).1
  simp [wfI, Lit.wf, IntKind.min, IntKind.max, IntKind.bits, IntKind.signed] at this
  omega, fun d hd => okB_wf (h.2 d hd).2.2.2⟩
end Go.Proofs.Ytcjoflgnifafiaa
