/-
  The spoiled lists of the storing laws.
-/
import Derived.Test.YtonlajdaaljncaaPW
import Derived.Test.YtonlajdaaljncaaVLaw
namespace Go.Proofs.Ytonlajdaaljncaa
open Go.RowKit

theorem set_wf {l : List S_Down} (h : ∀ d ∈ l, wfD d) (i : Nat) {x : S_Down} (hx : wfD x) : ∀ d ∈ l.set i x, wfD d := by
  intro d hd
  rcases List.mem_or_eq_of_mem_set hd with h1 | rfl
  · exact h d h1
  · exact hx
theorem rev_spec {l : List S_Down} (hw : ∀ d ∈ l, wfD d) (hl : l.length ≤ 200) (h1 : 1 ≤ l.length) : ∃ m, loopO F_law33_spoiled_l2 (0, (l.length : Int) - 1, l) = some m ∧ ∀ d ∈ m, wfD d := by
  refine loop_inv (step := F_law33_spoiled_l2) (fun s => 0 ≤ s.1 ∧ s.1 ≤ l.length ∧ -1 ≤ s.2.1 ∧ s.2.1 < l.length ∧ s.2.2.length = l.length ∧ ∀ d ∈ s.2.2, wfD d) (fun m => ∀ d ∈ m, wfD d) (fun s => (s.2.1 - s.1 + 1).toNat) ?_ _ ⟨by simp, by simp, by dsimp only; omega, by dsimp only; omega, rfl, hw⟩
  rintro ⟨i, j, m⟩ ⟨i0, i1, j0, j1, hm, hwm⟩
  dsimp only at i0 i1 j0 j1 hm hwm
  unfold F_law33_spoiled_l2
  dsimp only
  by_cases hij : i < j
  · left
    have hi : i.toNat < m.length := by omega
    have hj : j.toNat < m.length := by omega
    rw [decT hij, wi (x := i + 1) (by omega) (by omega), wi (x := j - 1) (by omega) (by omega)]
    simp only [cond_true, Cut.app, Nat.zero_add]
    rw [idx_int (l := m) (i := j) (by omega) (by omega), idx_int (l := m) (i := i) (by omega) (by omega), List.getElem?_eq_getElem hj, List.getElem?_eq_getElem hi]
    simp only [Option.bind_some]
    rw [idx_int (i := j) (by omega) (by rw [List.length_set]; omega), List.getElem?_eq_getElem (show j.toNat < (m.set i.toNat m[j.toNat]).length by rw [List.length_set]; omega)]
    refine ⟨_, rfl, ⟨by dsimp only; omega, by dsimp only; omega, by dsimp only; omega, by dsimp only; omega, by simp [hm], ?_⟩, by dsimp only; omega⟩
    exact set_wf (set_wf hwm _ (hwm _ (List.getElem_mem _))) _ (hwm _ (List.getElem_mem _))
  · right
    rw [decF hij]
    exact ⟨_, rfl, hwm⟩
theorem spoiled_spec {l : List S_Down} (hg : GoodD l) {t : S_multihopmade_Tape} (h : TapeOk t) : ∃ m t', F_law33_spoiled t l = some (m, t') ∧ (∀ d ∈ m, wfD d) ∧ TapeOk t' := by
  unfold F_law33_spoiled F_slices_Clone_api_Down_api_Down_R F_law33_spoiled_j1
  have hlen := hg.v.len
  have e0 : appO 48 (List.take (List.length ([] : List S_Down)) ([] : List S_Down)) (Cut.app .whole l) = some l := by
    rw [appO_some (by simp [Cut.app]; omega) (by simp [Cut.app]; omega)]
    rfl
  rw [e0]
  simp only [Option.bind_some]
  generalize hz : (S_Down.mk (S_Prefix.mk [255, 0, 0, 0, 0, 0, 0, 0, 0, 0, 0, 0, 0, 0, 0, 0] 8) 3 0 0) = z
  have hzw : wfD z := by
    rw [← hz]
    refine ⟨⟨rfl, ?_⟩, by decide, by decide⟩
    intro y hy
    simp only [List.mem_cons, List.not_mem_nil, or_false] at hy
    omega
  have e1 : appO 48 (List.take (List.length l) l) (Cut.app .whole [z]) = some (l ++ [z]) := by
    rw [List.take_of_length_le (Nat.le_refl _), appO_some (by simp [Cut.app]; omega) (by simp [Cut.app]; omega)]
    rfl
  rw [e1]
  simp only [Option.bind_some]
  have hw : ∀ d ∈ l ++ [z], wfD d := by
    intro d hd
    rcases List.mem_append.1 hd with h1 | h1
    · exact hg.w d h1
    · rw [List.mem_singleton.1 h1]; exact hzw
  have hL : (l ++ [z]).length = l.length + 1 := by simp
  generalize l ++ [z] = L at *
  obtain ⟨v1, t1, f1, a1, b1, k1⟩ := next_spec h (L.length : Int) (by omega) (by omega)
  obtain ⟨v2, t2, f2, a2, b2, k2⟩ := next_spec k1 4 (by omega) (by omega)
  have hv : v1.toNat < L.length := by omega
  simp only [f1, Option.bind_some, f2, Cut.app, Nat.zero_add]
  rw [idx_int a1 b1, List.getElem?_eq_getElem hv]
  simp only [Option.bind_some]
  have hx := hw _ (List.getElem_mem hv)
  generalize L[v1.toNat] = x at *
  cases (v2 == 0) with
  | true => exact ⟨_, t2, rfl, set_wf hw _ hx, k2⟩
  | false =>
    cases (v2 == 1) with
    | true => exact ⟨_, t2, rfl, set_wf hw _ hx, k2⟩
    | false =>
      cases (v2 == 2) with
      | true => exact ⟨_, t2, rfl, set_wf hw _ hx, k2⟩
      | false =>
        simp only [cond_false]
        rw [wi (by omega) (by omega)]
        obtain ⟨m, em, hm⟩ := rev_spec hw (by omega) (by omega)
        rw [em]
        exact ⟨_, t2, rfl, hm, k2⟩
theorem wf_down {d : S_Down} (h : wfA .u8 16 d.Target.IP) (hs : wfI .u8 d.Sequence) : wfD d := by
  refine ⟨⟨h.1, wfA_bytes h⟩, ?_⟩
  have : (Lit.int .u8 d.Sequence).wf = true := hs
  simpa [Lit.wf, IntKind.min, IntKind.max, IntKind.signed, IntKind.bits] using this
theorem wf_reg {d : S_Register} (h : wfA .u8 16 d.Target.IP) (hs : wfI .u8 d.Sequence) : wfR d := by
  refine ⟨⟨h.1, wfA_bytes h⟩, ?_⟩
  have : (Lit.int .u8 d.Sequence).wf = true := hs
  simpa [Lit.wf, IntKind.min, IntKind.max, IntKind.signed, IntKind.bits] using this
end Go.Proofs.Ytonlajdaaljncaa
