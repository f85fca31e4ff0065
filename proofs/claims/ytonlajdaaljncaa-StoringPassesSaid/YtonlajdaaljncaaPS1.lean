/-
  Lists of downward routes: validity, the place of a target.
-/
import Derived.Test.YtonlajdaaljncaaPA1
namespace Go.Proofs.Ytonlajdaaljncaa
open Go.RowKit

def isT (x : Int) : Bool := decide (0 ≤ x ∧ x ≤ 1099511627776)
theorem isT_iff {x : Int} : isT x = true ↔ 0 ≤ x ∧ x ≤ 1099511627776 := by simp [isT]
theorem st_isTime (x : Int) : F_storing_isTime x = some (isT x) := by
  unfold F_storing_isTime isT
  by_cases h : x ≥ 0
  · rw [decT h]; simp; omega
  · rw [decF h]; simp; omega
theorem ref_isTime (x : Int) : F_ref22_IsTime x = some (isT x) := by
  unfold F_ref22_IsTime isT
  by_cases h : x ≥ 0
  · rw [decT h]; simp; omega
  · rw [decF h]; simp; omega
def wfD (d : S_Down) : Prop := wfP d.Target ∧ 0 ≤ d.Sequence ∧ d.Sequence ≤ 255
def okD (d : S_Down) : Bool := vpB d.Target && (d.Via != 0) && isT d.Until
def ltD (a b : S_Down) : Prop := cmpP a.Target b.Target < 0
instance (a b : S_Down) : Decidable (ltD a b) := by unfold ltD; infer_instance
structure ValidD (l : List S_Down) : Prop where
  len : l.length ≤ 128
  ok : ∀ d ∈ l, okD d = true
  ord : l.Pairwise ltD
def okAt (l : List S_Down) (k : Nat) : Bool := match l[k]? with
  | some d => okD d && (match k with
    | 0 => true
    | j + 1 => match l[j]? with
      | some e => decide (ltD e d)
      | none => true)
  | none => true
def validB (l : List S_Down) : Bool := decide (l.length ≤ 128) && decide (∀ k, k < l.length → okAt l k = true)
theorem okAt_lt {l : List S_Down} {k : Nat} (h : k < l.length) : okAt l k = (okD l[k] && (if h0 : k = 0 then true else decide (ltD (l[k - 1]'(by omega)) l[k]))) := by
  unfold okAt
  rw [List.getElem?_eq_getElem h]
  rcases k with _ | k
  · rfl
  · simp only [List.getElem?_eq_getElem (show k < l.length by omega)]
    simp
theorem validB_iff {l : List S_Down} : validB l = true ↔ ValidD l := by
  unfold validB
  simp only [Bool.and_eq_true, decide_eq_true_eq]
  constructor
  · rintro ⟨h1, h2⟩
    have h3 : ∀ k (h : k < l.length), okD l[k] = true ∧ (∀ h0 : k ≠ 0, ltD (l[k - 1]'(by omega)) l[k]) := by
      intro k hk
      have := h2 k hk
      rw [okAt_lt hk] at this
      simp only [Bool.and_eq_true] at this
      refine ⟨this.1, fun h0 => ?_⟩
      have h4 := this.2
      rw [dif_neg h0] at h4
      exact of_decide_eq_true h4
    refine ⟨h1, fun d hd => ?_, ?_⟩
    · obtain ⟨i, hi, rfl⟩ := List.getElem_of_mem hd
      exact (h3 i hi).1
    · rw [List.pairwise_iff_getElem]
      intro i j hi hj hij
      have : ∀ m (hm : i + 1 + m < l.length), ltD l[i] l[i + 1 + m] := by
        intro m
        induction m with
        | zero => intro hm; exact (h3 (i + 1) hm).2 (by omega)
        | succ m ih =>
          intro hm
          have a := ih (by omega)
          have b := (h3 (i + 1 + (m + 1)) hm).2 (by omega)
          exact cmpP_trans a b
      have := this (j - (i + 1)) (by omega)
      have e : i + 1 + (j - (i + 1)) = j := by omega
      simpa [e] using this
  · rintro ⟨h1, h2, h3⟩
    refine ⟨h1, fun k hk => ?_⟩
    rw [okAt_lt hk, h2 _ (List.getElem_mem hk), Bool.true_and]
    split
    · rfl
    · rw [List.pairwise_iff_getElem] at h3
      exact decide_eq_true (h3 (k - 1) k (by omega) hk (by omega))
theorem st_valid {l : List S_Down} (h : ∀ d ∈ l, wfD d) : F_storing_Valid l = some (validB l) := by
  unfold F_storing_Valid validB
  by_cases h1 : (l.length : Int) > 128
  · rw [decT h1, decF (show ¬ l.length ≤ 128 by omega)]
    rfl
  · rw [decF h1, decT (show l.length ≤ 128 by omega)]
    simp only [cond_false, Bool.true_and]
    have e := loop_all (step := F_storing_Valid_l1 l) (S := fun k => (k : Int)) l.length (okAt l) (rt := Sum.inl ()) (rf := Sum.inr false) (by
        intro k hk hp
        rw [okAt_lt hk] at hp
        unfold F_storing_Valid_l1
        rw [decT (by omega), idx_lt hk]
        simp only [cond_true, Option.bind_some]
        rw [addr_vp (h _ (List.getElem_mem hk)).1, st_isTime]
        simp only [Option.bind_some, okD, Bool.and_eq_true] at hp ⊢
        obtain ⟨⟨⟨p1, p2⟩, p3⟩, p4⟩ := hp
        rw [p1, show (l[k].Via == 0) = false by simpa using p2, p3, wk k (by omega)]
        simp only [cond_true, cond_false]
        by_cases h0 : k = 0
        · subst h0; rfl
        · rw [dif_neg h0] at p4
          rw [decT (by omega), wi (by omega) (by omega), show (k : Int) - 1 = ((k - 1 : Nat) : Int) by omega, idx_lt (show k - 1 < l.length by omega)]
          simp only [cond_true, Option.bind_some]
          rw [st_compare (h _ (List.getElem_mem _)).1 (h _ (List.getElem_mem _)).1]
          have := of_decide_eq_true p4
          unfold ltD at this
          simp only [Option.bind_some]
          rw [decF (by omega)]
          rfl) (by
        intro k hk hp
        rw [okAt_lt hk] at hp
        unfold F_storing_Valid_l1
        rw [decT (by omega), idx_lt hk]
        simp only [cond_true, Option.bind_some]
        rw [addr_vp (h _ (List.getElem_mem hk)).1, st_isTime]
        simp only [Option.bind_some, okD] at hp ⊢
        cases p1 : vpB l[k].Target with
        | false => rfl
        | true =>
          rw [p1] at hp
          cases p2 : (l[k].Via == 0) with
          | true => rfl
          | false =>
            cases p3 : isT l[k].Until with
            | false => rfl
            | true =>
              have p2' : (l[k].Via != 0) = true := by simp [bne, p2]
              rw [p2', p3] at hp
              simp only [Bool.and_self, Bool.true_and] at hp
              simp only [cond_true, cond_false]
              by_cases h0 : k = 0
              · rw [dif_pos h0] at hp; cases hp
              · rw [dif_neg h0] at hp
                rw [decT (by omega), wi (by omega) (by omega), show (k : Int) - 1 = ((k - 1 : Nat) : Int) by omega, idx_lt (show k - 1 < l.length by omega)]
                simp only [cond_true, Option.bind_some]
                rw [st_compare (h _ (List.getElem_mem _)).1 (h _ (List.getElem_mem _)).1]
                have := of_decide_eq_false hp
                unfold ltD at this
                simp only [Option.bind_some]
                rw [decT (by omega)]
                rfl) (by
        unfold F_storing_Valid_l1
        rw [decF (by omega)]
        rfl)
    rw [show ((0 : Nat) : Int) = 0 from rfl] at e
    rw [e]
    simp only [Option.bind_some]
    by_cases hz : ∀ k, k < l.length → okAt l k = true
    · rw [if_pos hz, decT hz]; rfl
    · rw [if_neg hz, decF hz]; rfl
theorem rf_valid {l : List S_Down} (h : ∀ d ∈ l, wfD d) : F_ref33_Valid l = some (validB l) := by
  unfold F_ref33_Valid validB
  by_cases h1 : (l.length : Int) > 128
  · rw [decT h1, decF (show ¬ l.length ≤ 128 by omega)]
    rfl
  · rw [decF h1, decT (show l.length ≤ 128 by omega)]
    simp only [cond_false, Bool.true_and]
    have e := loop_all (step := F_ref33_Valid_l1 l) (S := fun k => (k : Int)) l.length (okAt l) (rt := Sum.inl ()) (rf := Sum.inr false) (by
        intro k hk hp
        rw [okAt_lt hk] at hp
        unfold F_ref33_Valid_l1
        rw [decT (by omega), idx_lt hk]
        simp only [cond_true, Option.bind_some]
        rw [ref_vp, ref_isTime]
        simp only [Option.bind_some, okD, Bool.and_eq_true] at hp ⊢
        obtain ⟨⟨⟨p1, p2⟩, p3⟩, p4⟩ := hp
        rw [p1, show (l[k].Via == 0) = false by simpa using p2, p3, wk k (by omega)]
        simp only [cond_true, cond_false]
        by_cases h0 : k = 0
        · subst h0; rfl
        · rw [dif_neg h0] at p4
          rw [decT (by omega), wi (by omega) (by omega), show (k : Int) - 1 = ((k - 1 : Nat) : Int) by omega, idx_lt (show k - 1 < l.length by omega)]
          simp only [cond_true, Option.bind_some]
          rw [ref_compare (h _ (List.getElem_mem _)).1 (h _ (List.getElem_mem _)).1]
          have := of_decide_eq_true p4
          unfold ltD at this
          simp only [Option.bind_some]
          rw [decF (by omega)]
          rfl) (by
        intro k hk hp
        rw [okAt_lt hk] at hp
        unfold F_ref33_Valid_l1
        rw [decT (by omega), idx_lt hk]
        simp only [cond_true, Option.bind_some]
        rw [ref_vp, ref_isTime]
        simp only [Option.bind_some, okD] at hp ⊢
        cases p1 : vpB l[k].Target with
        | false => rfl
        | true =>
          rw [p1] at hp
          cases p2 : (l[k].Via == 0) with
          | true => rfl
          | false =>
            cases p3 : isT l[k].Until with
            | false => rfl
            | true =>
              have p2' : (l[k].Via != 0) = true := by simp [bne, p2]
              rw [p2', p3] at hp
              simp only [Bool.and_self, Bool.true_and] at hp
              simp only [cond_true, cond_false]
              by_cases h0 : k = 0
              · rw [dif_pos h0] at hp; cases hp
              · rw [dif_neg h0] at hp
                rw [decT (by omega), wi (by omega) (by omega), show (k : Int) - 1 = ((k - 1 : Nat) : Int) by omega, idx_lt (show k - 1 < l.length by omega)]
                simp only [cond_true, Option.bind_some]
                rw [ref_compare (h _ (List.getElem_mem _)).1 (h _ (List.getElem_mem _)).1]
                have := of_decide_eq_false hp
                unfold ltD at this
                simp only [Option.bind_some]
                rw [decT (by omega)]
                rfl) (by
        unfold F_ref33_Valid_l1
        rw [decF (by omega)]
        rfl)
    rw [show ((0 : Nat) : Int) = 0 from rfl] at e
    rw [e]
    simp only [Option.bind_some]
    by_cases hz : ∀ k, k < l.length → okAt l k = true
    · rw [if_pos hz, decT hz]; rfl
    · rw [if_neg hz, decF hz]; rfl
/-- a list is parted by a target -/
theorem part_spec {l : List S_Down} (hv : ValidD l) (t : S_Prefix) : (∃ A x B, l = A ++ x :: B ∧ (∀ a ∈ A, cmpP a.Target t < 0) ∧ x.Target = t ∧ ∀ b ∈ B, cmpP b.Target t > 0) ∨ (∃ A B, l = A ++ B ∧ (∀ a ∈ A, cmpP a.Target t < 0) ∧ ∀ b ∈ B, cmpP b.Target t > 0) := by
  have h := hv.ord
  clear hv
  induction l with
  | nil => exact .inr ⟨[], [], rfl, by simp, by simp⟩
  | cons x l ih =>
    rw [List.pairwise_cons] at h
    have hbig : cmpP x.Target t ≥ 0 → ∀ b ∈ l, cmpP b.Target t > 0 := by
      intro hx b hb
      have h1 := h.1 b hb
      unfold ltD at h1
      by_cases h0 : cmpP x.Target t = 0
      · rw [cmpP_zero.1 h0] at h1
        have := cmpP_swap t b.Target
        omega
      · have h2 := cmpP_swap x.Target t
        have := cmpP_trans (show cmpP t x.Target < 0 by omega) h1
        have h3 := cmpP_swap t b.Target
        omega
    by_cases h0 : cmpP x.Target t = 0
    · exact .inl ⟨[], x, l, rfl, by simp, cmpP_zero.1 h0, hbig (by omega)⟩
    · by_cases h1 : cmpP x.Target t < 0
      · rcases ih h.2 with ⟨A, y, B, rfl, h2, h3, h4⟩ | ⟨A, B, rfl, h2, h3⟩
        · exact .inl ⟨x :: A, y, B, rfl, by simpa using ⟨h1, h2⟩, h3, h4⟩
        · exact .inr ⟨x :: A, B, rfl, by simpa using ⟨h1, h2⟩, h3⟩
      · exact .inr ⟨[], x :: l, rfl, by simp, by simpa using ⟨by omega, hbig (by omega)⟩⟩
end Go.Proofs.Ytonlajdaaljncaa
