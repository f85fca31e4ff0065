/-
  Prefixes: what the program's and the document's functions compute.
-/
import Derived.Test.YtonlajdaaljncaaPT
import Derived.Test.YtonlajdaaljncaaPA0
namespace Go.Proofs.Ytonlajdaaljncaa
open Go.RowKit

instance : DecidableEq S_Prefix := fun p q => decidable_of_iff (p.IP = q.IP ∧ p.Bits = q.Bits) (by obtain ⟨i, b⟩ := p; obtain ⟨j, c⟩ := q; simp)
def wfP (p : S_Prefix) : Prop := p.IP.length = 16 ∧ Bytes p.IP
instance (l : List Int) (b : Nat) : Decidable (zeroFrom l b) := by unfold zeroFrom; infer_instance
def vpB (p : S_Prefix) : Bool := decide (0 ≤ p.Bits ∧ p.Bits ≤ 128 ∧ zeroFrom p.IP p.Bits.toNat)
theorem vpB_iff {p : S_Prefix} : vpB p = true ↔ 0 ≤ p.Bits ∧ p.Bits ≤ 128 ∧ zeroFrom p.IP p.Bits.toNat := by simp [vpB]

theorem quo8 (k : Nat) (h : k < 128) : iquo .i64 (k : Int) 8 = ((k / 8 : Nat) : Int) := by
  unfold iquo
  rw [show (k : Int).tdiv 8 = ((k / 8 : Nat) : Int) from rfl, wi (by omega) (by omega)]
theorem sh7 (k : Nat) : IntKind.wrap .u64 (7 - IntKind.wrap .u64 (Int.tmod (k : Int) 8)) = 7 - ((k % 8 : Nat) : Int) := by
  rw [show Int.tmod (k : Int) 8 = ((k % 8 : Nat) : Int) from rfl, wu (x := ((k % 8 : Nat) : Int)) (by omega) (by omega), wu (by omega) (by omega)]
theorem bit_eq (l : List Int) {k : Nat} (h : k < 128) : F_ref04_bit l (k : Int) = some (bitA l k) := by
  unfold F_ref04_bit
  rw [quo8 k h, sh7 k, decT (by omega), decT (by omega)]
  rfl
theorem ref_vp {p : S_Prefix} : F_ref04_ValidPrefix p = some (vpB p) := by
  unfold F_ref04_ValidPrefix
  by_cases h1 : p.Bits < 0
  · rw [decT h1]
    simp [vpB]
    omega
  · rw [decF h1]
    by_cases h2 : p.Bits > 128
    · rw [decT h2]
      simp [vpB]
      omega
    · rw [decF h2]
      simp only [cond_false]
      obtain ⟨b, hb⟩ : ∃ b : Nat, p.Bits = (b : Int) := ⟨p.Bits.toNat, by omega⟩
      have hb128 : b ≤ 128 := by omega
      have e := loop_all (step := F_ref04_ValidPrefix_l1 p) (S := fun k => ((b + k : Nat) : Int)) (128 - b) (fun k => decide (bitA p.IP (b + k) = 0)) (rt := Sum.inl ()) (rf := Sum.inr false) (by
          intro k hk hp
          unfold F_ref04_ValidPrefix_l1
          rw [decT (by omega), bit_eq _ (by omega)]
          simp only [cond_true, Option.bind_some]
          have hp' := of_decide_eq_true hp
          rw [hp', wk _ (by omega)]
          rfl) (by
          intro k hk hp
          unfold F_ref04_ValidPrefix_l1
          rw [decT (by omega), bit_eq _ (by omega)]
          simp only [cond_true, Option.bind_some]
          have hp' := of_decide_eq_false hp
          rw [show (bitA p.IP (b + k) != 0) = true by simpa using hp']
          rfl) (by
          unfold F_ref04_ValidPrefix_l1
          rw [decF (by omega)]
          rfl)
      rw [Nat.add_zero] at e
      rw [hb, e]
      simp only [Option.bind_some]
      unfold vpB
      by_cases hz : zeroFrom p.IP b
      · rw [if_pos (by
          intro k hk
          exact decide_eq_true (hz (b + k) (by omega) (by omega)))]
        simp only [Sum.elim_inl]
        congr 1
        symm
        rw [decide_eq_true_iff, hb]
        exact ⟨by omega, by omega, by simpa using hz⟩
      · rw [if_neg (by
          intro hk
          apply hz
          intro k hk2 hbk
          have := hk (k - b) (by omega)
          rw [show b + (k - b) = k by omega] at this
          exact of_decide_eq_true this)]
        simp only [Sum.elim_inr]
        congr 1
        symm
        rw [decide_eq_false_iff_not, hb]
        rintro ⟨_, _, h3⟩
        exact hz (by simpa using h3)
theorem addr_mask (l : List Int) {b : Int} (h0 : 0 ≤ b) (h1 : b ≤ 128) : F_address_Mask l b = some ⟨maskL l b.toNat, b⟩ := by
  unfold F_address_Mask
  obtain ⟨n, rfl⟩ : ∃ n : Nat, b = (n : Int) := ⟨b.toNat, by omega⟩
  rw [if_neg (show ¬ ((n : Int) < 0) by omega), if_neg (show ¬ ((128 : Int) < (n : Int)) by omega)]
  have e := loop_run (step := F_address_Mask_l1 l) (S := fun k => ((k : Int), S_Prefix.mk ((List.range 16).map fun i => if i < k then maskB (l.getD i 0) (clamp n i) else 0) (n : Int))) 16 (r := ⟨maskL l n, n⟩) (by
    intro k hk
    unfold F_address_Mask_l1
    dsimp only
    have hcl : (if (8 : Int) < if IntKind.wrap .i64 ((n : Int) - IntKind.wrap .i64 (8 * (k : Int))) < 0 then 0 else IntKind.wrap .i64 ((n : Int) - IntKind.wrap .i64 (8 * (k : Int))) then 8 else if IntKind.wrap .i64 ((n : Int) - IntKind.wrap .i64 (8 * (k : Int))) < 0 then 0 else IntKind.wrap .i64 ((n : Int) - IntKind.wrap .i64 (8 * (k : Int)))) = ((clamp n k : Nat) : Int) := by
      rw [wi (x := 8 * (k : Int)) (by omega) (by omega), wi (x := (n : Int) - 8 * (k : Int)) (by omega) (by omega)]
      unfold clamp
      split <;> split at * <;> omega
    rw [hcl, decT (show (k : Int) < 16 by omega), decT (show (0 : Int) ≤ (k : Int) ∧ (k : Int) < 16 by omega), decT (show (0 : Int) ≤ ((clamp n k : Nat) : Int) by omega), wk k (by omega)]
    simp only [cond_true, Int.toNat_natCast]
    congr 3
    congr 1
    apply List.ext_getElem?
    intro i
    unfold setA
    rw [List.getElem?_map, List.getElem?_map]
    rcases Nat.lt_or_ge i 16 with hi | hi
    · rw [List.getElem?_range hi]
      simp only [Option.map_some]
      congr 1
      by_cases hik : i = k
      · subst hik
        rw [if_pos rfl, if_pos (by omega)]
        rfl
      · rw [if_neg hik]
        simp only [List.getD_eq_getElem?_getD, List.getElem?_map, List.getElem?_range hi, Option.map_some, Option.getD_some]
        by_cases h2 : i < k
        · rw [if_pos h2, if_pos (by omega)]
        · rw [if_neg h2, if_neg (by omega)]
    · rw [List.getElem?_eq_none (by simpa using hi)]
      rfl) (by
    unfold F_address_Mask_l1
    rw [decF (by dsimp only; omega)]
    simp only [cond_false]
    congr 3)
  have e0 : ((List.range 16).map fun i => if i < 0 then maskB (l.getD i 0) (clamp n i) else 0) = [0, 0, 0, 0, 0, 0, 0, 0, 0, 0, 0, 0, 0, 0, 0, 0] := by simp [List.range, List.range.loop]
  rw [e0] at e
  rw [show ((0 : Nat) : Int) = 0 from rfl] at e
  rw [e]
  rfl
theorem addr_vp {p : S_Prefix} (h : wfP p) : F_address_ValidPrefix p = some (vpB p) := by
  unfold F_address_ValidPrefix
  by_cases h0 : p.Bits ≥ 0
  · rw [decT h0]
    by_cases h1 : p.Bits ≤ 128
    · rw [decT h1, addr_mask p.IP h0 h1]
      simp only [cond_true, Option.bind_some]
      congr 1
      unfold vpB S_Prefix.eqb
      dsimp only
      rw [arrEq_eq (maskL_len _ _) h.1]
      rw [Bool.eq_iff_iff]
      simp only [Bool.and_eq_true, decide_eq_true_eq, beq_iff_eq, and_true, mask_eq_self h.1 h.2]
      constructor
      · rintro hz; exact ⟨h0, h1, hz⟩
      · rintro ⟨_, _, hz⟩; exact hz
    · rw [decF h1]
      simp [vpB]
      omega
  · rw [decF h0]
    simp [vpB]
    omega
/-- a prefix covers an address -/
def agree (l a : List Int) (b : Nat) : Prop := ∀ k, k < 128 → (k < b → bitA l k = bitA a k)
instance (l a : List Int) (b : Nat) : Decidable (agree l a b) := by unfold agree; infer_instance
def inP (p : S_Prefix) (a : List Int) : Bool := vpB p && decide (agree p.IP a p.Bits.toNat)
theorem addr_contains {p : S_Prefix} {a : List Int} (h : wfP p) (ha : Bytes a) : F_address_Contains p a = some (inP p a) := by
  unfold F_address_Contains
  rw [addr_vp h]
  simp only [Option.bind_some]
  unfold inP
  cases hv : vpB p with
  | false => rfl
  | true =>
    obtain ⟨h0, h1, hz⟩ := vpB_iff.1 hv
    rw [addr_mask a h0 h1]
    simp only [cond_true, Option.bind_some, Bool.true_and]
    congr 1
    unfold S_Prefix.eqb
    dsimp only
    rw [arrEq_eq (maskL_len _ _) h.1, Bool.eq_iff_iff]
    simp only [Bool.and_eq_true, decide_eq_true_eq, beq_iff_eq, and_true, mask_eq_other h.1 h.2 ha hz]
    rfl
theorem ref_contains {p : S_Prefix} {a : List Int} : F_ref04_Contains p a = some (inP p a) := by
  unfold F_ref04_Contains
  rw [ref_vp]
  simp only [Option.bind_some]
  unfold inP
  cases hv : vpB p with
  | false => rfl
  | true =>
    obtain ⟨h0, h1, hz⟩ := vpB_iff.1 hv
    simp only [cond_true, Bool.true_and]
    have key : ∃ n : Nat, F_ref04_Common p.IP a = some (n : Int) ∧ n ≤ 128 ∧ (∀ k, k < n → bitA p.IP k = bitA a k) ∧ (n < 128 → bitA p.IP n ≠ bitA a n) := by
      unfold F_ref04_Common
      have e := loop_first (step := F_ref04_Common_l1 p.IP a) (S := fun k => (k : Int)) 128 (fun k => decide (bitA p.IP k = bitA a k)) (fun k => (k : Int)) (re := (128 : Int)) (by
          intro k hk hp
          unfold F_ref04_Common_l1
          rw [decT (by omega), bit_eq _ hk, bit_eq _ hk]
          simp only [cond_true, Option.bind_some]
          rw [show (bitA p.IP k == bitA a k) = true by simpa using hp, wk _ (by omega)]
          rfl) (by
          intro k hk hp
          unfold F_ref04_Common_l1
          rw [decT (by omega), bit_eq _ hk, bit_eq _ hk]
          simp only [cond_true, Option.bind_some]
          rw [show (bitA p.IP k == bitA a k) = false by simpa using hp]
          rfl) (by
          unfold F_ref04_Common_l1
          rw [decF (by omega)]
          rfl)
      rcases e with ⟨k, hk, hp, hall, e⟩ | ⟨hall, e⟩
      · rw [show ((0 : Nat) : Int) = 0 from rfl] at e
        rw [e]
        exact ⟨k, rfl, by omega, fun j hj => of_decide_eq_true (hall j hj), fun _ => of_decide_eq_false hp⟩
      · rw [show ((0 : Nat) : Int) = 0 from rfl] at e
        rw [e]
        exact ⟨128, rfl, by omega, fun j hj => of_decide_eq_true (hall j hj), fun h => absurd h (by omega)⟩
    obtain ⟨n, e, hn, h2, h3⟩ := key
    rw [e]
    simp only [Option.bind_some]
    congr 1
    rw [Bool.eq_iff_iff, decide_eq_true_iff, decide_eq_true_iff]
    constructor
    · intro hge k hk hkb
      exact h2 k (by omega)
    · intro hq
      apply Classical.byContradiction
      intro hlt
      exact h3 (by omega) (hq n (by omega) (by omega))

/-! ### the order of prefixes -/
def keyP (p : S_Prefix) : List Int := p.IP ++ [p.Bits]
def cmpP (p q : S_Prefix) : Int := lexC (keyP p) (keyP q)
theorem keyP_inj {p q : S_Prefix} (h : keyP p = keyP q) : p = q := by
  unfold keyP at h
  obtain ⟨i, b⟩ := p
  obtain ⟨j, c⟩ := q
  obtain ⟨h1, h2⟩ := List.append_inj' h rfl
  simp only [List.cons.injEq, and_true] at h2
  dsimp only at h1
  subst h1; subst h2
  rfl
theorem cmpP_zero {p q : S_Prefix} : cmpP p q = 0 ↔ p = q :=
  ⟨fun h => keyP_inj (lexC_zero h), fun h => by subst h; exact lexC_self _⟩
theorem cmpP_swap (p q : S_Prefix) : cmpP q p = - cmpP p q := lexC_swap _ _
theorem cmpP_trans {p q r : S_Prefix} (h : cmpP p q < 0) (k : cmpP q r < 0) : cmpP p r < 0 := lexC_trans h k
theorem st_compare {p q : S_Prefix} (hp : wfP p) (hq : wfP q) : F_storing_compare p q = some (cmpP p q) := by
  unfold F_storing_compare F_bytes_Compare F_cmp_Compare_int F_cmp_isNaN_int
  simp only [Option.bind_some, Cut.app, arrL_id hp.1, arrL_id hq.1, bne_self_eq_false, cond_false]
  rw [cmpB_lex hp.2 hq.2]
  unfold cmpP keyP
  rw [lexC_snoc _ _ (by rw [hp.1, hq.1])]
  by_cases h : lexC p.IP q.IP = 0
  · rw [h, if_neg (by simp)]
    simp only [bne_self_eq_false, cond_false]
    by_cases h1 : p.Bits < q.Bits
    · rw [decT h1, if_pos h1]; rfl
    · rw [decF h1, if_neg h1]
      by_cases h2 : p.Bits > q.Bits
      · rw [decT h2, if_pos h2]; rfl
      · rw [decF h2, if_neg h2]; rfl
  · rw [if_pos h, show (lexC p.IP q.IP != 0) = true by simpa using h]
    rfl
theorem ref_cmpIP {a b : List Int} (ha : a.length = 16) (hb : b.length = 16) : F_ref22_CompareIP a b = some (lexC a b) := by
  unfold F_ref22_CompareIP
  have key : ∀ n k, n + k = 16 → loopO (F_ref22_CompareIP_l1 a b) ((k : Nat) : Int) = some (if lexC (a.drop k) (b.drop k) = 0 then Sum.inl () else Sum.inr (lexC (a.drop k) (b.drop k))) := by
    intro n
    induction n with
    | zero =>
      intro k hk
      have e : F_ref22_CompareIP_l1 a b ((k : Nat) : Int) = some (Sum.inr (Sum.inl ())) := by
        unfold F_ref22_CompareIP_l1
        rw [decF (by omega)]; rfl
      rw [loop_done e, List.drop_eq_nil_of_le (by omega), List.drop_eq_nil_of_le (by omega)]
      rfl
    | succ n ih =>
      intro k hk
      have ha' : a.drop k = a[k]'(by omega) :: a.drop (k + 1) := List.drop_eq_getElem_cons (by omega)
      have hb' : b.drop k = b[k]'(by omega) :: b.drop (k + 1) := List.drop_eq_getElem_cons (by omega)
      rw [ha', hb']
      have hst : F_ref22_CompareIP_l1 a b ((k : Nat) : Int) = if a[k]'(by omega) < b[k]'(by omega) then some (Sum.inr (Sum.inr (-1))) else if b[k]'(by omega) < a[k]'(by omega) then some (Sum.inr (Sum.inr 1)) else some (Sum.inl ((k + 1 : Nat) : Int)) := by
        unfold F_ref22_CompareIP_l1
        rw [decT (show ((k : Nat) : Int) < 16 by omega), decT (show (0 : Int) ≤ ((k : Nat) : Int) ∧ ((k : Nat) : Int) < 16 by omega), wk k (by omega)]
        simp only [cond_true, Int.toNat_natCast, getD_get (show k < a.length by omega), getD_get (show k < b.length by omega)]
        by_cases h1 : a[k]'(by omega) < b[k]'(by omega)
        · rw [decT h1, if_pos h1]; rfl
        · rw [decF h1, if_neg h1]
          by_cases h2 : b[k]'(by omega) < a[k]'(by omega)
          · rw [decT (by omega), if_pos h2]; rfl
          · rw [decF (by omega), if_neg h2]; rfl
      simp only [lexC]
      by_cases h1 : a[k]'(by omega) < b[k]'(by omega)
      · rw [if_pos h1] at hst
        rw [loop_done hst]
        simp [h1]
      · rw [if_neg h1] at hst
        by_cases h2 : b[k]'(by omega) < a[k]'(by omega)
        · rw [if_pos h2] at hst
          rw [loop_done hst]
          simp [h1, h2]
        · rw [if_neg h2] at hst
          rw [loop_next hst, ih (k + 1) (by omega)]
          simp only [if_neg h1, if_neg h2]
  have e := key 16 0 rfl
  rw [show ((0 : Nat) : Int) = 0 from rfl] at e
  rw [e, List.drop_zero, List.drop_zero]
  by_cases h : lexC a b = 0
  · rw [if_pos h, h]; rfl
  · rw [if_neg h]; rfl
theorem ref_compare {p q : S_Prefix} (hp : wfP p) (hq : wfP q) : F_ref26_ComparePrefix p q = some (cmpP p q) := by
  unfold F_ref26_ComparePrefix
  rw [ref_cmpIP hp.1 hq.1]
  simp only [Option.bind_some]
  unfold cmpP keyP
  rw [lexC_snoc _ _ (by rw [hp.1, hq.1])]
  by_cases h : lexC p.IP q.IP = 0
  · rw [h, if_neg (by simp)]
    simp only [bne_self_eq_false, cond_false]
    by_cases h1 : p.Bits < q.Bits
    · rw [decT h1, if_pos h1]; rfl
    · rw [decF h1, if_neg h1]
      by_cases h2 : p.Bits > q.Bits
      · rw [decT h2, if_pos h2]; rfl
      · rw [decF h2, if_neg h2]; rfl
  · rw [if_pos h, show (lexC p.IP q.IP != 0) = true by simpa using h]
    rfl
theorem eqb_P {p q : S_Prefix} (hp : wfP p) (hq : wfP q) : S_Prefix.eqb p q = decide (p = q) := by
  unfold S_Prefix.eqb
  rw [arrEq_eq hp.1 hq.1, Bool.eq_iff_iff]
  obtain ⟨i, b⟩ := p
  obtain ⟨j, c⟩ := q
  simp
end Go.Proofs.Ytonlajdaaljncaa
