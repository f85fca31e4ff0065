/-
  Plain helps for the functions that cc3.py writes: wraps, loops, indices, comparisons. No program in sight.
-/
import Derived.Test.YtohfnlkjdjmipaaVD
namespace Go.Proofs.Ytohfnlkjdjmipaa
open Go.RowKit

theorem beqF {α : Type} [BEq α] [LawfulBEq α] {a b : α} (h : ¬ a = b) : (a == b) = false := by simpa using h
theorem decT {p : Prop} [Decidable p] (h : p) : decide p = true := by simpa using h
theorem decF {p : Prop} [Decidable p] (h : ¬ p) : decide p = false := by simpa using h
theorem wi {x : Int} (h0 : -9223372036854775808 ≤ x) (h1 : x ≤ 9223372036854775807) : IntKind.wrap .i64 x = x := by
  simp [IntKind.wrap, IntKind.bits, IntKind.signed]
  omega
theorem wu {x : Int} (h0 : 0 ≤ x) (h1 : x < 18446744073709551616) : IntKind.wrap .u64 x = x := by
  simp [IntKind.wrap, IntKind.bits, IntKind.signed]
  omega
theorem wu32 {x : Int} (h0 : 0 ≤ x) (h1 : x < 4294967296) : IntKind.wrap .u32 x = x := by
  simp [IntKind.wrap, IntKind.bits, IntKind.signed]
  omega
theorem wu16 {x : Int} (h0 : 0 ≤ x) (h1 : x < 65536) : IntKind.wrap .u16 x = x := by
  simp [IntKind.wrap, IntKind.bits, IntKind.signed]
  omega
theorem wu8 {x : Int} (h0 : 0 ≤ x) (h1 : x < 256) : IntKind.wrap .u8 x = x := by
  simp [IntKind.wrap, IntKind.bits, IntKind.signed]
  omega
theorem wk (k : Nat) (h : k < 9223372036854775807) : IntKind.wrap .i64 ((k : Int) + 1) = ((k + 1 : Nat) : Int) := by
  rw [wi (by omega) (by omega)]; rfl
theorem wrap8 (x : Int) : IntKind.wrap .u8 x = x % 256 := by
  simp [IntKind.wrap, IntKind.bits, IntKind.signed]
theorem wrap16 (x : Int) : IntKind.wrap .u16 x = x % 65536 := by
  simp [IntKind.wrap, IntKind.bits, IntKind.signed]
theorem wrap32 (x : Int) : IntKind.wrap .u32 x = x % 4294967296 := by
  simp [IntKind.wrap, IntKind.bits, IntKind.signed]
theorem wrap64 (x : Int) : IntKind.wrap .u64 x = x % 18446744073709551616 := by
  simp [IntKind.wrap, IntKind.bits, IntKind.signed]
theorem wrap8_bd (x : Int) : 0 ≤ IntKind.wrap .u8 x ∧ IntKind.wrap .u8 x ≤ 255 := by rw [wrap8]; omega

/-! ### loops -/
section
variable {σ ρ : Type} {step : σ → Option (σ ⊕ ρ)}
theorem loop_done {s : σ} {r : ρ} (h : step s = some (.inr r)) : loopO step s = some r := by rw [loopO_eq, h]
theorem loop_next {s s' : σ} (h : step s = some (.inl s')) : loopO step s = loopO step s' := by rw [loopO_eq, h]
/-- a loop that keeps I and ends with Q -/
theorem loop_inv (I : σ → Prop) (Q : ρ → Prop) (m : σ → Nat) (hs : ∀ s, I s → (∃ s', step s = some (.inl s') ∧ I s' ∧ m s' < m s) ∨ (∃ r, step s = some (.inr r) ∧ Q r)) (s : σ) (h : I s) : ∃ r, loopO step s = some r ∧ Q r := by
  induction hn : m s using Nat.strongRecOn generalizing s with
  | ind n ih =>
    subst hn
    rcases hs s h with ⟨s', h1, h2, h3⟩ | ⟨r, h1, h2⟩
    · obtain ⟨r, hr, hq⟩ := ih (m s') h3 s' h2 rfl
      exact ⟨r, by rw [loop_next h1]; exact hr, hq⟩
    · exact ⟨r, loop_done h1, h2⟩
/-- a loop whose states are known -/
theorem loop_to (S : Nat → σ) (n : Nat) (h : ∀ k, k < n → step (S k) = some (.inl (S (k + 1)))) : loopO step (S 0) = loopO step (S n) := by
  induction n with
  | zero => rfl
  | succ n ih => rw [ih (fun k hk => h k (by omega)), loop_next (h n (by omega))]
theorem loop_run (S : Nat → σ) (n : Nat) {r : ρ} (h : ∀ k, k < n → step (S k) = some (.inl (S (k + 1)))) (he : step (S n) = some (.inr r)) : loopO step (S 0) = some r := by
  rw [loop_to S n h, loop_done he]
/-- a loop that is left at the first place where p fails -/
theorem loop_first (S : Nat → σ) (n : Nat) (p : Nat → Bool) (out : Nat → ρ) {re : ρ} (h1 : ∀ k, k < n → p k = true → step (S k) = some (.inl (S (k + 1)))) (h2 : ∀ k, k < n → p k = false → step (S k) = some (.inr (out k))) (h3 : step (S n) = some (.inr re)) :
    (∃ k, k < n ∧ p k = false ∧ (∀ j, j < k → p j = true) ∧ loopO step (S 0) = some (out k)) ∨ ((∀ k, k < n → p k = true) ∧ loopO step (S 0) = some re) := by
  by_cases hx : ∀ k, k < n → p k = true
  · exact .inr ⟨hx, loop_run S n (fun k hk => h1 k hk (hx k hk)) h3⟩
  · have hx' : ∃ k, k < n ∧ p k = false := by
      apply Classical.byContradiction
      intro hno
      apply hx
      intro k hk
      cases hpk : p k with
      | true => rfl
      | false => exact absurd ⟨k, hk, hpk⟩ hno
    have : ∃ k, (k < n ∧ p k = false) ∧ ∀ j, j < k → ¬ (j < n ∧ p j = false) := by
      obtain ⟨k, hk⟩ := hx'
      induction k using Nat.strongRecOn with
      | ind k ih =>
        by_cases hj : ∃ j, j < k ∧ j < n ∧ p j = false
        · obtain ⟨j, hj1, hj2⟩ := hj; exact ih j hj1 hj2
        · exact ⟨k, hk, fun j hjk hh => hj ⟨j, hjk, hh⟩⟩
    obtain ⟨k, ⟨hk, hpk⟩, hmin⟩ := this
    have hall : ∀ j, j < k → p j = true := by
      intro j hj
      cases hpj : p j with
      | true => rfl
      | false => exact absurd ⟨by omega, hpj⟩ (hmin j hj)
    refine .inl ⟨k, hk, hpk, hall, ?_⟩
    rw [loop_to S k (fun j hj => h1 j (by omega) (hall j hj)), loop_done (h2 k hk hpk)]
/-- a loop that answers whether p holds everywhere -/
theorem loop_all (S : Nat → σ) (n : Nat) (p : Nat → Bool) {rt rf : ρ} (h1 : ∀ k, k < n → p k = true → step (S k) = some (.inl (S (k + 1)))) (h2 : ∀ k, k < n → p k = false → step (S k) = some (.inr rf)) (h3 : step (S n) = some (.inr rt)) :
    loopO step (S 0) = some (if ∀ k, k < n → p k = true then rt else rf) := by
  rcases loop_first S n p (fun _ => rf) h1 h2 h3 with ⟨k, hk, hpk, _, h⟩ | ⟨ha, h⟩
  · rw [h, if_neg]
    intro hh
    rw [hh k hk] at hpk
    cases hpk
  · rw [h, if_pos ha]
/-- a loop over a list that gathers -/
theorem loop_fold {α τ : Type} (l : List α) (mk : τ → Nat → σ) (f : τ → α → τ) (out : τ → ρ) (I : τ → Nat → Prop) (hstep : ∀ k (hk : k < l.length) s, I s k → step (mk s k) = some (.inl (mk (f s l[k]) (k + 1))) ∧ I (f s l[k]) (k + 1)) (hend : ∀ s, I s l.length → step (mk s l.length) = some (.inr (out s))) (s0 : τ) (h0 : I s0 0) : loopO step (mk s0 0) = some (out (l.foldl f s0)) ∧ I (l.foldl f s0) l.length := by
  have key : ∀ n k s, n + k = l.length → I s k → loopO step (mk s k) = some (out ((l.drop k).foldl f s)) ∧ I ((l.drop k).foldl f s) l.length := by
    intro n
    induction n with
    | zero =>
      intro k s hk hi
      obtain rfl : k = l.length := by omega
      rw [loop_done (hend s hi), List.drop_eq_nil_of_le (Nat.le_refl _)]
      exact ⟨rfl, hi⟩
    | succ n ih =>
      intro k s hk hi
      obtain ⟨h1, h2⟩ := hstep k (by omega) s hi
      rw [loop_next h1, List.drop_eq_getElem_cons (show k < l.length by omega)]
      exact ih (k + 1) _ (by omega) h2
  have := key l.length 0 s0 rfl h0
  rwa [List.drop_zero] at this
end
theorem fold_filter {α : Type} (p : α → Bool) (l out : List α) : l.foldl (fun o y => if p y then o ++ [y] else o) out = out ++ l.filter p := by
  induction l generalizing out with
  | nil => simp
  | cons x l ih =>
    rw [List.foldl_cons, ih]
    by_cases h : p x = true
    · rw [if_pos h, List.filter_cons_of_pos h]; simp
    · rw [if_neg h, List.filter_cons_of_neg h]
theorem fold_map {α β : Type} (g : α → β) (l : List α) (out : List β) : l.foldl (fun o y => o ++ [g y]) out = out ++ l.map g := by
  induction l generalizing out with
  | nil => simp
  | cons x l ih => rw [List.foldl_cons, ih]; simp

/-! ### indices, cuts, appends -/
theorem idx_nat {α : Type} (l : List α) (k : Nat) : idx l (k : Int) = l[k]? := by simp [idx]
theorem idx_lt {α : Type} {l : List α} {k : Nat} (h : k < l.length) : idx l (k : Int) = some l[k] := by rw [idx_nat]; exact List.getElem?_eq_getElem h
theorem idx_int {α : Type} {l : List α} {i : Int} (h0 : 0 ≤ i) (h1 : i < l.length) : idx l i = some (l[i.toNat]'(by omega)) := by
  unfold idx; rw [if_pos h0]; exact List.getElem?_eq_getElem _
theorem appO_some {α : Type} {by_ : Nat} {l1 l2 : List α} (h : (l1.length + l2.length) * by_ ≤ 140737488355328) (h' : l1.length + l2.length ≤ 140737488355328) : appO by_ l1 l2 = some (l1 ++ l2) := by
  unfold appO; rw [if_pos ⟨h, h'⟩]
theorem subO_some {α : Type} {l : List α} {a b : Int} (h0 : 0 ≤ a) (h1 : a ≤ b) (h2 : b ≤ l.length) : subO l a b = some ((l.take b.toNat).drop a.toNat) := by
  unfold subO; rw [if_pos ⟨h0, h1, h2⟩]

/-! ### arrays -/
theorem arrL_id {n : Nat} {l : List Int} (h : l.length = n) : arrL n l = l := by
  apply List.ext_getElem?
  intro i
  unfold arrL
  rcases Nat.lt_or_ge i n with hi | hi
  · rw [List.getElem?_map, List.getElem?_range hi, List.getElem?_eq_getElem (by omega)]
    simp [List.getD_eq_getElem?_getD, List.getElem?_eq_getElem (show i < l.length by omega)]
  · rw [List.getElem?_eq_none (by simpa using hi), List.getElem?_eq_none (by omega)]
theorem arrEq_iff {n : Nat} {a b : List Int} : arrEq n a b = true ↔ ∀ i, i < n → a.getD i 0 = b.getD i 0 := by
  unfold arrEq
  have : ∀ l : List Nat, (l.foldr (fun i r => (a.getD i 0 == b.getD i 0) && r) true) = true ↔ ∀ i ∈ l, a.getD i 0 = b.getD i 0 := by
    intro l
    induction l with
    | nil => simp
    | cons x l ih => simp only [List.foldr_cons, Bool.and_eq_true, beq_iff_eq, ih, List.mem_cons, forall_eq_or_imp]
  rw [this]
  simp
theorem arrEq_eq {n : Nat} {a b : List Int} (ha : a.length = n) (hb : b.length = n) : arrEq n a b = decide (a = b) := by
  rw [Bool.eq_iff_iff, arrEq_iff, decide_eq_true_iff]
  constructor
  · intro h
    apply List.ext_getElem (by omega)
    intro i h1 h2
    have := h i (by omega)
    simpa [List.getD_eq_getElem?_getD, List.getElem?_eq_getElem h1, List.getElem?_eq_getElem h2] using this
  · rintro rfl _ _; rfl
theorem setA_set {n : Nat} {l : List Int} {i : Nat} {v : Int} (h : l.length = n) : setA n l i v = l.set i v := by
  apply List.ext_getElem?
  intro j
  unfold setA
  rcases Nat.lt_or_ge j n with hj | hj
  · rw [List.getElem?_map, List.getElem?_range hj, List.getElem?_set]
    by_cases hij : i = j
    · subst hij; simp; omega
    · simp [hij, Ne.symm hij, List.getD_eq_getElem?_getD, List.getElem?_eq_getElem (show j < l.length by omega)]
  · rw [List.getElem?_eq_none (by simpa using hj), List.getElem?_eq_none (by simp; omega)]
theorem setA_len (n : Nat) (l : List Int) (i : Nat) (v : Int) : (setA n l i v).length = n := by simp [setA]

/-! ### the order of lists -/
def lexC : List Int → List Int → Int
  | [], [] => 0
  | [], _ :: _ => -1
  | _ :: _, [] => 1
  | a :: s, b :: t => if a < b then -1 else if b < a then 1 else lexC s t
theorem lexC_self : ∀ a : List Int, lexC a a = 0
  | [] => rfl
  | x :: l => by simp [lexC, lexC_self l]
theorem lexC_zero : ∀ {a b : List Int}, lexC a b = 0 → a = b
  | [], [], _ => rfl
  | [], _ :: _, h => by simp [lexC] at h
  | _ :: _, [], h => by simp [lexC] at h
  | a :: s, b :: t, h => by
    simp only [lexC] at h
    split at h
    · cases h
    · split at h
      · cases h
      · have := lexC_zero h
        subst this
        congr 1
        omega
theorem lexC_swap : ∀ a b : List Int, lexC b a = - lexC a b
  | [], [] => rfl
  | [], _ :: _ => rfl
  | _ :: _, [] => rfl
  | a :: s, b :: t => by
    simp only [lexC]
    by_cases h : a < b
    · rw [if_pos h, if_neg (by omega), if_pos h]; rfl
    · rw [if_neg h]
      by_cases h2 : b < a
      · rw [if_pos h2, if_pos h2, if_neg h]
      · rw [if_neg h2, if_neg h2, if_neg h, lexC_swap s t]
theorem lexC_cases : ∀ a b : List Int, lexC a b = -1 ∨ lexC a b = 0 ∨ lexC a b = 1
  | [], [] => .inr (.inl rfl)
  | [], _ :: _ => .inl rfl
  | _ :: _, [] => .inr (.inr rfl)
  | a :: s, b :: t => by
    simp only [lexC]
    split
    · exact .inl rfl
    · split
      · exact .inr (.inr rfl)
      · exact lexC_cases s t
theorem lexC_trans : ∀ {a b c : List Int}, lexC a b < 0 → lexC b c < 0 → lexC a c < 0
  | [], _, [], h, k => by
    rename_i b
    cases b with
    | nil => simp [lexC] at h
    | cons x l => simp [lexC] at k
  | [], _, _ :: _, _, _ => by simp [lexC]
  | _ :: _, [], _, h, _ => by simp [lexC] at h
  | _ :: _, _ :: _, [], _, k => by simp [lexC] at k
  | a :: s, b :: t, c :: u, h, k => by
    simp only [lexC] at *
    split at h
    · split at k
      · rw [if_pos (by omega)]; omega
      · split at k
        · cases k
        · rw [if_pos (by omega)]; omega
    · split at h
      · cases h
      · split at k
        · rw [if_pos (by omega)]; omega
        · split at k
          · cases k
          · rw [if_neg (by omega), if_neg (by omega)]
            exact lexC_trans h k
theorem lexC_snoc : ∀ {a b : List Int} (x y : Int), a.length = b.length → lexC (a ++ [x]) (b ++ [y]) = if lexC a b ≠ 0 then lexC a b else if x < y then -1 else if y < x then 1 else 0
  | [], [], x, y, _ => by simp [lexC]
  | [], _ :: _, _, _, h => by simp at h
  | _ :: _, [], _, _, h => by simp at h
  | a :: s, b :: t, x, y, h => by
    have ih := lexC_snoc (a := s) (b := t) x y (by simpa using h)
    simp only [List.cons_append, lexC]
    by_cases h1 : a < b
    · simp [h1]
    · by_cases h2 : b < a
      · simp [h1, h2]
      · simp only [if_neg h1, if_neg h2]
        exact ih
theorem cmpB_lex : ∀ {a b : List Int}, (∀ z ∈ a, 0 ≤ z ∧ z ≤ 255) → (∀ z ∈ b, 0 ≤ z ∧ z ≤ 255) → cmpB a b = lexC a b
  | [], [], _, _ => rfl
  | [], _ :: _, _, _ => rfl
  | _ :: _, [], _, _ => rfl
  | a :: s, b :: t, ha, hb => by
    have ih := cmpB_lex (a := s) (b := t) (fun z hz => ha z (by simp [hz])) (fun z hz => hb z (by simp [hz]))
    have h1 := ha a (by simp)
    have h2 := hb b (by simp)
    have e1 : (a.toNat.toUInt8).toNat = a.toNat := by simp [Nat.toUInt8]; omega
    have e2 : (b.toNat.toUInt8).toNat = b.toNat := by simp [Nat.toUInt8]; omega
    unfold cmpB u8L at *
    simp only [List.map_cons, Go.Lib.compareBytes, lexC, UInt8.lt_iff_toNat_lt, e1, e2, ih]
    by_cases q : a < b
    · rw [if_pos (by omega), if_pos q]
    · rw [if_neg (by omega), if_neg q]
      by_cases q2 : b < a
      · rw [if_pos (by omega), if_pos q2]
      · rw [if_neg (by omega), if_neg q2]
theorem getD_get {l : List Int} {i : Nat} (h : i < l.length) : l.getD i 0 = l[i] := by simp [List.getD_eq_getElem?_getD, List.getElem?_eq_getElem h]
theorem getD_mem {p : Int → Prop} {l : List Int} (h : ∀ z ∈ l, p z) (h0 : p 0) (i : Nat) : p (l.getD i 0) := by
  rcases Nat.lt_or_ge i l.length with hi | hi
  · rw [getD_get hi]; exact h _ (List.getElem_mem hi)
  · rw [List.getD_eq_getElem?_getD, List.getElem?_eq_none hi]; exact h0
end Go.Proofs.Ytohfnlkjdjmipaa
