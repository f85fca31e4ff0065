/-
  GuardOpens, proved for all arguments.
-/
import Derived.Test.YtpngoffbogingaaKUOpens5
namespace Go.Proofs.Ytpngoffbogingaa
section
open Go.RowKit

theorem beqF {α : Type} [BEq α] [LawfulBEq α] {a b : α} (h : ¬ a = b) : (a == b) = false := by simpa using h
theorem decT {p : Prop} [Decidable p] (h : p) : decide p = true := by simpa using h
theorem decF {p : Prop} [Decidable p] (h : ¬ p) : decide p = false := by simpa using h
theorem wi {x : Int} (h0 : -9223372036854775808 ≤ x) (h1 : x ≤ 9223372036854775807) : IntKind.wrap .i64 x = x := by
  simp [IntKind.wrap, IntKind.bits, IntKind.signed]
  omega
theorem wu {x : Int} (h0 : 0 ≤ x) (h1 : x < 18446744073709551616) : IntKind.wrap .u64 x = x := by
  simp [IntKind.wrap, IntKind.bits, IntKind.signed]
  omega
theorem wu32 {x : Int} (h0 : 0 ≤ x) (h1 : x < 4294967296) : IntKind.wrap .u32 x = x := by
  simp [IntKind.wrap, IntKind.bits, IntKind.signed]
  omega
theorem wu16 {x : Int} (h0 : 0 ≤ x) (h1 : x < 65536) : IntKind.wrap .u16 x = x := by
  simp [IntKind.wrap, IntKind.bits, IntKind.signed]
  omega
theorem wu8 {x : Int} (h0 : 0 ≤ x) (h1 : x < 256) : IntKind.wrap .u8 x = x := by
  simp [IntKind.wrap, IntKind.bits, IntKind.signed]
  omega
theorem wk (k : Nat) (h : k < 9223372036854775807) : IntKind.wrap .i64 ((k : Int) + 1) = ((k + 1 : Nat) : Int) := by
  rw [wi (by omega) (by omega)]; rfl
theorem wrap8 (x : Int) : IntKind.wrap .u8 x = x % 256 := by
  simp [IntKind.wrap, IntKind.bits, IntKind.signed]
theorem wrap16 (x : Int) : IntKind.wrap .u16 x = x % 65536 := by
  simp [IntKind.wrap, IntKind.bits, IntKind.signed]
theorem wrap32 (x : Int) : IntKind.wrap .u32 x = x % 4294967296 := by
  simp [IntKind.wrap, IntKind.bits, IntKind.signed]
theorem wrap64 (x : Int) : IntKind.wrap .u64 x = x % 18446744073709551616 := by
  simp [IntKind.wrap, IntKind.bits, IntKind.signed]
theorem wrap8_bd (x : Int) : 0 ≤ IntKind.wrap .u8 x ∧ IntKind.wrap .u8 x ≤ 255 := by rw [wrap8]; omega

section
variable {σ ρ : Type} {step : σ → Option (σ ⊕ ρ)}
theorem loop_done {s : σ} {r : ρ} (h : step s = some (.inr r)) : loopO step s = some r := by rw [loopO_eq, h]
theorem loop_next {s s' : σ} (h : step s = some (.inl s')) : loopO step s = loopO step s' := by rw [loopO_eq, h]
/-- a loop that keeps I and ends with Q -/
theorem loop_inv (I : σ → Prop) (Q : ρ → Prop) (m : σ → Nat) (hs : ∀ s, I s → (∃ s', step s = some (.inl s') ∧ I s' ∧ m s' < m s) ∨ (∃ r, step s = some (.inr r) ∧ Q r)) (s : σ) (h : I s) : ∃ r, loopO step s = some r ∧ Q r := by
  induction hn : m s using Nat.strongRecOn generalizing s with
  | ind n ih =>
    subst hn
    rcases hs s h with ⟨s', h1, h2, h3⟩ | ⟨r, h1, h2⟩
    · obtain ⟨r, hr, hq⟩ := ih (m s') h3 s' h2 rfl
      exact ⟨r, by rw [loop_next h1]; exact hr, hq⟩
    · exact ⟨r, loop_done h1, h2⟩
/-- a loop whose states are known -/
theorem loop_to (S : Nat → σ) (n : Nat) (h : ∀ k, k < n → step (S k) = some (.inl (S (k + 1)))) : loopO step (S 0) = loopO step (S n) := by
  induction n with
  | zero => rfl
  | succ n ih => rw [ih (fun k hk => h k (by omega)), loop_next (h n (by omega))]
theorem loop_run (S : Nat → σ) (n : Nat) {r : ρ} (h : ∀ k, k < n → step (S k) = some (.inl (S (k + 1)))) (he : step (S n) = some (.inr r)) : loopO step (S 0) = some r := by
  rw [loop_to S n h, loop_done he]
/-- a loop that is left at the first place where p fails -/
theorem loop_first (S : Nat → σ) (n : Nat) (p : Nat → Bool) (out : Nat → ρ) {re : ρ} (h1 : ∀ k, k < n → p k = true → step (S k) = some (.inl (S (k + 1)))) (h2 : ∀ k, k < n → p k = false → step (S k) = some (.inr (out k))) (h3 : step (S n) = some (.inr re)) :
    (∃ k, k < n ∧ p k = false ∧ (∀ j, j < k → p j = true) ∧ loopO step (S 0) = some (out k)) ∨ ((∀ k, k < n → p k = true) ∧ loopO step (S 0) = some re) := by
  by_cases hx : ∀ k, k < n → p k = true
  · exact .inr ⟨hx, loop_run S n (fun k hk => h1 k hk (hx k hk)) h3⟩
  · have hx' : ∃ k, k < n ∧ p k = false := by
      apply Classical.byContradiction
      intro hno
      apply hx
      intro k hk
      cases hpk : p k with
      | true => rfl
      | false => exact absurd ⟨k, hk, hpk⟩ hno
    have : ∃ k, (k < n ∧ p k = false) ∧ ∀ j, j < k → ¬ (j < n ∧ p j = false) := by
      obtain ⟨k, hk⟩ := hx'
      induction k using Nat.strongRecOn with
      | ind k ih =>
        by_cases hj : ∃ j, j < k ∧ j < n ∧ p j = false
        · obtain ⟨j, hj1, hj2⟩ := hj; exact ih j hj1 hj2
        · exact ⟨k, hk, fun j hjk hh => hj ⟨j, hjk, hh⟩⟩
    obtain ⟨k, ⟨hk, hpk⟩, hmin⟩ := this
    have hall : ∀ j, j < k → p j = true := by
      intro j hj
      cases hpj : p j with
      | true => rfl
      | false => exact absurd ⟨by omega, hpj⟩ (hmin j hj)
    refine .inl ⟨k, hk, hpk, hall, ?_⟩
    rw [loop_to S k (fun j hj => h1 j (by omega) (hall j hj)), loop_done (h2 k hk hpk)]
/-- a loop that answers whether p holds everywhere -/
theorem loop_all (S : Nat → σ) (n : Nat) (p : Nat → Bool) {rt rf : ρ} (h1 : ∀ k, k < n → p k = true → step (S k) = some (.inl (S (k + 1)))) (h2 : ∀ k, k < n → p k = false → step (S k) = some (.inr rf)) (h3 : step (S n) = some (.inr rt)) :
    loopO step (S 0) = some (if ∀ k, k < n → p k = true then rt else rf) := by
  rcases loop_first S n p (fun _ => rf) h1 h2 h3 with ⟨k, hk, hpk, _, h⟩ | ⟨ha, h⟩
  · rw [h, if_neg]
    intro hh
    rw [hh k hk] at hpk
    cases hpk
  · rw [h, if_pos ha]
end
theorem idx_nat {α : Type} (l : List α) (k : Nat) : idx l (k : Int) = l[k]? := by simp [idx]
theorem idx_lt {α : Type} {l : List α} {k : Nat} (h : k < l.length) : idx l (k : Int) = some l[k] := by rw [idx_nat]; exact List.getElem?_eq_getElem h
theorem idx_int {α : Type} {l : List α} {i : Int} (h0 : 0 ≤ i) (h1 : i < l.length) : idx l i = some (l[i.toNat]'(by omega)) := by
  unfold idx; rw [if_pos h0]; exact List.getElem?_eq_getElem _
theorem appO_some {α : Type} {by_ : Nat} {l1 l2 : List α} (h : (l1.length + l2.length) * by_ ≤ 140737488355328) (h' : l1.length + l2.length ≤ 140737488355328) : appO by_ l1 l2 = some (l1 ++ l2) := by
  unfold appO; rw [if_pos ⟨h, h'⟩]
theorem subO_some {α : Type} {l : List α} {a b : Int} (h0 : 0 ≤ a) (h1 : a ≤ b) (h2 : b ≤ l.length) : subO l a b = some ((l.take b.toNat).drop a.toNat) := by
  unfold subO; rw [if_pos ⟨h0, h1, h2⟩]

theorem arrEq_iff {n : Nat} {a b : List Int} : arrEq n a b = true ↔ ∀ i, i < n → a.getD i 0 = b.getD i 0 := by
  unfold arrEq
  have : ∀ l : List Nat, (l.foldr (fun i r => (a.getD i 0 == b.getD i 0) && r) true) = true ↔ ∀ i ∈ l, a.getD i 0 = b.getD i 0 := by
    intro l
    induction l with
    | nil => simp
    | cons x l ih => simp only [List.foldr_cons, Bool.and_eq_true, beq_iff_eq, ih, List.mem_cons, forall_eq_or_imp]
  rw [this]
  simp
theorem arrEq_eq {n : Nat} {a b : List Int} (ha : a.length = n) (hb : b.length = n) : arrEq n a b = decide (a = b) := by
  rw [Bool.eq_iff_iff, arrEq_iff, decide_eq_true_iff]
  constructor
  · intro h
    apply List.ext_getElem (by omega)
    intro i h1 h2
    have := h i (by omega)
    simpa [List.getD_eq_getElem?_getD, List.getElem?_eq_getElem h1, List.getElem?_eq_getElem h2] using this
  · rintro rfl _ _; rfl
theorem setA_set {n : Nat} {l : List Int} {i : Nat} {v : Int} (h : l.length = n) : setA n l i v = l.set i v := by
  apply List.ext_getElem?
  intro j
  unfold setA
  rcases Nat.lt_or_ge j n with hj | hj
  · rw [List.getElem?_map, List.getElem?_range hj, List.getElem?_set]
    by_cases hij : i = j
    · subst hij; simp; omega
    · simp [hij, Ne.symm hij, List.getD_eq_getElem?_getD, List.getElem?_eq_getElem (show j < l.length by omega)]
  · rw [List.getElem?_eq_none (by simpa using hj), List.getElem?_eq_none (by simp; omega)]
theorem setA_len (n : Nat) (l : List Int) (i : Nat) (v : Int) : (setA n l i v).length = n := by simp [setA]

def lexC : List Int → List Int → Int
  | [], [] => 0
  | [], _ :: _ => -1
  | _ :: _, [] => 1
  | a :: s, b :: t => if a < b then -1 else if b < a then 1 else lexC s t
theorem lexC_self : ∀ a : List Int, lexC a a = 0
  | [] => rfl
  | x :: l => by simp [lexC, lexC_self l]
theorem getD_get {l : List Int} {i : Nat} (h : i < l.length) : l.getD i 0 = l[i] := by simp [List.getD_eq_getElem?_getD, List.getElem?_eq_getElem h]
theorem getD_mem {p : Int → Prop} {l : List Int} (h : ∀ z ∈ l, p z) (h0 : p 0) (i : Nat) : p (l.getD i 0) := by
  rcases Nat.lt_or_ge i l.length with hi | hi
  · rw [getD_get hi]; exact h _ (List.getElem_mem hi)
  · rw [List.getD_eq_getElem?_getD, List.getElem?_eq_none hi]; exact h0
end
section
open Go.RowKit

def okB (l : List Int) : Prop := ∀ z ∈ l, 0 ≤ z ∧ z ≤ 255
theorem okB_nil : okB [] := fun z h => by simp at h
theorem okB.append {a b : List Int} (ha : okB a) (hb : okB b) : okB (a ++ b) := fun z h => (List.mem_append.1 h).elim (ha z) (hb z)
theorem okB.get {l : List Int} (h : okB l) {i : Nat} (hi : i < l.length) : 0 ≤ l[i] ∧ l[i] ≤ 255 := h _ (List.getElem_mem hi)
theorem okB.take {l : List Int} (h : okB l) (n : Nat) : okB (l.take n) := fun z hz => h z (List.mem_of_mem_take hz)
theorem okB.drop {l : List Int} (h : okB l) (n : Nat) : okB (l.drop n) := fun z hz => h z (List.mem_of_mem_drop hz)
theorem okB.set {l : List Int} (h : okB l) (n : Nat) {v : Int} (hv : 0 ≤ v ∧ v ≤ 255) : okB (l.set n v) := fun z hz => (List.mem_or_eq_of_mem_set hz).elim (h z) (fun e => e ▸ hv)
theorem okB.getD {l : List Int} (h : okB l) (n : Nat) : 0 ≤ l.getD n 0 ∧ l.getD n 0 ≤ 255 := getD_mem (p := fun z => 0 ≤ z ∧ z ≤ 255) h (by omega) n
theorem okB_one {v : Int} (h : 0 ≤ v ∧ v ≤ 255) : okB [v] := fun z hz => by rw [List.mem_singleton.1 hz]; exact h
theorem okB_cons {v : Int} {l : List Int} (h : 0 ≤ v ∧ v ≤ 255) (k : okB l) : okB (v :: l) := fun z hz => (List.mem_cons.1 hz).elim (fun e => e ▸ h) (k z)
theorem u8_inj {a b : Int} (ha : 0 ≤ a ∧ a ≤ 255) (hb : 0 ≤ b ∧ b ≤ 255) (h : a.toNat.toUInt8 = b.toNat.toUInt8) : a = b := by
  have e1 : (a.toNat.toUInt8).toNat = a.toNat := by simp [Nat.toUInt8]; omega
  have e2 : (b.toNat.toUInt8).toNat = b.toNat := by simp [Nat.toUInt8]; omega
  rw [h] at e1
  omega
theorem u8L_inj : ∀ {a b : List Int}, okB a → okB b → u8L a = u8L b → a = b
  | [], [], _, _, _ => rfl
  | [], _ :: _, _, _, h => by simp [u8L] at h
  | _ :: _, [], _, _, h => by simp [u8L] at h
  | x :: s, y :: t, ha, hb, h => by
    simp only [u8L, List.map_cons, List.cons.injEq] at h
    rw [u8_inj (ha x (by simp)) (hb y (by simp)) h.1, u8L_inj (fun z hz => ha z (by simp [hz])) (fun z hz => hb z (by simp [hz])) h.2]
theorem u8L_beq {a b : List Int} (ha : okB a) (hb : okB b) : (u8L a == u8L b) = decide (a = b) := by
  by_cases h : a = b
  · subst h; simp
  · rw [decF h]
    exact beqF (fun q => h (u8L_inj ha hb q))
theorem ishr_eq {x y : Int} (h0 : 0 ≤ y) (h1 : y < 64) : ishr .u64 x y = x / 2 ^ y.toNat := by
  unfold ishr
  rw [show min y.toNat IntKind.u64.bits = y.toNat by simp [IntKind.bits]; omega]
  exact Int.fdiv_eq_ediv_of_nonneg _ (Int.pow_nonneg (by omega))
theorem ishl_eq {x y : Int} (h0 : 0 ≤ y) (h1 : y < 64) : ishl .u64 x y = (x * 2 ^ y.toNat) % 18446744073709551616 := by
  unfold ishl
  rw [show min y.toNat IntKind.u64.bits = y.toNat by simp [IntKind.bits]; omega, wrap64]
theorem byte_eq {v : Int} {j : Int} (h0 : 0 ≤ j) (h1 : j < 64) : IntKind.wrap .u8 (ishr .u64 v j) = v / 2 ^ j.toNat % 256 := by
  rw [ishr_eq h0 h1, wrap8]
theorem ior_add {x y : Int} (i : Nat) (h0 : 0 ≤ x) (h1 : x < 2 ^ i) (h2 : 0 ≤ y) (h3 : x + y * 2 ^ i < 18446744073709551616) : ior .u64 x (y * 2 ^ i) = x + y * 2 ^ i := by
  obtain ⟨a, rfl⟩ := Int.eq_ofNat_of_zero_le h0
  obtain ⟨b, rfl⟩ := Int.eq_ofNat_of_zero_le h2
  have hp : ((b : Int) * 2 ^ i) = ((b * 2 ^ i : Nat) : Int) := by rw [Int.natCast_mul, Int.natCast_pow]; rfl
  have ha : a < 2 ^ i := by
    have e : ((2 : Int) ^ i) = ((2 ^ i : Nat) : Int) := by rw [Int.natCast_pow]; rfl
    rw [e] at h1
    omega
  rw [hp] at h3 ⊢
  have h3' : a + b * 2 ^ i < 18446744073709551616 := by omega
  unfold ior
  have e1 : (BitVec.ofInt IntKind.u64.bits (a : Int)).toNat = a := by
    rw [BitVec.toNat_ofInt]
    simp only [IntKind.bits]
    omega
  have e2 : (BitVec.ofInt IntKind.u64.bits ((b * 2 ^ i : Nat) : Int)).toNat = b * 2 ^ i := by
    rw [BitVec.toNat_ofInt]
    simp only [IntKind.bits]
    omega
  rw [BitVec.toNat_or, e1, e2, Nat.or_comm, show b * 2 ^ i ||| a = 2 ^ i * b + a by rw [Nat.two_pow_add_eq_or_of_lt ha, Nat.mul_comm]]
  rw [wrap64, Nat.mul_comm]
  omega

def beB (v : Int) (n : Nat) : List Int := (List.range n).map fun i => v / 2 ^ (8 * (n - 1 - i)) % 256
def leB (v : Int) (n : Nat) : List Int := (List.range n).map fun i => v / 2 ^ (8 * i) % 256
theorem beB_len (v : Int) (n : Nat) : (beB v n).length = n := by simp [beB]
theorem leB_len (v : Int) (n : Nat) : (leB v n).length = n := by simp [leB]
theorem beB_ok (v : Int) (n : Nat) : okB (beB v n) := fun z hz => by
  obtain ⟨i, _, rfl⟩ := List.mem_map.1 hz
  omega
theorem leB_ok (v : Int) (n : Nat) : okB (leB v n) := fun z hz => by
  obtain ⟨i, _, rfl⟩ := List.mem_map.1 hz
  omega
theorem beB_get {v : Int} {n i : Nat} (h : i < n) : (beB v n)[i]? = some (v / 2 ^ (8 * (n - 1 - i)) % 256) := by
  unfold beB
  rw [List.getElem?_map, List.getElem?_range h]; rfl
theorem leB_get {v : Int} {n i : Nat} (h : i < n) : (leB v n)[i]? = some (v / 2 ^ (8 * i) % 256) := by
  unfold leB
  rw [List.getElem?_map, List.getElem?_range h]; rfl
theorem take_snoc {α : Type} {l : List α} {k : Nat} {x : α} (h : l[k]? = some x) : l.take (k + 1) = l.take k ++ [x] := by
  rw [List.take_add_one, h]; rfl
theorem set_mid {α : Type} (a b : List α) (x y : α) {k : Nat} (h : k = a.length) : (a ++ x :: b).set k y = a ++ y :: b := by
  subst h
  rw [List.set_append_right _ _ (Nat.le_refl _), Nat.sub_self]
  rfl

/-- the number of bytes, the greatest first -/
def beN : List Int → Int := fun l => l.foldl (fun v c => v * 256 + c) 0
/-- the number of bytes, the least first -/
def leN : List Int → Int
  | [] => 0
  | x :: l => x + 256 * leN l
theorem leN_bd : ∀ {l : List Int}, okB l → 0 ≤ leN l ∧ leN l < 256 ^ l.length
  | [], _ => by simp [leN]
  | x :: l, h => by
    have h1 := h x (by simp)
    have h2 := leN_bd (l := l) (fun z hz => h z (by simp [hz]))
    simp only [leN, List.length_cons, Int.pow_succ]
    omega
theorem leN_append : ∀ (a b : List Int), leN (a ++ b) = leN a + 256 ^ a.length * leN b
  | [], b => by simp [leN]
  | x :: a, b => by
    simp only [List.cons_append, leN, leN_append a b, List.length_cons, Int.pow_succ]
    have e : (256 : Int) ^ a.length * 256 * leN b = 256 * (256 ^ a.length * leN b) := by
      rw [Int.mul_comm ((256 : Int) ^ a.length) 256, Int.mul_assoc]
    rw [e]
    omega
theorem beN_snoc (l : List Int) (x : Int) : beN (l ++ [x]) = beN l * 256 + x := by simp [beN]
theorem beN_aux : ∀ (l : List Int) (v : Int), okB l → 0 ≤ v → 0 ≤ l.foldl (fun v c => v * 256 + c) v ∧ l.foldl (fun v c => v * 256 + c) v < (v + 1) * 256 ^ l.length
  | [], v, _, h => by simp; omega
  | x :: l, v, h, hv => by
    have h1 := h x (by simp)
    obtain ⟨a, b⟩ := beN_aux l (v * 256 + x) (fun z hz => h z (by simp [hz])) (by omega)
    refine ⟨a, Int.lt_of_lt_of_le b ?_⟩
    have e : (v + 1) * (256 : Int) ^ (x :: l).length = (v + 1) * 256 * 256 ^ l.length := by
      rw [List.length_cons, Int.pow_succ, Int.mul_comm ((256 : Int) ^ l.length) 256, Int.mul_assoc]
    rw [e]
    exact Int.mul_le_mul_of_nonneg_right (by omega) (Int.pow_nonneg (by omega))
theorem beN_bd {l : List Int} (h : okB l) : 0 ≤ beN l ∧ beN l < 256 ^ l.length := by
  have := beN_aux l 0 h (by omega)
  simpa [beN] using this
theorem pow256 {m : Nat} (h : m ≤ 8) : (256 : Int) ^ m ≤ 18446744073709551616 := by
  rcases m with _ | _ | _ | _ | _ | _ | _ | _ | _ | m
  all_goals first | decide | omega
theorem leN_lt64 {l : List Int} (h : okB l) (h8 : l.length ≤ 8) : 0 ≤ leN l ∧ leN l < 18446744073709551616 := by
  have := leN_bd h
  have := pow256 h8
  omega
theorem beN_lt64 {l : List Int} (h : okB l) (h8 : l.length ≤ 8) : 0 ≤ beN l ∧ beN l < 18446744073709551616 := by
  have := beN_bd h
  have := pow256 h8
  omega
end
section
open Go.RowKit

theorem octets_append_n (a : List Int) (v : Int) (n : Nat) (hn : n ≤ 8) (ha : a.length ≤ 140737488355320) : F_octets_Append_j1 a v n = some (a ++ beB v n) := by
  unfold F_octets_Append_j1
  have e1 : IntKind.wrap .i64 ((a.length : Int) + (n : Int)) = ((a.length + n : Nat) : Int) := by rw [wi (by omega) (by omega)]; rfl
  rw [e1]
  have e2 : mkO 1 ((a.length + n : Nat) : Int) ((a.length + n : Nat) : Int) = some (a.length + n) := by
    unfold mkO
    rw [if_pos ⟨by omega, by omega, by omega, by omega⟩, Int.toNat_natCast]
  rw [e2, Option.bind_some]
  have e3 : cpL (List.replicate (a.length + n) (0 : Int)) 0 (List.length (Cut.app .whole (List.replicate (a.length + n) (0 : Int)))) (Cut.app .whole a) = a ++ (beB v n).take 0 ++ List.replicate (n - 0) 0 := by
    unfold cpL
    simp only [Cut.app, List.length_replicate, List.take_zero, List.nil_append, List.append_nil, Nat.zero_add, Nat.sub_zero]
    rw [show min a.length (a.length + n) = a.length by omega, List.take_length, List.drop_replicate, show a.length + n - a.length = n by omega]
  rw [e3]
  have hl := loop_run (step := F_octets_Append_l2 n a v) (S := fun k => ((k : Int), a ++ (beB v n).take k ++ List.replicate (n - k) 0)) n (r := a ++ beB v n) (fun k hk => by
    unfold F_octets_Append_l2
    dsimp only
    have w1 : IntKind.wrap .i64 ((n : Int) - 1) = (n : Int) - 1 := wi (by omega) (by omega)
    have w2 : IntKind.wrap .i64 ((n : Int) - 1 - (k : Int)) = ((n - 1 - k : Nat) : Int) := by rw [wi (by omega) (by omega)]; omega
    have w3 : IntKind.wrap .i64 (8 * ((n - 1 - k : Nat) : Int)) = ((8 * (n - 1 - k) : Nat) : Int) := by rw [wi (by omega) (by omega)]; omega
    have w4 : IntKind.wrap .i64 ((a.length : Int) + (k : Int)) = ((a.length + k : Nat) : Int) := by rw [wi (by omega) (by omega)]; rfl
    have hlen : (a ++ (beB v n).take k ++ List.replicate (n - k) (0 : Int)).length = a.length + n := by
      simp only [List.length_append, List.length_take, beB_len, List.length_replicate]; omega
    rw [decT (show (k : Int) < (n : Int) by omega), w1, w2, w3, w4, decT (show (0 : Int) ≤ ((8 * (n - 1 - k) : Nat) : Int) by omega)]
    simp only [cond_true, Cut.app, Nat.zero_add, Int.toNat_natCast]
    rw [idx_lt (by omega), Option.bind_some, List.getElem?_eq_getElem (by omega), Option.bind_some, wk k (by omega), byte_eq (by omega) (by omega), Int.toNat_natCast]
    congr 3
    obtain ⟨m, hm⟩ : ∃ m, n - k = m + 1 := ⟨n - k - 1, by omega⟩
    rw [hm, List.replicate_succ, set_mid _ _ _ _ (by simp only [List.length_append, List.length_take, beB_len]; omega), take_snoc (beB_get hk), show n - (k + 1) = m by omega]
    simp) (by
    unfold F_octets_Append_l2
    dsimp only
    rw [decF (show ¬ (n : Int) < (n : Int) by omega)]
    simp only [cond_false]
    rw [List.take_of_length_le (by rw [beB_len]; exact Nat.le_refl _), Nat.sub_self]
    simp)
  simp only [Int.natCast_zero] at hl
  rw [hl]
  rfl
/-- octets.Append -/
theorem octets_append (a : List Int) (v : Int) (n : Nat) (hn : n ≤ 8) (ha : a.length ≤ 140737488355320) : F_octets_Append a v n = some (a ++ beB v n) := by
  unfold F_octets_Append
  rw [decF (show ¬ (n : Int) < 0 by omega), decF (show ¬ (n : Int) > 8 by omega)]
  exact octets_append_n a v n hn ha
/-- the reference's Append -/
theorem ref01_append (a : List Int) (v : Int) (n : Nat) (hn : n ≤ 8) (ha : a.length ≤ 140737488355320) : F_ref01_Append a v n = some (a ++ beB v n) := by
  unfold F_ref01_Append
  simp only [Cut.app]
  rw [appO_some (by simp; omega) (by simp; omega), Option.bind_some, decF (show ¬ (n : Int) < 0 by omega), decF (show ¬ (n : Int) > 8 by omega)]
  simp only [cond_false, List.nil_append]
  rw [wi (by omega) (by omega)]
  have hl := loop_run (step := F_ref01_Append_l1 v) (S := fun k => (a ++ (beB v n).take k, (n : Int) - 1 - (k : Int))) n (r := a ++ beB v n) (fun k hk => by
    unfold F_ref01_Append_l1
    dsimp only
    have w1 : IntKind.wrap .u64 ((n : Int) - 1 - (k : Int)) = (n : Int) - 1 - (k : Int) := wu (by omega) (by omega)
    have w2 : IntKind.wrap .u64 (8 * ((n : Int) - 1 - (k : Int))) = ((8 * (n - 1 - k) : Nat) : Int) := by rw [wu (by omega) (by omega)]; omega
    have w3 : IntKind.wrap .i64 ((n : Int) - 1 - (k : Int) - 1) = (n : Int) - 1 - ((k + 1 : Nat) : Int) := by rw [wi (by omega) (by omega)]; omega
    rw [decT (show (n : Int) - 1 - (k : Int) ≥ 0 by omega), w1, w2, w3, decT (show (0 : Int) ≤ ((8 * (n - 1 - k) : Nat) : Int) by omega)]
    simp only [cond_true, Cut.app]
    rw [appO_some (by simp only [List.length_append, List.length_take, beB_len, List.length_singleton]; omega) (by simp only [List.length_append, List.length_take, beB_len, List.length_singleton]; omega), Option.bind_some, byte_eq (by omega) (by omega), Int.toNat_natCast, take_snoc (beB_get hk), List.append_assoc]) (by
    unfold F_ref01_Append_l1
    dsimp only
    rw [decF (show ¬ (n : Int) - 1 - (n : Int) ≥ 0 by omega)]
    simp only [cond_false]
    rw [List.take_of_length_le (by rw [beB_len]; exact Nat.le_refl _)])
  simp only [Int.natCast_zero, List.take_zero, List.append_nil, Int.sub_zero] at hl
  rw [hl]
  rfl
end
section
open Go.RowKit

theorem oc2 (a : List Int) (v : Int) (ha : a.length ≤ 1000) : F_octets_Append a v 2 = some (a ++ beB v 2) := octets_append a v 2 (by omega) (by omega)
theorem rc2 (a : List Int) (v : Int) (ha : a.length ≤ 1000) : F_ref01_Append a v 2 = some (a ++ beB v 2) := ref01_append a v 2 (by omega) (by omega)
theorem oc4 (a : List Int) (v : Int) (ha : a.length ≤ 1000) : F_octets_Append a v 4 = some (a ++ beB v 4) := octets_append a v 4 (by omega) (by omega)
theorem rc4 (a : List Int) (v : Int) (ha : a.length ≤ 1000) : F_ref01_Append a v 4 = some (a ++ beB v 4) := ref01_append a v 4 (by omega) (by omega)
theorem oc8 (a : List Int) (v : Int) (ha : a.length ≤ 1000) : F_octets_Append a v 8 = some (a ++ beB v 8) := octets_append a v 8 (by omega) (by omega)
theorem rc8 (a : List Int) (v : Int) (ha : a.length ≤ 1000) : F_ref01_Append a v 8 = some (a ++ beB v 8) := ref01_append a v 8 (by omega) (by omega)
def A00 : S_Addr := S_Addr.mk 0 0 0
def AdrOk (a : S_Addr) : Prop := (a.Mode = 2 ∧ a.EUI = 0 ∧ 0 ≤ a.Short ∧ a.Short ≤ 65535) ∨ (a.Mode = 3 ∧ a.Short = 0 ∧ 0 ≤ a.EUI ∧ a.EUI ≤ 18446744073709551615)
def bcast (a : S_Addr) : Prop := a.Mode = 2 ∧ a.Short = 65535
def adrL (a : S_Addr) : List Int := if a.Mode = 2 then beB a.Short 2 else beB a.EUI 8
def flg (b : Bool) (n : Int) : Int := bif b then n else 0
/-- the first three bytes -/
def hd3 (f : S_Frame) : List Int := [64 * f.Kind + flg f.AckRequest 32 + flg f.Pending 16 + flg f.Secure 8, 64 * f.Dst.Mode + 16 * f.Src.Mode, f.Seq]
def adrs (f : S_Frame) : List Int := if f.Kind = 2 then [] else beB f.Pan 2 ++ adrL f.Dst ++ adrL f.Src
def secs (f : S_Frame) : List Int := bif f.Secure then beB f.Counter 4 ++ [f.Key] else []
def hdL (f : S_Frame) : List Int := hd3 f ++ adrs f ++ secs f ++ f.Payload
structure GoodF (f : S_Frame) : Prop where
  kind : f.Kind = 1 ∨ f.Kind = 2 ∨ f.Kind = 3
  seq : 0 ≤ f.Seq ∧ f.Seq ≤ 255
  ack : f.Kind = 2 → f = S_Frame.mk 2 false f.Pending false f.Seq 0 A00 A00 0 0 [] []
  adr : f.Kind ≠ 2 → AdrOk f.Dst ∧ AdrOk f.Src ∧ ¬ bcast f.Src ∧ (f.AckRequest = true → ¬ bcast f.Dst) ∧ 0 ≤ f.Pan ∧ f.Pan ≤ 65535
  sec : f.Secure = true → 0 ≤ f.Counter ∧ f.Counter ≤ 4294967295 ∧ 0 ≤ f.Key ∧ f.Key ≤ 255 ∧ f.MIC.length = 4
  nos : f.Secure = false → f.Counter = 0 ∧ f.Key = 0 ∧ f.MIC = []
  pay : okB f.Payload
  mic : okB f.MIC
  size : (hdL f).length + f.MIC.length + 2 ≤ 127

theorem adrL_len (a : S_Addr) : (adrL a).length = if a.Mode = 2 then 2 else 8 := by
  unfold adrL
  split <;> rw [beB_len]
theorem adrL_ok (a : S_Addr) : okB (adrL a) := by
  unfold adrL
  split
  · exact beB_ok _ _
  · exact beB_ok _ _
theorem adrL_le (a : S_Addr) : (adrL a).length ≤ 8 := by
  unfold adrL
  split <;> rw [beB_len] <;> omega
theorem hd3_len (f : S_Frame) : (hd3 f).length = 3 := rfl
theorem adrs_le (f : S_Frame) : (adrs f).length ≤ 18 := by
  have h1 := adrL_le f.Dst
  have h2 := adrL_le f.Src
  unfold adrs
  split
  · simp
  · simp only [List.length_append, beB_len]; omega
theorem secs_le (f : S_Frame) : (secs f).length ≤ 5 := by
  unfold secs
  cases f.Secure
  · simp
  · simp only [cond_true, List.length_append, beB_len, List.length_singleton]; omega
/-- the length, as the program counts it -/
def lenF (f : S_Frame) : Int := 3 + f.Payload.length + 2 + (if f.Kind = 2 then 0 else 2 + (if f.Dst.Mode = 2 then 2 else 8) + (if f.Src.Mode = 2 then 2 else 8)) + (bif f.Secure then 5 + (f.MIC.length : Int) else 0)
theorem lenF_eq {f : S_Frame} (h : GoodF f) : lenF f = ((hdL f).length : Int) + f.MIC.length + 2 := by
  have hs : ((secs f).length : Int) = (bif f.Secure then 5 else 0) := by
    unfold secs
    cases f.Secure
    · rfl
    · simp only [cond_true, List.length_append, beB_len, List.length_singleton]; rfl
  have ha : ((adrs f).length : Int) = (if f.Kind = 2 then 0 else 2 + (if f.Dst.Mode = 2 then 2 else 8) + (if f.Src.Mode = 2 then 2 else 8)) := by
    unfold adrs
    split
    · rfl
    · rename_i hk
      obtain ⟨d, s, _⟩ := h.adr hk
      simp only [List.length_append, beB_len, adrL_len]
      split <;> split <;> rfl
  have hm : f.Secure = false → f.MIC.length = 0 := fun e => by rw [(h.nos e).2.2]; rfl
  unfold lenF hdL
  simp only [List.length_append, hd3_len]
  cases hc : f.Secure
  · rw [hc] at hs
    simp only [cond_false] at hs ⊢
    have := hm hc
    omega
  · rw [hc] at hs
    simp only [cond_true] at hs ⊢
    omega

theorem f_addrBytes {a : S_Addr} (h : AdrOk a) : F_frame_addrBytes a = some (if a.Mode = 2 then 2 else 8) := by
  unfold F_frame_addrBytes
  rcases h with h | h
  · rw [h.1]; rfl
  · rw [h.1]; rfl
theorem f_length {f : S_Frame} (h : GoodF f) : F_frame_length f = some (lenF f) := by
  have hp : (f.Payload.length : Int) ≤ 127 := by
    have := h.size
    unfold hdL at this
    simp only [List.length_append] at this
    omega
  have hm : (f.MIC.length : Int) ≤ 127 := by have := h.size; omega
  unfold F_frame_length F_frame_length_j1 F_frame_length_j2 lenF
  by_cases hk : f.Kind = 2
  · rw [show (f.Kind != 2) = false by simp [hk], if_pos hk]
    simp only [cond_false]
    cases f.Secure
    · simp only [cond_false]
      rw [wi (x := 3 + (f.Payload.length : Int)) (by omega) (by omega), wi (by omega) (by omega)]
      congr 1
    · simp only [cond_true]
      rw [wi (x := 3 + (f.Payload.length : Int)) (by omega) (by omega), wi (x := 3 + (f.Payload.length : Int) + 2) (by omega) (by omega), wi (x := 5 + (f.MIC.length : Int)) (by omega) (by omega), wi (by omega) (by omega)]
      congr 1
  · obtain ⟨d, s, _⟩ := h.adr hk
    rw [show (f.Kind != 2) = true by simp [hk], if_neg hk, f_addrBytes d, f_addrBytes s]
    simp only [cond_true, Option.bind_some]
    generalize ea : (if f.Dst.Mode = 2 then (2 : Int) else 8) = x
    generalize eb : (if f.Src.Mode = 2 then (2 : Int) else 8) = y
    have hx : 0 ≤ x ∧ x ≤ 8 := by rw [← ea]; split <;> omega
    have hy : 0 ≤ y ∧ y ≤ 8 := by rw [← eb]; split <;> omega
    rw [wi (x := 3 + (f.Payload.length : Int)) (by omega) (by omega), wi (x := 3 + (f.Payload.length : Int) + 2) (by omega) (by omega), wi (x := 2 + x) (by omega) (by omega), wi (x := 2 + x + y) (by omega) (by omega), wi (x := 3 + (f.Payload.length : Int) + 2 + (2 + x + y)) (by omega) (by omega)]
    cases f.Secure
    · simp only [cond_false]
      congr 1; omega
    · simp only [cond_true]
      rw [wi (x := 5 + (f.MIC.length : Int)) (by omega) (by omega), wi (by omega) (by omega)]
theorem f_avalid {a : S_Addr} (h : AdrOk a) : F_address_Valid a = some true := by
  unfold F_address_Valid
  rcases h with h | h
  · rw [h.1, h.2.1]; rfl
  · rw [h.1, h.2.1]; rfl
theorem f_amode {a : S_Addr} (h : AdrOk a) : (a.Mode == 0) = false := by
  rcases h with h | h
  · rw [h.1]; rfl
  · rw [h.1]; rfl
theorem f_abc {a : S_Addr} (h : ¬ bcast a) : F_address_IsBroadcast a = some false := by
  unfold F_address_IsBroadcast S_Addr.eqb
  by_cases h1 : a.Mode = 2
  · have h2 : a.Short ≠ 65535 := fun e => h ⟨h1, e⟩
    simp [h2]
  · simp [h1]
theorem f_valid {f : S_Frame} (h : GoodF f) : F_frame_Valid f = some true := by
  unfold F_frame_Valid F_frame_Valid_j1
  by_cases hk : f.Kind = 2
  · have e := h.ack hk
    rw [e]
    rfl
  · obtain ⟨d, s, nb, na, _⟩ := h.adr hk
    have hv : F_frame_validData f = some true := by
      have hl : decide (lenF f ≤ 127) = true := by
        rw [lenF_eq h]
        have := h.size
        exact decT (by omega)
      unfold F_frame_validData
      rw [f_avalid d, f_avalid s, f_amode d, f_amode s, f_abc nb, f_length h]
      simp only [Option.bind_some, cond_true, cond_false, hl]
      cases ha : f.AckRequest
      · cases hs : f.Secure
        · obtain ⟨c, k, m⟩ := h.nos hs
          rw [c, k, m]
          rfl
        · obtain ⟨_, _, _, _, m⟩ := h.sec hs
          rw [m]
          rfl
      · rw [f_abc (na ha)]
        cases hs : f.Secure
        · obtain ⟨c, k, m⟩ := h.nos hs
          rw [c, k, m]
          rfl
        · obtain ⟨_, _, _, _, m⟩ := h.sec hs
          rw [m]
          rfl
    rw [hv, show (f.Kind == 2) = false by simp [hk]]
    rcases h.kind with e | e | e
    · rw [e]; rfl
    · exact absurd e hk
    · rw [e]; rfl
theorem f_adr (l : List Int) {a : S_Addr} (h : AdrOk a) (hl : l.length ≤ 1000) : F_frame_appendAddr l a = some (l ++ adrL a) := by
  unfold F_frame_appendAddr adrL
  rcases h with h | h
  · rw [h.1, wu (x := a.Short) (by omega) (by omega)]
    simp only [BEq.rfl, cond_true, if_true]
    rw [oc2 l a.Short (by omega)]; rfl
  · rw [h.1]
    rw [show ((3 : Int) == 2) = false by rfl, if_neg (show ¬ (3 : Int) = 2 by omega)]
    simp only [cond_false]
    rw [oc8 l a.EUI (by omega)]; rfl
theorem f_flag (b : Bool) (n : Int) : F_frame_flag b n = some (flg b n) := by cases b <;> rfl
theorem f_byte0 (k : Int) (a p s : Bool) (h : k = 1 ∨ k = 2 ∨ k = 3) : ior .u8 (ior .u8 (ior .u8 (ishl .u8 (IntKind.wrap .u8 k) 6) (flg a 32)) (flg p 16)) (flg s 8) = 64 * k + flg a 32 + flg p 16 + flg s 8 := by
  rcases h with rfl | rfl | rfl <;> cases a <;> cases p <;> cases s <;> decide
theorem f_byte1 (k s : Int) (h : k = 0 ∨ k = 2 ∨ k = 3) (h' : s = 0 ∨ s = 2 ∨ s = 3) : ior .u8 (ishl .u8 (IntKind.wrap .u8 k) 6) (ishl .u8 (IntKind.wrap .u8 s) 4) = 64 * k + 16 * s := by
  rcases h with rfl | rfl | rfl <;> rcases h' with rfl | rfl | rfl <;> decide
theorem adr_mode {a : S_Addr} (h : AdrOk a) : a.Mode = 0 ∨ a.Mode = 2 ∨ a.Mode = 3 := by
  rcases h with h | h
  · exact Or.inr (Or.inl h.1)
  · exact Or.inr (Or.inr h.1)
theorem good_modes {f : S_Frame} (h : GoodF f) : (f.Dst.Mode = 0 ∨ f.Dst.Mode = 2 ∨ f.Dst.Mode = 3) ∧ (f.Src.Mode = 0 ∨ f.Src.Mode = 2 ∨ f.Src.Mode = 3) := by
  by_cases hk : f.Kind = 2
  · rw [h.ack hk]
    exact ⟨Or.inl rfl, Or.inl rfl⟩
  · obtain ⟨d, s, _⟩ := h.adr hk
    exact ⟨adr_mode d, adr_mode s⟩
theorem good_pay {f : S_Frame} (h : GoodF f) : f.Payload.length ≤ 127 ∧ f.MIC.length ≤ 127 := by
  have := h.size
  unfold hdL at this
  simp only [List.length_append] at this
  omega
theorem f_j2 {f : S_Frame} (h : GoodF f) (l : List Int) (hl : l.length ≤ 100) : F_frame_Header_j2 f l = some (l ++ secs f ++ f.Payload) := by
  have hp := (good_pay h).1
  unfold F_frame_Header_j2 F_frame_Header_j3 secs
  cases hs : f.Secure
  · simp only [cond_false, Cut.app, List.append_nil]
    rw [appO_some (by omega) (by omega)]; rfl
  · obtain ⟨c0, c1, k0, k1, _⟩ := h.sec hs
    simp only [cond_true, Cut.app]
    rw [wu (x := f.Counter) c0 (by omega), oc4 l f.Counter (by omega), Option.bind_some, appO_some (by simp only [List.length_append, beB_len, List.length_singleton]; omega) (by simp only [List.length_append, beB_len, List.length_singleton]; omega), Option.bind_some, appO_some (by simp only [List.length_append, beB_len, List.length_singleton]; omega) (by simp only [List.length_append, beB_len, List.length_singleton]; omega), Option.bind_some, List.append_assoc l]
theorem f_header {f : S_Frame} (h : GoodF f) : F_frame_Header f = some (hdL f) := by
  unfold F_frame_Header
  rw [f_valid h]
  simp only [Option.bind_some, cond_true]
  unfold F_frame_Header_j1
  obtain ⟨md, ms⟩ := good_modes h
  rw [f_flag, f_flag, f_flag]
  simp only [Option.bind_some]
  rw [f_byte0 _ _ _ _ h.kind, f_byte1 _ _ md ms]
  by_cases hk : f.Kind = 2
  · rw [show (f.Kind != 2) = false by simp [hk]]
    simp only [cond_false]
    rw [f_j2 h _ (by simp)]
    unfold hdL adrs hd3
    rw [if_pos hk, List.append_nil]
  · obtain ⟨d, s, _, _, p0, p1⟩ := h.adr hk
    have l1 := adrL_le f.Dst
    have l2 := adrL_le f.Src
    rw [show (f.Kind != 2) = true by simp [hk]]
    simp only [cond_true]
    rw [wu (x := f.Pan) p0 (by omega), oc2 _ f.Pan (by simp), Option.bind_some, f_adr _ d (by simp [beB_len]), Option.bind_some, f_adr _ s (by simp only [List.length_append, List.length_cons, List.length_nil, beB_len]; omega), Option.bind_some, f_j2 h _ (by simp only [List.length_append, List.length_cons, List.length_nil, beB_len]; omega)]
    unfold hdL adrs hd3
    rw [if_neg hk]
    simp only [List.append_assoc]

def tB (a : BitVec 16) : BitVec 16 := bif a.getLsbD 0 then (a >>> 1) ^^^ 33800#16 else a >>> 1
theorem flg_bd (b : Bool) {n : Int} (h : 0 ≤ n) : 0 ≤ flg b n ∧ flg b n ≤ n := by cases b <;> simp [flg] <;> omega
theorem hd3_ok {f : S_Frame} (h : GoodF f) : okB (hd3 f) := by
  obtain ⟨md, ms⟩ := good_modes h
  have h1 := flg_bd f.AckRequest (n := 32) (by omega)
  have h2 := flg_bd f.Pending (n := 16) (by omega)
  have h3 := flg_bd f.Secure (n := 8) (by omega)
  have hk := h.kind
  refine okB_cons (by omega) (okB_cons (by omega) (okB_one h.seq))
theorem hdL_ok {f : S_Frame} (h : GoodF f) : okB (hdL f) := by
  unfold hdL
  refine (((hd3_ok h).append ?_).append ?_).append h.pay
  · unfold adrs
    split
    · exact okB_nil
    · exact ((beB_ok _ _).append (adrL_ok _)).append (adrL_ok _)
  · unfold secs
    cases hs : f.Secure
    · exact okB_nil
    · obtain ⟨_, _, k0, k1, _⟩ := h.sec hs
      exact (beB_ok _ _).append (okB_one ⟨k0, k1⟩)
theorem r_flag (b : Bool) (n : Int) : F_ref05_flag b n = some (flg b n) := by cases b <;> rfl
theorem r_adr (l : List Int) {a : S_Addr} (h : AdrOk a) (hl : l.length ≤ 1000) : F_ref05_addr_G0 l a = some (l ++ adrL a) := by
  unfold F_ref05_addr_G0 adrL
  rcases h with h | h
  · rw [h.1, wu (x := a.Short) (by omega) (by omega)]
    simp only [BEq.rfl, cond_true, if_true]
    rw [rc2 l a.Short (by omega), Option.bind_some, decT (by simp [beB_len])]; rfl
  · rw [h.1]
    rw [show ((3 : Int) == 2) = false by rfl, show ((3 : Int) == 3) = true by rfl, if_neg (show ¬ (3 : Int) = 2 by omega)]
    simp only [cond_false, cond_true]
    rw [rc8 l a.EUI (by omega), Option.bind_some, decT (by simp [beB_len])]; rfl
theorem r_byte0 (k : Int) (a p s : Bool) (h : k = 1 ∨ k = 2 ∨ k = 3) : IntKind.wrap .u8 (IntKind.wrap .i64 ((IntKind.wrap .i64 ((IntKind.wrap .i64 ((IntKind.wrap .i64 (64 * k)) + flg a 32)) + flg p 16)) + flg s 8)) = 64 * k + flg a 32 + flg p 16 + flg s 8 := by
  rcases h with rfl | rfl | rfl <;> cases a <;> cases p <;> cases s <;> decide
theorem r_byte1 (k s : Int) (h : k = 0 ∨ k = 2 ∨ k = 3) (h' : s = 0 ∨ s = 2 ∨ s = 3) : IntKind.wrap .u8 (IntKind.wrap .i64 ((IntKind.wrap .i64 (64 * k)) + (IntKind.wrap .i64 (16 * s)))) = 64 * k + 16 * s := by
  rcases h with rfl | rfl | rfl <;> rcases h' with rfl | rfl | rfl <;> decide
theorem r_j1 {f : S_Frame} (h : GoodF f) (l : List Int) (hl : l.length ≤ 100) : F_ref05_header_j1 f l = some (l ++ secs f ++ f.Payload) := by
  have hp := (good_pay h).1
  unfold F_ref05_header_j1 F_ref05_header_j2 secs
  cases hs : f.Secure
  · simp only [cond_false, Cut.app, List.append_nil]
    rw [appO_some (by omega) (by omega)]; rfl
  · obtain ⟨c0, c1, k0, k1, _⟩ := h.sec hs
    simp only [cond_true, Cut.app]
    rw [wu (x := f.Counter) c0 (by omega), rc4 l f.Counter (by omega), Option.bind_some, appO_some (by simp only [List.length_append, beB_len, List.length_singleton]; omega) (by simp only [List.length_append, beB_len, List.length_singleton]; omega), Option.bind_some, appO_some (by simp only [List.length_append, beB_len, List.length_singleton]; omega) (by simp only [List.length_append, beB_len, List.length_singleton]; omega), Option.bind_some, List.append_assoc l]
theorem r_header {f : S_Frame} (h : GoodF f) : F_ref05_header f = some (hdL f) := by
  unfold F_ref05_header
  obtain ⟨md, ms⟩ := good_modes h
  rw [r_flag, r_flag, r_flag]
  simp only [Option.bind_some]
  rw [r_byte0 _ _ _ _ h.kind, r_byte1 _ _ md ms]
  by_cases hk : f.Kind = 2
  · rw [show (f.Kind != 2) = false by simp [hk]]
    simp only [cond_false]
    rw [r_j1 h _ (by simp)]
    unfold hdL adrs hd3
    rw [if_pos hk, List.append_nil]
  · obtain ⟨d, s, _, _, p0, p1⟩ := h.adr hk
    have l1 := adrL_le f.Dst
    have l2 := adrL_le f.Src
    rw [show (f.Kind != 2) = true by simp [hk]]
    simp only [cond_true]
    rw [wu (x := f.Pan) p0 (by omega), rc2 _ f.Pan (by simp), Option.bind_some, r_adr _ d (by simp [beB_len]), Option.bind_some, r_adr _ s (by simp only [List.length_append, List.length_cons, List.length_nil, beB_len]; omega), Option.bind_some, r_j1 h _ (by simp only [List.length_append, List.length_cons, List.length_nil, beB_len]; omega)]
    unfold hdL adrs hd3
    rw [if_neg hk]
    simp only [List.append_assoc]
theorem r_avalid {a : S_Addr} (h : AdrOk a) : F_ref04_Valid a = some true := by
  unfold F_ref04_Valid
  rcases h with h | h
  · rw [h.1, h.2.1]; rfl
  · rw [h.1, h.2.1]; rfl
theorem r_some {a : S_Addr} (h : AdrOk a) : F_ref04_Some a = some true := by
  unfold F_ref04_Some
  rw [r_avalid h]
  rcases h with h | h
  · rw [h.1]; rfl
  · rw [h.1]; rfl
theorem r_abc {a : S_Addr} (h : AdrOk a) (hb : ¬ bcast a) : F_ref04_IsBroadcast a = some false := by
  unfold F_ref04_IsBroadcast
  rw [r_avalid h]
  simp only [Option.bind_some, cond_true]
  rcases h with h | h
  · rw [h.1]
    have : a.Short ≠ 65535 := fun e => hb ⟨h.1, e⟩
    simp [this]
  · rw [h.1]; rfl
theorem r_one {a : S_Addr} (h : AdrOk a) (hb : ¬ bcast a) : F_ref04_One a = some true := by
  unfold F_ref04_One
  rw [r_some h, r_abc h hb]
  rfl
theorem good_ack (s : Int) (p : Bool) (hs : 0 ≤ s ∧ s ≤ 255) : GoodF (S_Frame.mk 2 false p false s 0 (S_Addr.mk 0 0 0) (S_Addr.mk 0 0 0) 0 0 [] []) where
  kind := Or.inr (Or.inl rfl)
  seq := hs
  ack := fun _ => rfl
  adr := fun e => absurd rfl e
  sec := fun e => by cases e
  nos := fun _ => ⟨rfl, rfl, rfl⟩
  pay := okB_nil
  mic := okB_nil
  size := by
    show (5 : Nat) ≤ 127
    omega
end
section
open Go.RowKit

structure TapeOk (t : S_multihopmade_Tape) : Prop where
  at0 : 0 ≤ t.at_
  at1 : t.at_ ≤ t.l.length
  len : t.l.length ≤ 400
theorem new_spec (l : List Int) : ∃ t, F_made_New l = some t ∧ TapeOk t := by
  unfold F_made_New F_made_New_j1
  by_cases h : (l.length : Int) > 400
  · rw [decT h, subO_some (by omega) (by omega) (by omega)]
    exact ⟨_, rfl, by simp, by simp, by simp; omega⟩
  · rw [decF h]
    exact ⟨_, rfl, by simp, by simp, by simp; omega⟩
theorem rem_spec (x n : Int) (h1 : 1 ≤ n) (h2 : n ≤ 4611686018427387904) : -4611686018427387904 < Int.tmod x n ∧ Int.tmod x n < n ∧ -n < Int.tmod x n := by
  have a := Int.tmod_lt_of_pos x (show 0 < n by omega)
  have b := Int.lt_tmod_of_pos x (show 0 < n by omega)
  omega
theorem next_spec {t : S_multihopmade_Tape} (h : TapeOk t) (n : Int) (h1 : 1 ≤ n) (h2 : n ≤ 4611686018427387904) : ∃ v t', F_made_Tape_Next t n = some (v, t') ∧ 0 ≤ v ∧ v < n ∧ TapeOk t' := by
  unfold F_made_Tape_Next F_made_Tape_Next_j1
  have a0 := h.at0
  have a1 := h.at1
  have a2 := h.len
  by_cases hc : t.at_ ≥ (t.l.length : Int)
  · rw [decT hc]
    exact ⟨0, t, rfl, by omega, by omega, h⟩
  · rw [decF hc, idx_int a0 (by omega)]
    simp only [cond_false, Option.bind_some, show decide (n ≠ 0) = true by simp; omega, cond_true]
    obtain ⟨r1, r2, r3⟩ := rem_spec (t.l[t.at_.toNat]'(by omega)) n h1 h2
    generalize Int.tmod (t.l[t.at_.toNat]'(by omega)) n = q at *
    have ew : IntKind.wrap .i64 (t.at_ + 1) = t.at_ + 1 := wi (by omega) (by omega)
    have hok : TapeOk ⟨t.l, t.at_ + 1⟩ := ⟨by dsimp only; omega, by dsimp only; omega, h.len⟩
    rw [ew]
    by_cases hq : q < 0
    · rw [decT hq, wi (by omega) (by omega)]
      exact ⟨q + n, _, rfl, by omega, by omega, hok⟩
    · rw [decF hq]
      exact ⟨q, _, rfl, by omega, by omega, hok⟩
end
section
open Go.RowKit

theorem bool_spec {t : S_multihopmade_Tape} (h : TapeOk t) (n : Int) (h1 : 1 ≤ n) (h2 : n ≤ 4611686018427387904) : ∃ v t', F_made_Tape_Bool t n = some (v, t') ∧ TapeOk t' := by
  unfold F_made_Tape_Bool
  obtain ⟨v, t', e, _, _, k⟩ := next_spec h n h1 h2
  rw [e]
  exact ⟨_, _, rfl, k⟩
end
section
open Go.RowKit

theorem bytes_spec {t : S_multihopmade_Tape} (h : TapeOk t) (n : Nat) (hn : n ≤ 1000000) : ∃ l t', F_made_Tape_Bytes t n = some (l, t') ∧ okB l ∧ l.length ≤ n ∧ TapeOk t' := by
  unfold F_made_Tape_Bytes
  rw [show IntKind.wrap .i64 ((n : Int) + 1) = ((n + 1 : Nat) : Int) by rw [wi (by omega) (by omega)]; rfl]
  obtain ⟨v, t1, e1, h0, h1, k1⟩ := next_spec h ((n + 1 : Nat) : Int) (by omega) (by omega)
  rw [e1, Option.bind_some]
  have e2 : mkO 1 v v = some v.toNat := by
    unfold mkO
    rw [if_pos ⟨by omega, by omega, by omega, by omega⟩]
  dsimp only
  rw [e2, Option.bind_some]
  obtain ⟨r, hr, q⟩ := loop_inv (step := F_made_Tape_Bytes_l1) (fun s => 0 ≤ s.1 ∧ s.1 ≤ v ∧ TapeOk s.2.1 ∧ okB s.2.2 ∧ s.2.2.length = v.toNat) (fun r => TapeOk r.1 ∧ okB r.2 ∧ r.2.length = v.toNat) (fun s => (v - s.1).toNat) (by
    rintro ⟨i, t2, l⟩ ⟨a0, a1, a2, a3, a4⟩
    dsimp only at a0 a1 a2 a3 a4
    unfold F_made_Tape_Bytes_l1
    dsimp only
    by_cases hi : i < (l.length : Int)
    · left
      obtain ⟨w, t3, e3, b0, b1, k3⟩ := next_spec a2 256 (by omega) (by omega)
      rw [decT hi, e3]
      simp only [cond_true, Option.bind_some, Cut.app, Nat.zero_add]
      rw [idx_int a0 hi, Option.bind_some, List.getElem?_eq_getElem (by omega), Option.bind_some, wi (by omega) (by omega), wu8 (by omega) (by omega)]
      refine ⟨_, rfl, ⟨by dsimp only; omega, by dsimp only; omega, k3, a3.set _ (by omega), by simp only [List.length_set]; exact a4⟩, by dsimp only; omega⟩
    · right
      rw [decF hi]
      exact ⟨_, rfl, a2, a3, a4⟩) (0, t1, List.replicate v.toNat 0) ⟨by dsimp only; omega, h0, k1, fun z hz => by rw [(List.mem_replicate.1 hz).2]; omega, by simp⟩
  rw [hr, Option.bind_some]
  exact ⟨_, _, rfl, q.2.1, by rw [q.2.2]; omega, q.1⟩
end
section
open Go.RowKit

theorem word_spec {t : S_multihopmade_Tape} (h : TapeOk t) : ∃ v t', F_made_Tape_Word t = some (v, t') ∧ TapeOk t' := by
  unfold F_made_Tape_Word
  obtain ⟨v1, t1, e1, _, _, k1⟩ := next_spec h 65536 (by omega) (by omega)
  obtain ⟨v2, t2, e2, _, _, k2⟩ := next_spec k1 5 (by omega) (by omega)
  simp only [e1, e2, Option.bind_some]
  cases v2 == 0
  · cases v2 == 1
    · cases v2 == 2
      · cases v2 == 3
        · exact ⟨_, _, rfl, k2⟩
        · exact ⟨_, _, rfl, k2⟩
      · exact ⟨_, _, rfl, k2⟩
    · exact ⟨_, _, rfl, k2⟩
  · exact ⟨_, _, rfl, k2⟩
end
section
open Go.RowKit

theorem device_spec {t : S_multihopmade_Tape} (h : TapeOk t) : ∃ a t', F_made_Tape_Device t = some (a, t') ∧ AdrOk a ∧ ¬ bcast a ∧ TapeOk t' := by
  unfold F_made_Tape_Device
  obtain ⟨v1, t1, e1, a0, a1, k1⟩ := next_spec h 5 (by omega) (by omega)
  obtain ⟨v2, t2, e2, k2⟩ := bool_spec k1 2 (by omega) (by omega)
  simp only [e1, e2, Option.bind_some]
  cases v2
  · refine ⟨_, _, rfl, Or.inl ⟨rfl, rfl, ?_⟩, ?_, k2⟩
    · dsimp only
      rw [wrap16]; omega
    · rintro ⟨_, e⟩
      dsimp only at e
      rw [wrap16] at e
      omega
  · refine ⟨_, _, rfl, Or.inr ⟨rfl, rfl, ?_⟩, ?_, k2⟩
    · dsimp only
      rw [wrap64]; omega
    · rintro ⟨e, _⟩
      dsimp only at e
      omega
theorem hd_le (f : S_Frame) : (hdL f).length ≤ 26 + f.Payload.length := by
  have h1 := adrs_le f
  have h2 := secs_le f
  unfold hdL
  simp only [List.length_append, hd3_len]
  omega
/-- a plain frame -/
theorem good_plain {k : Int} (hk : k = 1 ∨ k = 3) {a p : Bool} {s n : Int} {d c : S_Addr} {l : List Int} (hs : 0 ≤ s ∧ s ≤ 255) (hn : 0 ≤ n ∧ n ≤ 65535) (hd : AdrOk d) (hc : AdrOk c) (hb : ¬ bcast c) (ha : a = true → ¬ bcast d) (hl : okB l) (hz : l.length ≤ 60) : GoodF (S_Frame.mk k a p false s n d c 0 0 l []) where
  kind := by dsimp only; omega
  seq := hs
  ack := fun e => by dsimp only at e; omega
  adr := fun _ => ⟨hd, hc, hb, ha, hn⟩
  sec := fun e => by cases e
  nos := fun _ => ⟨rfl, rfl, rfl⟩
  pay := hl
  mic := okB_nil
  size := by
    have := hd_le (S_Frame.mk k a p false s n d c 0 0 l [])
    dsimp only at this
    dsimp only [List.length_nil]
    omega
theorem good_secure {f : S_Frame} (h : GoodF f) (hk : f.Kind ≠ 2) (hp : f.Payload.length ≤ 60) {c k : Int} {m : List Int} (hc : 0 ≤ c ∧ c ≤ 4294967295) (hy : 0 ≤ k ∧ k ≤ 255) (hm : okB m) (hl : m.length = 4) : GoodF (S_Frame.mk f.Kind f.AckRequest f.Pending true f.Seq f.Pan f.Dst f.Src c k f.Payload m) where
  kind := h.kind
  seq := h.seq
  ack := fun e => absurd e hk
  adr := fun _ => h.adr hk
  sec := fun _ => ⟨hc.1, hc.2, hy.1, hy.2, hl⟩
  nos := fun e => by cases e
  pay := h.pay
  mic := hm
  size := by
    have := hd_le (S_Frame.mk f.Kind f.AckRequest f.Pending true f.Seq f.Pan f.Dst f.Src c k f.Payload m)
    dsimp only at this ⊢
    omega
end
section
open Go.RowKit

theorem addr_refl (a : S_Addr) : S_Addr.eqb a a = true := by
  unfold S_Addr.eqb
  simp
end
section
open Go.RowKit

theorem same_refl (a : List Int) (ha : a.length ≤ 1000000000000) : F_ref01_Same a a = some true := by
  unfold F_ref01_Same
  rw [show ((a.length : Int) != (a.length : Int)) = false by simp]
  simp only [cond_false]
  have hl := loop_run (step := F_ref01_Same_l1 a a) (S := fun k => (k : Int)) a.length (r := Sum.inl ()) (fun k hk => by
    unfold F_ref01_Same_l1
    rw [decT (show (k : Int) < (a.length : Int) by omega), idx_lt hk, wk k (by omega)]
    simp) (by
    unfold F_ref01_Same_l1
    rw [decF (show ¬ (a.length : Int) < (a.length : Int) by omega)]
    rfl)
  simp only [Int.natCast_zero] at hl
  rw [hl]
  rfl
theorem same_spec (a b : List Int) (ha : a.length ≤ 1000000000000) : F_ref01_Same a b = some (decide (a = b)) := by
  by_cases he : a = b
  · subst he
    rw [same_refl a ha]; simp
  unfold F_ref01_Same
  by_cases hn : a.length = b.length
  · rw [show ((a.length : Int) != (b.length : Int)) = false by simp [hn]]
    simp only [cond_false]
    rcases loop_first (step := F_ref01_Same_l1 a b) (S := fun k => (k : Int)) a.length (p := fun k => a[k]? == b[k]?) (out := fun _ => Sum.inr false) (re := Sum.inl ()) (fun k hk hp => by
      unfold F_ref01_Same_l1
      rw [decT (show (k : Int) < (a.length : Int) by omega), idx_lt hk, idx_lt (by omega : k < b.length), wk k (by omega)]
      rw [List.getElem?_eq_getElem hk, List.getElem?_eq_getElem (by omega : k < b.length)] at hp
      have : a[k] = b[k] := by simpa using hp
      simp [this]) (fun k hk hp => by
      unfold F_ref01_Same_l1
      rw [decT (show (k : Int) < (a.length : Int) by omega), idx_lt hk, idx_lt (by omega : k < b.length)]
      rw [List.getElem?_eq_getElem hk, List.getElem?_eq_getElem (by omega : k < b.length)] at hp
      have : (a[k] != b[k]) = true := by simpa using hp
      simp only [Option.bind_some, cond_true, this]) (by
      unfold F_ref01_Same_l1
      rw [decF (show ¬ (a.length : Int) < (a.length : Int) by omega)]
      rfl) with ⟨k, hk, hp, _, hl⟩ | ⟨hall, hl⟩
    · simp only [Int.natCast_zero] at hl
      rw [hl]
      simp [he]
    · refine absurd (List.ext_getElem? fun k => ?_) he
      by_cases hk : k < a.length
      · simpa using hall k hk
      · rw [List.getElem?_eq_none (by omega), List.getElem?_eq_none (by omega)]
  · rw [show ((a.length : Int) != (b.length : Int)) = true by simp; omega]
    simp [he]
end
section
open Go.RowKit

theorem bF {a b : Int} (h : a ≠ b) : (a == b) = false := beq_eq_false_iff_ne.2 h
theorem bT {a b : Int} (h : a = b) : (a == b) = true := beq_iff_eq.2 h
structure AdrWf (a : S_Addr) : Prop where
  short : 0 ≤ a.Short ∧ a.Short ≤ 65535
  eui : 0 ≤ a.EUI ∧ a.EUI ≤ 18446744073709551615
instance (a : S_Addr) : Decidable (AdrOk a) := by unfold AdrOk; infer_instance
instance (a : S_Addr) : Decidable (bcast a) := by unfold bcast; infer_instance
structure WfF (f : S_Frame) : Prop where
  seq : 0 ≤ f.Seq ∧ f.Seq ≤ 255
  pan : 0 ≤ f.Pan ∧ f.Pan ≤ 65535
  dst : AdrWf f.Dst
  src : AdrWf f.Src
  cnt : 0 ≤ f.Counter ∧ f.Counter ≤ 4294967295
  key : 0 ≤ f.Key ∧ f.Key ≤ 255
  pay : okB f.Payload
  payl : f.Payload.length ≤ 140737488351232
  mic : okB f.MIC
  micl : f.MIC.length ≤ 140737488351232
/-- what the place of a frame allows: the length may be counted, the header may be built -/
structure HdOk (f : S_Frame) : Prop where
  wf : WfF f
  kind : f.Kind = 1 ∨ f.Kind = 3
  dst : AdrOk f.Dst
  src : AdrOk f.Src
theorem HdOk.k2 {f : S_Frame} (h : HdOk f) : f.Kind ≠ 2 := by have := h.kind; omega
theorem avalid_not {a : S_Addr} (w : AdrWf a) (h : ¬ AdrOk a) : F_address_Valid a = some false ∨ (F_address_Valid a = some true ∧ a.Mode = 0) := by
  have h1 := w.short
  have h2 := w.eui
  unfold F_address_Valid
  by_cases m0 : a.Mode = 0
  · rw [m0]
    cases S_Addr.eqb a (S_Addr.mk 0 0 0)
    · exact Or.inl rfl
    · exact Or.inr ⟨rfl, rfl⟩
  refine Or.inl ?_
  rw [bF m0]
  by_cases m2 : a.Mode = 2
  · have : a.EUI ≠ 0 := fun e => h (Or.inl ⟨m2, e, h1⟩)
    rw [bT m2, bF this]; rfl
  by_cases m3 : a.Mode = 3
  · have : a.Short ≠ 0 := fun e => h (Or.inr ⟨m3, e, h2⟩)
    rw [bF m2, bT m3, bF this]; rfl
  · rw [bF m2, bF m3]; rfl
theorem ravalid_not {a : S_Addr} (w : AdrWf a) (h : ¬ AdrOk a) : F_ref04_Some a = some false := by
  have h1 := w.short
  have h2 := w.eui
  unfold F_ref04_Some F_ref04_Valid
  by_cases m0 : a.Mode = 0
  · rw [m0]
    cases a.Short == 0
    · rfl
    · cases a.EUI == 0 <;> rfl
  rw [bF m0]
  by_cases m2 : a.Mode = 2
  · have : a.EUI ≠ 0 := fun e => h (Or.inl ⟨m2, e, h1⟩)
    rw [bT m2, bF this]; rfl
  by_cases m3 : a.Mode = 3
  · have : a.Short ≠ 0 := fun e => h (Or.inr ⟨m3, e, h2⟩)
    rw [bF m2, bT m3, bF this]; rfl
  · rw [bF m2, bF m3]; rfl
theorem abc_yes {a : S_Addr} (w : AdrOk a) (h : bcast a) : F_address_IsBroadcast a = some true := by
  unfold F_address_IsBroadcast S_Addr.eqb
  rcases w with w | w
  · rw [h.1, h.2, w.2.1]; rfl
  · have := h.1; omega
theorem rabc_yes {a : S_Addr} (w : AdrOk a) (h : bcast a) : F_ref04_IsBroadcast a = some true := by
  unfold F_ref04_IsBroadcast
  rw [r_avalid w, h.1, h.2]; rfl
theorem rone_no {a : S_Addr} (w : AdrOk a) (h : bcast a) : F_ref04_One a = some false := by
  unfold F_ref04_One
  rw [r_some w, rabc_yes w h]; rfl
theorem rone_not {a : S_Addr} (w : AdrWf a) (h : ¬ AdrOk a) : F_ref04_One a = some false := by
  unfold F_ref04_One
  rw [ravalid_not w h]; rfl
theorem len_any {f : S_Frame} (h : HdOk f) : F_frame_length f = some (lenF f) ∧ 0 ≤ lenF f ∧ lenF f ≤ 281474976702600 := by
  have hp := h.wf.payl
  have hm := h.wf.micl
  unfold F_frame_length F_frame_length_j1 F_frame_length_j2 lenF
  rw [show (f.Kind != 2) = true by simp [h.k2], if_neg h.k2, f_addrBytes h.dst, f_addrBytes h.src]
  simp only [cond_true, Option.bind_some]
  generalize ea : (if f.Dst.Mode = 2 then (2 : Int) else 8) = x
  generalize eb : (if f.Src.Mode = 2 then (2 : Int) else 8) = y
  have hx : 0 ≤ x ∧ x ≤ 8 := by rw [← ea]; split <;> omega
  have hy : 0 ≤ y ∧ y ≤ 8 := by rw [← eb]; split <;> omega
  rw [wi (x := 3 + (f.Payload.length : Int)) (by omega) (by omega), wi (x := 3 + (f.Payload.length : Int) + 2) (by omega) (by omega), wi (x := 2 + x) (by omega) (by omega), wi (x := 2 + x + y) (by omega) (by omega), wi (x := 3 + (f.Payload.length : Int) + 2 + (2 + x + y)) (by omega) (by omega)]
  cases f.Secure
  · simp only [cond_false]
    exact ⟨by congr 1; omega, by omega, by omega⟩
  · simp only [cond_true]
    rw [wi (x := 5 + (f.MIC.length : Int)) (by omega) (by omega), wi (by omega) (by omega)]
    exact ⟨rfl, by omega, by omega⟩
theorem secs_len (f : S_Frame) : ((secs f).length : Int) = (bif f.Secure then 5 else 0) := by
  unfold secs
  cases f.Secure
  · rfl
  · simp only [cond_true, List.length_append, beB_len, List.length_singleton]; rfl
theorem lenF_hd {f : S_Frame} (h : HdOk f) (hm : f.Secure = false → f.MIC.length = 0) : lenF f = ((hdL f).length : Int) + f.MIC.length + 2 := by
  have hs := secs_len f
  have ha : ((adrs f).length : Int) = 2 + (if f.Dst.Mode = 2 then 2 else 8) + (if f.Src.Mode = 2 then 2 else 8) := by
    unfold adrs
    rw [if_neg h.k2]
    simp only [List.length_append, beB_len, adrL_len]
    split <;> split <;> rfl
  unfold lenF hdL
  rw [if_neg h.k2]
  simp only [List.length_append, hd3_len]
  cases hc : f.Secure
  · rw [hc] at hs
    simp only [cond_false] at hs ⊢
    have := hm hc
    omega
  · rw [hc] at hs
    simp only [cond_true] at hs ⊢
    omega
/-- the rule for the security -/
def secB (f : S_Frame) : Bool := bif f.Secure then (f.MIC.length : Int) == 4 else ((f.Counter == 0) && ((f.Key == 0) && ((f.MIC.length : Int) == 0)))
noncomputable def tailF (f : S_Frame) : Option Bool := bif f.Secure then
                    bif ((List.length f.MIC : Int) != 4) then
                      some (false)
                    else
                      (F_frame_length f).bind fun v14 =>
                      some ((decide (v14 ≤ 127)))
                  else
                    bif (f.Counter != 0) then
                      some (false)
                    else
                      bif (f.Key != 0) then
                        some (false)
                      else
                        bif ((List.length f.MIC : Int) != 0) then
                          some (false)
                        else
                          (F_frame_length f).bind fun v18 =>
                          some ((decide (v18 ≤ 127)))
noncomputable def tailR (f : S_Frame) : Option Bool := bif f.Secure then
              bif ((List.length f.MIC : Int) != 4) then
                some (false)
              else
                (F_ref05_header f).bind fun v21 =>
                some ((decide ((IntKind.wrap .i64 ((IntKind.wrap .i64 ((List.length v21 : Int) + (List.length f.MIC : Int))) + 2)) ≤ 127)))
            else
              bif (f.Counter != 0) then
                some (false)
              else
                bif (f.Key != 0) then
                  some (false)
                else
                  bif ((List.length f.MIC : Int) != 0) then
                    some (false)
                  else
                    (F_ref05_header f).bind fun v25 =>
                    some ((decide ((IntKind.wrap .i64 ((IntKind.wrap .i64 ((List.length v25 : Int) + (List.length f.MIC : Int))) + 2)) ≤ 127)))
theorem tailF_eq {f : S_Frame} (h : HdOk f) : tailF f = some (secB f && decide (lenF f ≤ 127)) := by
  unfold tailF secB
  rw [(len_any h).1]
  simp only [Option.bind_some, bne]
  cases f.Secure
  · cases f.Counter == 0
    · rfl
    · cases f.Key == 0
      · rfl
      · cases (f.MIC.length : Int) == 0 <;> simp
  · cases (f.MIC.length : Int) == 4 <;> simp
theorem r_j1' {f : S_Frame} (h : HdOk f) (l : List Int) (hl : l.length ≤ 100) : F_ref05_header_j1 f l = some (l ++ secs f ++ f.Payload) := by
  have hp := h.wf.payl
  unfold F_ref05_header_j1 F_ref05_header_j2 secs
  cases hs : f.Secure
  · simp only [cond_false, Cut.app, List.append_nil]
    rw [appO_some (by omega) (by omega)]; rfl
  · obtain ⟨c0, c1⟩ := h.wf.cnt
    simp only [cond_true, Cut.app]
    rw [wu (x := f.Counter) c0 (by omega), rc4 l f.Counter (by omega), Option.bind_some, appO_some (by simp only [List.length_append, beB_len, List.length_singleton]; omega) (by simp only [List.length_append, beB_len, List.length_singleton]; omega), Option.bind_some, appO_some (by simp only [List.length_append, beB_len, List.length_singleton]; omega) (by simp only [List.length_append, beB_len, List.length_singleton]; omega), Option.bind_some, List.append_assoc l]
theorem r_header' {f : S_Frame} (h : HdOk f) : F_ref05_header f = some (hdL f) := by
  unfold F_ref05_header
  have p0 := h.wf.pan
  have l1 := adrL_le f.Dst
  have l2 := adrL_le f.Src
  rw [r_flag, r_flag, r_flag]
  simp only [Option.bind_some]
  rw [r_byte0 _ _ _ _ (h.kind.elim Or.inl fun e => Or.inr (Or.inr e)), r_byte1 _ _ (adr_mode h.dst) (adr_mode h.src), show (f.Kind != 2) = true by simp [h.k2]]
  simp only [cond_true]
  rw [wu (x := f.Pan) p0.1 (by omega), rc2 _ f.Pan (by simp), Option.bind_some, r_adr _ h.dst (by simp [beB_len]), Option.bind_some, r_adr _ h.src (by simp only [List.length_append, List.length_cons, List.length_nil, beB_len]; omega), Option.bind_some, r_j1' h _ (by simp only [List.length_append, List.length_cons, List.length_nil, beB_len]; omega)]
  unfold hdL adrs hd3
  rw [if_neg h.k2]
  simp only [List.append_assoc]
theorem tailR_eq {f : S_Frame} (h : HdOk f) : tailR f = some (secB f && decide (lenF f ≤ 127)) := by
  have hm := h.wf.micl
  have hh := hd_le f
  have hp := h.wf.payl
  have key : (f.Secure = false → f.MIC.length = 0) → decide ((IntKind.wrap .i64 ((IntKind.wrap .i64 ((List.length (hdL f) : Int) + (List.length f.MIC : Int))) + 2)) ≤ 127) = decide (lenF f ≤ 127) := fun e => by
    rw [wi (x := ((hdL f).length : Int) + (f.MIC.length : Int)) (by omega) (by omega), wi (by omega) (by omega), lenF_hd h e]
  unfold tailR secB
  rw [r_header' h]
  simp only [Option.bind_some, bne]
  cases hs : f.Secure
  · cases f.Counter == 0
    · rfl
    · cases f.Key == 0
      · rfl
      · cases hz : (f.MIC.length : Int) == 0
        · rfl
        · rw [key (fun _ => by have := eq_of_beq hz; omega)]; rfl
  · cases (f.MIC.length : Int) == 4
    · rfl
    · rw [key (fun e => by rw [hs] at e; cases e)]; rfl
/-- the rule for data and commands -/
def dataB (f : S_Frame) : Bool := decide (AdrOk f.Dst ∧ AdrOk f.Src ∧ ¬ bcast f.Src ∧ (f.AckRequest = true → ¬ bcast f.Dst)) && (secB f && decide (lenF f ≤ 127))
theorem dataB_of {f : S_Frame} (d : AdrOk f.Dst) (s : AdrOk f.Src) (n : ¬ bcast f.Src) (a : f.AckRequest = true → ¬ bcast f.Dst) : dataB f = (secB f && decide (lenF f ≤ 127)) := by
  unfold dataB
  rw [decide_eq_true (show AdrOk f.Dst ∧ AdrOk f.Src ∧ ¬ bcast f.Src ∧ (f.AckRequest = true → ¬ bcast f.Dst) from ⟨d, s, n, a⟩), Bool.true_and]
theorem dataB_not {f : S_Frame} (h : ¬ (AdrOk f.Dst ∧ AdrOk f.Src ∧ ¬ bcast f.Src ∧ (f.AckRequest = true → ¬ bcast f.Dst))) : dataB f = false := by
  unfold dataB
  rw [decide_eq_false h, Bool.false_and]
theorem vdata_eq {f : S_Frame} (w : WfF f) (hk : f.Kind = 1 ∨ f.Kind = 3) : F_frame_validData f = some (dataB f) := by
  have e : F_frame_validData f = ((F_address_Valid f.Dst).bind fun v1 => bif v1 then bif (f.Dst.Mode == 0) then some false else (F_address_Valid f.Src).bind fun v4 => bif v4 then bif (f.Src.Mode == 0) then some false else (F_address_IsBroadcast f.Src).bind fun v7 => bif v7 then some false else bif f.AckRequest then (F_address_IsBroadcast f.Dst).bind fun v10 => bif v10 then some false else tailF f else tailF f else some false else some false) := rfl
  rw [e]
  by_cases d : AdrOk f.Dst
  · by_cases s : AdrOk f.Src
    · rw [f_avalid d, f_avalid s, f_amode d, f_amode s, tailF_eq ⟨w, hk, d, s⟩]
      simp only [Option.bind_some, cond_true, cond_false]
      by_cases n : bcast f.Src
      · rw [abc_yes s n, dataB_not (fun q => q.2.2.1 n)]; rfl
      · rw [f_abc n]
        simp only [Option.bind_some, cond_false]
        cases ha : f.AckRequest
        · rw [dataB_of d s n (fun e => by rw [ha] at e; cases e)]; rfl
        · by_cases b : bcast f.Dst
          · rw [abc_yes d b, dataB_not (fun q => q.2.2.2 ha b)]; rfl
          · rw [f_abc b, dataB_of d s n (fun _ => b)]; rfl
    · rw [f_avalid d, f_amode d, dataB_not (fun q => s q.2.1)]
      simp only [Option.bind_some, cond_true, cond_false]
      rcases avalid_not w.src s with q | ⟨q, q2⟩
      · rw [q]; rfl
      · rw [q, q2]; rfl
  · rw [dataB_not (fun q => d q.1)]
    rcases avalid_not w.dst d with q | ⟨q, q2⟩
    · rw [q]; rfl
    · rw [q, q2]; rfl
theorem rdata_eq {f : S_Frame} (w : WfF f) (hk : f.Kind = 1 ∨ f.Kind = 3) : F_ref05_Valid_j1 f true = some (dataB f) := by
  have e : F_ref05_Valid_j1 f true = ((F_ref04_Some f.Dst).bind fun v12 => bif v12 then (F_ref04_One f.Src).bind fun v14 => bif v14 then bif f.AckRequest then (F_ref04_IsBroadcast f.Dst).bind fun v17 => bif v17 then some false else tailR f else tailR f else some false else some false) := rfl
  rw [e]
  by_cases d : AdrOk f.Dst
  · by_cases s : AdrOk f.Src
    · rw [r_some d, tailR_eq ⟨w, hk, d, s⟩]
      simp only [Option.bind_some, cond_true]
      by_cases n : bcast f.Src
      · rw [rone_no s n, dataB_not (fun q => q.2.2.1 n)]; rfl
      · rw [r_one s n]
        simp only [Option.bind_some, cond_true]
        cases ha : f.AckRequest
        · rw [dataB_of d s n (fun e => by rw [ha] at e; cases e)]; rfl
        · by_cases b : bcast f.Dst
          · rw [rabc_yes d b, dataB_not (fun q => q.2.2.2 ha b)]; rfl
          · rw [r_abc d b, dataB_of d s n (fun _ => b)]; rfl
    · rw [r_some d, rone_not w.src s, dataB_not (fun q => s q.2.1)]; rfl
  · rw [dataB_not (fun q => d q.1), ravalid_not w.dst d]; rfl
noncomputable def validB (f : S_Frame) : Bool := bif f.Kind == 2 then (F_frame_validAck f).getD false else bif (f.Kind == 1) || (f.Kind == 3) then dataB f else false
theorem ack_some (f : S_Frame) : F_frame_validAck f = some ((F_frame_validAck f).getD false) := by
  unfold F_frame_validAck
  cases f.AckRequest <;> cases f.Secure <;> cases f.Pan == 0 <;> cases f.Counter == 0 <;> cases f.Key == 0 <;> cases S_Addr.eqb f.Dst (S_Addr.mk 0 0 0) <;> cases S_Addr.eqb f.Src (S_Addr.mk 0 0 0) <;> cases (f.Payload.length : Int) == 0 <;> rfl
theorem f_valid_eq {f : S_Frame} (w : WfF f) : F_frame_Valid f = some (validB f) := by
  unfold F_frame_Valid F_frame_Valid_j1 validB
  by_cases k2 : f.Kind = 2
  · rw [k2, ack_some f]; rfl
  · rw [show (f.Kind == 2) = false by simp [k2]]
    by_cases k1 : f.Kind = 1
    · rw [vdata_eq w (Or.inl k1), k1]; rfl
    · by_cases k3 : f.Kind = 3
      · rw [vdata_eq w (Or.inr k3), k3]; rfl
      · rw [show (f.Kind == 1) = false by simp [k1], show (f.Kind == 3) = false by simp [k3]]; rfl
theorem r_valid_eq {f : S_Frame} (w : WfF f) : F_ref05_Valid f = some (validB f) := by
  have e : F_ref05_Valid f = (bif f.Kind == 2 then F_frame_validAck f else bif f.Kind == 1 then F_ref05_Valid_j1 f true else F_ref05_Valid_j1 f (f.Kind == 3)) := rfl
  rw [e]
  unfold validB
  by_cases k2 : f.Kind = 2
  · rw [k2, ack_some f]; rfl
  · rw [show (f.Kind == 2) = false by simp [k2]]
    by_cases k1 : f.Kind = 1
    · rw [rdata_eq w (Or.inl k1), k1]; rfl
    · by_cases k3 : f.Kind = 3
      · rw [k3]
        rw [show ((3 : Int) == 1) = false by rfl, show ((3 : Int) == 3) = true by rfl, rdata_eq w (Or.inr k3)]; rfl
      · rw [show (f.Kind == 1) = false by simp [k1], show (f.Kind == 3) = false by simp [k3]]; rfl
theorem bifO {b : Bool} {x : Option Bool} (h : (bif b then x else some false) = some true) : b = true ∧ x = some true := by
  cases b
  · cases h
  · exact ⟨rfl, h⟩
theorem bifN {b : Bool} {x : Option Bool} (h : (bif b then some false else x) = some true) : b = false ∧ x = some true := by
  cases b
  · exact ⟨rfl, h⟩
  · cases h
theorem addr_eq {a b : S_Addr} (h : S_Addr.eqb a b = true) : a = b := by
  obtain ⟨a1, a2, a3⟩ := a
  obtain ⟨b1, b2, b3⟩ := b
  unfold S_Addr.eqb at h
  simp only [Bool.and_eq_true, beq_iff_eq] at h
  obtain ⟨rfl, rfl, rfl, _⟩ := h
  rfl
theorem ack_true {f : S_Frame} (k : f.Kind = 2) (h : F_frame_validAck f = some true) : f = S_Frame.mk 2 false f.Pending false f.Seq 0 A00 A00 0 0 [] [] := by
  unfold F_frame_validAck at h
  obtain ⟨e1, h⟩ := bifN h
  obtain ⟨e2, h⟩ := bifN h
  obtain ⟨e3, h⟩ := bifO h
  obtain ⟨e4, h⟩ := bifO h
  obtain ⟨e5, h⟩ := bifO h
  obtain ⟨e6, h⟩ := bifO h
  obtain ⟨e7, h⟩ := bifO h
  obtain ⟨e8, h⟩ := bifO h
  have e9 := beq_iff_eq.1 (Option.some.inj h)
  have e10 := beq_iff_eq.1 e8
  have p1 : f.Payload = [] := List.eq_nil_of_length_eq_zero (by omega)
  have p2 : f.MIC = [] := List.eq_nil_of_length_eq_zero (by omega)
  have q3 := beq_iff_eq.1 e3
  have q4 := beq_iff_eq.1 e4
  have q5 := beq_iff_eq.1 e5
  have q6 := addr_eq e6
  have q7 := addr_eq e7
  clear e3 e4 e5 e6 e7 e8 e9 e10 h
  obtain ⟨_, _, _, _, _, _, _, _, _, _, _, _⟩ := f
  dsimp only at k e1 e2 q3 q4 q5 q6 q7 p1 p2
  subst k e1 e2 q3 q4 q5 q6 q7 p1 p2
  rfl
/-- what is valid is good -/
theorem good_of {f : S_Frame} (w : WfF f) (h : validB f = true) : GoodF f := by
  unfold validB at h
  by_cases k2 : f.Kind = 2
  · rw [k2] at h
    have ha : F_frame_validAck f = some true := by
      rw [ack_some f]
      exact congrArg some h
    have e := ack_true k2 ha
    rw [e]
    exact good_ack _ _ w.seq
  · rw [show (f.Kind == 2) = false by simp [k2]] at h
    by_cases hk : f.Kind = 1 ∨ f.Kind = 3
    · rw [show ((f.Kind == 1) || (f.Kind == 3)) = true by rcases hk with e | e <;> rw [e] <;> rfl] at h
      simp only [cond_true, cond_false] at h
      by_cases q : AdrOk f.Dst ∧ AdrOk f.Src ∧ ¬ bcast f.Src ∧ (f.AckRequest = true → ¬ bcast f.Dst)
      · obtain ⟨d, s, n, a⟩ := q
        rw [dataB_of d s n a, Bool.and_eq_true] at h
        obtain ⟨h1, h2⟩ := h
        have h2' := of_decide_eq_true h2
        have hns : f.Secure = false → f.Counter = 0 ∧ f.Key = 0 ∧ f.MIC = [] := fun e => by
          unfold secB at h1
          rw [e] at h1
          simp only [cond_false, Bool.and_eq_true, beq_iff_eq] at h1
          exact ⟨h1.1, h1.2.1, List.eq_nil_of_length_eq_zero (by omega)⟩
        exact {
          kind := by omega
          seq := w.seq
          ack := fun e => absurd e k2
          adr := fun _ => ⟨d, s, n, a, w.pan⟩
          sec := fun e => by
            unfold secB at h1
            rw [e] at h1
            simp only [cond_true, beq_iff_eq] at h1
            exact ⟨w.cnt.1, w.cnt.2, w.key.1, w.key.2, by omega⟩
          nos := hns
          pay := w.pay
          mic := w.mic
          size := by
            have := lenF_hd ⟨w, hk, d, s⟩ (fun e => by rw [(hns e).2.2]; rfl)
            omega }
      · rw [dataB_not q] at h; cases h
    · rw [show ((f.Kind == 1) || (f.Kind == 3)) = false by simp; omega] at h
      cases h
theorem good_wf {f : S_Frame} (h : GoodF f) : WfF f where
  seq := h.seq
  pan := by
    by_cases k : f.Kind = 2
    · rw [h.ack k]; exact ⟨Int.le_refl 0, by show (0 : Int) ≤ 65535; omega⟩
    · exact (h.adr k).2.2.2.2
  dst := by
    by_cases k : f.Kind = 2
    · rw [h.ack k]; exact ⟨⟨Int.le_refl 0, by show (0 : Int) ≤ 65535; omega⟩, Int.le_refl 0, by show (0 : Int) ≤ 18446744073709551615; omega⟩
    · rcases (h.adr k).1 with q | q
      · exact ⟨q.2.2, by omega⟩
      · exact ⟨by omega, q.2.2⟩
  src := by
    by_cases k : f.Kind = 2
    · rw [h.ack k]; exact ⟨⟨Int.le_refl 0, by show (0 : Int) ≤ 65535; omega⟩, Int.le_refl 0, by show (0 : Int) ≤ 18446744073709551615; omega⟩
    · rcases (h.adr k).2.1 with q | q
      · exact ⟨q.2.2, by omega⟩
      · exact ⟨by omega, q.2.2⟩
  cnt := by
    cases e : f.Secure
    · rw [(h.nos e).1]; decide
    · exact ⟨(h.sec e).1, (h.sec e).2.1⟩
  key := by
    cases e : f.Secure
    · rw [(h.nos e).2.1]; decide
    · exact ⟨(h.sec e).2.2.1, (h.sec e).2.2.2.1⟩
  pay := h.pay
  payl := by have := (good_pay h).1; omega
  mic := h.mic
  micl := by have := (good_pay h).2; omega
end
section
open Go.RowKit

structure WfP (p : S_Peer) : Prop where
  adr : AdrWf p.Src
  mode : -9223372036854775808 ≤ p.Src.Mode ∧ p.Src.Mode ≤ 9223372036854775807
  key : 0 ≤ p.Key ∧ p.Key ≤ 255
  last : 0 ≤ p.Last ∧ p.Last ≤ 4294967295
  win : 0 ≤ p.Window ∧ p.Window ≤ 4294967295
structure WfK (k : S_LinkKey) : Prop where
  ind : 0 ≤ k.Index ∧ k.Index ≤ 255
  len : k.Key.length = 16
  ok : okB k.Key
structure WfG (g : S_Guard) : Prop where
  keys : ∀ k ∈ g.Keys, WfK k
  keysl : g.Keys.length ≤ 140737488351232
  peers : ∀ p ∈ g.Peers, WfP p
  peersl : g.Peers.length ≤ 140737488351232
  cnt : 0 ≤ g.Counter ∧ g.Counter ≤ 4294967295
  res : 0 ≤ g.Reserved ∧ g.Reserved ≤ 4294967295
  non : 0 ≤ g.Nonce ∧ g.Nonce ≤ 4294967295
def G0 : S_Guard := S_Guard.mk [] 0 0 0 []
def K0 : List Int := [0, 0, 0, 0, 0, 0, 0, 0, 0, 0, 0, 0, 0, 0, 0, 0]
def keyL : List S_LinkKey → Int → List Int × Bool
  | [], _ => (K0, false)
  | k :: l, i => if k.Index = i then (k.Key, true) else keyL l i
def keyS (g : S_Guard) (i : Int) : List Int × Bool := keyL g.Keys i
theorem key_loop {l : List S_LinkKey} (hl : l.length ≤ 4611686018427387904) (i : Int) {step : Int → Option (Int ⊕ (Unit ⊕ (List Int × Bool)))} (h1 : ∀ k (hk : k < l.length), step (k : Int) = if l[k].Index = i then some (.inr (.inr (l[k].Key, true))) else some (.inl ((k + 1 : Nat) : Int))) (h2 : step (l.length : Int) = some (.inr (.inl ()))) :
    ∀ m k, m + k = l.length → (loopO step (k : Int)).bind (Sum.elim (fun _ => some (K0, false)) (fun w => some w)) = some (keyL (l.drop k) i)
  | 0, k, hk => by
    obtain rfl : k = l.length := by omega
    rw [loop_done h2, List.drop_length]
    rfl
  | m + 1, k, hk => by
    have hkl : k < l.length := by omega
    have h := h1 k hkl
    rw [List.drop_eq_getElem_cons hkl, keyL]
    by_cases hi : l[k].Index = i
    · rw [if_pos hi] at h ⊢
      rw [loop_done h]
      rfl
    · rw [if_neg hi] at h ⊢
      rw [loop_next h]
      exact key_loop hl i h1 h2 m (k + 1) (by omega)
theorem key_p {g : S_Guard} (w : WfG g) (i : Int) : F_guard_keyOf g i = some (keyS g i) := by
  have hl := w.keysl
  have h := key_loop (l := g.Keys) (by omega) i (step := F_guard_keyOf_l1 g i) (fun k hk => by
    unfold F_guard_keyOf_l1
    rw [decT (by omega), idx_lt hk]
    simp only [cond_true, Option.bind_some]
    by_cases hi : g.Keys[k].Index = i
    · rw [if_pos hi, bT hi]; rfl
    · rw [if_neg hi, bF hi, wk k (by omega)]; rfl) (by
    unfold F_guard_keyOf_l1
    rw [decF (by omega)]
    rfl) g.Keys.length 0 (by omega)
  rw [List.drop_zero] at h
  exact h
theorem key_r {g : S_Guard} (w : WfG g) (i : Int) : F_ref06_key g i = some (keyS g i) := by
  have hl := w.keysl
  have h := key_loop (l := g.Keys) (by omega) i (step := F_ref06_key_l1 g i) (fun k hk => by
    unfold F_ref06_key_l1
    rw [decT (by omega), idx_lt hk]
    simp only [cond_true, Option.bind_some]
    by_cases hi : g.Keys[k].Index = i
    · rw [if_pos hi, bT hi]; rfl
    · rw [if_neg hi, bF hi, wk k (by omega)]; rfl) (by
    unfold F_ref06_key_l1
    rw [decF (by omega)]
    rfl) g.Keys.length 0 (by omega)
  rw [List.drop_zero] at h
  exact h
theorem keyL_wf : ∀ {l : List S_LinkKey}, (∀ k ∈ l, WfK k) → ∀ i, (keyL l i).1.length = 16 ∧ okB (keyL l i).1
  | [], _, _ => ⟨rfl, by intro z hz; simp [keyL, K0] at hz; omega⟩
  | k :: l, w, i => by
    unfold keyL
    split
    · have := w k (by simp)
      exact ⟨this.len, this.ok⟩
    · exact keyL_wf (fun x hx => w x (by simp [hx])) i
theorem keyS_wf {g : S_Guard} (w : WfG g) (i : Int) : (keyS g i).1.length = 16 ∧ okB (keyS g i).1 := keyL_wf w.keys i
def cmp1 (a b : Int) : Int := if a < b then -1 else if b < a then 1 else 0
theorem cmp8 (a b : Int) : F_cmp_Compare_uint8 a b = some (cmp1 a b) := by
  unfold F_cmp_Compare_uint8 F_cmp_isNaN_uint8 cmp1
  simp only [bne_self_eq_false, Option.bind_some, cond_false]
  by_cases h1 : a < b
  · rw [decT h1, if_pos h1]; rfl
  · rw [decF h1, if_neg h1]
    by_cases h2 : b < a
    · rw [decT (show a > b from h2), if_pos h2]; rfl
    · rw [decF (show ¬ a > b from h2), if_neg h2]; rfl
theorem cmpI (a b : Int) : F_cmp_Compare_int a b = some (cmp1 a b) := cmp8 a b
theorem cmpS (a b : Int) : F_cmp_Compare_api_Short a b = some (cmp1 a b) := cmp8 a b
theorem cmpE (a b : Int) : F_cmp_Compare_api_EUI a b = some (cmp1 a b) := cmp8 a b
def orL : List Int → Int
  | [] => 0
  | x :: l => if x ≠ 0 then x else orL l
theorem or_loop : ∀ (l : List Int) (m k : Nat), l.length ≤ 1000 → m + k = l.length → (loopO (F_cmp_Or_int_l1 l) (k : Int)).bind (Sum.elim (fun _ => some 0) (fun w => some w)) = some (orL (l.drop k))
  | l, 0, k, hl, hk => by
    obtain rfl : k = l.length := by omega
    rw [loop_done (r := .inl ()) (by unfold F_cmp_Or_int_l1; rw [decF (by omega)]; rfl), List.drop_length]
    rfl
  | l, m + 1, k, hl, hk => by
    have hkl : k < l.length := by omega
    rw [List.drop_eq_getElem_cons hkl, orL]
    by_cases h0 : l[k] = 0
    · rw [if_neg (by simpa using h0), loop_next (s' := ((k + 1 : Nat) : Int)) (by
        unfold F_cmp_Or_int_l1
        rw [decT (by omega), idx_lt hkl]
        simp only [cond_true, Option.bind_some, h0, bne_self_eq_false, cond_false, wk k (by omega)])]
      exact or_loop l m (k + 1) hl (by omega)
    · rw [if_pos h0, loop_done (r := .inr l[k]) (by
        unfold F_cmp_Or_int_l1
        rw [decT (by omega), idx_lt hkl]
        simp only [cond_true, Option.bind_some, show (l[k] != 0) = true by simpa using h0])]
      rfl
theorem or_p (l : List Int) (hl : l.length ≤ 1000) : F_cmp_Or_int l = some (orL l) := or_loop l l.length 0 hl (by omega)
def keyA (a : S_Addr) : List Int := [a.Mode, a.Short, a.EUI]
theorem adr_cmp (a b : S_Addr) : F_address_Compare a b = some (lexC (keyA a) (keyA b)) := by
  unfold F_address_Compare
  simp only [cmpI, cmpS, cmpE, Option.bind_some]
  rw [or_p _ (by simp), Option.bind_some]
  congr 1
  unfold cmp1 keyA
  simp only [orL, lexC]
  by_cases h1 : a.Mode < b.Mode
  · simp [h1]
  by_cases h2 : b.Mode < a.Mode
  · simp [h1, h2]
  by_cases h3 : a.Short < b.Short
  · simp [h1, h2, h3]
  by_cases h4 : b.Short < a.Short
  · simp [h1, h2, h3, h4]
  by_cases h5 : a.EUI < b.EUI
  · simp [h1, h2, h3, h4, h5]
  by_cases h6 : b.EUI < a.EUI
  · simp [h1, h2, h3, h4, h5, h6]
  · simp [h1, h2, h3, h4, h5, h6]
def cmpK (a : S_Addr) (k : Int) (b : S_Addr) (j : Int) : Int := if lexC (keyA a) (keyA b) ≠ 0 then lexC (keyA a) (keyA b) else cmp1 k j
theorem peers_cmp (p q : S_Peer) : F_guard_comparePeers p q = some (cmpK p.Src p.Key q.Src q.Key) := by
  unfold F_guard_comparePeers
  simp only [adr_cmp, cmp8, Option.bind_some]
  rw [or_p _ (by simp), Option.bind_some]
  congr 1
  simp only [orL, cmpK]
  split
  · rfl
  · split
    · rfl
    · rename_i h; have : cmp1 p.Key q.Key = 0 := Classical.byContradiction fun q => h q
      rw [this]
theorem xor63 {x : Nat} (hx : x < 2 ^ 64) : x ^^^ 2 ^ 63 = (2 ^ 63 + x) % 2 ^ 64 := by
  apply Nat.eq_of_testBit_eq
  intro j
  rw [Nat.testBit_xor, Nat.testBit_mod_two_pow, Nat.testBit_two_pow]
  by_cases h1 : j < 63
  · rw [Nat.testBit_two_pow_add_gt h1, decide_eq_true (show j < 64 by omega), decide_eq_false (show ¬ 63 = j by omega)]
    simp
  by_cases h2 : j = 63
  · subst h2
    rw [Nat.testBit_two_pow_add_eq]
    simp
  · rw [decide_eq_false (show ¬ j < 64 by omega), decide_eq_false (show ¬ 63 = j by omega), Nat.testBit_lt_two_pow (Nat.lt_of_lt_of_le hx (Nat.pow_le_pow_right (by omega) (show 64 ≤ j by omega)))]
    rfl
theorem flip64 {m : Int} (h : -9223372036854775808 ≤ m ∧ m ≤ 9223372036854775807) : ixor .u64 (IntKind.wrap .u64 m) 9223372036854775808 = m + 9223372036854775808 := by
  rw [wrap64]
  have h0 : (BitVec.ofInt 64 (m % 18446744073709551616)).toNat = (m % 18446744073709551616).toNat := by
    rw [BitVec.toNat_ofInt]
    omega
  have h1 : (BitVec.ofInt 64 9223372036854775808).toNat = 2 ^ 63 := by decide
  have hx : (m % 18446744073709551616).toNat < 2 ^ 64 := by omega
  have e : ixor .u64 (m % 18446744073709551616) 9223372036854775808 = IntKind.wrap .u64 (((BitVec.ofInt 64 (m % 18446744073709551616) ^^^ BitVec.ofInt 64 9223372036854775808).toNat : Nat) : Int) := rfl
  rw [e, BitVec.toNat_xor, h0, h1, xor63 hx, wrap64]
  omega
theorem adr_cmpr {a b : S_Addr} (wa : AdrWf a) (ma : -9223372036854775808 ≤ a.Mode ∧ a.Mode ≤ 9223372036854775807) (wb : AdrWf b) (mb : -9223372036854775808 ≤ b.Mode ∧ b.Mode ≤ 9223372036854775807) : F_ref04_Compare a b = some (lexC (keyA a) (keyA b)) := by
  have s1 := wa.short
  have s2 := wb.short
  have hs1 : IntKind.wrap .u64 a.Short = a.Short := wu (by omega) (by omega)
  have hs2 : IntKind.wrap .u64 b.Short = b.Short := wu (by omega) (by omega)
  have st : ∀ k : Nat, k < 3 → F_ref04_Compare_l1 a b (k : Int) = (if ([a.Mode + 9223372036854775808, a.Short, a.EUI] : List Int).getD k 0 < ([b.Mode + 9223372036854775808, b.Short, b.EUI] : List Int).getD k 0 then some (.inr (.inr (-1))) else if ([b.Mode + 9223372036854775808, b.Short, b.EUI] : List Int).getD k 0 < ([a.Mode + 9223372036854775808, a.Short, a.EUI] : List Int).getD k 0 then some (.inr (.inr 1)) else some (.inl ((k + 1 : Nat) : Int))) := by
    intro k hk
    unfold F_ref04_Compare_l1
    rw [flip64 ma, flip64 mb, hs1, hs2, decT (by omega), decT (by omega), wk k (by omega), Int.toNat_natCast]
    simp only [cond_true]
    split
    · rename_i h; rw [decT h]; rfl
    · rename_i h
      rw [decF h]
      split
      · rename_i h2; rw [decT h2]; rfl
      · rename_i h2; rw [decF h2]; rfl
  have s0 := st 0 (by omega)
  have s1' := st 1 (by omega)
  have s2' := st 2 (by omega)
  have s3 : F_ref04_Compare_l1 a b ((3 : Nat) : Int) = some (.inr (.inl ())) := by
    unfold F_ref04_Compare_l1
    rw [decF (by omega)]
    rfl
  simp only [List.getD_cons_zero, List.getD_cons_succ] at s0 s1' s2'
  unfold F_ref04_Compare
  unfold keyA
  simp only [lexC]
  rw [show (0 : Int) = ((0 : Nat) : Int) from rfl]
  by_cases h1 : a.Mode < b.Mode
  · rw [if_pos (by omega)] at s0
    rw [loop_done s0, if_pos h1]
    rfl
  by_cases h2 : b.Mode < a.Mode
  · rw [if_neg (by omega), if_pos (by omega)] at s0
    rw [loop_done s0, if_neg h1, if_pos h2]
    rfl
  rw [if_neg (by omega), if_neg (by omega)] at s0
  rw [loop_next s0, if_neg h1, if_neg h2]
  by_cases h3 : a.Short < b.Short
  · rw [if_pos h3] at s1'
    rw [loop_done s1', if_pos h3]
    rfl
  by_cases h4 : b.Short < a.Short
  · rw [if_neg h3, if_pos h4] at s1'
    rw [loop_done s1', if_neg h3, if_pos h4]
    rfl
  rw [if_neg h3, if_neg h4] at s1'
  rw [loop_next s1', if_neg h3, if_neg h4]
  by_cases h5 : a.EUI < b.EUI
  · rw [if_pos h5] at s2'
    rw [loop_done s2', if_pos h5]
    rfl
  by_cases h6 : b.EUI < a.EUI
  · rw [if_neg h5, if_pos h6] at s2'
    rw [loop_done s2', if_neg h5, if_pos h6]
    rfl
  rw [if_neg h5, if_neg h6] at s2'
  rw [loop_next s2', loop_done s3, if_neg h5, if_neg h6]
  rfl
def befB (p : S_Peer) (a : S_Addr) (k : Int) : Bool := decide (cmpK p.Src p.Key a k < 0)
theorem before_r {p : S_Peer} (wp : WfP p) {a : S_Addr} (wa : AdrWf a) (ma : -9223372036854775808 ≤ a.Mode ∧ a.Mode ≤ 9223372036854775807) (k : Int) : F_ref06_before p a k = some (befB p a k) := by
  unfold F_ref06_before befB cmpK
  rw [adr_cmpr wp.adr wp.mode wa ma, Option.bind_some]
  generalize lexC (keyA p.Src) (keyA a) = c
  by_cases h1 : c < 0
  · rw [decT h1, if_pos (by omega), decT h1]; rfl
  · rw [decF h1]
    by_cases h2 : c = 0
    · rw [bT h2, if_neg (by simpa using h2)]
      unfold cmp1
      by_cases h3 : p.Key < k
      · rw [if_pos h3, decT h3]; rfl
      · rw [if_neg h3, decF h3]
        split <;> rfl
    · rw [bF h2, if_pos h2, decF h1]; rfl
end
section
open Go.RowKit

def ixLt (l : List S_LinkKey) (k : Nat) : Bool := match l[k]?, l[k + 1]? with
  | some a, some b => decide (a.Index < b.Index)
  | _, _ => true
def pLt (l : List S_Peer) (k : Nat) : Bool := match l[k]?, l[k + 1]? with
  | some a, some b => befB a b.Src b.Key
  | _, _ => true
def peerB (g : S_Guard) (p : S_Peer) : Bool := decide (AdrOk p.Src ∧ ¬ bcast p.Src) && ((keyS g p.Key).2 && (iand .u32 p.Window 1 == 1))
def pOk (g : S_Guard) (k : Nat) : Bool := match g.Peers[k]? with
  | some p => peerB g p
  | none => true
def validG (g : S_Guard) : Bool := decide (g.Keys.length ≤ 4) && decide (∀ k, k < g.Keys.length - 1 → ixLt g.Keys k = true) && decide (g.Counter ≤ g.Reserved) && decide (g.Peers.length ≤ 16) && decide (∀ k, k < g.Peers.length - 1 → pLt g.Peers k = true) && decide (∀ k, k < g.Peers.length → pOk g k = true)
theorem ixLt_eq {l : List S_LinkKey} {k : Nat} (h : k + 1 < l.length) : ixLt l k = decide (l[k].Index < l[k + 1].Index) := by
  unfold ixLt
  rw [List.getElem?_eq_getElem (show k < l.length by omega), List.getElem?_eq_getElem h]
theorem pLt_eq {l : List S_Peer} {k : Nat} (h : k + 1 < l.length) : pLt l k = befB l[k] l[k + 1].Src l[k + 1].Key := by
  unfold pLt
  rw [List.getElem?_eq_getElem (show k < l.length by omega), List.getElem?_eq_getElem h]
theorem pOk_eq {g : S_Guard} {k : Nat} (h : k < g.Peers.length) : pOk g k = peerB g g.Peers[k] := by
  unfold pOk
  rw [List.getElem?_eq_getElem h]
theorem win01 (x : Int) : iand .u32 x 1 = 0 ∨ iand .u32 x 1 = 1 := by
  have e : iand .u32 x 1 = IntKind.wrap .u32 (((BitVec.ofInt 32 x &&& BitVec.ofInt 32 1).toNat : Nat) : Int) := rfl
  have h1 : (BitVec.ofInt 32 1).toNat = 1 := by decide
  rw [e, BitVec.toNat_and, h1, Nat.and_one_is_mod, wrap32]
  omega
theorem if_dec {p : Prop} [Decidable p] {α : Type} (x y : α) : (if p then x else y) = bif decide p then x else y := by
  by_cases h : p
  · rw [if_pos h, decT h]; rfl
  · rw [if_neg h, decF h]; rfl
theorem ascK_p {l : List S_LinkKey} (hl : l.length ≤ 4611686018427387904) : F_guard_ascending_api_LinkKey_F631 l = some (decide (∀ k, k < l.length - 1 → ixLt l k = true)) := by
  unfold F_guard_ascending_api_LinkKey_F631
  have h := loop_all (step := F_guard_ascending_api_LinkKey_F631_l1 l) (S := fun k => ((k + 1 : Nat) : Int)) (l.length - 1) (ixLt l) (rt := Sum.inl ()) (rf := Sum.inr false) (fun k hk hp => by
    rw [ixLt_eq (by omega), decide_eq_true_eq] at hp
    unfold F_guard_ascending_api_LinkKey_F631_l1 F_guard_compareKeys
    rw [decT (by omega), wi (by omega) (by omega), show ((k + 1 : Nat) : Int) - 1 = (k : Int) by omega, idx_lt (show k < l.length by omega), idx_lt (show k + 1 < l.length by omega), wk (k + 1) (by omega)]
    simp only [cond_true, Option.bind_some, cmp8, cmp1, if_pos hp]
    rfl) (fun k hk hp => by
    rw [ixLt_eq (by omega), decide_eq_false_iff_not] at hp
    unfold F_guard_ascending_api_LinkKey_F631_l1 F_guard_compareKeys
    rw [decT (by omega), wi (by omega) (by omega), show ((k + 1 : Nat) : Int) - 1 = (k : Int) by omega, idx_lt (show k < l.length by omega), idx_lt (show k + 1 < l.length by omega)]
    simp only [cond_true, Option.bind_some, cmp8, cmp1, if_neg hp]
    rw [decT (by split <;> omega)]
    rfl) (by
    unfold F_guard_ascending_api_LinkKey_F631_l1
    rw [decF (by omega)]
    rfl)
  have h' : loopO (F_guard_ascending_api_LinkKey_F631_l1 l) 1 = _ := h
  rw [h', if_dec]
  cases decide (∀ k, k < l.length - 1 → ixLt l k = true) <;> rfl
theorem ascP_p {l : List S_Peer} (hl : l.length ≤ 4611686018427387904) : F_guard_ascending_api_Peer_F411 l = some (decide (∀ k, k < l.length - 1 → pLt l k = true)) := by
  unfold F_guard_ascending_api_Peer_F411
  have h := loop_all (step := F_guard_ascending_api_Peer_F411_l1 l) (S := fun k => ((k + 1 : Nat) : Int)) (l.length - 1) (pLt l) (rt := Sum.inl ()) (rf := Sum.inr false) (fun k hk hp => by
    rw [pLt_eq (by omega)] at hp
    unfold befB at hp
    rw [decide_eq_true_eq] at hp
    unfold F_guard_ascending_api_Peer_F411_l1
    rw [decT (by omega), wi (by omega) (by omega), show ((k + 1 : Nat) : Int) - 1 = (k : Int) by omega, idx_lt (show k < l.length by omega), idx_lt (show k + 1 < l.length by omega), wk (k + 1) (by omega)]
    simp only [cond_true, Option.bind_some, peers_cmp]
    rw [decF (by omega)]
    rfl) (fun k hk hp => by
    rw [pLt_eq (by omega)] at hp
    unfold befB at hp
    rw [decide_eq_false_iff_not] at hp
    unfold F_guard_ascending_api_Peer_F411_l1
    rw [decT (by omega), wi (by omega) (by omega), show ((k + 1 : Nat) : Int) - 1 = (k : Int) by omega, idx_lt (show k < l.length by omega), idx_lt (show k + 1 < l.length by omega)]
    simp only [cond_true, Option.bind_some, peers_cmp]
    rw [decT (by omega)]
    rfl) (by
    unfold F_guard_ascending_api_Peer_F411_l1
    rw [decF (by omega)]
    rfl)
  have h' : loopO (F_guard_ascending_api_Peer_F411_l1 l) 1 = _ := h
  rw [h', if_dec]
  cases decide (∀ k, k < l.length - 1 → pLt l k = true) <;> rfl
theorem abc_no {a : S_Addr} (h : AdrOk a) (hb : ¬ bcast a) : F_address_IsBroadcast a = some false := by
  unfold F_address_IsBroadcast
  cases h2 : S_Addr.eqb a (S_Addr.mk 2 65535 0)
  · rfl
  · have := addr_eq h2
    exact absurd (by rw [this]; exact ⟨rfl, rfl⟩) hb
theorem peer_p {g : S_Guard} (w : WfG g) {p : S_Peer} (wp : WfP p) : F_guard_validPeer g p = some (peerB g p) := by
  unfold F_guard_validPeer peerB
  by_cases h : AdrOk p.Src
  · rw [f_avalid h, Option.bind_some, cond_true, f_amode h, cond_false]
    by_cases hb : bcast p.Src
    · rw [abc_yes h hb, decF (fun q => q.2 hb)]
      rfl
    · rw [abc_no h hb, decT ⟨h, hb⟩, Option.bind_some, cond_false, key_p w, Option.bind_some]
      cases (keyS g p.Key).2 <;> rfl
  · rw [decF (fun q => h q.1)]
    rcases avalid_not wp.adr h with e | ⟨e, e0⟩
    · rw [e]; rfl
    · rw [e, Option.bind_some, cond_true, bT e0]; rfl
theorem valid_pG {g : S_Guard} (w : WfG g) : F_guard_Valid g = some (validG g) := by
  unfold F_guard_Valid validG
  have hk := w.keysl
  have hp := w.peersl
  by_cases h4 : g.Keys.length ≤ 4
  rotate_left
  · rw [decT (show (g.Keys.length : Int) > 4 by omega), decF h4]; rfl
  rw [decF (show ¬ (g.Keys.length : Int) > 4 by omega), decT h4, cond_false, ascK_p (by omega), Option.bind_some]
  cases decide (∀ k, k < g.Keys.length - 1 → ixLt g.Keys k = true)
  · rfl
  simp only [cond_true, Bool.and_true, Bool.true_and]
  by_cases hc : g.Counter ≤ g.Reserved
  rotate_left
  · rw [decT (show g.Counter > g.Reserved by omega), decF hc]; rfl
  rw [decF (show ¬ g.Counter > g.Reserved by omega), decT hc, cond_false]
  by_cases h16 : g.Peers.length ≤ 16
  rotate_left
  · rw [decT (show (g.Peers.length : Int) > 16 by omega), decF h16]; rfl
  rw [decF (show ¬ (g.Peers.length : Int) > 16 by omega), decT h16, cond_false, ascP_p (by omega), Option.bind_some]
  cases decide (∀ k, k < g.Peers.length - 1 → pLt g.Peers k = true)
  · rfl
  simp only [cond_true, Bool.true_and]
  have h := loop_all (step := F_guard_Valid_l1 g) (S := fun k => (k : Int)) g.Peers.length (pOk g) (rt := Sum.inl ()) (rf := Sum.inr false) (fun k hk hp => by
    rw [pOk_eq hk] at hp
    unfold F_guard_Valid_l1
    rw [decT (by omega), idx_lt hk, wk k (by omega)]
    simp only [cond_true, Option.bind_some, peer_p w (w.peers _ (List.getElem_mem hk)), hp]) (fun k hk hp => by
    rw [pOk_eq hk] at hp
    unfold F_guard_Valid_l1
    rw [decT (by omega), idx_lt hk]
    simp only [cond_true, Option.bind_some, peer_p w (w.peers _ (List.getElem_mem hk)), hp, cond_false]) (by
    unfold F_guard_Valid_l1
    rw [decF (by omega)]
    rfl)
  simp only [Int.natCast_zero] at h
  rw [h, if_dec]
  cases decide (∀ k, k < g.Peers.length → pOk g k = true) <;> rfl
theorem peer_r {g : S_Guard} (w : WfG g) {p : S_Peer} (wp : WfP p) {α : Type} (x y : Option α) : ((F_ref06_key g p.Key).bind fun v17 => bif v17.2 then (F_ref04_One p.Src).bind fun v19 => bif v19 then bif (iand .u32 p.Window 1) == 0 then y else x else y else y) = bif peerB g p then x else y := by
  unfold peerB
  rw [key_r w, Option.bind_some]
  cases (keyS g p.Key).2
  · simp
  simp only [cond_true, Bool.true_and]
  by_cases h : AdrOk p.Src
  · by_cases hb : bcast p.Src
    · rw [rone_no h hb, decF (fun q => q.2 hb)]; rfl
    · rw [r_one h hb, decT ⟨h, hb⟩, Option.bind_some, cond_true, Bool.true_and]
      rcases win01 p.Window with e | e <;> rw [e] <;> rfl
  · rw [rone_not wp.adr h, decF (fun q => h q.1)]; rfl
theorem valid_rG {g : S_Guard} (w : WfG g) : F_ref06_Valid g = some (validG g) := by
  unfold F_ref06_Valid validG
  have hk := w.keysl
  have hp := w.peersl
  by_cases h4 : g.Keys.length ≤ 4
  rotate_left
  · rw [decT (show (g.Keys.length : Int) > 4 by omega), decF h4]; rfl
  rw [decF (show ¬ (g.Keys.length : Int) > 4 by omega), decT h4, cond_false]
  by_cases hc : g.Counter ≤ g.Reserved
  rotate_left
  · rw [decT (show g.Counter > g.Reserved by omega), decF hc]; simp
  rw [decF (show ¬ g.Counter > g.Reserved by omega), decT hc, cond_false]
  by_cases h16 : g.Peers.length ≤ 16
  rotate_left
  · rw [decT (show (g.Peers.length : Int) > 16 by omega), decF h16]; simp
  rw [decF (show ¬ (g.Peers.length : Int) > 16 by omega), decT h16, cond_false]
  have h := loop_all (step := F_ref06_Valid_l1 g) (S := fun k => ((k + 1 : Nat) : Int)) (g.Keys.length - 1) (ixLt g.Keys) (rt := Sum.inl ()) (rf := Sum.inr false) (fun k hk hp => by
    rw [ixLt_eq (by omega), decide_eq_true_eq] at hp
    unfold F_ref06_Valid_l1
    rw [decT (by omega), wi (by omega) (by omega), show ((k + 1 : Nat) : Int) - 1 = (k : Int) by omega, idx_lt (show k < g.Keys.length by omega), idx_lt (show k + 1 < g.Keys.length by omega), wk (k + 1) (by omega)]
    simp only [cond_true, Option.bind_some]
    rw [decF (by omega)]
    rfl) (fun k hk hp => by
    rw [ixLt_eq (by omega), decide_eq_false_iff_not] at hp
    unfold F_ref06_Valid_l1
    rw [decT (by omega), wi (by omega) (by omega), show ((k + 1 : Nat) : Int) - 1 = (k : Int) by omega, idx_lt (show k < g.Keys.length by omega), idx_lt (show k + 1 < g.Keys.length by omega)]
    simp only [cond_true, Option.bind_some]
    rw [decT (by omega)]
    rfl) (by
    unfold F_ref06_Valid_l1
    rw [decF (by omega)]
    rfl)
  have h' : loopO (F_ref06_Valid_l1 g) 1 = _ := h
  rw [h', if_dec]
  cases decide (∀ k, k < g.Keys.length - 1 → ixLt g.Keys k = true)
  · simp
  simp only [cond_true, Option.bind_some, Sum.elim_inl, Bool.true_and]
  have hq := loop_all (step := F_ref06_Valid_l2 g) (S := fun k => (k : Int)) g.Peers.length (fun k => pOk g k && (k == 0 || pLt g.Peers (k - 1))) (rt := Sum.inl ()) (rf := Sum.inr false) (fun k hk hp => by
    simp only [Bool.and_eq_true, Bool.or_eq_true, beq_iff_eq] at hp
    obtain ⟨h1, h2⟩ := hp
    rw [pOk_eq hk] at h1
    have wp := w.peers _ (List.getElem_mem hk)
    unfold F_ref06_Valid_l2
    rw [decT (by omega), idx_lt hk, wk k (by omega)]
    simp only [cond_true, Option.bind_some]
    rw [peer_r w wp, h1, cond_true]
    by_cases h0 : k = 0
    · rw [decF (by omega)]; rfl
    · have h3 := h2.resolve_left h0
      have hlt := pLt_eq (l := g.Peers) (k := k - 1) (by omega)
      have hk1 : k - 1 + 1 = k := by omega
      simp only [hk1] at hlt
      rw [hlt] at h3
      rw [decT (by omega), wi (by omega) (by omega), show (k : Int) - 1 = ((k - 1 : Nat) : Int) by omega, idx_lt (show k - 1 < g.Peers.length by omega)]
      simp only [cond_true, Option.bind_some, before_r (w.peers _ (List.getElem_mem (show k - 1 < g.Peers.length by omega))) wp.adr wp.mode, h3]) (fun k hk hp => by
    have wp := w.peers _ (List.getElem_mem hk)
    unfold F_ref06_Valid_l2
    rw [decT (by omega), idx_lt hk, wk k (by omega)]
    simp only [cond_true, Option.bind_some]
    rw [peer_r w wp]
    rw [pOk_eq hk] at hp
    cases h1 : peerB g g.Peers[k]
    · rfl
    · rw [h1, Bool.true_and, Bool.or_eq_false_iff] at hp
      obtain ⟨h0, h3⟩ := hp
      have h0 : k ≠ 0 := by simpa using h0
      have hlt := pLt_eq (l := g.Peers) (k := k - 1) (by omega)
      have hk1 : k - 1 + 1 = k := by omega
      simp only [hk1] at hlt
      rw [hlt] at h3
      rw [cond_true, decT (by omega), wi (by omega) (by omega), show (k : Int) - 1 = ((k - 1 : Nat) : Int) by omega, idx_lt (show k - 1 < g.Peers.length by omega)]
      simp only [cond_true, Option.bind_some, before_r (w.peers _ (List.getElem_mem (show k - 1 < g.Peers.length by omega))) wp.adr wp.mode, h3, cond_false]) (by
    unfold F_ref06_Valid_l2
    rw [decF (by omega)]
    rfl)
  simp only [Int.natCast_zero] at hq
  have e : (∀ k, k < g.Peers.length → (pOk g k && (k == 0 || pLt g.Peers (k - 1))) = true) ↔ ((∀ k, k < g.Peers.length - 1 → pLt g.Peers k = true) ∧ ∀ k, k < g.Peers.length → pOk g k = true) := by
    constructor
    · intro h
      refine ⟨fun k hk => ?_, fun k hk => ?_⟩
      · have := h (k + 1) (by omega)
        simp only [Bool.and_eq_true, Bool.or_eq_true, beq_iff_eq] at this
        have := this.2.resolve_left (by omega)
        simpa using this
      · have := h k hk
        simp only [Bool.and_eq_true] at this
        exact this.1
    · intro h k hk
      simp only [Bool.and_eq_true, Bool.or_eq_true, beq_iff_eq]
      refine ⟨h.2 k hk, ?_⟩
      by_cases h0 : k = 0
      · exact .inl h0
      · exact .inr (h.1 (k - 1) (by omega))
  rw [hq, if_dec]
  have e2 : decide (∀ k, k < g.Peers.length → (pOk g k && (k == 0 || pLt g.Peers (k - 1))) = true) = (decide (∀ k, k < g.Peers.length - 1 → pLt g.Peers k = true) && decide (∀ k, k < g.Peers.length → pOk g k = true)) := by
    rw [Bool.eq_iff_iff, Bool.and_eq_true, decide_eq_true_eq, decide_eq_true_eq, decide_eq_true_eq]
    exact e
  rw [e2]
  cases decide (∀ k, k < g.Peers.length - 1 → pLt g.Peers k = true) <;> cases decide (∀ k, k < g.Peers.length → pOk g k = true) <;> rfl
end
section
open Go.RowKit

theorem f_header_j1 {f : S_Frame} (h : GoodF f) : F_frame_Header_j1 f = some (hdL f) := by
  have e := f_header h
  unfold F_frame_Header at e
  rw [f_valid h] at e
  exact e
theorem r_header_j1 {f : S_Frame} (h : GoodF f) : F_ref05_Header_j1 f = some (hdL f) := by
  unfold F_ref05_Header_j1
  rw [r_header h]; rfl
theorem adr_wf {a : S_Addr} (h : AdrOk a) : AdrWf a := by
  rcases h with q | q
  · exact ⟨q.2.2, by omega⟩
  · exact ⟨by omega, q.2.2⟩
end
section
open Go.RowKit

theorem little_spec {l : List Int} (h : okB l) (h8 : l.length ≤ 8) : F_siphash_little l = some (leN l) := by
  unfold F_siphash_little
  have hl := loop_run (step := F_siphash_little_l1 l) (S := fun k => (leN (l.take k), (k : Int))) l.length (r := leN l) (fun k hk => by
    unfold F_siphash_little_l1
    dsimp only
    have w1 : IntKind.wrap .i64 (8 * (k : Int)) = ((8 * k : Nat) : Int) := by rw [wi (by omega) (by omega)]; omega
    have hx := h.get hk
    have hb := leN_bd (h.take k)
    rw [List.length_take, Nat.min_eq_left (by omega)] at hb
    have hb2 := leN_bd (h.take (k + 1))
    have ht : l.take (k + 1) = l.take k ++ [l[k]] := take_snoc (List.getElem?_eq_getElem hk)
    have hlk : (l.take (k + 1)).length = k + 1 := by rw [List.length_take]; omega
    have e256 : (256 : Int) ^ k = 2 ^ (8 * k) := by rw [Int.pow_mul]; rfl
    have hlt := pow256 (show k + 1 ≤ 8 by omega)
    rw [hlk] at hb2
    rw [ht, leN_append, List.length_take, Nat.min_eq_left (show k ≤ l.length by omega)] at hb2 ⊢
    simp only [leN, Int.mul_zero, Int.add_zero] at hb2 ⊢
    have hx64 : IntKind.wrap .u64 l[k] = l[k] := wu hx.1 (by omega)
    rw [decT (show (k : Int) < (l.length : Int) by omega), w1, decT (show (0 : Int) ≤ ((8 * k : Nat) : Int) by omega), idx_lt hk]
    simp only [cond_true, Option.bind_some]
    rw [wk k (by omega), hx64, ishl_eq (by omega) (by omega), Int.toNat_natCast]
    rw [e256] at hb hb2 ⊢
    have hpos : (0 : Int) ≤ l[k] * 2 ^ (8 * k) := Int.mul_nonneg hx.1 (Int.pow_nonneg (by omega))
    rw [Int.mul_comm (2 ^ (8 * k)) l[k]] at hb2 ⊢
    rw [Int.emod_eq_of_lt hpos (by omega), ior_add (8 * k) hb.1 hb.2 hx.1 (by omega)]) (by
    unfold F_siphash_little_l1
    dsimp only
    rw [decF (show ¬ (l.length : Int) < (l.length : Int) by omega)]
    simp only [cond_false, List.take_length])
  simp only [Int.natCast_zero, List.take_zero, leN] at hl
  rw [hl]
  rfl
theorem number_spec {l : List Int} (h : okB l) (h8 : l.length ≤ 8) : F_ref03_number l = some (leN l) := by
  unfold F_ref03_number
  rw [wi (by omega) (by omega)]
  have hl := loop_run (step := F_ref03_number_l1 l) (S := fun k => (leN (l.drop (l.length - k)), (l.length : Int) - 1 - (k : Int))) l.length (r := leN l) (fun k hk => by
    unfold F_ref03_number_l1
    dsimp only
    have hj : l.length - (k + 1) < l.length := by omega
    have hx := h.get hj
    have hd := List.drop_eq_getElem_cons hj
    rw [show l.length - (k + 1) + 1 = l.length - k by omega] at hd
    have hb := leN_lt64 (h.drop (l.length - (k + 1))) (by simp; omega)
    rw [hd] at hb ⊢
    simp only [leN] at hb ⊢
    have hb0 := leN_bd (h.drop (l.length - k))
    have w3 : IntKind.wrap .i64 ((l.length : Int) - 1 - (k : Int) - 1) = (l.length : Int) - 1 - ((k + 1 : Nat) : Int) := by rw [wi (by omega) (by omega)]; omega
    rw [decT (show (l.length : Int) - 1 - (k : Int) ≥ 0 by omega), w3, show (l.length : Int) - 1 - (k : Int) = ((l.length - (k + 1) : Nat) : Int) by omega, idx_lt hj]
    simp only [cond_true, Option.bind_some]
    rw [ishl_eq (by omega) (by omega), wu (x := l[l.length - (k + 1)]) hx.1 (by omega)]
    have e8 : (2 : Int) ^ ((8 : Int).toNat) = 256 := by decide
    rw [e8, Int.emod_eq_of_lt (by omega) (by omega), wu (by omega) (by omega), show leN (l.drop (l.length - k)) * 256 + l[l.length - (k + 1)] = l[l.length - (k + 1)] + 256 * leN (l.drop (l.length - k)) by omega]) (by
    unfold F_ref03_number_l1
    dsimp only
    rw [decF (show ¬ (l.length : Int) - 1 - (l.length : Int) ≥ 0 by omega)]
    simp only [cond_false, Nat.sub_self, List.drop_zero])
  simp only [Int.natCast_zero, Nat.sub_zero, List.drop_length, leN, Int.sub_zero] at hl
  rw [hl]
  rfl

def rotS (x : Int) (n m : Int) : Int := ior .u64 (ishl .u64 x n) (ishr .u64 x m)
theorem rotL (x : Int) : F_math_bits_RotateLeft64 x 13 = some (rotS x 13 51) ∧ F_math_bits_RotateLeft64 x 32 = some (rotS x 32 32) ∧ F_math_bits_RotateLeft64 x 16 = some (rotS x 16 48) ∧ F_math_bits_RotateLeft64 x 21 = some (rotS x 21 43) ∧ F_math_bits_RotateLeft64 x 17 = some (rotS x 17 47) := ⟨rfl, rfl, rfl, rfl, rfl⟩
theorem rotR (x : Int) : F_ref03_rot x 13 = some (rotS x 13 51) ∧ F_ref03_rot x 32 = some (rotS x 32 32) ∧ F_ref03_rot x 16 = some (rotS x 16 48) ∧ F_ref03_rot x 21 = some (rotS x 21 43) ∧ F_ref03_rot x 17 = some (rotS x 17 47) := ⟨rfl, rfl, rfl, rfl, rfl⟩
abbrev SS := S_multihopref03_state
noncomputable def roundS (s : SS) : SS := (F_ref03_state_round s).getD s
theorem round_spec (s : SS) : F_ref03_state_round s = some (roundS s) := by
  unfold roundS
  unfold F_ref03_state_round
  simp only [rotR, Option.bind_some, Option.getD_some]
def toL (s : SS) : List Int := [s.a, s.b, s.c, s.d]
theorem rounds_step (n : Int) (i : Int) (s : SS) : F_siphash_state_rounds_l1 n (i, toL s) = if i < n then some (.inl (IntKind.wrap .i64 (i + 1), toL (roundS s))) else some (.inr (toL s)) := by
  have h := round_spec s
  unfold F_ref03_state_round at h
  simp only [rotR, Option.bind_some, Option.some.injEq] at h
  rw [← h]
  unfold F_siphash_state_rounds_l1 toL
  simp only [rotL, Option.bind_some, List.getD_cons_zero, List.getD_cons_succ]
  by_cases hi : i < n
  · rw [decT hi, if_pos hi]; rfl
  · rw [decF hi, if_neg hi]; rfl
noncomputable def roundsS (s : SS) : Nat → SS
  | 0 => s
  | n + 1 => roundS (roundsS s n)
theorem rounds_spec (s : SS) (n : Nat) (hn : n ≤ 100) : F_siphash_state_rounds (toL s) n = some (toL (roundsS s n)) := by
  unfold F_siphash_state_rounds
  have hl := loop_run (step := F_siphash_state_rounds_l1 n) (S := fun k => ((k : Int), toL (roundsS s k))) n (r := toL (roundsS s n)) (fun k hk => by
    rw [rounds_step, if_pos (by omega), wk k (by omega)]; rfl) (by rw [rounds_step, if_neg (by omega)])
  simp only [Int.natCast_zero, roundsS] at hl
  rw [hl]
  rfl
noncomputable def mixS (s : SS) (m : Int) : SS := let t := roundS (roundS ⟨s.a, s.b, s.c, ixor .u64 s.d m⟩); ⟨ixor .u64 t.a m, t.b, t.c, t.d⟩
theorem mix_spec (s : SS) (m : Int) : F_siphash_state_mix (toL s) m = some (toL (mixS s m)) := by
  unfold F_siphash_state_mix
  have h := rounds_spec ⟨s.a, s.b, s.c, ixor .u64 s.d m⟩ 2 (by omega)
  simp only [toL, List.getD_cons_zero, List.getD_cons_succ] at h ⊢
  rw [show ((2 : Nat) : Int) = 2 from rfl] at h
  rw [h]
  rfl
theorem sword_spec (s : SS) (m : Int) : F_ref03_state_word s m = some (mixS s m) := by
  unfold F_ref03_state_word
  simp only [round_spec, Option.bind_some]
  rfl

def wordAt (b : List Int) (k : Nat) : List Int := (b.drop (8 * k)).take 8
noncomputable def wordsS (s : SS) (b : List Int) : Nat → SS
  | 0 => s
  | k + 1 => mixS (wordsS s b k) (leN (wordAt b k))
noncomputable def sumS (k b : List Int) : Int :=
  let k0 := leN (k.take 8); let k1 := leN (k.drop 8)
  let s := wordsS ⟨ixor .u64 k0 8317987319222330741, ixor .u64 k1 7237128888997146477, ixor .u64 k0 7816392313619706465, ixor .u64 k1 8387220255154660723⟩ b (b.length / 8)
  let t := mixS s (leN (b.drop (8 * (b.length / 8))) + (b.length % 256 : Nat) * 72057594037927936)
  let u := roundsS ⟨t.a, t.b, ixor .u64 t.c 255, t.d⟩ 4
  ixor .u64 (ixor .u64 (ixor .u64 u.a u.b) u.c) u.d
theorem key_lo {k : List Int} (h : k.length = 16) : arrL 8 k = k.take 8 := by
  apply List.ext_getElem?
  intro i
  unfold arrL
  rw [List.getElem?_take]
  rcases Nat.lt_or_ge i 8 with hi | hi
  · rw [if_pos hi, List.getElem?_map, List.getElem?_range hi, List.getElem?_eq_getElem (by omega)]
    simp [List.getD_eq_getElem?_getD, List.getElem?_eq_getElem (show i < k.length by omega)]
  · rw [if_neg (by omega), List.getElem?_eq_none (by simpa using hi)]
theorem key_hi {k : List Int} (h : k.length = 16) : ([k.getD 8 0, k.getD 9 0, k.getD 10 0, k.getD 11 0, k.getD 12 0, k.getD 13 0, k.getD 14 0, k.getD 15 0] : List Int) = k.drop 8 := by
  apply List.ext_getElem (by simp; omega)
  intro i h1 h2
  simp only [List.length_cons, List.length_nil] at h1
  rw [List.getElem_drop]
  have e : ∀ j, (hj : j < k.length) → k.getD j 0 = k[j] := fun j hj => getD_get hj
  rcases i with _ | _ | _ | _ | _ | _ | _ | _ | i
  all_goals first | omega | (simp only [List.getElem_cons_zero, List.getElem_cons_succ]; rw [e _ (by omega)])
theorem wordAt_ok {b : List Int} (h : okB b) (k : Nat) : okB (wordAt b k) := (h.drop _).take _
theorem wordAt_len (b : List Int) (k : Nat) : (wordAt b k).length ≤ 8 := by simp [wordAt]; omega
theorem last_bd {b : List Int} (h : okB b) : 0 ≤ leN (b.drop (8 * (b.length / 8))) ∧ leN (b.drop (8 * (b.length / 8))) < 72057594037927936 := by
  have h1 := leN_bd (h.drop (8 * (b.length / 8)))
  have h2 : (b.drop (8 * (b.length / 8))).length ≤ 7 := by simp; omega
  have h3 : (256 : Int) ^ (b.drop (8 * (b.length / 8))).length ≤ 72057594037927936 := by
    generalize (b.drop (8 * (b.length / 8))).length = m at h2
    rcases m with _ | _ | _ | _ | _ | _ | _ | _ | m
    all_goals first | decide | omega
  omega
theorem iquo8 {n : Nat} (h : n ≤ 9000000000000000000) : iquo .i64 (n : Int) 8 = ((n / 8 : Nat) : Int) := by
  unfold iquo
  rw [Int.tdiv_eq_ediv_of_nonneg (by omega), wi (by omega) (by omega)]
  omega
theorem prog_sum {k b : List Int} (hk : k.length = 16) (ok : okB k) (ob : okB b) (hb : b.length ≤ 4000000000000000000) : F_siphash_Sum k b = some (sumS k b) := by
  unfold F_siphash_Sum
  rw [key_lo hk, key_hi hk, little_spec (ok.take 8) (by simp; omega), Option.bind_some, little_spec (ok.drop 8) (by simp; omega), Option.bind_some]
  generalize hs0 : (S_multihopref03_state.mk (ixor .u64 (leN (k.take 8)) 8317987319222330741) (ixor .u64 (leN (k.drop 8)) 7237128888997146477) (ixor .u64 (leN (k.take 8)) 7816392313619706465) (ixor .u64 (leN (k.drop 8)) 8387220255154660723)) = s0
  have hL : ([ixor .u64 (leN (k.take 8)) 8317987319222330741, ixor .u64 (leN (k.drop 8)) 7237128888997146477, ixor .u64 (leN (k.take 8)) 7816392313619706465, ixor .u64 (leN (k.drop 8)) 8387220255154660723] : List Int) = toL s0 := by rw [← hs0]; rfl
  rw [hL]
  have hl := loop_run (step := F_siphash_Sum_l1 b) (S := fun j => ((j : Int), toL (wordsS s0 b j))) (b.length / 8) (r := toL (wordsS s0 b (b.length / 8))) (fun j hj => by
    unfold F_siphash_Sum_l1
    dsimp only
    have w1 : IntKind.wrap .i64 (8 * (j : Int)) = ((8 * j : Nat) : Int) := by rw [wi (by omega) (by omega)]; omega
    have w2 : IntKind.wrap .i64 (((8 * j : Nat) : Int) + 8) = ((8 * j + 8 : Nat) : Int) := by rw [wi (by omega) (by omega)]; omega
    rw [iquo8 (by omega), decT (show (j : Int) < ((b.length / 8 : Nat) : Int) by omega), w1, w2, subO_some (by omega) (by omega) (by omega)]
    simp only [cond_true, Option.bind_some, Int.toNat_natCast]
    rw [show (b.take (8 * j + 8)).drop (8 * j) = wordAt b j by rw [wordAt, List.drop_take]; congr 1; omega, little_spec (wordAt_ok ob j) (wordAt_len b j), Option.bind_some, mix_spec, Option.bind_some, wk j (by omega)]
    rfl) (by
    unfold F_siphash_Sum_l1
    dsimp only
    rw [iquo8 (by omega), decF (show ¬ ((b.length / 8 : Nat) : Int) < ((b.length / 8 : Nat) : Int) by omega)]
    simp only [cond_false])
  simp only [Int.natCast_zero, wordsS] at hl
  rw [hl, Option.bind_some, iquo8 (by omega), wi (by omega) (by omega), show (8 : Int) * ((b.length / 8 : Nat) : Int) = ((8 * (b.length / 8) : Nat) : Int) by omega, subO_some (by omega) (by omega) (by omega), Option.bind_some]
  simp only [Int.toNat_natCast, List.take_length]
  have hbd := last_bd ob
  rw [little_spec (ob.drop _) (by simp; omega), Option.bind_some]
  have hor : ior .u64 (leN (b.drop (8 * (b.length / 8)))) (ishl .u64 (IntKind.wrap .u64 (b.length : Int)) 56) = leN (b.drop (8 * (b.length / 8))) + (b.length % 256 : Nat) * 72057594037927936 := by
    rw [ishl_eq (by omega) (by omega), wu (by omega) (by omega)]
    have e : (2 : Int) ^ (56 : Int).toNat = 72057594037927936 := by decide
    have e2 : (72057594037927936 : Int) = 2 ^ 56 := by decide
    rw [e, show (b.length : Int) * 72057594037927936 % 18446744073709551616 = ((b.length % 256 : Nat) : Int) * 72057594037927936 by omega, e2]
    exact ior_add 56 hbd.1 (by omega) (by omega) (by rw [← e2]; omega)
  rw [hor, mix_spec, Option.bind_some]
  have hr := rounds_spec (S_multihopref03_state.mk (mixS (wordsS s0 b (b.length / 8)) (leN (b.drop (8 * (b.length / 8))) + (b.length % 256 : Nat) * 72057594037927936)).a (mixS (wordsS s0 b (b.length / 8)) (leN (b.drop (8 * (b.length / 8))) + (b.length % 256 : Nat) * 72057594037927936)).b (ixor .u64 (mixS (wordsS s0 b (b.length / 8)) (leN (b.drop (8 * (b.length / 8))) + (b.length % 256 : Nat) * 72057594037927936)).c 255) (mixS (wordsS s0 b (b.length / 8)) (leN (b.drop (8 * (b.length / 8))) + (b.length % 256 : Nat) * 72057594037927936)).d) 4 (by omega)
  simp only [toL, List.getD_cons_zero, List.getD_cons_succ] at hr ⊢
  rw [show ((4 : Nat) : Int) = 4 from rfl] at hr
  rw [hr, Option.bind_some]
  simp only [List.getD_cons_zero, List.getD_cons_succ, sumS, hs0]
theorem ref_sum {k b : List Int} (hk : k.length = 16) (ok : okB k) (ob : okB b) (hb : b.length ≤ 4000000000000000000) : F_ref03_Sum k b = some (sumS k b) := by
  unfold F_ref03_Sum
  rw [key_lo hk, key_hi hk, number_spec (ok.take 8) (by simp; omega), Option.bind_some, number_spec (ok.drop 8) (by simp; omega), Option.bind_some]
  generalize hs0 : (S_multihopref03_state.mk (ixor .u64 (leN (k.take 8)) 8317987319222330741) (ixor .u64 (leN (k.drop 8)) 7237128888997146477) (ixor .u64 (leN (k.take 8)) 7816392313619706465) (ixor .u64 (leN (k.drop 8)) 8387220255154660723)) = s0
  have hl := loop_run (step := F_ref03_Sum_l1 b) (S := fun j => (((8 * j : Nat) : Int), wordsS s0 b j)) (b.length / 8) (r := (((8 * (b.length / 8) : Nat) : Int), wordsS s0 b (b.length / 8))) (fun j hj => by
    unfold F_ref03_Sum_l1
    dsimp only
    have w2 : IntKind.wrap .i64 (((8 * j : Nat) : Int) + 8) = ((8 * j + 8 : Nat) : Int) := by rw [wi (by omega) (by omega)]; omega
    rw [w2, decT (show ((8 * j + 8 : Nat) : Int) ≤ (b.length : Int) by omega), subO_some (by omega) (by omega) (by omega)]
    simp only [cond_true, Option.bind_some, Int.toNat_natCast]
    rw [show (b.take (8 * j + 8)).drop (8 * j) = wordAt b j by rw [wordAt, List.drop_take]; congr 1; omega, number_spec (wordAt_ok ob j) (wordAt_len b j), Option.bind_some, sword_spec, Option.bind_some]
    rfl) (by
    unfold F_ref03_Sum_l1
    dsimp only
    rw [wi (by omega) (by omega), decF (show ¬ ((8 * (b.length / 8) : Nat) : Int) + 8 ≤ (b.length : Int) by omega)]
    simp only [cond_false])
  simp only [Nat.mul_zero, Int.natCast_zero, wordsS] at hl
  rw [hl, Option.bind_some]
  dsimp only
  rw [subO_some (by omega) (by omega) (by omega), Option.bind_some]
  simp only [Int.toNat_natCast, List.take_length]
  have hbd := last_bd ob
  rw [number_spec (ob.drop _) (by simp; omega), Option.bind_some]
  have hor : IntKind.wrap .u64 (leN (b.drop (8 * (b.length / 8))) + ishl .u64 (IntKind.wrap .u64 (Int.tmod (b.length : Int) 256)) 56) = leN (b.drop (8 * (b.length / 8))) + (b.length % 256 : Nat) * 72057594037927936 := by
    have et : Int.tmod (b.length : Int) 256 = ((b.length % 256 : Nat) : Int) := by rw [Int.tmod_eq_emod_of_nonneg (by omega)]; omega
    rw [et, ishl_eq (by omega) (by omega), wu (x := ((b.length % 256 : Nat) : Int)) (by omega) (by omega)]
    have e : (2 : Int) ^ (56 : Int).toNat = 72057594037927936 := by decide
    rw [e, Int.emod_eq_of_lt (by omega) (by omega), wu (by omega) (by omega)]
  rw [hor, sword_spec, Option.bind_some]
  simp only [round_spec, Option.bind_some, sumS, hs0, roundsS]

theorem ixor_bd (x y : Int) : 0 ≤ ixor .u64 x y ∧ ixor .u64 x y < 18446744073709551616 := by unfold ixor; rw [wrap64]; omega
theorem sumS_bd (k b : List Int) : 0 ≤ sumS k b ∧ sumS k b < 18446744073709551616 := by unfold sumS; exact ixor_bd _ _
theorem prog_tag {k b : List Int} (hk : k.length = 16) (ok : okB k) (ob : okB b) (hb : b.length ≤ 4000000000000000000) (n : Nat) (h1 : 1 ≤ n) (h8 : n ≤ 8) : F_siphash_Tag k b n = some (leB (sumS k b) n, true) := by
  unfold F_siphash_Tag
  rw [decF (show ¬ (n : Int) < 1 by omega), decF (show ¬ (n : Int) > 8 by omega), prog_sum hk ok ob hb]
  simp only [cond_false, Option.bind_some]
  have e2 : mkO 1 (n : Int) (n : Int) = some n := by
    unfold mkO
    rw [if_pos ⟨by omega, by omega, by omega, by omega⟩, Int.toNat_natCast]
  rw [e2, Option.bind_some]
  have hl := loop_run (step := F_siphash_Tag_l1 n (sumS k b)) (S := fun j => ((j : Int), (leB (sumS k b) n).take j ++ List.replicate (n - j) 0)) n (r := leB (sumS k b) n) (fun j hj => by
    unfold F_siphash_Tag_l1
    dsimp only
    have w1 : IntKind.wrap .i64 (8 * (j : Int)) = ((8 * j : Nat) : Int) := by rw [wi (by omega) (by omega)]; omega
    have hlen : ((leB (sumS k b) n).take j ++ List.replicate (n - j) (0 : Int)).length = n := by
      simp only [List.length_append, List.length_take, leB_len, List.length_replicate]; omega
    rw [decT (show (j : Int) < (n : Int) by omega), w1, decT (show (0 : Int) ≤ ((8 * j : Nat) : Int) by omega)]
    simp only [cond_true, Cut.app, Nat.zero_add, Int.toNat_natCast]
    rw [idx_lt (by omega), Option.bind_some, List.getElem?_eq_getElem (by omega), Option.bind_some, wk j (by omega), byte_eq (by omega) (by omega), Int.toNat_natCast]
    congr 3
    obtain ⟨m, hm⟩ : ∃ m, n - j = m + 1 := ⟨n - j - 1, by omega⟩
    rw [hm, List.replicate_succ, set_mid _ _ _ _ (by simp only [List.length_take, leB_len]; omega), take_snoc (leB_get hj), show n - (j + 1) = m by omega]
    simp) (by
    unfold F_siphash_Tag_l1
    dsimp only
    rw [decF (show ¬ (n : Int) < (n : Int) by omega)]
    simp only [cond_false]
    rw [List.take_of_length_le (by rw [leB_len]; exact Nat.le_refl _), Nat.sub_self]
    simp)
  simp only [Int.natCast_zero, List.take_zero, List.nil_append, Nat.sub_zero] at hl
  rw [hl]
  rfl
theorem ref_tag {k b : List Int} (hk : k.length = 16) (ok : okB k) (ob : okB b) (hb : b.length ≤ 4000000000000000000) (n : Nat) (h1 : 1 ≤ n) (h8 : n ≤ 8) : F_ref03_Tag k b n = some (leB (sumS k b) n, true) := by
  unfold F_ref03_Tag
  rw [decF (show ¬ (n : Int) < 1 by omega), decF (show ¬ (n : Int) > 8 by omega), ref_sum hk ok ob hb]
  simp only [cond_false, Option.bind_some]
  have hs := sumS_bd k b
  generalize sumS k b = v at *
  have hl := loop_run (step := F_ref03_Tag_l1 n) (S := fun j => (v / 2 ^ (8 * j), (leB v n).take j, (j : Int))) n (r := leB v n) (fun j hj => by
    unfold F_ref03_Tag_l1
    dsimp only
    rw [decT (show (j : Int) < (n : Int) by omega)]
    simp only [cond_true, Cut.app]
    rw [appO_some (by simp only [List.length_take, leB_len, List.length_singleton]; omega) (by simp only [List.length_take, leB_len, List.length_singleton]; omega), Option.bind_some, wk j (by omega), wrap8, take_snoc (leB_get hj), ishr_eq (by omega) (by omega)]
    congr 3
    have e : (2 : Int) ^ (8 : Int).toNat = 2 ^ 8 := by decide
    rw [e, Int.ediv_ediv_of_nonneg (Int.pow_nonneg (by omega)), ← Int.pow_add]
    rfl) (by
    unfold F_ref03_Tag_l1
    dsimp only
    rw [decF (show ¬ (n : Int) < (n : Int) by omega)]
    simp only [cond_false]
    rw [List.take_of_length_le (by rw [leB_len]; exact Nat.le_refl _)])
  simp only [Int.natCast_zero, List.take_zero, Nat.mul_zero, Int.pow_zero, Int.ediv_one] at hl
  rw [hl]
  rfl
end
section
open Go.RowKit

def FZ : S_Frame := S_Frame.mk 0 false false false 0 0 (S_Addr.mk 0 0 0) (S_Addr.mk 0 0 0) 0 0 [] []
def Z4 : List Int := List.replicate 4 0
def sec1 (f : S_Frame) (c i : Int) (m : List Int) : S_Frame := S_Frame.mk f.Kind f.AckRequest f.Pending true f.Seq f.Pan f.Dst f.Src c i f.Payload m
theorem sec1_wf {f : S_Frame} (w : WfF f) {c i : Int} (hc : 0 ≤ c ∧ c ≤ 4294967295) (hi : 0 ≤ i ∧ i ≤ 255) {m : List Int} (om : okB m) (lm : m.length ≤ 100) : WfF (sec1 f c i m) :=
  ⟨w.seq, w.pan, w.dst, w.src, hc, hi, w.pay, w.payl, om, by show m.length ≤ _; omega⟩
theorem valid_mic {f : S_Frame} (hk : f.Kind ≠ 2) (c i : Int) {m n : List Int} (h : m.length = n.length) : validB (sec1 f c i m) = validB (sec1 f c i n) := by
  unfold validB sec1
  dsimp only
  rw [bF hk, cond_false, cond_false]
  unfold dataB secB lenF
  simp only [h]
theorem valid_nil {f : S_Frame} (hk : f.Kind ≠ 2) (c i : Int) : validB (sec1 f c i []) = false := by
  unfold validB sec1
  dsimp only
  rw [bF hk, cond_false]
  unfold dataB secB
  simp
theorem header_nil {f : S_Frame} (w : WfF f) (hk : f.Kind ≠ 2) {c i : Int} (hc : 0 ≤ c ∧ c ≤ 4294967295) (hi : 0 ≤ i ∧ i ≤ 255) : F_frame_Header (sec1 f c i []) = some (if validB (sec1 f c i Z4) = true then hdL (sec1 f c i Z4) else []) := by
  have em : mkO 1 4 4 = some 4 := rfl
  have w1 := sec1_wf w hc hi (m := []) okB_nil (by simp)
  have w4 := sec1_wf w hc hi (m := Z4) (fun z hz => by rw [(List.mem_replicate.1 hz).2]; omega) (by simp [Z4])
  unfold F_frame_Header
  rw [f_valid_eq w1, valid_nil hk, em]
  simp only [Option.bind_some, cond_false]
  show ((F_frame_Valid (sec1 f c i Z4)).bind fun v18 => bif v18 then F_frame_Header_j1 (sec1 f c i Z4) else some []) = _
  rw [f_valid_eq w4, Option.bind_some]
  cases hv : validB (sec1 f c i Z4)
  · rfl
  · rw [cond_true, f_header_j1 (good_of w4 hv), if_pos rfl]
theorem header_nil_ok {f : S_Frame} (w : WfF f) {c i : Int} (hc : 0 ≤ c ∧ c ≤ 4294967295) (hi : 0 ≤ i ∧ i ≤ 255) : okB (if validB (sec1 f c i Z4) = true then hdL (sec1 f c i Z4) else []) ∧ (if validB (sec1 f c i Z4) = true then hdL (sec1 f c i Z4) else []).length ≤ 1000 := by
  have w4 := sec1_wf w hc hi (m := Z4) (fun z hz => by rw [(List.mem_replicate.1 hz).2]; omega) (by simp [Z4])
  split
  · rename_i h
    have g := good_of w4 h
    exact ⟨hdL_ok g, by have := g.size; omega⟩
  · exact ⟨okB_nil, by simp⟩
theorem validG_len {g : S_Guard} (h : validG g = true) : g.Keys.length ≤ 4 ∧ g.Peers.length ≤ 16 ∧ g.Counter ≤ g.Reserved := by
  unfold validG at h
  simp only [Bool.and_eq_true, decide_eq_true_eq] at h
  exact ⟨h.1.1.1.1.1, h.1.1.2, h.1.1.1.2⟩
theorem cloneK {l : List S_LinkKey} (h : l.length ≤ 4) : F_guard_clone_api_LinkKey l = some l := by
  unfold F_guard_clone_api_LinkKey
  simp only [Cut.app]
  rw [appO_some (by simp; omega) (by simp; omega)]
  rfl
theorem cloneP {l : List S_Peer} (h : l.length ≤ 16) : F_guard_clone_api_Peer l = some l := by
  unfold F_guard_clone_api_Peer
  simp only [Cut.app]
  rw [appO_some (by simp; omega) (by simp; omega)]
  rfl
theorem own_g {g : S_Guard} (h : validG g = true) : F_guard_own g = some g := by
  obtain ⟨h1, h2, _⟩ := validG_len h
  unfold F_guard_own
  rw [cloneK h1, Option.bind_some, cloneP h2]
  rfl
theorem copied_g {g : S_Guard} (h : validG g = true) : F_ref06_copied g = some g := by
  obtain ⟨h1, h2, _⟩ := validG_len h
  unfold F_ref06_copied
  simp only [Cut.app]
  rw [appO_some (by simp; omega) (by simp; omega), Option.bind_some, appO_some (by simp; omega) (by simp; omega)]
  rfl
noncomputable def tagS (g : S_Guard) (i : Int) (h : List Int) : List Int := leB (sumS (keyS g i).1 h) 4
noncomputable def sealS (g : S_Guard) (f : S_Frame) (i : Int) : S_Guard × S_Frame × Int :=
  if validG g = true ∧ validB f = true ∧ f.Kind ≠ 2 ∧ f.Secure = false then
    (if (keyS g i).2 = true then
      (if g.Counter = g.Reserved then (G0, FZ, 11)
       else if validB (sec1 f g.Counter i Z4) = true then (S_Guard.mk g.Keys (g.Counter + 1) g.Reserved g.Nonce g.Peers, sec1 f g.Counter i (tagS g i (hdL (sec1 f g.Counter i Z4))), 0)
       else (G0, FZ, 3))
     else (G0, FZ, 9))
  else (G0, FZ, 1)
theorem clone_b {l : List Int} (h : l.length ≤ 1000) : F_guard_clone_byte l = some l := by
  unfold F_guard_clone_byte
  simp only [Cut.app]
  rw [appO_some (by simp; omega) (by simp; omega)]
  rfl
theorem seal_p {g : S_Guard} (w : WfG g) {f : S_Frame} (wf : WfF f) {i : Int} (hi : 0 ≤ i ∧ i ≤ 255) : F_guard_Seal g f i = some (sealS g f i) := by
  unfold F_guard_Seal sealS
  rw [valid_pG w, Option.bind_some]
  cases hg : validG g
  · simp [G0, FZ]
  rw [f_valid_eq wf]
  simp only [cond_true, Option.bind_some]
  cases hf : validB f
  · simp [G0, FZ]
  have gf := good_of wf hf
  by_cases hk : f.Kind = 2
  · rw [bT hk]; simp [hk, G0, FZ]
  rw [bF hk]
  cases hs : f.Secure
  rotate_left
  · simp [G0, FZ]
  have hm : f.MIC = [] := (gf.nos hs).2.2
  obtain ⟨q1, q2, q3⟩ := validG_len hg
  have kw := keyS_wf w i
  have hh := header_nil_ok wf w.cnt hi
  have hd := header_nil wf hk w.cnt hi
  have tg := prog_tag kw.1 kw.2 hh.1 (by omega) 4 (by omega) (by omega)
  simp only [show ((4 : Nat) : Int) = 4 from rfl] at tg
  have hc := w.cnt
  have hr := w.res
  rw [key_p w]
  simp only [cond_true, cond_false, Option.bind_some, hm]
  cases hke : (keyS g i).2
  · simp [hk, G0, FZ]
  simp only [cond_true]
  by_cases hcr : g.Counter = g.Reserved
  · rw [bT hcr]; simp [hk, hcr, G0, FZ]
  rw [bF hcr, cond_false]
  have hd' : F_frame_Header (S_Frame.mk f.Kind f.AckRequest f.Pending true f.Seq f.Pan f.Dst f.Src g.Counter i f.Payload []) = _ := hd
  rw [hd', Option.bind_some, tg, Option.bind_some]
  have wt := sec1_wf wf hc hi (m := leB (sumS (keyS g i).1 (if validB (sec1 f g.Counter i Z4) = true then hdL (sec1 f g.Counter i Z4) else [])) 4) (leB_ok _ _) (by rw [leB_len]; omega)
  have hv : F_frame_Valid (S_Frame.mk f.Kind f.AckRequest f.Pending true f.Seq f.Pan f.Dst f.Src g.Counter i f.Payload (leB (sumS (keyS g i).1 (if validB (sec1 f g.Counter i Z4) = true then hdL (sec1 f g.Counter i Z4) else [])) 4)) = some (validB (sec1 f g.Counter i Z4)) := by
    refine (f_valid_eq wt).trans ?_
    rw [valid_mic hk g.Counter i (n := Z4) (by rw [leB_len]; rfl)]
  rw [hv, Option.bind_some]
  cases h4 : validB (sec1 f g.Counter i Z4)
  · simp [hk, hcr, G0, FZ]
  rw [clone_b (by have := (good_pay gf).1; omega), own_g hg]
  simp only [cond_true, Option.bind_some, if_true]
  rw [wu32 (x := g.Counter + 1) (by omega) (by omega)]
  simp [hk, hcr, sec1, tagS]
theorem seal_r {g : S_Guard} (w : WfG g) {f : S_Frame} (wf : WfF f) {i : Int} (hi : 0 ≤ i ∧ i ≤ 255) : F_ref06_Seal g f i = some (sealS g f i) := by
  unfold F_ref06_Seal sealS
  rw [valid_rG w, Option.bind_some]
  cases hg : validG g
  · simp [G0, FZ]
  rw [r_valid_eq wf]
  simp only [cond_true, Option.bind_some]
  cases hf : validB f
  · simp [G0, FZ]
  have gf := good_of wf hf
  by_cases hk : f.Kind = 2
  · rw [bT hk]; simp [hk, G0, FZ]
  rw [bF hk]
  cases hs : f.Secure
  rotate_left
  · simp [G0, FZ]
  obtain ⟨q1, q2, q3⟩ := validG_len hg
  have kw := keyS_wf w i
  have hc := w.cnt
  have hr := w.res
  have em : mkO 1 4 4 = some 4 := rfl
  have hp := (good_pay gf).1
  rw [key_r w]
  simp only [cond_true, cond_false, Option.bind_some, Cut.app]
  cases hke : (keyS g i).2
  · simp [hk, G0, FZ]
  simp only [cond_true]
  by_cases hcr : g.Counter = g.Reserved
  · rw [bT hcr]; simp [hk, hcr, G0, FZ]
  rw [bF hcr, cond_false, appO_some (by simp; omega) (by simp; omega), Option.bind_some, em, Option.bind_some, List.nil_append]
  have w4 := sec1_wf wf hc hi (m := Z4) (fun z hz => by rw [(List.mem_replicate.1 hz).2]; omega) (by simp [Z4])
  have hv : F_ref05_Valid (S_Frame.mk f.Kind f.AckRequest f.Pending true f.Seq f.Pan f.Dst f.Src g.Counter i f.Payload (List.replicate 4 (0 : Int))) = some (validB (sec1 f g.Counter i Z4)) := r_valid_eq w4
  rw [hv, Option.bind_some]
  cases h4 : validB (sec1 f g.Counter i Z4)
  · simp [hk, hcr, G0, FZ]
  have g4 := good_of w4 h4
  have hd : F_ref05_Header (S_Frame.mk f.Kind f.AckRequest f.Pending true f.Seq f.Pan f.Dst f.Src g.Counter i f.Payload (List.replicate 4 (0 : Int))) = some (hdL (sec1 f g.Counter i Z4)) := by
    show F_ref05_Header (sec1 f g.Counter i Z4) = _
    unfold F_ref05_Header
    rw [r_valid_eq w4, h4, Option.bind_some, cond_true]
    exact r_header_j1 g4
  have tg := ref_tag kw.1 kw.2 (hdL_ok g4) (by have := g4.size; omega) 4 (by omega) (by omega)
  simp only [show ((4 : Nat) : Int) = 4 from rfl] at tg
  rw [hd, Option.bind_some, tg, copied_g hg]
  simp only [cond_true, Option.bind_some, if_true]
  rw [wu32 (x := g.Counter + 1) (by omega) (by omega)]
  simp [hk, hcr, sec1, tagS]
end
section
open Go.RowKit

/-- the peer after a frame with the counter -/
noncomputable def accS (p : S_Peer) (c : Int) : Option S_Peer :=
  if c > p.Last then some (S_Peer.mk p.Src p.Key c (ior .u32 (ishl .u32 p.Window (c - p.Last)) 1))
  else if p.Last - c ≥ 32 ∨ iand .u32 (ishr .u32 p.Window (p.Last - c)) 1 = 1 then none
  else some (S_Peer.mk p.Src p.Key p.Last (ior .u32 p.Window (ishl .u32 1 (p.Last - c))))
theorem acc_p {p : S_Peer} (w : WfP p) {c : Int} (hc : 0 ≤ c ∧ c ≤ 4294967295) : F_guard_accept p c = some (match accS p c with
    | some q => (q, 0)
    | none => (S_Peer.mk (S_Addr.mk 0 0 0) 0 0 0, 13)) := by
  have hl := w.last
  unfold F_guard_accept accS
  by_cases h1 : c > p.Last
  · rw [decT h1, if_pos h1, wu32 (by omega) (by omega), decT (by omega)]
    rfl
  rw [decF h1, if_neg h1, cond_false, wu32 (x := p.Last - c) (by omega) (by omega)]
  by_cases h2 : p.Last - c ≥ 32
  · rw [decT h2, if_pos (.inl h2)]
    rfl
  rw [decF h2, cond_false, decT (show 0 ≤ p.Last - c by omega), cond_true]
  by_cases h3 : iand .u32 (ishr .u32 p.Window (p.Last - c)) 1 = 1
  · rw [bT h3, if_pos (.inr h3)]
    rfl
  · rw [bF h3, if_neg (by omega)]
    rfl
theorem shl_out {w d : Int} (h : d ≥ 32) : ishl .u32 w d = 0 := by
  unfold ishl
  rw [show min d.toNat IntKind.u32.bits = 32 by rw [show IntKind.u32.bits = 32 from rfl]; omega, wrap32]
  omega
theorem acc_r {p : S_Peer} (w : WfP p) {c : Int} (hc : 0 ≤ c ∧ c ≤ 4294967295) : F_ref06_accept p c = some (match accS p c with
    | some q => (q, true)
    | none => (p, false)) := by
  have hl := w.last
  unfold F_ref06_accept F_ref06_accept_j1 accS
  by_cases h1 : c > p.Last
  · rw [decT h1, if_pos h1, wu32 (by omega) (by omega), cond_true]
    by_cases h2 : c - p.Last ≥ 32
    · rw [decT h2, shl_out h2]
      rfl
    · rw [decF h2, decT (by omega)]
      rfl
  rw [decF h1, if_neg h1, cond_false, wu32 (x := p.Last - c) (by omega) (by omega)]
  by_cases h2 : p.Last - c ≥ 32
  · rw [decT h2, if_pos (.inl h2)]
    rfl
  rw [decF h2, cond_false, decT (show 0 ≤ p.Last - c by omega), cond_true]
  by_cases h3 : iand .u32 (ishr .u32 p.Window (p.Last - c)) 1 = 1
  · rw [bT h3, if_pos (.inr h3)]
    rfl
  · rw [bF h3, if_neg (by omega)]
    rfl
end
section
open Go.RowKit

theorem gsame_refl {g : S_Guard} (w : WfG g) (hk : ∀ k ∈ g.Keys, S_LinkKey.eqb k k = true) (hp : ∀ p ∈ g.Peers, S_Peer.eqb p p = true) : F_ref06_Same g g = some true := by
  have h1 := w.keysl
  have h2 := w.peersl
  unfold F_ref06_Same
  simp only [bne_self_eq_false, cond_false]
  have l1 := loop_run (step := F_ref06_Same_l1 g g) (S := fun k => (k : Int)) g.Keys.length (r := Sum.inl ()) (fun k hkl => by
    unfold F_ref06_Same_l1
    rw [decT (by omega), idx_lt hkl]
    simp only [cond_true, Option.bind_some, hk _ (List.getElem_mem hkl), wk k (by omega)]) (by
    unfold F_ref06_Same_l1
    rw [decF (by omega)]
    rfl)
  have l2 := loop_run (step := F_ref06_Same_l2 g g) (S := fun k => (k : Int)) g.Peers.length (r := Sum.inl ()) (fun k hkl => by
    unfold F_ref06_Same_l2
    rw [decT (by omega), idx_lt hkl]
    simp only [cond_true, Option.bind_some, hp _ (List.getElem_mem hkl), wk k (by omega)]) (by
    unfold F_ref06_Same_l2
    rw [decF (by omega)]
    rfl)
  simp only [Int.natCast_zero] at l1 l2
  rw [l1]
  simp only [Option.bind_some, Sum.elim_inl]
  rw [l2]
  rfl
theorem same_g {g : S_Guard} (w : WfG g) : F_ref06_Same g g = some true :=
  gsame_refl w (fun k hk => by
    have h := w.keys k hk
    unfold S_LinkKey.eqb
    rw [arrEq_eq h.len h.len]
    simp) (fun p _ => by
    unfold S_Peer.eqb S_Addr.eqb
    simp)
end
section
open Go.RowKit

def place : List S_Peer → S_Addr → Int → Nat
  | [], _, _ => 0
  | p :: l, a, k => if befB p a k = true then place l a k + 1 else 0
theorem place_le : ∀ (l : List S_Peer) (a : S_Addr) (k : Int), place l a k ≤ l.length
  | [], _, _ => by simp [place]
  | p :: l, a, k => by
    have := place_le l a k
    unfold place
    split <;> simp <;> omega
theorem place_loop {l : List S_Peer} (hl : l.length ≤ 1000) (a : S_Addr) (c : Int) {step : Int → Option (Int ⊕ Int)} (h1 : ∀ k (hk : k < l.length), step (k : Int) = if befB l[k] a c = true then some (.inl ((k + 1 : Nat) : Int)) else some (.inr (k : Int))) (h2 : step (l.length : Int) = some (.inr (l.length : Int))) :
    ∀ m k, m + k = l.length → loopO step (k : Int) = some ((k + place (l.drop k) a c : Nat) : Int)
  | 0, k, hk => by
    obtain rfl : k = l.length := by omega
    rw [loop_done h2, List.drop_length]
    rfl
  | m + 1, k, hk => by
    have hkl : k < l.length := by omega
    have h := h1 k hkl
    rw [List.drop_eq_getElem_cons hkl, place]
    by_cases hb : befB l[k] a c = true
    · rw [if_pos hb] at h ⊢
      rw [loop_next h, place_loop hl a c h1 h2 m (k + 1) (by omega)]
      congr 2
      omega
    · rw [if_neg hb] at h ⊢
      rw [loop_done h]
      rfl
theorem place_p {g : S_Guard} (hl : g.Peers.length ≤ 16) (f : S_Frame) : loopO (F_guard_Open_l1 g f) 0 = some (place g.Peers f.Src f.Key : Int) := by
  have h := place_loop (l := g.Peers) (by omega) f.Src f.Key (step := F_guard_Open_l1 g f) (fun k hk => by
    unfold F_guard_Open_l1
    rw [decT (by omega), idx_lt hk, wk k (by omega)]
    simp only [cond_true, Option.bind_some, peers_cmp]
    unfold befB
    by_cases hb : cmpK g.Peers[k].Src g.Peers[k].Key f.Src f.Key < 0
    · rw [decT hb]; rfl
    · rw [decF hb]; rfl) (by
    unfold F_guard_Open_l1
    rw [decF (by omega)]
    rfl) g.Peers.length 0 (by omega)
  simpa using h
theorem place_r {g : S_Guard} (w : WfG g) (hl : g.Peers.length ≤ 16) {f : S_Frame} (wf : AdrWf f.Src) (mf : -9223372036854775808 ≤ f.Src.Mode ∧ f.Src.Mode ≤ 9223372036854775807) : loopO (F_ref06_Open_l1 g f) 0 = some (place g.Peers f.Src f.Key : Int) := by
  have h := place_loop (l := g.Peers) (by omega) f.Src f.Key (step := F_ref06_Open_l1 g f) (fun k hk => by
    unfold F_ref06_Open_l1
    simp only [Cut.app]
    rw [decT (by omega), idx_lt hk, wk k (by omega), Int.toNat_natCast, Nat.zero_add, List.getElem?_eq_getElem hk]
    simp only [cond_true, Option.bind_some, before_r (w.peers _ (List.getElem_mem hk)) wf mf]
    cases befB g.Peers[k] f.Src f.Key <;> rfl) (by
    unfold F_ref06_Open_l1
    rw [decF (by omega)]
    rfl) g.Peers.length 0 (by omega)
  simpa using h
end
section
open Go.RowKit

noncomputable def verS (g : S_Guard) (f : S_Frame) : Bool := decide (tagS g f.Key (hdL f) = f.MIC)
def freshP (f : S_Frame) : S_Peer := S_Peer.mk f.Src f.Key f.Counter 4294967295
def respL (n : Int) : List Int := [2] ++ beB n 4
noncomputable def newS (g : S_Guard) (f : S_Frame) : S_Guard × Int :=
  if f.Kind ≠ 3 then (G0, 11)
  else if f.Payload ≠ respL g.Nonce then (G0, 11)
  else if g.Peers.length = 16 then (G0, 10)
  else (S_Guard.mk g.Keys g.Counter g.Reserved g.Nonce (g.Peers.take (place g.Peers f.Src f.Key) ++ [freshP f] ++ g.Peers.drop (place g.Peers f.Src f.Key)), 0)
noncomputable def openS (g : S_Guard) (f : S_Frame) : S_Guard × Int :=
  if validG g = true ∧ validB f = true ∧ f.Secure = true then
    (if (keyS g f.Key).2 = true then
      (if verS g f = true then
        (match g.Peers[place g.Peers f.Src f.Key]? with
        | some p => if S_Addr.eqb p.Src f.Src = true ∧ p.Key = f.Key then
            (match accS p f.Counter with
            | some q => (S_Guard.mk g.Keys g.Counter g.Reserved g.Nonce (g.Peers.set (place g.Peers f.Src f.Key) q), 0)
            | none => (G0, 13))
          else newS g f
        | none => newS g f)
      else (G0, 12))
    else (G0, 9))
  else (G0, 1)
theorem equal_b {a b : List Int} (ha : okB a) (hb : okB b) : F_bytes_Equal a b = some (decide (a = b)) := by
  unfold F_bytes_Equal
  simp only [Cut.app]
  rw [u8L_beq ha hb]
theorem ver_p {g : S_Guard} (w : WfG g) {f : S_Frame} (gf : GoodF f) (hs : f.Secure = true) : F_siphash_Verify (keyS g f.Key).1 (hdL f) f.MIC = some (verS g f) := by
  have kw := keyS_wf w f.Key
  have hm := (gf.sec hs).2.2.2.2
  have tg := prog_tag kw.1 kw.2 (hdL_ok gf) (by have := gf.size; omega) 4 (by omega) (by omega)
  simp only [show ((4 : Nat) : Int) = 4 from rfl] at tg
  unfold F_siphash_Verify verS tagS
  rw [hm, show ((4 : Nat) : Int) = 4 from rfl, tg]
  simp only [Option.bind_some, cond_true]
  rw [equal_b (leB_ok _ _) gf.mic]
  rfl
theorem ver_r {g : S_Guard} (w : WfG g) {f : S_Frame} (gf : GoodF f) (hs : f.Secure = true) : F_ref03_Verify (keyS g f.Key).1 (hdL f) f.MIC = some (verS g f) := by
  have kw := keyS_wf w f.Key
  have hm := (gf.sec hs).2.2.2.2
  have tg := ref_tag kw.1 kw.2 (hdL_ok gf) (by have := gf.size; omega) 4 (by omega) (by omega)
  simp only [show ((4 : Nat) : Int) = 4 from rfl] at tg
  unfold F_ref03_Verify verS tagS
  rw [hm, show ((4 : Nat) : Int) = 4 from rfl, tg]
  simp only [Option.bind_some, cond_true]
  rw [same_spec _ _ (by rw [leB_len]; omega)]
  rfl
theorem own_gR {g : S_Guard} (h : validG g = true) : F_guard_own_R g = some g := by
  obtain ⟨h1, h2, _⟩ := validG_len h
  unfold F_guard_own_R F_guard_clone_api_LinkKey_R F_guard_clone_api_Peer_R
  simp only [Cut.app]
  rw [appO_some (by simp; omega) (by simp; omega)]
  simp only [Option.bind_some]
  rw [appO_some (by simp; omega) (by simp; omega)]
  rfl
theorem copied_gR {g : S_Guard} (h : validG g = true) : F_ref06_copied_R g = some g := by
  obtain ⟨h1, h2, _⟩ := validG_len h
  unfold F_ref06_copied_R
  simp only [Cut.app]
  rw [appO_some (by simp; omega) (by simp; omega)]
  simp only [Option.bind_some]
  rw [appO_some (by simp; omega) (by simp; omega)]
  rfl
theorem msg_p (k : Int) {n : Int} (hn : 0 ≤ n ∧ n ≤ 4294967295) : F_guard_message k n = some ([k] ++ beB n 4) := by
  unfold F_guard_message
  have h := octets_append [k] n 4 (by omega) (by simp)
  rw [wu (by omega) (by omega)]
  simp only [show ((4 : Nat) : Int) = 4 from rfl] at h
  rw [h]
  rfl
theorem resp_r (k : Int) {n : Int} (hn : 0 ≤ n ∧ n ≤ 4294967295) : F_ref06_response k n = some ([k] ++ beB n 4) := by
  unfold F_ref06_response
  have h := ref01_append [k] n 4 (by omega) (by simp)
  rw [wu (by omega) (by omega)]
  simp only [show ((4 : Nat) : Int) = 4 from rfl] at h
  rw [h]
  rfl
theorem respL_ok (n : Int) : okB (respL n) := (okB_one (by omega)).append (beB_ok _ _)
theorem respL_len (n : Int) : (respL n).length = 5 := by simp [respL, beB_len]
theorem new_p {g : S_Guard} (w : WfG g) (hg : validG g = true) {f : S_Frame} (op : okB f.Payload) :
    (bif (f.Kind != 3) then some ((S_Guard.mk ([] : List S_LinkKey) 0 0 0 ([] : List S_Peer)), (11 : Int)) else
      (F_guard_message 2 g.Nonce).bind fun v31 => (F_bytes_Equal f.Payload v31).bind fun v32 => bif v32 then
        bif ((List.length g.Peers : Int) == 16) then some ((S_Guard.mk ([] : List S_LinkKey) 0 0 0 ([] : List S_Peer)), 10)
        else bif decide ((0 : Int) ≤ 0 ∧ 0 ≤ (place g.Peers f.Src f.Key : Int) ∧ (place g.Peers f.Src f.Key : Int) ≤ (List.length g.Peers : Int)) then
          (appO 40 (List.take (Int.toNat (place g.Peers f.Src f.Key : Int)) g.Peers) (Cut.app .whole ([(S_Peer.mk f.Src f.Key f.Counter 4294967295)] : List S_Peer))).bind fun l36 =>
          (subO g.Peers (place g.Peers f.Src f.Key : Int) (List.length g.Peers : Int)).bind fun l37 =>
          (appO 40 (List.take (List.length l36) l36) (Cut.app .whole l37)).bind fun l38 =>
          some ((S_Guard.mk g.Keys g.Counter g.Reserved g.Nonce l38), 0)
        else none
      else some ((S_Guard.mk ([] : List S_LinkKey) 0 0 0 ([] : List S_Peer)), 11)) = some (newS g f) := by
  obtain ⟨h1, h2, _⟩ := validG_len hg
  have hp := place_le g.Peers f.Src f.Key
  unfold newS
  by_cases hk : f.Kind = 3
  rotate_left
  · rw [show (f.Kind != 3) = true by simpa using hk, cond_true, if_pos hk]
    rfl
  rw [show (f.Kind != 3) = false by simpa using hk, cond_false, if_neg (by simpa using hk), show F_guard_message 2 g.Nonce = some (respL g.Nonce) from msg_p 2 w.non, Option.bind_some, equal_b op (respL_ok g.Nonce), Option.bind_some]
  by_cases hpay : f.Payload = respL g.Nonce
  rotate_left
  · rw [decF hpay, cond_false, if_pos hpay]
    rfl
  rw [decT hpay, cond_true, if_neg (by simpa using hpay)]
  by_cases h16 : g.Peers.length = 16
  · rw [bT (show (g.Peers.length : Int) = 16 by omega), cond_true, if_pos h16]
    rfl
  rw [bF (show ¬ (g.Peers.length : Int) = 16 by omega), cond_false, if_neg h16, decT (by omega), cond_true]
  simp only [Cut.app, Int.toNat_natCast]
  rw [appO_some (by simp; omega) (by simp; omega), Option.bind_some, subO_some (by omega) (by omega) (by omega), Option.bind_some, Int.toNat_natCast, Int.toNat_natCast, List.take_length, List.take_length, appO_some (by simp; omega) (by simp; omega)]
  rfl
theorem open_p {g : S_Guard} (w : WfG g) {f : S_Frame} (wf : WfF f) : F_guard_Open g f = some (openS g f) := by
  unfold F_guard_Open openS
  rw [valid_pG w, Option.bind_some]
  cases hg : validG g
  · simp [G0]
  rw [f_valid_eq wf]
  simp only [cond_true, Option.bind_some]
  cases hf : validB f
  · simp [G0]
  have gf := good_of wf hf
  cases hs : f.Secure
  · simp [G0]
  simp only [cond_true]
  rw [key_p w, Option.bind_some]
  cases hke : (keyS g f.Key).2
  · simp [G0]
  have hd : F_frame_Header f = some (hdL f) := by
    unfold F_frame_Header
    rw [f_valid_eq wf, hf, Option.bind_some, cond_true]
    exact f_header_j1 gf
  simp only [cond_true]
  rw [hd, Option.bind_some, ver_p w gf hs, Option.bind_some]
  cases hv : verS g f
  · simp [G0]
  obtain ⟨h1, h2, _⟩ := validG_len hg
  have hp := place_le g.Peers f.Src f.Key
  have op := gf.pay
  rw [place_p h2, own_gR hg]
  simp only [cond_true, Option.bind_some, and_self, if_true]
  have new := new_p w hg op
  by_cases hl : place g.Peers f.Src f.Key < g.Peers.length
  rotate_left
  · rw [decF (by omega), cond_false, List.getElem?_eq_none (by omega)]
    exact new
  rw [decT (by omega), cond_true, idx_lt hl, List.getElem?_eq_getElem hl]
  simp only [Option.bind_some]
  cases ha : S_Addr.eqb g.Peers[place g.Peers f.Src f.Key].Src f.Src
  · rw [cond_false, if_neg (by simp)]
    exact new
  rw [cond_true]
  by_cases hky : g.Peers[place g.Peers f.Src f.Key].Key = f.Key
  rotate_left
  · rw [bF hky, cond_false, if_neg (fun q => hky q.2)]
    exact new
  rw [bT hky, cond_true, if_pos ⟨rfl, hky⟩, acc_p (w.peers _ (List.getElem_mem hl)) wf.cnt, Option.bind_some]
  cases accS g.Peers[place g.Peers f.Src f.Key] f.Counter with
  | none => rfl
  | some q =>
    simp only [bne_self_eq_false, cond_false, Cut.app, Int.toNat_natCast, Nat.zero_add]
    rw [idx_lt hl, Option.bind_some, List.getElem?_eq_getElem hl]
    rfl
theorem new_r {g : S_Guard} (w : WfG g) (hg : validG g = true) {f : S_Frame} (lp : f.Payload.length ≤ 1000) :
    (bif (f.Kind != 3) then some ((S_Guard.mk ([] : List S_LinkKey) 0 0 0 ([] : List S_Peer)), (11 : Int)) else
      (F_ref06_response 2 g.Nonce).bind fun v35 => (F_ref01_Same f.Payload v35).bind fun v36 => bif v36 then
        bif ((List.length g.Peers : Int) == 16) then some ((S_Guard.mk ([] : List S_LinkKey) 0 0 0 ([] : List S_Peer)), 10)
        else bif decide ((0 : Int) ≤ (place g.Peers f.Src f.Key : Int) ∧ (place g.Peers f.Src f.Key : Int) ≤ (List.length g.Peers : Int) ∧ (List.length g.Peers : Int) ≤ (List.length g.Peers : Int)) then
          (appO 40 ([(S_Peer.mk f.Src f.Key f.Counter 4294967295)] : List S_Peer) (Cut.app (.part (Int.toNat (place g.Peers f.Src f.Key : Int)) (Int.toNat (List.length g.Peers : Int) - Int.toNat (place g.Peers f.Src f.Key : Int))) g.Peers)).bind fun l40 =>
          (subO g.Peers 0 (place g.Peers f.Src f.Key : Int)).bind fun l41 =>
          (appO 40 l41 l40).bind fun l42 =>
          some ((S_Guard.mk g.Keys g.Counter g.Reserved g.Nonce l42), 0)
        else none
      else some ((S_Guard.mk ([] : List S_LinkKey) 0 0 0 ([] : List S_Peer)), 11)) = some (newS g f) := by
  obtain ⟨h1, h2, _⟩ := validG_len hg
  have hp := place_le g.Peers f.Src f.Key
  unfold newS
  by_cases hk : f.Kind = 3
  rotate_left
  · rw [show (f.Kind != 3) = true by simpa using hk, cond_true, if_pos hk]
    rfl
  rw [show (f.Kind != 3) = false by simpa using hk, cond_false, if_neg (by simpa using hk), show F_ref06_response 2 g.Nonce = some (respL g.Nonce) from resp_r 2 w.non, Option.bind_some, same_spec _ _ (by omega), Option.bind_some]
  by_cases hpay : f.Payload = respL g.Nonce
  rotate_left
  · rw [decF hpay, cond_false, if_pos hpay]
    rfl
  rw [decT hpay, cond_true, if_neg (by simpa using hpay)]
  by_cases h16 : g.Peers.length = 16
  · rw [bT (show (g.Peers.length : Int) = 16 by omega), cond_true, if_pos h16]
    rfl
  rw [bF (show ¬ (g.Peers.length : Int) = 16 by omega), cond_false, if_neg h16, decT (by omega), cond_true]
  simp only [Cut.app, Int.toNat_natCast]
  have ed : ((g.Peers.drop (place g.Peers f.Src f.Key)).take (g.Peers.length - place g.Peers f.Src f.Key)) = g.Peers.drop (place g.Peers f.Src f.Key) := List.take_of_length_le (by rw [List.length_drop]; omega)
  rw [ed, appO_some (by simp; omega) (by simp; omega), Option.bind_some, subO_some (by omega) (by omega) (by omega), Option.bind_some, appO_some (by simp; omega) (by simp; omega), Int.toNat_natCast]
  simp [freshP, List.append_assoc]
theorem open_r {g : S_Guard} (w : WfG g) {f : S_Frame} (wf : WfF f) : F_ref06_Open g f = some (openS g f) := by
  unfold F_ref06_Open openS
  rw [valid_rG w, Option.bind_some]
  cases hg : validG g
  · simp [G0]
  rw [r_valid_eq wf]
  simp only [cond_true, Option.bind_some]
  cases hf : validB f
  · simp [G0]
  have gf := good_of wf hf
  cases hs : f.Secure
  · simp [G0]
  simp only [cond_true]
  rw [key_r w, Option.bind_some]
  cases hke : (keyS g f.Key).2
  · simp [G0]
  have hd : F_ref05_Header f = some (hdL f) := by
    unfold F_ref05_Header
    rw [r_valid_eq wf, hf, Option.bind_some, cond_true]
    exact r_header_j1 gf
  simp only [cond_true]
  rw [hd, Option.bind_some, ver_r w gf hs, Option.bind_some]
  cases hv : verS g f
  · simp [G0]
  obtain ⟨h1, h2, _⟩ := validG_len hg
  have hp := place_le g.Peers f.Src f.Key
  have lp := (good_pay gf).1
  rw [copied_gR hg]
  simp only [cond_true, Option.bind_some, and_self, if_true]
  have hm : -9223372036854775808 ≤ f.Src.Mode ∧ f.Src.Mode ≤ 9223372036854775807 := by
    by_cases hk : f.Kind = 2
    · have e := congrArg S_Frame.Secure (gf.ack hk)
      rw [hs] at e
      cases e
    · have := (gf.adr hk).2.1
      rcases this with ⟨e, _⟩ | ⟨e, _⟩ <;> omega
  rw [place_r w h2 wf.src hm]
  simp only [Option.bind_some]
  have new := new_r w hg (f := f) (by omega)
  by_cases hl : place g.Peers f.Src f.Key < g.Peers.length
  rotate_left
  · rw [decF (by omega), cond_false, List.getElem?_eq_none (by omega)]
    exact new
  rw [decT (by omega), cond_true]
  simp only [Cut.app, Int.toNat_natCast, Nat.zero_add]
  rw [idx_lt hl, List.getElem?_eq_getElem hl]
  simp only [Option.bind_some]
  cases ha : S_Addr.eqb g.Peers[place g.Peers f.Src f.Key].Src f.Src
  · rw [cond_false, if_neg (by simp)]
    exact new
  rw [cond_true]
  by_cases hky : g.Peers[place g.Peers f.Src f.Key].Key = f.Key
  rotate_left
  · rw [bF hky, cond_false, if_neg (fun q => hky q.2)]
    exact new
  rw [bT hky, cond_true, if_pos ⟨rfl, hky⟩, acc_r (w.peers _ (List.getElem_mem hl)) wf.cnt, Option.bind_some]
  cases accS g.Peers[place g.Peers f.Src f.Key] f.Counter with
  | none => rfl
  | some q => rfl
end
section
open Go.RowKit

theorem beB_succ (v : Int) (n : Nat) : beB v (n + 1) = beB (v / 256) n ++ [v % 256] := by
  apply List.ext_getElem?
  intro i
  rcases Nat.lt_trichotomy i n with hi | hi | hi
  · rw [beB_get (by omega), List.getElem?_append_left (by rw [beB_len]; exact hi), beB_get hi]
    congr 2
    rw [show n + 1 - 1 - i = (n - 1 - i) + 1 by omega, Nat.mul_add, Int.pow_add]
    rw [Int.mul_comm, ← Int.ediv_ediv_of_nonneg (by decide)]
    rfl
  · subst hi
    rw [beB_get (by omega), List.getElem?_append_right (by rw [beB_len]; exact Nat.le_refl _), beB_len]
    simp
  · rw [List.getElem?_eq_none (by rw [beB_len]; omega), List.getElem?_eq_none (by simp [beB_len]; omega)]
theorem beB_beN : ∀ (n : Nat) (x : List Int), x.length = n → okB x → beB (beN x) n = x
  | 0, x, hl, _ => by
    rw [List.length_eq_zero_iff.1 hl]
    rfl
  | n + 1, x, hl, ho => by
    have hne : x ≠ [] := by
      intro e
      rw [e] at hl
      cases hl
    have e := List.dropLast_concat_getLast hne
    have hz := ho (x.getLast hne) (List.getLast_mem hne)
    have hd : okB x.dropLast := fun z hz => ho z (by rw [← e]; exact List.mem_append_left _ hz)
    have ih := beB_beN n x.dropLast (by rw [List.length_dropLast]; omega) hd
    have en : beN x = beN x.dropLast * 256 + x.getLast hne := by
      rw [← beN_snoc, e]
    rw [beB_succ, en, show (beN x.dropLast * 256 + x.getLast hne) / 256 = beN x.dropLast by omega, show (beN x.dropLast * 256 + x.getLast hne) % 256 = x.getLast hne by omega, ih, e]
def chS (g : S_Guard) : List Int := if validG g = true then [1] ++ beB g.Nonce 4 else []
def respS (l : List Int) : List Int × Bool := if l.length = 5 ∧ l.head? = some 1 then ([2] ++ l.drop 1, true) else ([], false)
theorem chal_p {g : S_Guard} (w : WfG g) : F_guard_Challenge g = some (chS g) := by
  unfold F_guard_Challenge chS
  rw [valid_pG w, Option.bind_some]
  cases validG g
  · rfl
  · rw [cond_true, msg_p 1 w.non]; rfl
theorem chal_r {g : S_Guard} (w : WfG g) : F_ref06_Challenge g = some (chS g) := by
  unfold F_ref06_Challenge chS
  rw [valid_rG w, Option.bind_some]
  cases validG g
  · rfl
  · rw [cond_true, resp_r 1 w.non]; rfl
theorem respd_p {l : List Int} (hl : l.length ≤ 140737488351232) : F_guard_Respond l = some (respS l) := by
  unfold F_guard_Respond respS
  by_cases h5 : l.length = 5
  rotate_left
  · rw [show ((List.length l : Int) != 5) = true by simp; omega, cond_true, if_neg (fun q => h5 q.1)]
  rw [show ((List.length l : Int) != 5) = false by simp; omega, cond_false]
  have h0 : idx l 0 = some (l[0]'(by omega)) := idx_lt (k := 0) (by omega)
  rw [h0, Option.bind_some, List.head?_eq_getElem?, List.getElem?_eq_getElem (show 0 < l.length by omega)]
  by_cases h1 : l[0]'(by omega) = 1
  rotate_left
  · rw [show ((l[0]'(by omega)) != 1) = true by simpa using h1, cond_true, if_neg (fun q => h1 (by simpa using q.2))]
  rw [show ((l[0]'(by omega)) != 1) = false by simpa using h1, cond_false, if_pos ⟨h5, by rw [h1]⟩, subO_some (by omega) (by omega) (by omega), Option.bind_some]
  simp only [Cut.app, Int.toNat_natCast, List.take_length]
  have e1 : (1 : Int).toNat = 1 := rfl
  rw [e1, appO_some (by simp; omega) (by simp; omega)]
  rfl
theorem gu_some {b : List Int} (h : okB b) (hb : b.length ≤ 1000) (i n : Nat) (h1 : 1 ≤ n) (h8 : n ≤ 8) (hi : i + n ≤ b.length) : F_ref01_Uint b i n = some (beN ((b.drop i).take n), true) := by
  unfold F_ref01_Uint
  rw [decF (show ¬ (n : Int) < 1 by omega), decF (show ¬ (n : Int) > 8 by omega), decF (show ¬ (i : Int) < 0 by omega), decF (show ¬ (i : Int) > (b.length : Int) by omega), wi (x := (b.length : Int) - (i : Int)) (by omega) (by omega), decF (show ¬ (n : Int) > (b.length : Int) - (i : Int) by omega)]
  simp only [cond_false]
  have hlen : ((b.drop i).take n).length = n := by rw [List.length_take, List.length_drop]; omega
  have hl := loop_run (step := F_ref01_Uint_l1 n b i) (S := fun k => (beN (((b.drop i).take n).take k), (k : Int))) n (r := beN ((b.drop i).take n)) (fun k hk => by
    unfold F_ref01_Uint_l1
    dsimp only
    rw [decT (show (k : Int) < (n : Int) by omega), wi (x := (i : Int) + (k : Int)) (by omega) (by omega), show (i : Int) + (k : Int) = ((i + k : Nat) : Int) by omega, idx_lt (by omega)]
    simp only [cond_true, Option.bind_some]
    have hk2 : k < ((b.drop i).take n).length := by omega
    have hg : b[i + k] = ((b.drop i).take n)[k] := by rw [List.getElem_take, List.getElem_drop]
    have ho := ((h.drop i).take n)
    have hx := ho.get hk2
    have hbd := beN_bd (ho.take k)
    have hb2 := beN_lt64 (ho.take (k + 1)) (by rw [List.length_take]; omega)
    have es : beN (((b.drop i).take n).take (k + 1)) = beN (((b.drop i).take n).take k) * 256 + ((b.drop i).take n)[k] := by
      rw [take_snoc (List.getElem?_eq_getElem hk2), beN_snoc]
    have e2 : (2 : Int) ^ (8 : Int).toNat = 256 := rfl
    rw [hg, ishl_eq (by omega) (by omega), e2, Int.emod_eq_of_lt (by omega) (by omega), wu (x := ((b.drop i).take n)[k]) (by omega) (by omega), wu (by omega) (by omega), es, wk k (by omega)]) (by
    unfold F_ref01_Uint_l1
    dsimp only
    rw [decF (show ¬ (n : Int) < (n : Int) by omega)]
    simp only [cond_false]
    rw [List.take_of_length_le (by omega)])
  have e0 : loopO (F_ref01_Uint_l1 n b i) (0, 0) = some (beN ((b.drop i).take n)) := hl
  rw [e0]
  rfl
theorem respd_r {l : List Int} (hl : l.length ≤ 140737488351232) (ho : okB l) : F_ref06_Respond l = some (respS l) := by
  unfold F_ref06_Respond respS
  by_cases h5 : l.length = 5
  rotate_left
  · rw [show ((List.length l : Int) != 5) = true by simp; omega, cond_true, if_neg (fun q => h5 q.1)]
  rw [show ((List.length l : Int) != 5) = false by simp; omega, cond_false]
  have h0 : idx l 0 = some (l[0]'(by omega)) := idx_lt (k := 0) (by omega)
  rw [h0, Option.bind_some, List.head?_eq_getElem?, List.getElem?_eq_getElem (show 0 < l.length by omega)]
  by_cases h1 : l[0]'(by omega) = 1
  rotate_left
  · rw [show ((l[0]'(by omega)) != 1) = true by simpa using h1, cond_true, if_neg (fun q => h1 (by simpa using q.2))]
  have hu := gu_some ho (by omega) 1 4 (by omega) (by omega) (by omega)
  simp only [show ((4 : Nat) : Int) = 4 from rfl, show ((1 : Nat) : Int) = 1 from rfl] at hu
  have el : ((l.drop 1).take 4) = l.drop 1 := List.take_of_length_le (by rw [List.length_drop]; omega)
  rw [el] at hu
  have hb := beN_bd (ho.drop 1)
  have hlen : (l.drop 1).length = 4 := by rw [List.length_drop]; omega
  rw [hlen] at hb
  have e4 : (256 : Int) ^ 4 = 4294967296 := by decide
  rw [e4] at hb
  rw [show ((l[0]'(by omega)) != 1) = false by simpa using h1, cond_false, if_pos ⟨h5, by rw [h1]⟩, hu]
  simp only [Option.bind_some]
  rw [wu32 hb.1 hb.2, resp_r 2 (by omega), beB_beN 4 _ hlen (ho.drop 1)]
  rfl
theorem ch_len {g : S_Guard} (h : validG g = true) : chS g = [1] ++ beB g.Nonce 4 := by unfold chS; rw [if_pos h]
theorem resp_ch {g : S_Guard} (h : validG g = true) : respS (chS g) = (respL g.Nonce, true) := by
  rw [ch_len h]
  unfold respS
  rw [if_pos ⟨by simp [beB_len], rfl⟩]
  rfl
end
section
open Go.RowKit

/-- bit i of a window -/
def wb (w : Int) (i : Nat) : Bool := w.toNat.testBit i
theorem ofInt32 {w : Int} (h : 0 ≤ w ∧ w ≤ 4294967295) : (BitVec.ofInt 32 w).toNat = w.toNat := by
  rw [BitVec.toNat_ofInt]
  omega
theorem ior_nat32 {x y : Int} (hx : 0 ≤ x ∧ x ≤ 4294967295) (hy : 0 ≤ y ∧ y ≤ 4294967295) : ior .u32 x y = ((x.toNat ||| y.toNat : Nat) : Int) := by
  have e : ior .u32 x y = IntKind.wrap .u32 (((BitVec.ofInt 32 x ||| BitVec.ofInt 32 y).toNat : Nat) : Int) := rfl
  have hb : x.toNat ||| y.toNat < 2 ^ 32 := Nat.or_lt_two_pow (by omega) (by omega)
  rw [e, BitVec.toNat_or, ofInt32 hx, ofInt32 hy, wrap32]
  omega
theorem ior_bd32 (x y : Int) : 0 ≤ ior .u32 x y ∧ ior .u32 x y ≤ 4294967295 := by
  have e : ior .u32 x y = IntKind.wrap .u32 (((BitVec.ofInt 32 x ||| BitVec.ofInt 32 y).toNat : Nat) : Int) := rfl
  rw [e, wrap32]
  omega
theorem wb_or {x y : Int} (hx : 0 ≤ x ∧ x ≤ 4294967295) (hy : 0 ≤ y ∧ y ≤ 4294967295) (i : Nat) : wb (ior .u32 x y) i = (wb x i || wb y i) := by
  unfold wb
  rw [ior_nat32 hx hy, Int.toNat_natCast, Nat.testBit_or]
theorem shl_bd (x d : Int) : 0 ≤ ishl .u32 x d ∧ ishl .u32 x d ≤ 4294967295 := by
  unfold ishl
  rw [wrap32]
  omega
theorem wb_shl {x d : Int} (hx : 0 ≤ x ∧ x ≤ 4294967295) (hd : 0 ≤ d) {i : Nat} (hi : i < 32) : wb (ishl .u32 x d) i = (decide (d ≤ i) && wb x (i - d.toNat)) := by
  unfold wb ishl
  obtain ⟨a, rfl⟩ : ∃ a : Nat, x = (a : Int) := ⟨x.toNat, by omega⟩
  obtain ⟨n, rfl⟩ : ∃ n : Nat, d = (n : Int) := ⟨d.toNat, by omega⟩
  have hb : IntKind.u32.bits = 32 := rfl
  rw [wrap32, hb, Int.toNat_natCast, Int.toNat_natCast]
  generalize hm : min n 32 = m
  have e : ((a : Int) * 2 ^ m % 4294967296).toNat = (2 ^ m * a) % 2 ^ 32 := by
    have : ((a : Int) * 2 ^ m % 4294967296) = ((a * 2 ^ m % 2 ^ 32 : Nat) : Int) := by
      rw [Int.natCast_emod, Int.natCast_mul, Int.natCast_pow]
      rfl
    rw [this, Int.toNat_natCast, Nat.mul_comm]
  rw [e, Nat.testBit_mod_two_pow, decide_eq_true hi, Bool.true_and, Nat.testBit_two_pow_mul]
  by_cases hn : n ≤ 32
  · rw [show m = n by omega]
    congr 1
    · exact decide_eq_decide.2 (by omega)
  · rw [decide_eq_false (show ¬ i ≥ m by omega), decide_eq_false (show ¬ (n : Int) ≤ (i : Int) by omega)]
    rfl
theorem wb_one (i : Nat) : wb 1 i = decide (i = 0) := by
  unfold wb
  rw [show (1 : Int).toNat = 2 ^ 0 from rfl, Nat.testBit_two_pow]
  exact decide_eq_decide.2 (by omega)
theorem wb_one_shl {d : Int} (hd : 0 ≤ d) {i : Nat} (hi : i < 32) : wb (ishl .u32 1 d) i = decide ((i : Int) = d) := by
  rw [wb_shl (by omega) hd hi, wb_one]
  by_cases h : (i : Int) = d
  · rw [decide_eq_true h, decide_eq_true (show d ≤ i by omega), decide_eq_true (show i - d.toNat = 0 by omega)]; rfl
  · rw [decide_eq_false h]
    by_cases h2 : d ≤ i
    · rw [decide_eq_false (show ¬ i - d.toNat = 0 by omega), Bool.and_false]
    · rw [decide_eq_false h2]; rfl
theorem wb_all {i : Nat} (hi : i < 32) : wb 4294967295 i = true := by
  unfold wb
  rw [show (4294967295 : Int).toNat = 2 ^ 32 - 1 from rfl, Nat.testBit_two_pow_sub_one]
  exact decide_eq_true hi
theorem wb_test {w b : Int} (hw : 0 ≤ w ∧ w ≤ 4294967295) (hb : 0 ≤ b ∧ b < 32) : (iand .u32 (ishr .u32 w b) 1 = 1) ↔ wb w b.toNat = true := by
  obtain ⟨a, rfl⟩ : ∃ a : Nat, w = (a : Int) := ⟨w.toNat, by omega⟩
  obtain ⟨n, rfl⟩ : ∃ n : Nat, b = (n : Int) := ⟨b.toNat, by omega⟩
  have h32 : IntKind.u32.bits = 32 := rfl
  have e : ishr .u32 (a : Int) (n : Int) = ((a >>> n : Nat) : Int) := by
    unfold ishr
    rw [h32, Int.toNat_natCast, show min n 32 = n by omega, Nat.shiftRight_eq_div_pow, Int.fdiv_eq_ediv_of_nonneg _ (by exact Int.pow_nonneg (by decide)), Int.natCast_ediv, Int.natCast_pow]
    rfl
  have hlt : a >>> n < 2 ^ 32 := by
    rw [Nat.shiftRight_eq_div_pow]
    exact Nat.lt_of_le_of_lt (Nat.div_le_self _ _) (by omega)
  have e2 : ∀ q : Nat, q < 2 ^ 32 → iand .u32 (q : Int) 1 = ((q % 2 : Nat) : Int) := fun q hq => by
    have e : iand .u32 (q : Int) 1 = IntKind.wrap .u32 (((BitVec.ofInt 32 (q : Int) &&& BitVec.ofInt 32 1).toNat : Nat) : Int) := rfl
    rw [e, BitVec.toNat_and, ofInt32 (by omega), Int.toNat_natCast, show (BitVec.ofInt 32 1).toNat = 1 by decide, Nat.and_one_is_mod, wrap32]
    omega
  rw [e, e2 _ hlt]
  unfold wb
  rw [Int.toNat_natCast, Int.toNat_natCast, Nat.testBit_eq_decide_div_mod_eq, Nat.shiftRight_eq_div_pow, decide_eq_true_eq]
  constructor <;> intro h <;> omega

/-- the window of the peer p tells which counters U were used, down to 31 behind the last one -/
structure WinP (p : S_Peer) (U : Int → Bool) : Prop where
  last : 0 ≤ p.Last ∧ p.Last ≤ 4294967295
  win : 0 ≤ p.Window ∧ p.Window ≤ 4294967295
  bit : ∀ i : Nat, i < 32 → wb p.Window i = U (p.Last - i)
  top : ∀ c, p.Last < c → U c = false
def usedU (U : Int → Bool) (c : Int) : Int → Bool := fun x => decide (x = c) || U x
theorem acc_win {p : S_Peer} {U : Int → Bool} (w : WinP p U) {c : Int} (hc : 0 ≤ c ∧ c ≤ 4294967295) :
    (∃ q, accS p c = some q ∧ q.Src = p.Src ∧ q.Key = p.Key ∧ q.Last = max p.Last c ∧ WinP q (usedU U c) ∧ U c = false ∧ p.Last - c < 32) ∨ (accS p c = none ∧ (32 ≤ p.Last - c ∨ U c = true)) := by
  obtain ⟨l0, l1⟩ := w.last
  obtain ⟨w0, w1⟩ := w.win
  unfold accS
  by_cases h1 : c > p.Last
  · left
    rw [if_pos h1]
    have sb := shl_bd p.Window (c - p.Last)
    refine ⟨_, rfl, rfl, rfl, by dsimp only; omega, ⟨hc, ior_bd32 _ _, ?_, ?_⟩, w.top c h1, by omega⟩
    · intro i hi
      dsimp only [usedU]
      rw [wb_or sb (by omega), wb_shl ⟨w0, w1⟩ (by omega) hi, wb_one]
      by_cases h0 : i = 0
      · subst h0
        simp
      · rw [decide_eq_false h0, Bool.or_false, decide_eq_false (show ¬ c - (i : Int) = c by omega), Bool.false_or]
        by_cases h2 : c - p.Last ≤ (i : Int)
        · rw [decide_eq_true h2, Bool.true_and, w.bit _ (by omega)]
          congr 1
          omega
        · rw [decide_eq_false h2, Bool.false_and, w.top _ (by omega)]
    · intro x hx
      dsimp only at hx
      dsimp only [usedU]
      rw [w.top x (by omega), decide_eq_false (by omega)]
      rfl
  · rw [if_neg h1]
    by_cases h2 : p.Last - c ≥ 32
    · right
      rw [if_pos (.inl h2)]
      exact ⟨rfl, .inl h2⟩
    have hb : wb p.Window (p.Last - c).toNat = U c := by
      rw [w.bit _ (by omega)]
      congr 1
      omega
    have ht := wb_test (w := p.Window) (b := p.Last - c) ⟨w0, w1⟩ ⟨by omega, by omega⟩
    rw [hb] at ht
    by_cases h3 : U c = true
    · right
      rw [if_pos (.inr (ht.2 h3))]
      exact ⟨rfl, .inr h3⟩
    · left
      rw [if_neg (by rintro (h | h); exact h2 h; exact h3 (ht.1 h))]
      refine ⟨_, rfl, rfl, rfl, by dsimp only; omega, ⟨⟨l0, l1⟩, ior_bd32 _ _, ?_, ?_⟩, by simpa using h3, by omega⟩
      · intro i hi
        dsimp only [usedU]
        rw [wb_or ⟨w0, w1⟩ (shl_bd _ _), wb_one_shl (by omega) hi, w.bit i hi, Bool.or_comm]
        congr 1
        exact decide_eq_decide.2 (by omega)
      · intro x hx
        dsimp only at hx
        dsimp only [usedU]
        rw [w.top x hx, decide_eq_false (by omega)]
        rfl
end
section
open Go.RowKit

theorem G0_wf : WfG G0 := ⟨by simp [G0], by simp [G0], by simp [G0], by simp [G0], by simp [G0], by simp [G0], by simp [G0]⟩
theorem FZ_wf : WfF FZ := ⟨by simp [FZ], by simp [FZ], ⟨by simp [FZ], by simp [FZ]⟩, ⟨by simp [FZ], by simp [FZ]⟩, by simp [FZ], by simp [FZ], okB_nil, by simp [FZ], okB_nil, by simp [FZ]⟩
theorem hdL_mic (f : S_Frame) (c i : Int) (m n : List Int) : hdL (sec1 f c i m) = hdL (sec1 f c i n) := rfl
theorem sealS_wf {g : S_Guard} (w : WfG g) {f : S_Frame} (wf : WfF f) {i : Int} (hi : 0 ≤ i ∧ i ≤ 255) : WfG (sealS g f i).1 ∧ WfF (sealS g f i).2.1 := by
  have hc := w.cnt
  have hr := w.res
  unfold sealS
  split
  · rename_i h
    obtain ⟨q1, q2, q3⟩ := validG_len h.1
    split
    · split
      · exact ⟨G0_wf, FZ_wf⟩
      · rename_i hne
        split
        · exact ⟨⟨w.keys, w.keysl, w.peers, w.peersl, by dsimp only; omega, hr, w.non⟩, sec1_wf wf hc hi (leB_ok _ _) (by rw [tagS, leB_len]; omega)⟩
        · exact ⟨G0_wf, FZ_wf⟩
    · exact ⟨G0_wf, FZ_wf⟩
  · exact ⟨G0_wf, FZ_wf⟩
theorem src_mode {f : S_Frame} (gf : GoodF f) (hs : f.Secure = true) : AdrOk f.Src ∧ ¬ bcast f.Src := by
  by_cases hk : f.Kind = 2
  · have e := congrArg S_Frame.Secure (gf.ack hk)
    rw [hs] at e
    cases e
  · exact ⟨(gf.adr hk).2.1, (gf.adr hk).2.2.1⟩
theorem adr_md {a : S_Addr} (h : AdrOk a) : -9223372036854775808 ≤ a.Mode ∧ a.Mode ≤ 9223372036854775807 := by
  rcases h with ⟨e, _⟩ | ⟨e, _⟩ <;> omega
theorem accS_wf {p q : S_Peer} (w : WfP p) {c : Int} (hc : 0 ≤ c ∧ c ≤ 4294967295) (h : accS p c = some q) : WfP q ∧ q.Src = p.Src ∧ q.Key = p.Key := by
  unfold accS at h
  split at h
  · cases h
    exact ⟨⟨w.adr, w.mode, w.key, hc, ior_bd32 _ _⟩, rfl, rfl⟩
  · split at h
    · cases h
    · cases h
      exact ⟨⟨w.adr, w.mode, w.key, w.last, ior_bd32 _ _⟩, rfl, rfl⟩
theorem newS_wf {g : S_Guard} (w : WfG g) {f : S_Frame} (wf : WfF f) (gf : GoodF f) (hs : f.Secure = true) (hg : validG g = true) : WfG (newS g f).1 := by
  obtain ⟨q1, q2, q3⟩ := validG_len hg
  have ha := (src_mode gf hs).1
  unfold newS
  split
  · exact G0_wf
  · split
    · exact G0_wf
    · split
      · exact G0_wf
      · refine ⟨w.keys, w.keysl, ?_, by simp; omega, w.cnt, w.res, w.non⟩
        intro p hp
        simp only [List.mem_append, List.mem_singleton] at hp
        rcases hp with (hp | rfl) | hp
        · exact w.peers p (List.mem_of_mem_take hp)
        · exact ⟨wf.src, adr_md ha, wf.key, wf.cnt, by simp [freshP]⟩
        · exact w.peers p (List.mem_of_mem_drop hp)
theorem openS_wf {g : S_Guard} (w : WfG g) {f : S_Frame} (wf : WfF f) : WfG (openS g f).1 := by
  unfold openS
  split
  · rename_i h
    obtain ⟨hg, hf, hs⟩ := h
    have gf := good_of wf hf
    have hn := newS_wf w wf gf hs hg
    split
    · split
      · split
        · rename_i p hp
          split
          · split
            · rename_i q hq
              have wq := accS_wf (w.peers p (List.mem_of_getElem? hp)) wf.cnt hq
              refine ⟨w.keys, w.keysl, ?_, by simpa using w.peersl, w.cnt, w.res, w.non⟩
              intro x hx
              rcases List.mem_or_eq_of_mem_set hx with hx | rfl
              · exact w.peers x hx
              · exact wq.1
            · exact G0_wf
          · exact hn
        · exact hn
      · exact G0_wf
    · exact G0_wf
  · exact G0_wf
theorem keyM_spec {i : Int} (h0 : 0 ≤ i) (h1 : i ≤ 1000) : ∃ k, F_made_Key i = some k ∧ k.length = 16 ∧ okB k := by
  obtain ⟨r, e, hr⟩ := loop_inv (step := F_made_Key_l1 i) (fun s => 0 ≤ s.1 ∧ s.1 ≤ 16 ∧ s.2.length = 16 ∧ okB s.2) (fun r => r.length = 16 ∧ okB r) (fun s => (16 - s.1).toNat) (fun s ⟨a, b, c, d⟩ => by
    unfold F_made_Key_l1
    by_cases h : s.1 < 16
    · left
      rw [decT h, decT (show (0 : Int) ≤ s.1 ∧ s.1 < 16 by omega), wi (x := s.1 + 1) (by omega) (by omega)]
      exact ⟨_, rfl, ⟨by dsimp only; omega, by dsimp only; omega, setA_len _ _ _ _, by dsimp only; rw [setA_set c]; exact d.set _ (wrap8_bd _)⟩, by dsimp only; omega⟩
    · right
      rw [decF h]
      exact ⟨_, rfl, c, d⟩) (0, [0, 0, 0, 0, 0, 0, 0, 0, 0, 0, 0, 0, 0, 0, 0, 0]) ⟨by dsimp only; omega, by dsimp only; omega, rfl, fun z hz => by simp at hz; omega⟩
  unfold F_made_Key
  rw [e]
  exact ⟨r, rfl, hr⟩
noncomputable def keyM (i : Int) : List Int := (F_made_Key i).getD []
theorem keyM_eq {i : Int} (h0 : 0 ≤ i) (h1 : i ≤ 1000) : F_made_Key i = some (keyM i) := by
  obtain ⟨k, e, _⟩ := keyM_spec h0 h1
  unfold keyM
  rw [e]
  rfl
theorem keyM_wf {i : Int} (h0 : 0 ≤ i) (h1 : i ≤ 1000) : (keyM i).length = 16 ∧ okB (keyM i) := by
  obtain ⟨k, e, h⟩ := keyM_spec h0 h1
  unfold keyM
  rw [e]
  exact h
theorem keyL_some : ∀ {l : List S_LinkKey} {i : Int}, (∃ k ∈ l, k.Index = i) → (keyL l i).2 = true
  | [], _, h => by simp at h
  | k :: l, i, h => by
    unfold keyL
    split
    · rfl
    · rename_i hne
      obtain ⟨x, hx, e⟩ := h
      rcases List.mem_cons.1 hx with rfl | hx
      · exact absurd e hne
      · exact keyL_some ⟨x, hx, e⟩
theorem keyL_mem : ∀ {l : List S_LinkKey} {i : Int}, (keyL l i).2 = true → ∃ k ∈ l, k.Index = i ∧ (keyL l i).1 = k.Key
  | [], _, h => by simp [keyL] at h
  | k :: l, i, h => by
    unfold keyL at h ⊢
    split
    · rename_i e
      exact ⟨k, by simp, e, rfl⟩
    · rename_i hne
      rw [if_neg hne] at h
      obtain ⟨x, hx, e⟩ := keyL_mem h
      exact ⟨x, by simp [hx], e⟩
/-- keys as the makers give them -/
structure MadeK (l : List S_LinkKey) (n : Int) : Prop where
  key : ∀ k ∈ l, 0 ≤ k.Index ∧ k.Index < n ∧ k.Key = keyM k.Index
  ord : l.Pairwise fun a b => a.Index < b.Index
  len : (l.length : Int) ≤ n
theorem MadeK.nil : MadeK [] 0 := ⟨by simp, .nil, by simp⟩
theorem MadeK.mono {l : List S_LinkKey} {n m : Int} (h : MadeK l n) (hm : n ≤ m) : MadeK l m := ⟨fun k hk => by have := h.key k hk; exact ⟨this.1, by omega, this.2.2⟩, h.ord, by have := h.len; omega⟩
theorem MadeK.add {l : List S_LinkKey} {n : Int} (h : MadeK l n) (h0 : 0 ≤ n) : MadeK (l ++ [S_LinkKey.mk n (keyM n)]) (n + 1) := by
  refine ⟨?_, ?_, by have := h.len; simp; omega⟩
  · intro k hk
    rcases List.mem_append.1 hk with hk | hk
    · have := h.key k hk
      exact ⟨this.1, by omega, this.2.2⟩
    · rw [List.mem_singleton.1 hk]
      exact ⟨h0, by dsimp only; omega, rfl⟩
  · rw [List.pairwise_append]
    refine ⟨h.ord, by simp, ?_⟩
    intro a ha b hb
    rw [List.mem_singleton.1 hb]
    exact (h.key a ha).2.1
theorem MadeK.wf {l : List S_LinkKey} {n : Int} (h : MadeK l n) (hn : n ≤ 4) : ∀ k ∈ l, WfK k := fun k hk => by
  have q := h.key k hk
  have m := keyM_wf (i := k.Index) q.1 (by omega)
  exact ⟨by omega, by rw [q.2.2]; exact m.1, by rw [q.2.2]; exact m.2⟩
theorem MadeK.lt {l : List S_LinkKey} {n : Int} (h : MadeK l n) : ∀ k, k < l.length - 1 → ixLt l k = true := fun k hk => by
  rw [ixLt_eq (by omega), decide_eq_true_eq]
  exact (List.pairwise_iff_getElem.1 h.ord) k (k + 1) (by omega) (by omega) (by omega)
theorem MadeK.get {l : List S_LinkKey} {n : Int} (h : MadeK l n) {i : Int} (hi : (keyL l i).2 = true) : (keyL l i).1 = keyM i := by
  obtain ⟨k, hk, e, e2⟩ := keyL_mem hi
  rw [e2, (h.key k hk).2.2, e]
def ordP (p : S_Peer) : Int := p.Src.Short * 256 + p.Key
structure MadeP (K : List S_LinkKey) (p : S_Peer) : Prop where
  mode : p.Src.Mode = 2
  eui : p.Src.EUI = 0
  short : 0 ≤ p.Src.Short ∧ p.Src.Short ≤ 100
  key : 0 ≤ p.Key ∧ p.Key ≤ 255
  has : ∃ k ∈ K, k.Index = p.Key
  last : 0 ≤ p.Last ∧ p.Last ≤ 4294967295
  win : 0 ≤ p.Window ∧ p.Window ≤ 4294967295
  odd : iand .u32 p.Window 1 = 1
theorem MadeP.wf {K : List S_LinkKey} {p : S_Peer} (h : MadeP K p) : WfP p := by
  have h1 := h.short
  have h2 := h.mode
  have h3 := h.eui
  exact ⟨⟨by omega, by omega⟩, by omega, h.key, h.last, h.win⟩
theorem MadeP.bef {K : List S_LinkKey} {p q : S_Peer} (h : MadeP K p) (g : MadeP K q) (hl : ordP p < ordP q) : befB p q.Src q.Key = true := by
  have h1 := h.key
  have g1 := g.key
  unfold ordP at hl
  unfold befB cmpK keyA
  rw [decide_eq_true_eq]
  simp only [lexC, h.mode, g.mode, h.eui, g.eui, Int.lt_irrefl, if_false]
  by_cases a : p.Src.Short < q.Src.Short
  · simp [a]
  · have e : p.Src.Short = q.Src.Short := by omega
    have : p.Key < q.Key := by omega
    simp [e, cmp1, this]
theorem MadeP.peer {g : S_Guard} {p : S_Peer} (h : MadeP g.Keys p) : peerB g p = true := by
  have h1 := h.short
  unfold peerB keyS
  rw [keyL_some h.has, h.odd, decide_eq_true (show AdrOk p.Src ∧ ¬ bcast p.Src from ⟨.inl ⟨h.mode, h.eui, h1.1, by omega⟩, fun q => by have := q.2; omega⟩)]
  rfl
structure MadePs (K : List S_LinkKey) (l : List S_Peer) (B : Int) : Prop where
  all : ∀ p ∈ l, MadeP K p ∧ ordP p < B
  ord : l.Pairwise fun a b => ordP a < ordP b
theorem MadePs.mono {K : List S_LinkKey} {l : List S_Peer} {B C : Int} (h : MadePs K l B) (hc : B ≤ C) : MadePs K l C := ⟨fun p hp => ⟨(h.all p hp).1, by have := (h.all p hp).2; omega⟩, h.ord⟩
theorem MadePs.add {K : List S_LinkKey} {l : List S_Peer} {B : Int} (h : MadePs K l B) {p : S_Peer} (hp : MadeP K p) (hB : B ≤ ordP p) : MadePs K (l ++ [p]) (ordP p + 1) := by
  refine ⟨?_, ?_⟩
  · intro q hq
    rcases List.mem_append.1 hq with hq | hq
    · exact ⟨(h.all q hq).1, by have := (h.all q hq).2; omega⟩
    · rw [List.mem_singleton.1 hq]
      exact ⟨hp, by omega⟩
  · rw [List.pairwise_append]
    refine ⟨h.ord, by simp, ?_⟩
    intro a ha b hb
    rw [List.mem_singleton.1 hb]
    have := (h.all a ha).2
    omega
/-- a guard as the makers give it -/
structure MadeG (g : S_Guard) : Prop where
  keys : MadeK g.Keys 3
  peers : ∃ B, MadePs g.Keys g.Peers B
  len : g.Peers.length ≤ 16
  cnt : 0 ≤ g.Counter ∧ g.Counter ≤ g.Reserved
  res : g.Reserved ≤ 4294967295
  non : 0 ≤ g.Nonce ∧ g.Nonce ≤ 4294967295
theorem MadeG.wf {g : S_Guard} (h : MadeG g) : WfG g := by
  obtain ⟨B, hB⟩ := h.peers
  have h1 := h.keys.len
  have h2 := h.len
  have h3 := h.cnt
  have h4 := h.res
  exact ⟨h.keys.wf (by omega), by omega, fun p hp => (hB.all p hp).1.wf, by omega, by omega, by omega, h.non⟩
theorem MadeG.valid {g : S_Guard} (h : MadeG g) : validG g = true := by
  obtain ⟨B, hB⟩ := h.peers
  have h1 := h.keys.len
  unfold validG
  rw [decide_eq_true (show g.Keys.length ≤ 4 by omega), decide_eq_true h.keys.lt, decide_eq_true h.cnt.2, decide_eq_true h.len, decide_eq_true (show ∀ k, k < g.Peers.length - 1 → pLt g.Peers k = true from fun k hk => ?_), decide_eq_true (show ∀ k, k < g.Peers.length → pOk g k = true from fun k hk => ?_)]
  · rfl
  · rw [pOk_eq hk]
    exact (hB.all _ (List.getElem_mem hk)).1.peer
  · rw [pLt_eq (by omega)]
    exact (hB.all _ (List.getElem_mem (show k < g.Peers.length by omega))).1.bef (hB.all _ (List.getElem_mem (show k + 1 < g.Peers.length by omega))).1 ((List.pairwise_iff_getElem.1 hB.ord) k (k + 1) (by omega) (by omega) (by omega))
end
section
open Go.RowKit

theorem or_odd (x : Int) : iand .u32 (ior .u32 (IntKind.wrap .u32 x) 1) 1 = 1 := by
  have hb := ior_bd32 (IntKind.wrap .u32 x) 1
  have hw : 0 ≤ IntKind.wrap .u32 x ∧ IntKind.wrap .u32 x ≤ 4294967295 := by rw [wrap32]; omega
  have h := (wb_test (w := ior .u32 (IntKind.wrap .u32 x) 1) (b := 0) hb (by omega)).2 (by
    rw [wb_or hw (by omega), wb_one]
    simp)
  have e : ishr .u32 (ior .u32 (IntKind.wrap .u32 x) 1) 0 = ior .u32 (IntKind.wrap .u32 x) 1 := by
    unfold ishr
    simp [IntKind.bits]
  rw [e] at h
  exact h
theorem keys_loop {c r : Int} {n : Int} {t : S_multihopmade_Tape} (h : TapeOk t) : ∃ g t', loopO F_made_Tape_Guard_l1 (0, t, S_Guard.mk [] c r n []) = some (t', g) ∧ MadeK g.Keys 3 ∧ g.Nonce = n ∧ g.Peers = [] ∧ TapeOk t' := by
  obtain ⟨⟨t', g⟩, e, h1, h2, h3, h4⟩ := loop_inv (step := F_made_Tape_Guard_l1) (fun s => 0 ≤ s.1 ∧ s.1 ≤ 3 ∧ TapeOk s.2.1 ∧ MadeK s.2.2.Keys s.1 ∧ s.2.2.Nonce = n ∧ s.2.2.Peers = []) (fun r => MadeK r.2.Keys 3 ∧ r.2.Nonce = n ∧ r.2.Peers = [] ∧ TapeOk r.1) (fun s => (3 - s.1).toNat) (fun s ⟨a, b, ht, hk, hn, hp⟩ => by
    unfold F_made_Tape_Guard_l1 F_made_Tape_Guard_j2
    by_cases hi : s.1 < 3
    · left
      obtain ⟨v, t2, e2, _, _, k2⟩ := next_spec ht 4 (by omega) (by omega)
      rw [decT hi, cond_true, e2, Option.bind_some]
      dsimp only
      rw [wi (x := s.1 + 1) (by omega) (by omega)]
      have hl := hk.len
      by_cases hv : v > 0
      · rw [decT hv, cond_true, keyM_eq a (by omega)]
        simp only [Option.bind_some, Cut.app]
        rw [appO_some (by simp; omega) (by simp; omega), Option.bind_some, wu8 (x := s.1) (by omega) (by omega)]
        exact ⟨_, rfl, ⟨by dsimp only; omega, by dsimp only; omega, k2, hk.add a, hn, hp⟩, by dsimp only; omega⟩
      · rw [decF hv, cond_false]
        exact ⟨_, rfl, ⟨by dsimp only; omega, by dsimp only; omega, k2, hk.mono (by omega), hn, hp⟩, by dsimp only; omega⟩
    · right
      rw [decF hi]
      exact ⟨_, rfl, hk.mono (by omega), hn, hp, ht⟩) (0, t, S_Guard.mk [] c r n []) ⟨by dsimp only; omega, by dsimp only; omega, h, MadeK.nil, rfl, rfl⟩
  exact ⟨g, t', e, h1, h2, h3, h4⟩
/-- the inner loop: peers with one address -/
theorem peers_in {n : Int} (hn : 0 ≤ n ∧ n < 5) {s0 : Int × S_multihopmade_Tape × S_Guard} (hs : s0.1 = n) {t : S_multihopmade_Tape} (h : TapeOk t) {g : S_Guard} (hk : MadeK g.Keys 3) (hp : MadePs g.Keys g.Peers (n * 256)) (hl : (g.Peers.length : Int) ≤ 3 * n) :
    ∃ t' l, loopO (F_made_Tape_Guard_l5 s0) (0, t, g) = some (t', S_Guard.mk g.Keys g.Counter g.Reserved g.Nonce l) ∧ MadePs g.Keys l ((n + 1) * 256) ∧ (l.length : Int) ≤ 3 * (n + 1) ∧ TapeOk t' := by
  have hkl := hk.len
  obtain ⟨⟨t', g'⟩, e, ht, l, rfl, h1, h2⟩ := loop_inv (step := F_made_Tape_Guard_l5 s0) (fun s => ∃ k : Nat, s.1 = (k : Int) ∧ k ≤ g.Keys.length ∧ TapeOk s.2.1 ∧ ∃ l B, s.2.2 = S_Guard.mk g.Keys g.Counter g.Reserved g.Nonce l ∧ MadePs g.Keys l B ∧ B ≤ (n + 1) * 256 ∧ (∀ (hk : k < g.Keys.length), B ≤ n * 256 + g.Keys[k].Index) ∧ (l.length : Int) ≤ 3 * n + k)
    (fun r => TapeOk r.1 ∧ ∃ l, r.2 = S_Guard.mk g.Keys g.Counter g.Reserved g.Nonce l ∧ MadePs g.Keys l ((n + 1) * 256) ∧ (l.length : Int) ≤ 3 * (n + 1)) (fun s => (g.Keys.length - s.1).toNat) (fun s ⟨k, hk1, hk2, ht, l, B, hg, hP, hB1, hB2, hll⟩ => by
    obtain ⟨i, t1, g1⟩ := s
    dsimp only at hk1 ht hg
    subst hk1 hg
    unfold F_made_Tape_Guard_l5 F_made_Tape_Guard_j6
    dsimp only
    by_cases hi : k < g.Keys.length
    · left
      obtain ⟨v, t2, e2, k2⟩ := bool_spec ht 3 (by omega) (by omega)
      rw [decT (by omega), cond_true, e2, Option.bind_some]
      dsimp only
      rw [wk k (by omega)]
      have hnext : ∀ (hk' : k + 1 < g.Keys.length), g.Keys[k].Index < g.Keys[k + 1].Index := fun hk' => (List.pairwise_iff_getElem.1 hk.ord) k (k + 1) (by omega) hk' (by omega)
      have hkk := hk.key _ (List.getElem_mem hi)
      cases v
      · rw [cond_false]
        exact ⟨_, rfl, ⟨k + 1, rfl, by omega, k2, l, B, rfl, hP, hB1, fun hk' => by have := hB2 hi; have := hnext hk'; omega, by omega⟩, by dsimp only; omega⟩
      · obtain ⟨v3, t3, e3, a3, b3, k3⟩ := next_spec k2 60 (by omega) (by omega)
        obtain ⟨v4, t4, e4, k4⟩ := word_spec k3
        rw [cond_true, idx_lt hi]
        simp only [Option.bind_some, e3, e4, Cut.app]
        rw [appO_some (by simp; omega) (by simp; omega), Option.bind_some, hs, wu16 (x := n) (by omega) (by omega), wu32 (x := v3) (by omega) (by omega)]
        have hMP : MadeP g.Keys (S_Peer.mk (S_Addr.mk 2 n 0) g.Keys[k].Index v3 (ior .u32 (IntKind.wrap .u32 v4) 1)) := ⟨rfl, rfl, by dsimp only; omega, by dsimp only; omega, ⟨_, List.getElem_mem hi, rfl⟩, by dsimp only; omega, ior_bd32 _ _, or_odd v4⟩
        have hadd := hP.add hMP (by have := hB2 hi; unfold ordP; dsimp only; omega)
        refine ⟨_, rfl, ⟨k + 1, rfl, by omega, k4, _, _, rfl, hadd, by unfold ordP; dsimp only; omega, fun hk' => by have := hnext hk'; unfold ordP; dsimp only; omega, by simp; omega⟩, by dsimp only; omega⟩
    · right
      rw [decF (by omega), cond_false]
      exact ⟨_, rfl, ht, l, rfl, hP.mono hB1, by omega⟩) (0, t, g) ⟨0, rfl, by omega, h, g.Peers, n * 256, rfl, hp, by omega, fun hk' => by have := (hk.key _ (List.getElem_mem hk')).1; omega, by omega⟩
  exact ⟨t', l, e, h1, h2, ht⟩
theorem peers_loop {t : S_multihopmade_Tape} (h : TapeOk t) {g : S_Guard} (hk : MadeK g.Keys 3) (hp : g.Peers = []) :
    ∃ t' l B, loopO F_made_Tape_Guard_l4 (0, t, g) = some (t', S_Guard.mk g.Keys g.Counter g.Reserved g.Nonce l) ∧ MadePs g.Keys l B ∧ l.length ≤ 16 ∧ TapeOk t' := by
  obtain ⟨⟨t', g'⟩, e, ht, l, rfl, h1, h2⟩ := loop_inv (step := F_made_Tape_Guard_l4) (fun s => 0 ≤ s.1 ∧ s.1 ≤ 5 ∧ TapeOk s.2.1 ∧ ∃ l, s.2.2 = S_Guard.mk g.Keys g.Counter g.Reserved g.Nonce l ∧ MadePs g.Keys l (s.1 * 256) ∧ (l.length : Int) ≤ 3 * s.1)
    (fun r => TapeOk r.1 ∧ ∃ l, r.2 = S_Guard.mk g.Keys g.Counter g.Reserved g.Nonce l ∧ MadePs g.Keys l (5 * 256) ∧ (l.length : Int) ≤ 15) (fun s => (5 - s.1).toNat) (fun s ⟨a, b, ht, l, hg, hP, hll⟩ => by
    obtain ⟨i, t1, g1⟩ := s
    dsimp only at a b ht hg hP hll
    subst hg
    unfold F_made_Tape_Guard_l4
    dsimp only
    by_cases hi : i < 5
    · left
      obtain ⟨t2, l2, e2, p2, q2, k2⟩ := peers_in (n := i) ⟨a, hi⟩ (s0 := (i, t1, S_Guard.mk g.Keys g.Counter g.Reserved g.Nonce l)) rfl ht (g := S_Guard.mk g.Keys g.Counter g.Reserved g.Nonce l) hk hP hll
      rw [decT hi, cond_true, e2, Option.bind_some, wi (x := i + 1) (by omega) (by omega)]
      exact ⟨_, rfl, ⟨by dsimp only; omega, by dsimp only; omega, k2, l2, rfl, p2, q2⟩, by dsimp only; omega⟩
    · right
      obtain rfl : i = 5 := by omega
      rw [decF hi, cond_false]
      exact ⟨_, rfl, ht, l, rfl, hP, by omega⟩) (0, t, g) ⟨by dsimp only; omega, by dsimp only; omega, h, [], by rw [← hp], ⟨by simp, .nil⟩, by simp⟩
  exact ⟨t', l, _, e, h1, by omega, ht⟩
theorem guard_spec {t : S_multihopmade_Tape} (h : TapeOk t) : ∃ g t', F_made_Tape_Guard t = some (g, t') ∧ MadeG g ∧ TapeOk t' := by
  unfold F_made_Tape_Guard F_made_Tape_Guard_j3
  obtain ⟨v1, t1, e1, a1, b1, k1⟩ := next_spec h 3 (by omega) (by omega)
  rw [e1, Option.bind_some]
  dsimp only
  rw [wu32 (x := v1) (by omega) (by omega)]
  obtain ⟨g, t2, e2, K2, n2, p2, k2⟩ := keys_loop (c := 0) (r := 0) (n := v1) k1
  rw [e2, Option.bind_some]
  dsimp only
  obtain ⟨v3, t3, e3, a3, b3, k3⟩ := next_spec k2 50 (by omega) (by omega)
  obtain ⟨v4, t4, e4, a4, b4, k4⟩ := next_spec k3 40 (by omega) (by omega)
  obtain ⟨v5, t5, e5, k5⟩ := bool_spec k4 8 (by omega) (by omega)
  simp only [e3, e4, e5, Option.bind_some]
  cases v5
  · rw [cond_false, wu32 (x := v3) (by omega) (by omega), wu32 (x := v4) (by omega) (by omega), wu32 (x := v3 + v4) (by omega) (by omega)]
    obtain ⟨t6, l, B, e6, P6, l6, k6⟩ := peers_loop k5 (g := S_Guard.mk g.Keys v3 (v3 + v4) g.Nonce g.Peers) K2 p2
    rw [e6, Option.bind_some]
    exact ⟨_, _, rfl, ⟨K2, ⟨B, P6⟩, l6, by dsimp only; omega, by dsimp only; omega, by dsimp only; omega⟩, k6⟩
  · obtain ⟨v6, t6, e6, a6, b6, k6⟩ := next_spec k5 2 (by omega) (by omega)
    simp only [cond_true, e6, Option.bind_some]
    rw [wu32 (x := v6) (by omega) (by omega), wu32 (x := 4294967295 - v6) (by omega) (by omega)]
    obtain ⟨t7, l, B, e7, P7, l7, k7⟩ := peers_loop k6 (g := S_Guard.mk g.Keys (4294967295 - v6) 4294967295 g.Nonce g.Peers) K2 p2
    rw [e7, Option.bind_some]
    exact ⟨_, _, rfl, ⟨K2, ⟨B, P7⟩, l7, by dsimp only; omega, by dsimp only; omega, by dsimp only; omega⟩, k7⟩
theorem frame_wf_spec {t : S_multihopmade_Tape} (h : TapeOk t) (n : Nat) (hn : n ≤ 1000) : ∃ f t', F_made_Tape_Frame t n = some (f, t') ∧ WfF f ∧ TapeOk t' := by
  unfold F_made_Tape_Frame F_made_Tape_Frame_j1
  obtain ⟨v1, t1, e1, a0, a1, k1⟩ := next_spec h 2 (by omega) (by omega)
  obtain ⟨v2, t2, e2, k2⟩ := bool_spec k1 2 (by omega) (by omega)
  obtain ⟨v3, t3, e3, k3⟩ := bool_spec k2 4 (by omega) (by omega)
  obtain ⟨v4, t4, e4, b0, b1, k4⟩ := next_spec k3 256 (by omega) (by omega)
  obtain ⟨v5, t5, e5, c0, c1, k5⟩ := next_spec k4 3 (by omega) (by omega)
  obtain ⟨v6, t6, e6, d6, n6, k6⟩ := device_spec k5
  obtain ⟨v7, t7, e7, d7, n7, k7⟩ := device_spec k6
  obtain ⟨v8, t8, e8, o8, l8, k8⟩ := bytes_spec k7 n (by omega)
  obtain ⟨v9, t9, e9, k9⟩ := bool_spec k8 5 (by omega) (by omega)
  simp only [e1, e2, e3, e4, e5, e6, e7, e8, e9, Option.bind_some]
  have hp : 0 ≤ IntKind.wrap .u16 v5 ∧ IntKind.wrap .u16 v5 ≤ 65535 := by rw [wrap16]; omega
  cases v9
  · exact ⟨_, _, rfl, ⟨wrap8_bd _, hp, adr_wf d6, adr_wf d7, by dsimp only; omega, by dsimp only; omega, o8, by dsimp only; omega, okB_nil, by simp⟩, k9⟩
  · exact ⟨_, _, rfl, ⟨wrap8_bd _, hp, ⟨by dsimp only; omega, by dsimp only; omega⟩, adr_wf d7, by dsimp only; omega, by dsimp only; omega, o8, by dsimp only; omega, okB_nil, by simp⟩, k9⟩
theorem skeys_loop {c : Int} (hc : 0 ≤ c ∧ c < 70) : ∃ g, loopO F_made_Tape_Sealed_l3 (0, S_Guard.mk [] c 1000 0 []) = some g ∧ MadeK g.Keys 3 ∧ g.Counter = c ∧ g.Reserved = 1000 ∧ g.Nonce = 0 ∧ g.Peers = [] := by
  obtain ⟨g, e, h⟩ := loop_inv (step := F_made_Tape_Sealed_l3) (fun s => 0 ≤ s.1 ∧ s.1 ≤ 3 ∧ MadeK s.2.Keys s.1 ∧ s.2.Counter = c ∧ s.2.Reserved = 1000 ∧ s.2.Nonce = 0 ∧ s.2.Peers = []) (fun r => MadeK r.Keys 3 ∧ r.Counter = c ∧ r.Reserved = 1000 ∧ r.Nonce = 0 ∧ r.Peers = []) (fun s => (3 - s.1).toNat) (fun s ⟨a, b, hk, hq⟩ => by
    unfold F_made_Tape_Sealed_l3
    by_cases hi : s.1 < 3
    · left
      have hl := hk.len
      rw [decT hi, cond_true, keyM_eq a (by omega)]
      simp only [Option.bind_some, Cut.app]
      rw [appO_some (by simp; omega) (by simp; omega), Option.bind_some, wi (x := s.1 + 1) (by omega) (by omega), wu8 (x := s.1) (by omega) (by omega)]
      exact ⟨_, rfl, ⟨by dsimp only; omega, by dsimp only; omega, hk.add a, hq⟩, by dsimp only; omega⟩
    · right
      rw [decF hi]
      exact ⟨_, rfl, hk.mono (by omega), hq⟩) (0, S_Guard.mk [] c 1000 0 []) ⟨by dsimp only; omega, by dsimp only; omega, MadeK.nil, rfl, rfl, rfl, rfl⟩
  exact ⟨g, e, h⟩
/-- a frame that was sealed with the made keys -/
def Sealed (x : S_Frame) : Prop := ∃ (f : S_Frame) (c i : Int), x = sec1 f c i (leB (sumS (keyM i) (hdL (sec1 f c i Z4))) 4) ∧ f.Kind ≠ 2 ∧ validB x = true
theorem seal_made {s : S_Guard} (hk : MadeK s.Keys 3) {f : S_Frame} {i : Int} : (sealS s f i).2.1.MIC.length = 4 → Sealed (sealS s f i).2.1 := by
  intro h
  unfold sealS at h ⊢
  split
  · rename_i q
    rw [if_pos q] at h
    split
    · rename_i hki
      rw [if_pos hki] at h
      split
      · rename_i hc
        rw [if_pos hc] at h
        simp [FZ] at h
      · rename_i hc
        rw [if_neg hc] at h
        split
        · rename_i hv
          have e : (keyS s i).1 = keyM i := hk.get hki
          refine ⟨f, s.Counter, i, ?_, q.2.2.1, ?_⟩
          · dsimp only
            unfold tagS
            rw [e]
          · dsimp only
            rw [valid_mic q.2.2.1 s.Counter i (n := Z4) (by rw [tagS, leB_len]; rfl)]
            exact hv
        · rename_i hv
          rw [if_neg hv] at h
          simp [FZ] at h
    · rename_i hki
      rw [if_neg hki] at h
      simp [FZ] at h
  · rename_i q
    rw [if_neg q] at h
    simp [FZ] at h
theorem sealed_j2 {t : S_multihopmade_Tape} (h : TapeOk t) {f : S_Frame} (wf : WfF f) : ∃ x t', F_made_Tape_Sealed_j2 (t, f) = some (x, t') ∧ WfF x ∧ (x.MIC.length = 4 → Sealed x) ∧ TapeOk t' := by
  unfold F_made_Tape_Sealed_j2
  obtain ⟨v1, t1, e1, a1, b1, k1⟩ := next_spec h 70 (by omega) (by omega)
  rw [e1, Option.bind_some]
  dsimp only
  rw [wu32 (x := v1) (by omega) (by omega)]
  obtain ⟨s, e2, K2, c2, r2, n2, p2⟩ := skeys_loop (c := v1) ⟨a1, b1⟩
  obtain ⟨v3, t3, e3, a3, b3, k3⟩ := next_spec k1 3 (by omega) (by omega)
  have ws : WfG s := by
    have := K2.len
    exact ⟨K2.wf (by omega), by omega, by simp [p2], by simp [p2], by omega, by omega, by omega⟩
  rw [e2, Option.bind_some, e3, Option.bind_some]
  dsimp only
  rw [wu8 (x := v3) (by omega) (by omega), seal_r ws wf (by omega), Option.bind_some]
  exact ⟨_, _, rfl, (sealS_wf ws wf (by omega)).2, seal_made K2, k3⟩
theorem sealed_j1 {t : S_multihopmade_Tape} (h : TapeOk t) {g : S_Guard} {f : S_Frame} (wf : WfF f) : ∃ x t', F_made_Tape_Sealed_j1 g (t, f) = some (x, t') ∧ WfF x ∧ (x.MIC.length = 4 → Sealed x) ∧ TapeOk t' := by
  unfold F_made_Tape_Sealed_j1
  obtain ⟨v1, t1, e1, k1⟩ := bool_spec h 3 (by omega) (by omega)
  rw [e1, Option.bind_some]
  dsimp only
  cases v1
  · exact sealed_j2 k1 wf
  · obtain ⟨v2, t2, e2, a2, b2, k2⟩ := next_spec k1 5 (by omega) (by omega)
    rw [cond_true, e2, Option.bind_some]
    dsimp only
    have hn : 0 ≤ IntKind.wrap .u32 (g.Nonce + IntKind.wrap .u32 (iquo .i64 v2 4)) ∧ IntKind.wrap .u32 (g.Nonce + IntKind.wrap .u32 (iquo .i64 v2 4)) ≤ 4294967295 := by rw [wrap32]; omega
    generalize IntKind.wrap .u32 (g.Nonce + IntKind.wrap .u32 (iquo .i64 v2 4)) = n at hn
    have w0 : WfG (S_Guard.mk [] 0 0 n []) := ⟨by simp, by simp, by simp, by simp, by simp, by simp, hn⟩
    have hl : (chS (S_Guard.mk [] 0 0 n [])).length ≤ 5 ∧ okB (chS (S_Guard.mk [] 0 0 n [])) := by
      unfold chS
      split
      · exact ⟨by simp [beB_len], (okB_one (by omega)).append (beB_ok _ _)⟩
      · exact ⟨by simp, okB_nil⟩
    rw [chal_r w0, Option.bind_some, respd_r (by omega) hl.2, Option.bind_some]
    have hr : (respS (chS (S_Guard.mk [] 0 0 n []))).1.length ≤ 100 ∧ okB (respS (chS (S_Guard.mk [] 0 0 n []))).1 := by
      unfold respS
      split
      · exact ⟨by simp; omega, (okB_one (by omega)).append (hl.2.drop 1)⟩
      · exact ⟨by simp, okB_nil⟩
    exact sealed_j2 k2 ⟨wf.seq, wf.pan, wf.dst, wf.src, wf.cnt, wf.key, hr.2, by dsimp only; omega, wf.mic, wf.micl⟩
theorem sealed_spec {t : S_multihopmade_Tape} (h : TapeOk t) (g : S_Guard) : ∃ x t', F_made_Tape_Sealed t g = some (x, t') ∧ WfF x ∧ (x.MIC.length = 4 → Sealed x) ∧ TapeOk t' := by
  unfold F_made_Tape_Sealed
  obtain ⟨f, t1, e1, w1, k1⟩ := frame_wf_spec h 8 (by omega)
  have e1' : F_made_Tape_Frame t 8 = some (f, t1) := e1
  obtain ⟨v2, t2, e2, a2, b2, k2⟩ := next_spec k1 3 (by omega) (by omega)
  rw [e1', Option.bind_some]
  dsimp only
  rw [e2, Option.bind_some]
  dsimp only
  by_cases hv : v2 > 0
  · obtain ⟨v3, t3, e3, a3, b3, k3⟩ := next_spec k2 5 (by omega) (by omega)
    rw [decT hv, cond_true, e3, Option.bind_some]
    dsimp only
    rw [wu16 (x := v3) (by omega) (by omega)]
    exact sealed_j1 k3 ⟨w1.seq, w1.pan, w1.dst, ⟨by dsimp only; omega, by dsimp only; omega⟩, w1.cnt, w1.key, w1.pay, w1.payl, w1.mic, w1.micl⟩
  · rw [decF hv, cond_false]
    exact sealed_j1 k2 w1
end
section
open Go.RowKit
theorem mod_spec (x n : Int) (h1 : 1 ≤ n) (h2 : n ≤ 4611686018427387904) : ∃ v, F_made_Mod x n = some v ∧ 0 ≤ v ∧ v < n := by
  unfold F_made_Mod F_made_Mod_j1
  obtain ⟨r1, r2, r3⟩ := rem_spec x n h1 h2
  generalize Int.tmod x n = q at *
  rw [show decide (n ≠ 0) = true by simp; omega]
  by_cases hq : q < 0
  · rw [decT hq, wi (by omega) (by omega)]
    exact ⟨q + n, rfl, by omega, by omega⟩
  · rw [decF hq]
    exact ⟨q, rfl, by omega, by omega⟩
end
section
open Go.RowKit

/-- the guard with the first made key -/
noncomputable def kg (c r n : Int) (P : List S_Peer) : S_Guard := S_Guard.mk [S_LinkKey.mk 1 (keyM 1)] c r n P
def sh (n : Int) : S_Addr := S_Addr.mk 2 n 0
def fr (k : Int) (p : List Int) : S_Frame := S_Frame.mk k false false false 0 0 (sh 2) (sh 1) 0 0 p []
noncomputable def sf (k : Int) (p : List Int) (c : Int) : S_Frame := sec1 (fr k p) c 1 (leB (sumS (keyM 1) (hdL (sec1 (fr k p) c 1 Z4))) 4)
theorem keyed_eq (r n : Int) : F_law06_keyed r n = some (kg 0 r n []) := by
  unfold F_law06_keyed kg
  rw [keyM_eq (by omega) (by omega)]
  rfl
theorem short_eq {n : Int} (h : 0 ≤ n ∧ n ≤ 65535) : F_law06_short n = some (sh n) := by
  unfold F_law06_short sh
  rw [wu16 h.1 (by omega)]
theorem madeK1 : MadeK [S_LinkKey.mk 1 (keyM 1)] 3 := ⟨by simp, by simp, by simp⟩
theorem okZ4 : okB Z4 := fun z hz => by rw [(List.mem_replicate.1 hz).2]; omega
theorem kg_made {c r n : Int} (hc : 0 ≤ c ∧ c ≤ r) (hr : r ≤ 4294967295) (hn : 0 ≤ n ∧ n ≤ 4294967295) : MadeG (kg c r n []) := ⟨madeK1, ⟨0, by simp [kg], by simp [kg]⟩, by simp [kg], hc, hr, hn⟩
theorem kg_made1 {c r n : Int} (hc : 0 ≤ c ∧ c ≤ r) (hr : r ≤ 4294967295) (hn : 0 ≤ n ∧ n ≤ 4294967295) {p : S_Peer} (hp : MadeP [S_LinkKey.mk 1 (keyM 1)] p) : MadeG (kg c r n [p]) := by
  refine ⟨madeK1, ⟨ordP p + 1, ?_, ?_⟩, by simp [kg], hc, hr, hn⟩
  · intro q hq
    rw [List.mem_singleton.1 hq]
    exact ⟨hp, by omega⟩
  · simp [kg]
theorem valid_of_good {f : S_Frame} (h : GoodF f) : validB f = true := by
  have e := f_valid_eq (good_wf h)
  rw [f_valid h] at e
  exact (Option.some.inj e).symm
theorem fr_good {k : Int} (hk : k = 1 ∨ k = 3) {p : List Int} (hp : okB p) (hl : p.length ≤ 20) : GoodF (fr k p) :=
  good_plain hk (by omega) (by omega) (.inl ⟨rfl, rfl, by simp [sh], by simp [sh]⟩) (.inl ⟨rfl, rfl, by simp [sh], by simp [sh]⟩) (fun q => by have := q.2; simp [sh] at this) (fun e => by cases e) hp (by omega)
theorem sf_good {k : Int} (hk : k = 1 ∨ k = 3) {p : List Int} (hp : okB p) (hl : p.length ≤ 20) {c : Int} (hc : 0 ≤ c ∧ c ≤ 4294967295) {m : List Int} (hm : okB m) (h4 : m.length = 4) : GoodF (sec1 (fr k p) c 1 m) :=
  good_secure (fr_good hk hp hl) (by show k ≠ 2; omega) (by show p.length ≤ 60; omega) hc (by omega) hm h4
theorem kg_key (c r n : Int) (P : List S_Peer) : keyS (kg c r n P) 1 = (keyM 1, true) := by simp [keyS, kg, keyL]
theorem sf_hd (k : Int) (p : List Int) (c : Int) : hdL (sf k p c) = hdL (sec1 (fr k p) c 1 Z4) := hdL_mic _ _ _ _ _
theorem sf_mic (k : Int) (p : List Int) (c : Int) : (sf k p c).MIC = leB (sumS (keyM 1) (hdL (sec1 (fr k p) c 1 Z4))) 4 := by
  unfold sf
  generalize leB (sumS (keyM 1) (hdL (sec1 (fr k p) c 1 Z4))) 4 = m
  rfl
theorem sf_form (k : Int) (p : List Int) (c : Int) : ∃ m : List Int, sf k p c = sec1 (fr k p) c 1 m := ⟨_, rfl⟩
theorem sf_key (k : Int) (p : List Int) (c : Int) : (sf k p c).Key = 1 := by obtain ⟨m, e⟩ := sf_form k p c; rw [e]; rfl
theorem sf_kind (k : Int) (p : List Int) (c : Int) : (sf k p c).Kind = k := by obtain ⟨m, e⟩ := sf_form k p c; rw [e]; rfl
theorem sf_sec (k : Int) (p : List Int) (c : Int) : (sf k p c).Secure = true := by obtain ⟨m, e⟩ := sf_form k p c; rw [e]; rfl
theorem sf_src (k : Int) (p : List Int) (c : Int) : (sf k p c).Src = sh 1 := by obtain ⟨m, e⟩ := sf_form k p c; rw [e]; rfl
theorem sf_cnt (k : Int) (p : List Int) (c : Int) : (sf k p c).Counter = c := by obtain ⟨m, e⟩ := sf_form k p c; rw [e]; rfl
theorem sf_pay (k : Int) (p : List Int) (c : Int) : (sf k p c).Payload = p := by obtain ⟨m, e⟩ := sf_form k p c; rw [e]; rfl
theorem seal_kg {c r n : Int} (hc : 0 ≤ c ∧ c < r) (hr : r ≤ 4294967295) (hn : 0 ≤ n ∧ n ≤ 4294967295) {k : Int} (hk : k = 1 ∨ k = 3) {p : List Int} (hp : okB p) (hl : p.length ≤ 20) : sealS (kg c r n []) (fr k p) 1 = (kg (c + 1) r n [], sf k p c, 0) := by
  have v := (kg_made (c := c) (r := r) (n := n) (by omega) hr hn).valid
  have g := fr_good hk hp hl
  have g4 := sf_good hk hp hl (c := c) (by omega) (m := Z4) okZ4 rfl
  unfold sealS
  rw [if_pos ⟨v, valid_of_good g, by show k ≠ 2; omega, rfl⟩, kg_key, if_pos rfl, if_neg (show ¬ (kg c r n []).Counter = (kg c r n []).Reserved from (show ¬ c = r by omega)), if_pos (show validB (sec1 (fr k p) (kg c r n []).Counter 1 Z4) = true from valid_of_good g4)]
  unfold tagS sf
  rw [kg_key]
  rfl
theorem sf_wf {k : Int} (hk : k = 1 ∨ k = 3) {p : List Int} (hp : okB p) (hl : p.length ≤ 20) {c : Int} (hc : 0 ≤ c ∧ c ≤ 4294967295) : GoodF (sf k p c) := sf_good hk hp hl hc (leB_ok _ _) (by rw [leB_len])
theorem ver_kg {c r n : Int} {P : List S_Peer} {k : Int} {p : List Int} {cc : Int} : verS (kg c r n P) (sf k p cc) = true := by
  unfold verS tagS
  rw [sf_key, kg_key, sf_mic, sf_hd]
  exact decide_eq_true rfl
theorem open_kg0 {c r n : Int} (hc : 0 ≤ c ∧ c ≤ r) (hr : r ≤ 4294967295) (hn : 0 ≤ n ∧ n ≤ 4294967295) {k : Int} (hk : k = 1 ∨ k = 3) {p : List Int} (hp : okB p) (hl : p.length ≤ 20) {cc : Int} (hcc : 0 ≤ cc ∧ cc ≤ 4294967295) : openS (kg c r n []) (sf k p cc) = newS (kg c r n []) (sf k p cc) := by
  have v := (kg_made (c := c) (r := r) (n := n) hc hr hn).valid
  have g := sf_wf hk hp hl hcc
  unfold openS
  rw [if_pos ⟨v, valid_of_good g, sf_sec _ _ _⟩, sf_key, kg_key, if_pos rfl, if_pos ver_kg]
  rfl
theorem new_kg3 {c r n : Int} {cc : Int} : newS (kg c r n []) (sf 3 (respL n) cc) = (kg c r n [freshP (sf 3 (respL n) cc)], 0) := by
  unfold newS
  rw [sf_kind, if_neg (by omega), sf_pay, if_neg (show ¬ respL n ≠ respL (kg c r n []).Nonce from fun q => q rfl), if_neg (show ¬ (kg c r n []).Peers.length = 16 from (show ¬ (0 : Nat) = 16 by omega))]
  rfl
theorem cmp_self (a : S_Addr) (k : Int) : cmpK a k a k = 0 := by
  unfold cmpK
  rw [lexC_self]
  simp [cmp1]
theorem open_kg1 {c r n : Int} (hc : 0 ≤ c ∧ c ≤ r) (hr : r ≤ 4294967295) (hn : 0 ≤ n ∧ n ≤ 4294967295) {q : S_Peer} (hq : MadeP [S_LinkKey.mk 1 (keyM 1)] q) (hs : q.Src = sh 1) (hy : q.Key = 1) {k : Int} (hk : k = 1 ∨ k = 3) {p : List Int} (hp : okB p) (hl : p.length ≤ 20) {cc : Int} (hcc : 0 ≤ cc ∧ cc ≤ 4294967295) :
    openS (kg c r n [q]) (sf k p cc) = (match accS q cc with
      | some x => (kg c r n [x], 0)
      | none => (G0, 13)) := by
  have v := (kg_made1 (c := c) (r := r) (n := n) hc hr hn hq).valid
  have g := sf_wf hk hp hl hcc
  have hb : befB q (sh 1) 1 = false := by
    unfold befB
    rw [hs, hy, cmp_self]
    rfl
  have hpl : place (kg c r n [q]).Peers (sf k p cc).Src (sf k p cc).Key = 0 := by
    rw [sf_src, sf_key]
    show place [q] (sh 1) 1 = 0
    simp only [place, hb]
    rfl
  unfold openS
  rw [if_pos ⟨v, valid_of_good g, sf_sec _ _ _⟩, hpl, sf_key, kg_key, if_pos rfl, if_pos ver_kg, sf_src, sf_cnt]
  show (if S_Addr.eqb q.Src (sh 1) = true ∧ q.Key = 1 then _ else _) = _
  rw [if_pos ⟨by rw [hs]; exact addr_refl _, hy⟩]
  rfl
theorem fresh_made {k : Int} {p : List Int} {c : Int} (hc : 0 ≤ c ∧ c ≤ 4294967295) : MadeP [S_LinkKey.mk 1 (keyM 1)] (freshP (sf k p c)) :=
  ⟨by unfold freshP; rw [sf_src]; rfl, by unfold freshP; rw [sf_src]; rfl, by unfold freshP; rw [sf_src]; show (0 : Int) ≤ 1 ∧ (1 : Int) ≤ 100; omega, by unfold freshP; rw [sf_key]; show (0 : Int) ≤ 1 ∧ (1 : Int) ≤ 255; omega, ⟨_, List.mem_singleton.2 rfl, by unfold freshP; rw [sf_key]⟩, by unfold freshP; rw [sf_cnt]; exact hc, by show (0 : Int) ≤ 4294967295 ∧ (4294967295 : Int) ≤ 4294967295; omega, by show iand .u32 4294967295 1 = 1; decide⟩
theorem fresh_src (k : Int) (p : List Int) (c : Int) : (freshP (sf k p c)).Src = sh 1 := by unfold freshP; rw [sf_src]
theorem fresh_key (k : Int) (p : List Int) (c : Int) : (freshP (sf k p c)).Key = 1 := by unfold freshP; rw [sf_key]
theorem fresh_last (k : Int) (p : List Int) (c : Int) : (freshP (sf k p c)).Last = c := by unfold freshP; rw [sf_cnt]
theorem fresh_win {k : Int} {p : List Int} {c : Int} (hc : 0 ≤ c ∧ c ≤ 4294967295) : WinP (freshP (sf k p c)) (fun x => decide (x ≤ c)) := by
  have hl := fresh_last k p c
  refine ⟨by omega, by show (0 : Int) ≤ 4294967295 ∧ (4294967295 : Int) ≤ 4294967295; omega, fun i hi => ?_, fun x hx => ?_⟩
  · rw [hl]
    show wb 4294967295 i = decide (c - (i : Int) ≤ c)
    rw [wb_all hi, decide_eq_true (by omega)]
  · exact decide_eq_false (by omega)
theorem seal_pk {c r n : Int} (hc : 0 ≤ c ∧ c < r) (hr : r ≤ 4294967295) (hn : 0 ≤ n ∧ n ≤ 4294967295) {k : Int} (hk : k = 1 ∨ k = 3) {p : List Int} (hp : okB p) (hl : p.length ≤ 20) : F_guard_Seal (kg c r n []) (S_Frame.mk k false false false 0 0 (sh 2) (sh 1) 0 0 p []) 1 = some (kg (c + 1) r n [], sf k p c, 0) := by
  have h := seal_p (kg_made (c := c) (r := r) (n := n) (by omega) hr hn).wf (good_wf (fr_good hk hp hl)) (i := 1) (by omega)
  rw [seal_kg hc hr hn hk hp hl] at h
  exact h
theorem open_pk0 {c r n : Int} (hc : 0 ≤ c ∧ c ≤ r) (hr : r ≤ 4294967295) (hn : 0 ≤ n ∧ n ≤ 4294967295) {cc : Int} (hcc : 0 ≤ cc ∧ cc ≤ 4294967295) : F_guard_Open (kg c r n []) (sf 3 (respL n) cc) = some (kg c r n [freshP (sf 3 (respL n) cc)], 0) := by
  have hl : (respL n).length ≤ 20 := by rw [respL_len]; omega
  rw [open_p (kg_made hc hr hn).wf (good_wf (sf_wf (.inr rfl) (respL_ok n) hl hcc)), open_kg0 hc hr hn (.inr rfl) (respL_ok n) hl hcc, new_kg3]
theorem open_pk1 {c r n : Int} (hc : 0 ≤ c ∧ c ≤ r) (hr : r ≤ 4294967295) (hn : 0 ≤ n ∧ n ≤ 4294967295) {q : S_Peer} (hq : MadeP [S_LinkKey.mk 1 (keyM 1)] q) (hs : q.Src = sh 1) (hy : q.Key = 1) {k : Int} (hk : k = 1 ∨ k = 3) {p : List Int} (hp : okB p) (hl : p.length ≤ 20) {cc : Int} (hcc : 0 ≤ cc ∧ cc ≤ 4294967295) :
    F_guard_Open (kg c r n [q]) (sf k p cc) = some (match accS q cc with
      | some x => (kg c r n [x], 0)
      | none => (G0, 13)) := by
  rw [open_p (kg_made1 hc hr hn hq).wf (good_wf (sf_wf hk hp hl hcc)), open_kg1 hc hr hn hq hs hy hk hp hl hcc]
theorem acc_fresh {k : Int} {p : List Int} {c d : Int} (hc : 0 ≤ c ∧ c ≤ 4294967295) (hd : 0 ≤ d ∧ d ≤ c) : accS (freshP (sf k p c)) d = none := by
  rcases acc_win (fresh_win (k := k) (p := p) hc) (c := d) (by omega) with ⟨q, _, _, _, _, _, hU, _⟩ | ⟨h, _⟩
  · have : decide (d ≤ c) = false := hU
    rw [decide_eq_true hd.2] at this
    cases this
  · exact h
theorem known_true : F_law06_known = some true := by
  have hl : (respL 5).length ≤ 20 := by rw [respL_len]; omega
  unfold F_law06_known
  rw [keyed_eq, keyed_eq, short_eq (by omega), short_eq (by omega)]
  simp only [Option.bind_some]
  rw [chal_p (kg_made (c := 0) (r := 0) (n := 5) (by omega) (by omega) (by omega)).wf, Option.bind_some, respd_p (by unfold chS; split <;> simp [beB_len]), resp_ch (kg_made (c := 0) (r := 0) (n := 5) (by omega) (by omega) (by omega)).valid, Option.bind_some]
  dsimp only
  rw [show (kg 0 0 5 []).Nonce = 5 from rfl, seal_pk (by omega) (by omega) (by omega) (.inr rfl) (respL_ok 5) hl, Option.bind_some]
  dsimp only
  rw [open_pk0 (by omega) (by omega) (by omega) (by omega), Option.bind_some]
  dsimp only
  rw [open_pk1 (by omega) (by omega) (by omega) (fresh_made (by omega)) (fresh_src _ _ _) (fresh_key _ _ _) (.inr rfl) (respL_ok 5) hl (by omega), acc_fresh (by omega) (by omega)]
  rfl
end
section
open Go.RowKit

theorem xor_ok (x y : Int) : 0 ≤ ixor .u8 x y ∧ ixor .u8 x y ≤ 255 := by
  have e : ixor .u8 x y = IntKind.wrap .u8 (((BitVec.ofInt 8 x ^^^ BitVec.ofInt 8 y).toNat : Nat) : Int) := rfl
  rw [e]
  exact wrap8_bd _
theorem opens_step {s : Int × S_multihopmade_Tape × S_Guard} (w : WfG s.2.2) {v : S_Frame × S_multihopmade_Tape} (hv : TapeOk v.2) (hi : 0 ≤ s.1 ∧ s.1 < 6) {f : S_Frame} (wf : WfF f) : ∃ s', F_law06_GuardOpens_j3 s v f = some (.inl s') ∧ s'.1 = s.1 + 1 ∧ TapeOk s'.2.1 ∧ WfG s'.2.2 := by
  have hw := openS_wf w wf
  unfold F_law06_GuardOpens_j3 F_law06_GuardOpens_j2
  rw [open_p w wf, Option.bind_some, open_r w wf, Option.bind_some, bne_self_eq_false, cond_false, same_g hw, Option.bind_some, cond_true, wi (x := s.1 + 1) (by omega) (by omega)]
  cases (openS s.2.2 f).2 == 0
  · exact ⟨_, rfl, rfl, hv, w⟩
  · exact ⟨_, rfl, rfl, hv, hw⟩
theorem mic_wf {f : S_Frame} (wf : WfF f) {m : List Int} (hm : okB m) (hl : m.length ≤ 1000) : WfF (S_Frame.mk f.Kind f.AckRequest f.Pending f.Secure f.Seq f.Pan f.Dst f.Src f.Counter f.Key f.Payload m) := ⟨wf.seq, wf.pan, wf.dst, wf.src, wf.cnt, wf.key, wf.pay, wf.payl, hm, by show m.length ≤ _; omega⟩
theorem opens_law (t : List Int) (at_ by_ : Int) : F_law06_GuardOpens t at_ by_ = some true := by
  unfold F_law06_GuardOpens
  obtain ⟨k, e0, ht⟩ := new_spec t
  obtain ⟨g, t1, e1, mg, k1⟩ := guard_spec ht
  rw [e0, Option.bind_some, e1, Option.bind_some]
  dsimp only
  obtain ⟨r, e, hr⟩ := loop_inv (step := F_law06_GuardOpens_l1 at_ by_) (fun s => 0 ≤ s.1 ∧ s.1 ≤ 6 ∧ TapeOk s.2.1 ∧ WfG s.2.2) (fun r => r = Sum.inl ()) (fun s => (6 - s.1).toNat) (fun s ⟨a, b, ht, w⟩ => by
    unfold F_law06_GuardOpens_l1
    by_cases hi : s.1 < 6
    · left
      obtain ⟨x, t2, e2, wx, _, k2⟩ := sealed_spec ht s.2.2
      rw [decT hi, cond_true, e2, Option.bind_some]
      dsimp only
      have fin : ∀ (f : S_Frame), WfF f → ∃ s', F_law06_GuardOpens_j3 s (x, t2) f = some (.inl s') ∧ (0 ≤ s'.1 ∧ s'.1 ≤ 6 ∧ TapeOk s'.2.1 ∧ WfG s'.2.2) ∧ (6 - s'.1).toNat < (6 - s.1).toNat := fun f wf => by
        obtain ⟨s', q1, q2, q3, q4⟩ := opens_step w (v := (x, t2)) k2 ⟨a, hi⟩ wf
        exact ⟨s', q1, ⟨by omega, by omega, q3, q4⟩, by omega⟩
      cases s.1 == 5
      · exact fin x wx
      · by_cases h4 : x.MIC.length = 4
        rotate_left
        · rw [cond_true, bF (show ¬ (x.MIC.length : Int) = 4 by omega), cond_false]
          exact fin x wx
        · rw [cond_true, bT (show (x.MIC.length : Int) = 4 by omega), cond_true]
          simp only [Cut.app, List.length_nil, List.take_nil]
          rw [appO_some (by simp; omega) (by simp; omega), Option.bind_some, List.nil_append]
          obtain ⟨q, e3, q0, q1⟩ := mod_spec at_ 4 (by omega) (by omega)
          obtain ⟨m, rfl⟩ : ∃ m : Nat, q = (m : Int) := ⟨q.toNat, by omega⟩
          rw [e3, Option.bind_some, idx_lt (show m < x.MIC.length by omega), Option.bind_some, Nat.zero_add, Int.toNat_natCast, List.getElem?_eq_getElem (show m < x.MIC.length by omega)]
          simp only [Option.bind_some]
          exact fin _ (mic_wf wx (wx.mic.set _ (xor_ok _ _)) (by simp; omega))
    · right
      rw [decF hi]
      exact ⟨_, rfl, rfl⟩) (0, t1, g) ⟨by dsimp only; omega, by dsimp only; omega, k1, mg.wf⟩
  rw [e, hr, Option.bind_some, Sum.elim_inl, known_true]
  rfl
end
section
open Go.RowKit
theorem guardOpens_holds : Rows.GuardOpensSaid := guardOpens_of fun _ _ _ _ _ _ => opens_law _ _ _
end
end Go.Proofs.Ytpngoffbogingaa
