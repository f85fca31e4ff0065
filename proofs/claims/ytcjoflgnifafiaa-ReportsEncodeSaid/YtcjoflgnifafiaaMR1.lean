/-
  Lists of records: validity, which record is better, the union of two lists.
-/
import Derived.Test.YtcjoflgnifafiaaMS2
namespace Go.Proofs.Ytcjoflgnifafiaa
open Go.RowKit

abbrev DR := S_Diagnostic
structure wfR (d : DR) : Prop where
  node : 0 ≤ d.Node
  data : okB d.Data
def pAt (l : List DR) (k : Nat) : Bool := match l[k]? with
  | some d => (d.Node != 0) && decide (d.Data.length ≤ 64) && decide (0 ≤ d.Number ∧ d.Number ≤ 1073741824) && (match k with
    | 0 => true
    | j + 1 => match l[j]? with
      | some e => decide (e.Node < d.Node)
      | none => true)
  | none => true
def validR (l : List DR) : Bool := decide (l.length ≤ 64) && decide (∀ k, k < l.length → pAt l k = true)
def lastOf (l : List DR) : Nat → Int
  | 0 => 0
  | k + 1 => match l[k]? with
    | some e => e.Node
    | none => 0
theorem prog_validR {l : List DR} (h : ∀ d ∈ l, wfR d) : F_management_ValidReports l = some (validR l) := by
  unfold F_management_ValidReports validR
  by_cases hl : l.length > 64
  · rw [decT (show (l.length : Int) > 64 by omega), decF (show ¬ l.length ≤ 64 by omega)]; rfl
  rw [decF (show ¬ (l.length : Int) > 64 by omega), decT (show l.length ≤ 64 by omega)]
  have hl' := loop_all (step := F_management_ValidReports_l1 l) (S := fun k => (lastOf l k, (k : Int))) l.length (pAt l) (rt := .inl ()) (rf := .inr false) (fun k hk hp => by
    unfold F_management_ValidReports_l1 F_management_validNumber
    dsimp only
    rw [decT (show (k : Int) < (l.length : Int) by omega), idx_lt hk, wk k (by omega)]
    unfold pAt at hp
    rw [List.getElem?_eq_getElem hk] at hp
    have hn := (h _ (List.getElem_mem hk)).node
    rcases k with _ | k
    · simp only [lastOf, List.getElem?_eq_getElem hk]
      grind
    · have hk2 : k < l.length := by omega
      have hn2 := (h _ (List.getElem_mem hk2)).node
      simp only [lastOf, List.getElem?_eq_getElem hk, List.getElem?_eq_getElem hk2] at hp ⊢
      grind) (fun k hk hp => by
    unfold F_management_ValidReports_l1 F_management_validNumber
    dsimp only
    rw [decT (show (k : Int) < (l.length : Int) by omega), idx_lt hk]
    unfold pAt at hp
    rw [List.getElem?_eq_getElem hk] at hp
    have hn := (h _ (List.getElem_mem hk)).node
    rcases k with _ | k
    · simp only [lastOf]
      grind
    · have hk2 : k < l.length := by omega
      have hn2 := (h _ (List.getElem_mem hk2)).node
      simp only [lastOf, List.getElem?_eq_getElem hk2] at hp ⊢
      grind) (by
    unfold F_management_ValidReports_l1
    dsimp only
    rw [decF (show ¬ (l.length : Int) < (l.length : Int) by omega)]
    rfl)
  simp only [lastOf, Int.natCast_zero] at hl'
  simp only [cond_false, Bool.true_and]
  rw [hl', Option.bind_some]
  by_cases hp : ∀ k, k < l.length → pAt l k = true
  · rw [if_pos hp, decT hp]; rfl
  · rw [if_neg hp, decF hp]; rfl
theorem ref_validR {l : List DR} : F_ref39_ValidReports l = some (validR l) := by
  unfold F_ref39_ValidReports validR
  by_cases hl : l.length > 64
  · rw [decT (show (l.length : Int) > 64 by omega), decF (show ¬ l.length ≤ 64 by omega)]; rfl
  rw [decF (show ¬ (l.length : Int) > 64 by omega), decT (show l.length ≤ 64 by omega)]
  have hl' := loop_all (step := F_ref39_ValidReports_l1 l) (S := fun k => (k : Int)) l.length (pAt l) (rt := .inl ()) (rf := .inr false) (fun k hk hp => by
    unfold F_ref39_ValidReports_l1 F_ref39_validReport
    rw [decT (show (k : Int) < (l.length : Int) by omega), idx_lt hk, wk k (by omega)]
    unfold pAt at hp
    rw [List.getElem?_eq_getElem hk] at hp
    rcases k with _ | k
    · grind
    · have hk2 : k < l.length := by omega
      rw [wi (by omega) (by omega), show ((k + 1 : Nat) : Int) - 1 = (k : Int) by omega, idx_lt hk2]
      simp only [List.getElem?_eq_getElem hk2] at hp ⊢
      grind) (fun k hk hp => by
    unfold F_ref39_ValidReports_l1 F_ref39_validReport
    rw [decT (show (k : Int) < (l.length : Int) by omega), idx_lt hk]
    unfold pAt at hp
    rw [List.getElem?_eq_getElem hk] at hp
    rcases k with _ | k
    · grind
    · have hk2 : k < l.length := by omega
      rw [wi (x := ((k + 1 : Nat) : Int) - 1) (by omega) (by omega), show ((k + 1 : Nat) : Int) - 1 = (k : Int) by omega, idx_lt hk2]
      simp only [List.getElem?_eq_getElem hk2] at hp ⊢
      grind) (by
    unfold F_ref39_ValidReports_l1
    rw [decF (show ¬ (l.length : Int) < (l.length : Int) by omega)]
    rfl)
  simp only [Int.natCast_zero] at hl'
  simp only [cond_false, Bool.true_and]
  rw [hl', Option.bind_some]
  by_cases hp : ∀ k, k < l.length → pAt l k = true
  · rw [if_pos hp, decT hp]; rfl
  · rw [if_neg hp, decF hp]; rfl

/-! ### validity in other words -/
structure okD (d : DR) : Prop where
  node : d.Node ≠ 0
  len : d.Data.length ≤ 64
  num0 : 0 ≤ d.Number
  num1 : d.Number ≤ 1073741824
structure ValidR (l : List DR) : Prop where
  len : l.length ≤ 64
  ok : ∀ d ∈ l, okD d
  ord : l.Pairwise fun a b => a.Node < b.Node
theorem pAt_iff {l : List DR} {k : Nat} (hk : k < l.length) : pAt l k = true ↔ okD l[k] ∧ (∀ _ : k ≠ 0, (l[k - 1]'(by omega)).Node < l[k].Node) := by
  unfold pAt
  rw [List.getElem?_eq_getElem hk]
  constructor
  · intro h
    rcases k with _ | k
    · simp only [Bool.and_eq_true, bne_iff_ne, decide_eq_true_eq] at h
      exact ⟨⟨h.1.1.1, h.1.1.2, h.1.2.1, h.1.2.2⟩, fun h0 => absurd rfl h0⟩
    · simp only [List.getElem?_eq_getElem (show k < l.length by omega), Bool.and_eq_true, bne_iff_ne, decide_eq_true_eq] at h
      exact ⟨⟨h.1.1.1, h.1.1.2, h.1.2.1, h.1.2.2⟩, fun _ => h.2⟩
  · rintro ⟨⟨a, b, c, d⟩, e⟩
    rcases k with _ | k
    · simp [a, b, c, d]
    · have := e (by omega)
      simp only [Nat.add_sub_cancel] at this
      simp only [List.getElem?_eq_getElem (show k < l.length by omega)]
      simp [a, b, c, d, this]
theorem validR_iff {l : List DR} : validR l = true ↔ ValidR l := by
  unfold validR
  simp only [Bool.and_eq_true, decide_eq_true_eq]
  constructor
  · rintro ⟨h1, h2⟩
    have h3 := fun k (hk : k < l.length) => (pAt_iff hk).1 (h2 k hk)
    refine ⟨h1, fun d hd => ?_, ?_⟩
    · obtain ⟨i, hi, rfl⟩ := List.getElem_of_mem hd
      exact (h3 i hi).1
    · rw [List.pairwise_iff_getElem]
      intro i j hi hj hij
      have : ∀ m (hm : i + 1 + m < l.length), l[i].Node < l[i + 1 + m].Node := by
        intro m
        induction m with
        | zero => intro hm; exact (h3 (i + 1) hm).2 (by omega)
        | succ m ih =>
          intro hm
          have a := ih (by omega)
          have b := (h3 (i + 1 + (m + 1)) hm).2 (by omega)
          have e : i + 1 + (m + 1) - 1 = i + 1 + m := by omega
          simp only [e] at b
          omega
      have := this (j - (i + 1)) (by omega)
      have e : i + 1 + (j - (i + 1)) = j := by omega
      simpa [e] using this
  · rintro ⟨h1, h2, h3⟩
    refine ⟨h1, fun k hk => (pAt_iff hk).2 ⟨h2 _ (List.getElem_mem hk), fun h0 => ?_⟩⟩
    rw [List.pairwise_iff_getElem] at h3
    exact h3 (k - 1) k (by omega) hk (by omega)

/-! ### the better record -/
def betterB (a b : DR) : Bool := decide (a.Number > b.Number ∨ a.Number = b.Number ∧ lexC a.Data b.Data > 0)
theorem bytesLess_lex : ∀ {a b : List Int}, okB a → okB b → Go.Op.bytesLess (u8L a) (u8L b) = decide (lexC a b < 0)
  | [], [], _, _ => by simp [u8L, Go.Op.bytesLess, lexC]
  | [], _ :: _, _, _ => by simp [u8L, Go.Op.bytesLess, lexC]
  | _ :: _, [], _, _ => by simp [u8L, Go.Op.bytesLess, lexC]
  | x :: s, y :: t, ha, hb => by
    have hx := ha x (by simp)
    have hy := hb y (by simp)
    have ih := bytesLess_lex (a := s) (b := t) (fun z hz => ha z (by simp [hz])) (fun z hz => hb z (by simp [hz]))
    have e1 : (x.toNat.toUInt8).toNat = x.toNat := by simp [Nat.toUInt8]; omega
    have e2 : (y.toNat.toUInt8).toNat = y.toNat := by simp [Nat.toUInt8]; omega
    unfold u8L at ih ⊢
    simp only [List.map_cons, Go.Op.bytesLess, ih]
    by_cases h1 : x < y
    · have : x.toNat.toUInt8 < y.toNat.toUInt8 := by rw [UInt8.lt_iff_toNat_lt, e1, e2]; omega
      rw [show lexC (x :: s) (y :: t) = -1 by simp [lexC, h1]]
      simp [this]
    · have h1' : ¬ x.toNat.toUInt8 < y.toNat.toUInt8 := by rw [UInt8.lt_iff_toNat_lt, e1, e2]; omega
      by_cases h2 : y < x
      · rw [show lexC (x :: s) (y :: t) = 1 by simp [lexC, h1, h2]]
        have : ¬ x.toNat.toUInt8 = y.toNat.toUInt8 := fun q => by have := u8_inj hx hy q; omega
        simp [h1', this]
      · rw [show lexC (x :: s) (y :: t) = lexC s t by simp [lexC, h1, h2]]
        have : x = y := by omega
        subst this
        simp
theorem prog_better {a b : DR} (ha : okB a.Data) (hb : okB b.Data) : F_management_better a b = some (betterB a b) := by
  unfold F_management_better F_cmp_Compare_int F_cmp_isNaN_int F_bytes_Compare F_cmp_Or_int betterB
  simp only [Cut.app, bne_self_eq_false, Option.bind_some, cond_false]
  rw [cmpB_lex ha hb]
  have hc := lexC_cases a.Data b.Data
  generalize lexC a.Data b.Data = c at *
  have key : ∀ x : Int, loopO (F_cmp_Or_int_l1 [x, c]) 0 = some (if x ≠ 0 then .inr x else if c ≠ 0 then .inr c else .inl ()) := by
    intro x
    by_cases hx : x = 0
    · subst hx
      rw [loop_next (s' := 1) (by rfl)]
      by_cases h2 : c = 0
      · subst h2
        rw [loop_next (s' := 2) (by rfl)]
        exact loop_done rfl
      · have hb2 : (c != 0) = true := by simpa using h2
        rw [loop_done (r := .inr c) (by unfold F_cmp_Or_int_l1; simp [idx, hb2])]
        simp [h2]
    · have hb2 : (x != 0) = true := by simpa using hx
      rw [loop_done (r := .inr x) (by unfold F_cmp_Or_int_l1; simp [idx, hb2])]
      simp [hx]
  by_cases h1 : a.Number < b.Number
  · rw [decT h1]
    simp only [cond_true, Option.bind_some]
    rw [key]
    simp
    omega
  · rw [decF h1]
    by_cases h2 : a.Number > b.Number
    · rw [decT h2]
      simp only [cond_true, cond_false, Option.bind_some]
      rw [key]
      simp [h2]
    · rw [decF h2]
      simp only [cond_false, Option.bind_some]
      rw [key]
      have : a.Number = b.Number := by omega
      rcases hc with rfl | rfl | rfl <;> simp [this]
theorem ref_better {a b : DR} (ha : okB a.Data) (hb : okB b.Data) : F_ref39_Better a b = some (betterB a b) := by
  unfold F_ref39_Better betterB
  simp only [Cut.app]
  rw [bytesLess_lex ha hb, u8L_beq ha hb]
  have hz : a.Data = b.Data ↔ lexC a.Data b.Data = 0 := ⟨fun h => by rw [h]; exact lexC_self _, lexC_zero⟩
  by_cases h1 : a.Number > b.Number
  · rw [decT h1]; simp [h1]
  · rw [decF h1]
    by_cases h2 : a.Number = b.Number
    · rw [h2]
      simp only [beq_self_eq_true, cond_true, cond_false]
      congr 1
      rw [Bool.eq_iff_iff]
      simp [hz]
      omega
    · rw [beqF h2]
      simp only [cond_false]
      congr 1
      rw [eq_comm, decide_eq_false_iff_not]
      omega

/-! ### the union -/
def unionS : List DR → List DR → List DR
  | [], b => b
  | a, [] => a
  | x :: s, y :: t => if x.Node < y.Node then x :: unionS s (y :: t) else if y.Node < x.Node then y :: unionS (x :: s) t else (if betterB y x then y else x) :: unionS s t
termination_by a b => a.length + b.length
theorem unionS_nil (a : List DR) : unionS a [] = a := by cases a <;> simp [unionS]
theorem nil_unionS (a : List DR) : unionS [] a = a := by simp [unionS]
theorem unionS_len (a b : List DR) : (unionS a b).length ≤ a.length + b.length := by
  fun_induction unionS a b with
  | case1 b => simp
  | case2 a h => simp
  | case3 x s y t h ih => simp only [List.length_cons] at *; omega
  | case4 x s y t h h2 ih => simp only [List.length_cons] at *; omega
  | case5 x s y t h h2 ih => simp only [List.length_cons] at *; omega
theorem unionS_mem (a b : List DR) : ∀ d ∈ unionS a b, d ∈ a ∨ d ∈ b := by
  fun_induction unionS a b with
  | case1 b => intro d hd; exact .inr hd
  | case2 a h => intro d hd; exact .inl hd
  | case3 x s y t h ih =>
    intro d hd
    rcases List.mem_cons.1 hd with rfl | hd
    · simp
    · rcases ih d hd with h | h
      · simp [h]
      · exact .inr h
  | case4 x s y t h h2 ih =>
    intro d hd
    rcases List.mem_cons.1 hd with rfl | hd
    · simp
    · rcases ih d hd with h | h
      · exact .inl h
      · simp [h]
  | case5 x s y t h h2 ih =>
    intro d hd
    rcases List.mem_cons.1 hd with rfl | hd
    · split <;> simp
    · rcases ih d hd with h | h
      · simp [h]
      · simp [h]
abbrev Ord (l : List DR) : Prop := l.Pairwise fun a b => a.Node < b.Node
theorem unionS_ord (a b : List DR) (ha : Ord a) (hb : Ord b) : Ord (unionS a b) := by
  fun_induction unionS a b with
  | case1 b => exact hb
  | case2 a h => exact ha
  | case3 x s y t h ih =>
    refine List.pairwise_cons.2 ⟨fun d hd => ?_, ih (List.pairwise_cons.1 ha).2 hb⟩
    rcases unionS_mem _ _ d hd with h1 | h1
    · exact (List.pairwise_cons.1 ha).1 d h1
    · rcases List.mem_cons.1 h1 with rfl | h1
      · exact h
      · have := (List.pairwise_cons.1 hb).1 d h1; omega
  | case4 x s y t h h2 ih =>
    refine List.pairwise_cons.2 ⟨fun d hd => ?_, ih ha (List.pairwise_cons.1 hb).2⟩
    rcases unionS_mem _ _ d hd with h1 | h1
    · rcases List.mem_cons.1 h1 with rfl | h1
      · exact h2
      · have := (List.pairwise_cons.1 ha).1 d h1; omega
    · exact (List.pairwise_cons.1 hb).1 d h1
  | case5 x s y t h h2 ih =>
    have e : x.Node = y.Node := by omega
    refine List.pairwise_cons.2 ⟨fun d hd => ?_, ih (List.pairwise_cons.1 ha).2 (List.pairwise_cons.1 hb).2⟩
    have hn : (if betterB y x then y else x).Node = x.Node := by split <;> omega
    rw [hn]
    rcases unionS_mem _ _ d hd with h1 | h1
    · exact (List.pairwise_cons.1 ha).1 d h1
    · have := (List.pairwise_cons.1 hb).1 d h1; omega
structure smallR (l : List DR) : Prop where
  len : l.length ≤ 64
  data : ∀ d ∈ l, okB d.Data ∧ d.Data.length ≤ 64
theorem clone_spec {d : DR} (h : d.Data.length ≤ 64) : F_management_clone d = some d := by
  unfold F_management_clone
  rw [copy_nil (by omega)]
  rfl
theorem copy_spec {d : DR} (h : d.Data.length ≤ 64) : F_ref39_copyReport d = some d := by
  unfold F_ref39_copyReport
  rw [copy_nil (by omega)]
  rfl
theorem sub1 {x : DR} {s : List DR} : subO (x :: s) 1 ((x :: s).length : Int) = some s := by
  rw [subO_some (by omega) (by simp; omega) (by omega), Int.toNat_natCast, List.take_length]
  rfl
theorem app1 {l : List DR} {d : DR} (h : l.length ≤ 1000) : appO 40 l (Cut.app .whole [d]) = some (l ++ [d]) := by
  simp only [Cut.app]
  rw [appO_some (by simp; omega) (by simp; omega)]
theorem prog_union {a b : List DR} (ha : smallR a) (hb : smallR b) : F_management_union a b = some (unionS a b) := by
  unfold F_management_union
  obtain ⟨r, hr, q⟩ := loop_inv (step := F_management_union_l1) (fun s => s.2.2 ++ unionS s.1 s.2.1 = unionS a b ∧ s.2.2.length + s.1.length + s.2.1.length ≤ 128 ∧ (∀ d ∈ s.1, okB d.Data ∧ d.Data.length ≤ 64) ∧ ∀ d ∈ s.2.1, okB d.Data ∧ d.Data.length ≤ 64) (fun r => r = unionS a b) (fun s => s.1.length + s.2.1.length) (by
    rintro ⟨s, t, out⟩ ⟨h1, h2, h3, h4⟩
    dsimp only at h1 h2 h3 h4
    unfold F_management_union_l1 F_management_union_j2 F_management_union_j3
    dsimp only
    cases s with
    | nil =>
      cases t with
      | nil =>
        right
        refine ⟨out, by simp, ?_⟩
        rw [unionS_nil, List.append_nil] at h1
        exact h1
      | cons y t =>
        left
        refine ⟨([], t, out ++ [y]), ?_, ⟨?_, ?_, h3, fun d hd => h4 d (by simp [hd])⟩, ?_⟩
        · rw [decF (show ¬ (([] : List DR).length : Int) > 0 by simp), decT (show ((y :: t).length : Int) > 0 by simp only [List.length_cons]; omega)]
          have e0 : (((y :: t).length : Int) == 0) = false := beqF (by simp; omega)
          simp only [cond_true, cond_false, e0]
          simp only [List.length_nil, Int.natCast_zero, beq_self_eq_true, cond_true, idx, Int.le_refl, if_true, Int.toNat_zero, List.getElem?_cons_zero, Option.bind_some]
          rw [clone_spec (h4 y (by simp)).2, Option.bind_some, app1 (by simp at h2; omega), Option.bind_some, sub1]
          rfl
        · dsimp only; rw [nil_unionS] at h1 ⊢; simpa using h1
        · simp only [List.length_append, List.length_cons, List.length_nil] at *; omega
        · simp
    | cons x s =>
      left
      have hx := h3 x (by simp)
      rw [decT (show ((x :: s).length : Int) > 0 by simp only [List.length_cons]; omega)]
      have ix : idx (x :: s) 0 = some x := rfl
      have e0 : (((x :: s).length : Int) == 0) = false := beqF (by simp; omega)
      simp only [cond_true, ix, Option.bind_some, e0]
      cases t with
      | nil =>
        simp only [List.length_nil, Int.natCast_zero, beq_self_eq_true, cond_true]
        refine ⟨(s, [], out ++ [x]), ?_, ⟨?_, ?_, fun d hd => h3 d (by simp [hd]), h4⟩, ?_⟩
        · rw [clone_spec hx.2, Option.bind_some, app1 (by simp at h2; omega), Option.bind_some, sub1]
          rfl
        · dsimp only; rw [unionS_nil] at h1 ⊢; simpa using h1
        · simp only [List.length_append, List.length_cons, List.length_nil] at *; omega
        · simp
      | cons y t =>
        have hy := h4 y (by simp)
        have iy : idx (y :: t) 0 = some y := rfl
        have e1 : (((y :: t).length : Int) == 0) = false := beqF (by simp; omega)
        simp only [iy, e1, Option.bind_some, cond_false]
        have hlen : out.length ≤ 1000 := by simp at h2; omega
        by_cases c1 : x.Node < y.Node
        · rw [decT c1]
          refine ⟨(s, y :: t, out ++ [x]), ?_, ⟨?_, ?_, fun d hd => h3 d (by simp [hd]), h4⟩, ?_⟩
          · simp only [cond_true]
            rw [clone_spec hx.2, Option.bind_some, app1 hlen, Option.bind_some, sub1]
            rfl
          · dsimp only; rw [unionS, if_pos c1] at h1; simpa using h1
          · simp only [List.length_append, List.length_cons, List.length_nil] at *; omega
          · simp only [List.length_cons]; omega
        · rw [decF c1]
          by_cases c2 : y.Node < x.Node
          · rw [decT c2]
            refine ⟨(x :: s, t, out ++ [y]), ?_, ⟨?_, ?_, h3, fun d hd => h4 d (by simp [hd])⟩, ?_⟩
            · simp only [cond_true, cond_false]
              rw [clone_spec hy.2, Option.bind_some, app1 hlen, Option.bind_some, sub1]
              rfl
            · dsimp only; rw [unionS, if_neg c1, if_pos c2] at h1; simpa using h1
            · simp only [List.length_append, List.length_cons, List.length_nil] at *; omega
            · simp
          · rw [decF c2]
            refine ⟨(s, t, out ++ [if betterB y x then y else x]), ?_, ⟨?_, ?_, fun d hd => h3 d (by simp [hd]), fun d hd => h4 d (by simp [hd])⟩, ?_⟩
            · simp only [cond_false]
              rw [prog_better hy.1 hx.1, Option.bind_some]
              cases betterB y x with
              | true =>
                simp only [cond_true, if_true]
                rw [clone_spec hy.2, Option.bind_some, app1 hlen, Option.bind_some, sub1, Option.bind_some, sub1]
                rfl
              | false =>
                simp only [cond_false, Bool.false_eq_true, if_false]
                rw [clone_spec hx.2, Option.bind_some, app1 hlen, Option.bind_some, sub1, Option.bind_some, sub1]
                rfl
            · dsimp only; rw [unionS, if_neg c1, if_neg c2] at h1; simpa using h1
            · simp only [List.length_append, List.length_cons, List.length_nil] at *; omega
            · simp only [List.length_cons]; omega) (a, b, []) ⟨by simp, by have := ha.len; have := hb.len; simp; omega, ha.data, hb.data⟩
  rw [hr, q]
  rfl
end Go.Proofs.Ytcjoflgnifafiaa
