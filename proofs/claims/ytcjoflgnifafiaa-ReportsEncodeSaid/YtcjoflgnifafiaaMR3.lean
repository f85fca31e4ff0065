/-
  Lists that are made; the laws ReportsMerge and ReportsJoin.
-/
import Derived.Test.YtcjoflgnifafiaaMR2
namespace Go.Proofs.Ytcjoflgnifafiaa
open Go.RowKit

/-! ### a union does not depend on order and grouping -/
def cmpD (a b : DR) : Int := if a.Number < b.Number then -1 else if b.Number < a.Number then 1 else lexC a.Data b.Data
theorem better_cmp (a b : DR) : betterB a b = decide (cmpD a b > 0) := by
  unfold betterB cmpD
  by_cases h1 : a.Number < b.Number
  · rw [if_pos h1, decide_eq_decide]; omega
  · by_cases h2 : b.Number < a.Number
    · rw [if_neg h1, if_pos h2, decide_eq_decide]; omega
    · rw [if_neg h1, if_neg h2, decide_eq_decide]; omega
theorem cmpD_swap (a b : DR) : cmpD b a = - cmpD a b := by
  unfold cmpD
  rw [lexC_swap a.Data b.Data]
  split <;> split <;> first | omega | simp_all
theorem cmpD_zero {a b : DR} (h : cmpD a b = 0) (hn : a.Node = b.Node) : a = b := by
  unfold cmpD at h
  split at h
  · cases h
  · split at h
    · cases h
    · obtain ⟨an, am, ad⟩ := a
      obtain ⟨bn, bm, bd⟩ := b
      have := lexC_zero h
      simp only at *
      subst this hn
      congr 1
      omega
theorem lexC_trans_le {a b c : List Int} (h : lexC a b ≤ 0) (k : lexC b c ≤ 0) : lexC a c ≤ 0 := by
  rcases Int.lt_or_eq_of_le h with h1 | h1
  · rcases Int.lt_or_eq_of_le k with k1 | k1
    · exact Int.le_of_lt (lexC_trans h1 k1)
    · rw [← lexC_zero k1]; exact h
  · rw [lexC_zero h1]; exact k
theorem cmpD_trans_le {a b c : DR} (h : cmpD a b ≤ 0) (k : cmpD b c ≤ 0) : cmpD a c ≤ 0 := by
  unfold cmpD at *
  split at h
  · split at k
    · rw [if_pos (by omega)]; omega
    · split at k
      · omega
      · rw [if_pos (by omega)]; omega
  · split at h
    · omega
    · split at k
      · rw [if_pos (by omega)]; omega
      · split at k
        · omega
        · rw [if_neg (by omega), if_neg (by omega)]
          exact lexC_trans_le h k
def maxD (x y : DR) : DR := if betterB y x then y else x
theorem maxD_comm {x y : DR} (h : x.Node = y.Node) : maxD x y = maxD y x := by
  unfold maxD
  rw [better_cmp, better_cmp]
  have := cmpD_swap x y
  by_cases h1 : cmpD y x > 0
  · rw [decT h1, decF (by omega)]; rfl
  · rw [decF h1]
    by_cases h2 : cmpD x y > 0
    · rw [decT h2]; rfl
    · rw [decF h2]
      simp only [Bool.false_eq_true, if_false]
      exact cmpD_zero (by omega) h
theorem maxD_assoc (x y z : DR) : maxD (maxD x y) z = maxD x (maxD y z) := by
  unfold maxD
  have a1 := cmpD_swap x y
  have a2 := cmpD_swap y z
  have a3 := cmpD_swap x z
  by_cases h1 : betterB y x = true
  · rw [if_pos h1]
    by_cases h2 : betterB z y = true
    · rw [if_pos h2]
      have : betterB z x = true := by
        rw [better_cmp, decide_eq_true_eq] at *
        apply Classical.byContradiction
        intro q
        have := cmpD_trans_le (a := y) (b := z) (c := x) (by omega) (by omega)
        omega
      rw [if_pos this]
    · rw [if_neg h2, if_pos h1]
  · rw [if_neg h1]
    by_cases h2 : betterB z y = true
    · rw [if_pos h2]
    · rw [if_neg h2, if_neg h1]
      have : ¬ betterB z x = true := by
        rw [better_cmp, decide_eq_true_eq] at *
        have := cmpD_trans_le (a := z) (b := y) (c := x) (by omega) (by omega)
        omega
      rw [if_neg this]
def bestO : Option DR → Option DR → Option DR
  | none, y => y
  | x, none => x
  | some x, some y => some (maxD x y)
theorem bestO_none (x : Option DR) : bestO x none = x := by cases x <;> rfl
theorem bestO_assoc (x y z : Option DR) : bestO (bestO x y) z = bestO x (bestO y z) := by
  cases x <;> cases y <;> cases z <;> simp [bestO, maxD_assoc]
def getN (l : List DR) (n : Int) : Option DR := l.find? fun d => d.Node == n
theorem getN_cons (x : DR) (l : List DR) (n : Int) : getN (x :: l) n = if x.Node = n then some x else getN l n := by
  unfold getN
  rw [List.find?_cons]
  by_cases h : x.Node = n
  · rw [if_pos h, h]; simp
  · rw [if_neg h, beqF h]
theorem getN_none {l : List DR} {n : Int} (h : ∀ d ∈ l, d.Node ≠ n) : getN l n = none := by
  unfold getN
  rw [List.find?_eq_none]
  intro d hd
  simpa using h d hd
theorem getN_node {l : List DR} {n : Int} {d : DR} (h : getN l n = some d) : d.Node = n := by
  unfold getN at h
  simpa using List.find?_some h
theorem getN_union (a b : List DR) (ha : Ord a) (hb : Ord b) (n : Int) : getN (unionS a b) n = bestO (getN a n) (getN b n) := by
  fun_induction unionS a b with
  | case1 b => rfl
  | case2 a h => rw [show getN [] n = none from rfl, bestO_none]
  | case3 x s y t h ih =>
    have hy := List.pairwise_cons.1 hb
    rw [getN_cons, ih (List.pairwise_cons.1 ha).2 hb, getN_cons x s]
    by_cases c : x.Node = n
    · rw [if_pos c, if_pos c, getN_none (l := y :: t) (fun d hd => by
        rcases List.mem_cons.1 hd with rfl | hd
        · omega
        · have := hy.1 d hd; omega)]
      rfl
    · rw [if_neg c, if_neg c]
  | case4 x s y t h h2 ih =>
    have hx := List.pairwise_cons.1 ha
    rw [getN_cons, ih ha (List.pairwise_cons.1 hb).2, getN_cons y t]
    by_cases c : y.Node = n
    · rw [if_pos c, if_pos c, getN_none (l := x :: s) (fun d hd => by
        rcases List.mem_cons.1 hd with rfl | hd
        · omega
        · have := hx.1 d hd; omega)]
      rfl
    · rw [if_neg c, if_neg c]
  | case5 x s y t h h2 ih =>
    have e : x.Node = y.Node := by omega
    rw [getN_cons, ih (List.pairwise_cons.1 ha).2 (List.pairwise_cons.1 hb).2, getN_cons x s, getN_cons y t]
    have hn : (if betterB y x then y else x).Node = x.Node := by split <;> omega
    rw [hn, ← e]
    by_cases c : x.Node = n
    · rw [if_pos c, if_pos c, if_pos c]; rfl
    · rw [if_neg c, if_neg c, if_neg c]
theorem ord_ext : ∀ {a b : List DR}, Ord a → Ord b → (∀ n, getN a n = getN b n) → a = b
  | [], [], _, _, _ => rfl
  | [], y :: t, _, _, h => by have := h y.Node; rw [getN_cons, if_pos rfl] at this; cases this
  | x :: s, [], _, _, h => by have := h x.Node; rw [getN_cons, if_pos rfl] at this; cases this
  | x :: s, y :: t, ha, hb, h => by
    have hx := List.pairwise_cons.1 ha
    have hy := List.pairwise_cons.1 hb
    have h1 := h x.Node
    have h2 := h y.Node
    rw [getN_cons, if_pos rfl, getN_cons] at h1
    rw [getN_cons, getN_cons, if_pos rfl] at h2
    have hxy : x = y := by
      split at h1
      · cases h1; rfl
      · rename_i c1
        split at h2
        · cases h2; rfl
        · rename_i c2
          have m1 := List.mem_of_find?_eq_some h1.symm
          have m2 := List.mem_of_find?_eq_some h2
          have := hy.1 x m1
          have := hx.1 y m2
          omega
    subst hxy
    congr 1
    refine ord_ext hx.2 hy.2 (fun n => ?_)
    have := h n
    rw [getN_cons, getN_cons] at this
    by_cases c : x.Node = n
    · rw [getN_none (fun d hd => by have := hx.1 d hd; omega), getN_none (fun d hd => by have := hy.1 d hd; omega)]
    · rw [if_neg c, if_neg c] at this
      exact this
theorem unionS_comm {a b : List DR} (ha : Ord a) (hb : Ord b) : unionS a b = unionS b a := by
  refine ord_ext (unionS_ord a b ha hb) (unionS_ord b a hb ha) (fun n => ?_)
  rw [getN_union a b ha hb, getN_union b a hb ha]
  cases h1 : getN a n with
  | none => rw [bestO_none]; rfl
  | some x =>
    cases h2 : getN b n with
    | none => rfl
    | some y =>
      have e1 := getN_node h1
      have e2 := getN_node h2
      simp only [bestO]
      rw [maxD_comm (by omega)]
theorem unionS_assoc {a b c : List DR} (ha : Ord a) (hb : Ord b) (hc : Ord c) : unionS (unionS a b) c = unionS a (unionS b c) := by
  refine ord_ext (unionS_ord _ _ (unionS_ord a b ha hb) hc) (unionS_ord _ _ ha (unionS_ord b c hb hc)) (fun n => ?_)
  rw [getN_union _ _ (unionS_ord a b ha hb) hc, getN_union a b ha hb, getN_union _ _ ha (unionS_ord b c hb hc), getN_union b c hb hc, bestO_assoc]
theorem unionS_self : ∀ (a : List DR), unionS a a = a
  | [] => nil_unionS []
  | x :: s => by
    rw [unionS, if_neg (by omega), if_neg (by omega), unionS_self s]
    split <;> rfl

/-! ### lists that are made -/
structure MadeR (l : List DR) : Prop where
  valid : ValidR l
  node : ∀ d ∈ l, 1 ≤ d.Node ∧ d.Node ≤ 5
  data : ∀ d ∈ l, okB d.Data
theorem MadeR.wf {l : List DR} (h : MadeR l) : wfL' l := ⟨fun d hd => by have := (h.node d hd).1; omega, h.data⟩
theorem ord_len : ∀ {l : List DR} {lo hi : Int}, Ord l → (∀ d ∈ l, lo < d.Node ∧ d.Node ≤ hi) → (l.length : Int) ≤ max 0 (hi - lo)
  | [], _, _, _, _ => by simp; omega
  | x :: l, lo, hi, ho, h => by
    have hx := h x (by simp)
    have := ord_len (lo := x.Node) (hi := hi) (List.pairwise_cons.1 ho).2 (fun d hd => ⟨(List.pairwise_cons.1 ho).1 d hd, (h d (by simp [hd])).2⟩)
    simp only [List.length_cons]
    omega
theorem MadeR.len {l : List DR} (h : MadeR l) : l.length ≤ 5 := by
  have := ord_len (lo := 0) (hi := 5) h.valid.ord (fun d hd => by have := h.node d hd; omega)
  omega
theorem MadeR.union {a b : List DR} (ha : MadeR a) (hb : MadeR b) : MadeR (unionS a b) := by
  have hm := unionS_mem a b
  have ho := unionS_ord a b ha.valid.ord hb.valid.ord
  have hn : ∀ d ∈ unionS a b, 1 ≤ d.Node ∧ d.Node ≤ 5 := fun d hd => (hm d hd).elim (ha.node d) (hb.node d)
  have hl := ord_len (lo := 0) (hi := 5) ho (fun d hd => by have := hn d hd; omega)
  exact ⟨⟨by omega, fun d hd => (hm d hd).elim (ha.valid.ok d) (hb.valid.ok d), ho⟩, hn, fun d hd => (hm d hd).elim (ha.data d) (hb.data d)⟩
theorem MadeR.merge {a b : List DR} (ha : MadeR a) (hb : MadeR b) : mergeS a b = (unionS a b, 0) := by
  unfold mergeS
  rw [validR_iff.2 ha.valid, validR_iff.2 hb.valid]
  have := (ha.union hb).len
  rw [if_neg (by simp), if_neg (by omega)]
theorem eui_spec {t : S_multihopmade_Tape} (h : TapeOk t) : ∃ v t', F_world_EUI t = some (v, t') ∧ 1 ≤ v ∧ v ≤ 5 ∧ TapeOk t' := by
  unfold F_world_EUI
  obtain ⟨v, t', e, h0, h1, k⟩ := next_spec h 5 (by omega) (by omega)
  rw [e, Option.bind_some]
  dsimp only
  rw [wi (by omega) (by omega), wu (by omega) (by omega)]
  exact ⟨_, _, rfl, by omega, by omega, k⟩
theorem reports_spec {t : S_multihopmade_Tape} (h : TapeOk t) : ∃ l t', F_world_Reports t = some (l, t') ∧ MadeR l ∧ TapeOk t' := by
  unfold F_world_Reports
  obtain ⟨n, t1, e, h0, h1, k1⟩ := next_spec h 6 (by omega) (by omega)
  rw [e, Option.bind_some]
  obtain ⟨r, hr, q⟩ := loop_inv (step := F_world_Reports_l1) (fun s => MadeR s.1 ∧ 0 ≤ s.2.1 ∧ s.2.1 ≤ 6 ∧ TapeOk s.2.2) (fun r => MadeR r.1 ∧ TapeOk r.2) (fun s => s.2.1.toNat) (by
    rintro ⟨l, i, t2⟩ ⟨a1, a2, a3, a4⟩
    dsimp only at a1 a2 a3 a4
    unfold F_world_Reports_l1 F_world_Reports_j2
    dsimp only
    by_cases hi : i > 0
    · left
      obtain ⟨v, t3, e3, b0, b1, k3⟩ := eui_spec a4
      obtain ⟨m, t4, e4, c0, c1, k4⟩ := next_spec k3 4 (by omega) (by omega)
      obtain ⟨d, t5, e5, od, hd, k5⟩ := bytes_spec k4 6 (by omega)
      rw [show ((6 : Nat) : Int) = 6 from rfl] at e5
      rw [decT hi, e3]
      simp only [cond_true, Option.bind_some]
      rw [e4, Option.bind_some]
      dsimp only
      rw [e5, Option.bind_some]
      dsimp only
      rw [ref_report (d := ⟨v, m, d⟩) a1.wf (by dsimp only; omega) od, Option.bind_some, wi (by omega) (by omega)]
      have hmk : MadeR [⟨v, m, d⟩] := by
        refine ⟨⟨by simp, fun e he => ?_, by simp⟩, fun e he => ?_, fun e he => ?_⟩ <;> rw [List.mem_singleton.1 he]
        · exact ⟨by dsimp only; omega, by dsimp only; omega, by dsimp only; omega, by dsimp only; omega⟩
        · exact ⟨b0, b1⟩
        · exact od
      have hrep : reportS l ⟨v, m, d⟩ = (unionS l [⟨v, m, d⟩], 0) := by
        unfold reportS okDB
        have := (a1.union hmk).len
        rw [validR_iff.2 a1.valid, if_neg (by simp; omega), if_neg (by dsimp only; omega), if_neg (by omega)]
      rw [hrep]
      exact ⟨_, rfl, ⟨a1.union hmk, by dsimp only; omega, by dsimp only; omega, k5⟩, by dsimp only; omega⟩
    · right
      rw [decF hi]
      exact ⟨_, rfl, a1, a4⟩) (([] : List DR), n, t1) ⟨⟨⟨by simp, by simp, by simp⟩, by simp, by simp⟩, h0, by dsimp only; omega, k1⟩
  dsimp only
  rw [hr, Option.bind_some]
  exact ⟨_, _, rfl, q.1, q.2⟩
theorem join_law (t : List Int) : F_law39_ReportsJoin t = some true := by
  unfold F_law39_ReportsJoin
  obtain ⟨t0, e0, k0⟩ := new_spec t
  obtain ⟨a, t1, e1, ha, k1⟩ := reports_spec k0
  obtain ⟨b, t2, e2, hb, k2⟩ := reports_spec k1
  obtain ⟨c, t3, e3, hc, k3⟩ := reports_spec k2
  rw [e0, Option.bind_some, e1, Option.bind_some]
  dsimp only
  rw [e2, Option.bind_some]
  dsimp only
  rw [e3, Option.bind_some]
  dsimp only
  have hab := ha.union hb
  have hbc := hb.union hc
  rw [prog_merge ha.wf hb.wf, ha.merge hb, prog_merge hb.wf ha.wf, hb.merge ha, prog_merge hb.wf hc.wf, hb.merge hc]
  simp only [Option.bind_some]
  rw [prog_merge hab.wf hc.wf, hab.merge hc, prog_merge ha.wf hbc.wf, ha.merge hbc, prog_merge ha.wf ha.wf, ha.merge ha]
  simp only [Option.bind_some, bne_self_eq_false, cond_false]
  rw [unionS_comm hb.valid.ord ha.valid.ord, unionS_assoc ha.valid.ord hb.valid.ord hc.valid.ord, unionS_self]
  have l1 := hab.len
  have l2 := (ha.union hbc).len
  have l3 := ha.len
  rw [same_reports _ (by omega), same_reports _ (by omega), same_reports _ (by omega), known_true]
  rfl
end Go.Proofs.Ytcjoflgnifafiaa
