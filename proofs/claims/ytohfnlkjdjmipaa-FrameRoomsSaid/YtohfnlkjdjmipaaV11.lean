/-
  SHADOWS, second make: a call whose body is run in place, with the caller's slots waiting.
-/
import Derived.Test.YtohfnlkjdjmipaaV10
namespace Go.Proofs.Ytohfnlkjdjmipaa
open Go.RowKit

def ghostL (l : List (Nat × SV)) : List (Nat × SV) := l.map fun p => (p.1 + 2000000, p.2)
def unghost : List (Nat × SV) → List (Nat × SV)
  | [] => []
  | p :: l => if p.1 < 2000000 then unghost l else (p.1 - 2000000, p.2) :: unghost l
theorem look_unghost : ∀ (l : List (Nat × SV)) (t : Nat), look (unghost l) t = look l (t + 2000000)
  | [], t => rfl
  | p :: l, t => by
    obtain ⟨k, v⟩ := p
    simp only [unghost]
    split
    · rename_i h
      rw [look_unghost l t, look_cons, if_neg (by omega)]
    · rename_i h
      rw [look_cons, look_cons, look_unghost l t]
      by_cases hk : k = t + 2000000
      · rw [if_pos hk, if_pos (by omega)]
      · rw [if_neg hk, if_neg (by omega)]
theorem look_append {α : Type} : ∀ (l l' : List (Nat × α)) (t : Nat) (v : α), look (l ++ l') t = some v → look l t = some v ∨ look l' t = some v
  | [], _, _, _, h => .inr h
  | (k, x) :: l, l', t, v, h => by
    rw [List.cons_append, look_cons] at h
    rw [look_cons]
    split at h
    · rename_i hk; rw [if_pos hk]; exact .inl h
    · rename_i hk; rw [if_neg hk]; exact look_append l l' t v h
theorem look_ghostL : ∀ (l : List (Nat × SV)) (t : Nat) (v : SV), look (ghostL l) t = some v → 2000000 ≤ t ∧ look l (t - 2000000) = some v
  | [], t, v, h => by simp [ghostL, look] at h
  | (k, x) :: l, t, v, h => by
    simp only [ghostL, List.map_cons, look_cons] at h
    split at h
    · rename_i hk; subst hk; cases h; exact ⟨by omega, by rw [look_cons, if_pos (by omega)]⟩
    · rename_i hk
      have := look_ghostL l t v h
      exact ⟨this.1, by rw [look_cons, if_neg (by omega)]; exact this.2⟩

def Ctx.wait (K : Ctx) (gh : Nat → Option Value) : Ctx := ⟨K.w0, K.may, K.rd0, K.pos0, gh, K.ok⟩
theorem slot_wait (K : Ctx) (f : Nat → Option Value) (a : Act) (t : Nat) (h : 2000000 ≤ t) : slotAt (K.wait f) a t = f (t - 2000000) := by
  rw [slotAt, if_neg (Nat.not_lt.2 h)]; rfl
section
variable {P : Program} {K : Ctx} {n : Nat} {Q : Exit → St → Prop} {C : Cfg}
def inlQ (P : Program) (K : Ctx) (n : Nat) (C : Cfg) (rs : List ResultVar) (Q : Exit → St → Prop) : Exit → St → Prop
  | .normal, s => ∃ xs r, resL P s [] rs = some xs ∧ resV xs = some r ∧ TS P K n (C.next (St.put ⟨unghost s.tmps, s.hp⟩ C.dst r)) Q
  | .ret, s => ∃ xs r, resL P s [] rs = some xs ∧ resV xs = some r ∧ TS P K n (C.next (St.put ⟨unghost s.tmps, s.hp⟩ C.dst r)) Q
  | _, _ => False
theorem TS_inline {f : FuncId} {A : List SV} {fn : Func} {c : Code} (m : Nat) (hf : P.funcs[f]? = some fn) (hb : fn.body = some c) (hn : fn.ntmps = m) (hc : C.callee [] = some (f, A)) (hg : (C.go1 n && hasBody P f && decide (A.length ≤ m ∧ m ≤ 2000000)) = true)
    (k : ∀ K', TS P K' m (.mk [.code c] .normal ⟨initT 0 A ++ ghostL C.st.tmps, C.st.hp⟩) (inlQ P K n C fn.results.toList Q)) : TS P K n C Q := by
  simp only [Bool.and_eq_true, decide_eq_true_eq] at hg
  obtain ⟨⟨g1, g2⟩, hl, hfew⟩ := hg
  obtain ⟨os, o, ho, h1, h2, h3⟩ := go1_spec g1
  obtain ⟨vs, h4, h5⟩ := callee_op hc ho
  have hvs : vs = A := by cases vs <;> simpa [castArgs] using h5
  subst hvs
  have hC : ∃ l fs s, C = .mk (.ops os (o :: l) :: fs) .normal s := by
    unfold Cfg.op at ho
    split at ho
    · cases ho; exact ⟨_, _, _, rfl⟩
    · cases ho
  obtain ⟨l, fs, s, rfl⟩ := hC
  simp only [Cfg.st, h3] at *
  intro a w r0
  obtain ⟨g, r⟩ := r0
  refine wpList_step fun K' hK => ?_
  have hw := guard_ok (a := a) h1 (fun t v ht hv => let ⟨u, h1, h2⟩ := r.view.tmps t v ht hv; ⟨u, _, _, h1, h2⟩)
  rw [if_pos hw]
  obtain ⟨us, q1, q2, q3⟩ := callee_spec h4 g2 (r.view.o o)
  unfold Oper.wp
  rw [q3]
  simp only [Oper.upon]
  have hR : RG (K.wait (slotAt K a)) g m { tmps := us ++ Array.replicate (fn.ntmps - us.size) undef, defers := [] } w ⟨initT 0 vs ++ ghostL s.tmps, s.hp⟩ := by
    refine ⟨rfl, by simp; omega, hfew, ⟨r.hg.keep, r.hg.holds, r.hg.may, r.hg.dis, r.hg.fix, r.hg.new⟩, fun t v hv => ?_⟩
    rcases look_append _ _ _ _ hv with hv | hv
    · obtain ⟨_, h2⟩ := look_initT vs 0 t v hv
      obtain ⟨u, h3, h4⟩ := q2 (t - 0) v h2
      simp only [Nat.sub_zero] at h3
      refine ⟨u, ?_, h4⟩
      have htn := (Array.getElem?_eq_some_iff.1 h3).1
      rw [slotAt, if_pos (by omega)]
      rw [Array.getElem?_append_left htn]
      exact h3
    · obtain ⟨k1, k2⟩ := look_ghostL _ _ _ hv
      obtain ⟨u, k3, k4⟩ := r.tmps _ _ k2
      refine ⟨u, ?_, k4⟩
      rw [slot_wait _ _ _ _ k1]
      exact k3
  refine calls_of_wp hf hb (wp_mono (k _ _ w ⟨g, hR⟩) fun e a' w' hq => ?_)
  obtain ⟨s', ⟨g', r'⟩, q⟩ := hq
  have fin : (∃ xs rr, resL P s' [] fn.results.toList = some xs ∧ resV xs = some rr ∧ TS P K n (.mk (.ops os l :: fs) .normal (St.put ⟨unghost s'.tmps, s'.hp⟩ o.dst rr)) Q) → a'.defers = [] ∧ ∃ v, (results fn a'.tmps).run P w' = .ok v w' ∧ K' (a.put o.dst v) w' := by
    rintro ⟨xs, rr, e1, e2, e3⟩
    obtain ⟨u, e4, e5⟩ := run_results r'.view e1 e2
    refine ⟨r'.defers, u, e4, hK _ _ (e3 _ _ ⟨g', RG.put (K := K) (s := ⟨unghost s'.tmps, s'.hp⟩) ⟨r.defers, r.size, r.few, ⟨r'.hg.keep, r'.hg.holds, r'.hg.may, r'.hg.dis, r'.hg.fix, r'.hg.new⟩, fun t v hv => ?_⟩ o.dst (dstOk_spec h2) e5⟩)⟩
    simp only at hv
    rw [look_unghost] at hv
    obtain ⟨u', k1, k2⟩ := r'.tmps _ _ hv
    rw [slot_wait _ _ _ _ (Nat.le_add_left _ _), Nat.add_sub_cancel] at k1
    exact ⟨u', k1, k2⟩
  cases e <;> simp only [QS, inlQ] at q <;> simp only [bodyPost]
  case normal => exact fin q
  case ret => exact fin q
end
end Go.Proofs.Ytohfnlkjdjmipaa
