/-
  SHADOWS, second make: the ends of a call whose body is run in place.
-/
import Derived.Test.YtbncbjblbdjddaaV19
namespace Go.Proofs.Ytbncbjblbdjddaa
open Go.RowKit

section
variable {P : Program} {K K2 : Ctx} {n m : Nat} {Q : Exit → St → Prop} {C C' : Cfg} {X ρ : Type}
theorem fin_spec (h : C'.fin = true) : ∃ s, C' = .mk [] .normal s ∨ C' = .mk [] .ret s := by
  unfold Cfg.fin at h
  split at h
  · exact ⟨_, .inl rfl⟩
  · exact ⟨_, .inr rfl⟩
  · cases h
theorem TS_inlRet {rs : List ResultVar} {r : SV} (he : C'.fin = true) (h : (resL P C'.st [] rs).bind resV = some r) (k : TS P K n (C.next (St.put ⟨unghost C'.st.tmps, C'.st.hp⟩ C.dst r)) Q) : TS P K2 m C' (inlQ P K n C rs Q) := by
  obtain ⟨xs, h1, h2⟩ := Option.bind_eq_some_iff.1 h
  obtain ⟨s, rfl | rfl⟩ := fin_spec he
  · exact ⟨xs, r, h1, h2, k⟩
  · exact ⟨xs, r, h1, h2, k⟩
def inlJ (P : Program) (K : Ctx) (n : Nat) (C : Cfg) (rs : List ResultVar) (S : X → St) (j : X → Option ρ) (r : ρ) : Exit → St → Prop
  | .normal, s => ∃ xs rr v, resL P s [] rs = some xs ∧ resV xs = some rr ∧ j v = some r ∧ ∀ a w, R K n a w (St.put ⟨unghost s.tmps, s.hp⟩ C.dst rr) → R K n a w (S v)
  | .ret, s => ∃ xs rr v, resL P s [] rs = some xs ∧ resV xs = some rr ∧ j v = some r ∧ ∀ a w, R K n a w (St.put ⟨unghost s.tmps, s.hp⟩ C.dst rr) → R K n a w (S v)
  | _, _ => False
theorem TS_inlineJ {f : FuncId} {A : List SV} {fn : Func} {c : Code} (m : Nat) (hf : P.funcs[f]? = some fn) (hb : fn.body = some c) (hn : fn.ntmps = m) (f0 : Fit) (tv : X → List (Nat × SV)) (rv : X → List (Nat × Res)) (j : X → Option ρ) (r : ρ) (hc : C.callee [] = some (f, A)) (hg : (C.go1 n && hasBody P f && decide (A.length ≤ m ∧ m ≤ 2000000)) = true)
    (hj : ∀ v, j v = some r → TS P K n (C.next ((baseS f0 C.st).overs (tv v) (rv v))) Q)
    (k : ∀ K', TS P K' m (.mk [.code c] .normal ⟨initT 0 A ++ ghostL C.st.tmps, C.st.hp⟩) (inlJ P K n C fn.results.toList (fun v => (baseS f0 C.st).overs (tv v) (rv v)) j r)) : TS P K n C Q := by
  refine TS_inline m hf hb hn hc hg (fun K' => ?_)
  refine T_mono (k K') (fun e s hq => ?_)
  have hpre : ∀ s0, (C.next s0).pre = true := by
    intro s0
    simp only [Bool.and_eq_true] at hg
    obtain ⟨os, o, ho, _⟩ := go1_spec hg.1.1
    unfold Cfg.op at ho
    split at ho
    · cases ho; rfl
    · cases ho
  have hst : ∀ s0, (C.next s0).st = s0 ∧ ∀ s1, (C.next s0).withS s1 = C.next s1 := by
    intro s0
    simp only [Bool.and_eq_true] at hg
    obtain ⟨os, o, ho, _⟩ := go1_spec hg.1.1
    unfold Cfg.op at ho
    split at ho
    · cases ho; exact ⟨rfl, fun _ => rfl⟩
    · cases ho
  have fin : (∃ xs rr v, resL P s [] fn.results.toList = some xs ∧ resV xs = some rr ∧ j v = some r ∧ ∀ a w, R K n a w (St.put ⟨unghost s.tmps, s.hp⟩ C.dst rr) → R K n a w ((baseS f0 C.st).overs (tv v) (rv v))) → ∃ xs r, resL P s [] fn.results.toList = some xs ∧ resV xs = some r ∧ TS P K n (C.next (St.put ⟨unghost s.tmps, s.hp⟩ C.dst r)) Q := by
    rintro ⟨xs, rr, v, h1, h2, h3, h4⟩
    refine ⟨xs, rr, h1, h2, TS_state ((baseS f0 C.st).overs (tv v) (rv v)) (fun a w hr => h4 a w (by rw [(hst _).1] at hr; exact hr)) (hpre _) ?_⟩
    rw [(hst _).2]
    exact hj v h3
  cases e <;> first | exact fin hq | exact hq
theorem TS_inlMeet {rs : List ResultVar} {S : X → St} {j : X → Option ρ} {r : ρ} {rr : SV} (v : X) (f : Fit) (hj : j v = some r) (he : C'.fin = true) (h : (resL P C'.st [] rs).bind resV = some rr) (hf : fitS f (St.put ⟨unghost C'.st.tmps, C'.st.hp⟩ C.dst rr) = some (S v)) : TS P K2 m C' (inlJ P K n C rs S j r) := by
  obtain ⟨xs, h1, h2⟩ := Option.bind_eq_some_iff.1 h
  obtain ⟨s, rfl | rfl⟩ := fin_spec he
  · exact ⟨xs, rr, v, h1, h2, hj, fun a w hr => hr.fit f hf⟩
  · exact ⟨xs, rr, v, h1, h2, hj, fun a w hr => hr.fit f hf⟩
def arrL (n : Nat) (l : List Int) : List Int := (List.range n).map fun i => l.getD i 0
/-- the start of the body that is called -/
def Cfg.inl (C : Cfg) (c : Code) : Cfg := match C.callee [] with
  | some (_, A) => .mk [.code c] .normal ⟨initT 0 A ++ ghostL C.st.tmps, C.st.hp⟩
  | none => .bad
def Cfg.inlOk (P : Program) (n m f : Nat) (C : Cfg) : Bool := match C.callee [] with
  | some (f', A) => f' == f && (C.go1 n && hasBody P f && decide (A.length ≤ m ∧ m ≤ 2000000))
  | none => false
theorem inlOk_spec {f : Nat} {c : Code} (h : C.inlOk P n m f = true) : ∃ A, C.callee [] = some (f, A) ∧ (C.go1 n && hasBody P f && decide (A.length ≤ m ∧ m ≤ 2000000)) = true ∧ C.inl c = .mk [.code c] .normal ⟨initT 0 A ++ ghostL C.st.tmps, C.st.hp⟩ := by
  unfold Cfg.inlOk at h
  split at h
  · rename_i f' A hc
    rw [Bool.and_eq_true] at h
    have : f' = f := by simpa using h.1
    subst this
    exact ⟨A, hc, h.2, by simp only [Cfg.inl, hc]⟩
  · cases h
theorem TS_inl {f : FuncId} {fn : Func} {c : Code} (m : Nat) (hf : P.funcs[f]? = some fn) (hb : fn.body = some c) (hn : fn.ntmps = m) (hg : C.inlOk P n m f = true) (k : ∀ K', TS P K' m (C.inl c) (inlQ P K n C fn.results.toList Q)) : TS P K n C Q := by
  obtain ⟨A, h1, h2, h3⟩ := inlOk_spec (c := c) hg
  exact TS_inline m hf hb hn h1 h2 (fun K' => h3 ▸ k K')
theorem TS_inlJ {f : FuncId} {fn : Func} {c : Code} (m : Nat) (hf : P.funcs[f]? = some fn) (hb : fn.body = some c) (hn : fn.ntmps = m) (f0 : Fit) (tv : X → List (Nat × SV)) (rv : X → List (Nat × Res)) (j : X → Option ρ) (r : ρ) (hg : C.inlOk P n m f = true)
    (hj : ∀ v, j v = some r → TS P K n (C.next ((baseS f0 C.st).overs (tv v) (rv v))) Q)
    (k : ∀ K', TS P K' m (C.inl c) (inlJ P K n C fn.results.toList (fun v => (baseS f0 C.st).overs (tv v) (rv v)) j r)) : TS P K n C Q := by
  obtain ⟨A, h1, h2, h3⟩ := inlOk_spec (c := c) hg
  exact TS_inlineJ m hf hb hn f0 tv rv j r h1 h2 hj (fun K' => h3 ▸ k K')
def Cfg.back (P : Program) (C' : Cfg) (rs : List ResultVar) (dst : Option Tmp) : St := St.put ⟨unghost C'.st.tmps, C'.st.hp⟩ dst (((resL P C'.st [] rs).bind resV).getD (.tup []))
theorem TS_inlR {rs : List ResultVar} (he : C'.fin = true) (h : ((resL P C'.st [] rs).bind resV).isSome = true) (k : TS P K n (C.next (C'.back P rs C.dst)) Q) : TS P K2 m C' (inlQ P K n C rs Q) := by
  obtain ⟨r, hr⟩ := Option.isSome_iff_exists.1 h
  refine TS_inlRet he hr ?_
  simp only [Cfg.back, hr, Option.getD_some] at k
  exact k
theorem TS_inlM {rs : List ResultVar} {S : X → St} {j : X → Option ρ} {r : ρ} (v : X) (f : Fit) (hj : j v = some r) (he : C'.fin = true) (h : ((resL P C'.st [] rs).bind resV).isSome = true) (hf : fitS f (C'.back P rs C.dst) = some (S v)) : TS P K2 m C' (inlJ P K n C rs S j r) := by
  obtain ⟨rr, hr⟩ := Option.isSome_iff_exists.1 h
  refine TS_inlMeet v f hj he hr ?_
  simp only [Cfg.back, hr, Option.getD_some] at hf
  exact hf
end
end Go.Proofs.Ytbncbjblbdjddaa
