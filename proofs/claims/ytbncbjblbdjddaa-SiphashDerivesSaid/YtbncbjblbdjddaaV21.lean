/-
  SHADOWS, second make: functions as values; a slice compared with nil.
-/
import Derived.Test.YtbncbjblbdjddaaV20
import Derived.Laws.Cover3
namespace Go.Proofs.Ytbncbjblbdjddaa
open Go.RowKit

def capsS (s : St) : List Operand → Option (List SC)
  | [] => some []
  | x :: l => match opd s x, capsS s l with
    | some (.c (.clo _ _)), _ => none
    | some (.c y), some r => some (y :: r)
    | _, _ => none
theorem capsS_spec {s : St} : ∀ (l : List Operand) (r : List SC), capsS s l = some r → l.length = r.length ∧ ∀ (i : Nat) (x : Operand) (y : SC), l[i]? = some x → r[i]? = some y → opd s x = some (.c y) ∧ ∀ f cs, y ≠ .clo f cs
  | [], r, h => by cases h; exact ⟨rfl, fun i x y h1 => by simp at h1⟩
  | x :: l, r, h => by
    simp only [capsS] at h
    split at h
    · cases h
    · rename_i y r' hne hx hr
      cases h
      obtain ⟨k1, k2⟩ := capsS_spec l r' hr
      refine ⟨by simp [k1], fun i x' y' h1 h2 => ?_⟩
      cases i with
      | zero =>
        simp at h1 h2; subst h1; subst h2
        exact ⟨hx, fun f cs q => by subst q; exact hne f cs rfl⟩
      | succ i => simp at h1 h2; exact k2 i x' y' h1 h2
    · cases h
section
variable {P : Program} {o : Oper} {s : St}
def mkfArgs (s : St) (o : Oper) : Option (Nat × List SC) := match o.op with
  | .makeFunc (.func f) first caps => if first.size = 0 then (capsS s caps.toList).map fun cs => (f, cs) else none
  | _ => none
theorem grow_mkf {f : Nat} {cs : List SC} (h : mkfArgs s o = some (f, cs)) : GrowOp P o s (.c (.clo f cs)) := by
  unfold mkfArgs at h
  split at h
  rotate_left
  · cases h
  rename_i f' first caps ho
  split at h
  rotate_left
  · cases h
  rename_i h0
  obtain ⟨cs', h1, h2⟩ := Option.map_eq_some_iff.1 h
  cases h2
  have hfirst : first = #[] := Array.eq_empty_of_size_eq_zero h0
  subst hfirst
  obtain ⟨k1, k2⟩ := capsS_spec _ _ h1
  refine PureOp.grow fun g rd A w hview => ?_
  refine ⟨.func (.func f) #[] (caps.map A.eval), by simp [execOp, ho, Instr.makeFunc], caps.map A.eval, rfl, by simpa using k1, fun j y hy => ?_⟩
  have hj : j < caps.toList.length := by have := (List.getElem?_eq_some_iff.1 hy).1; omega
  obtain ⟨q1, q2⟩ := k2 j _ y (List.getElem?_eq_getElem hj) hy
  have hm : caps.toList[j] ∈ o.op.operands.toList := by
    rw [ho]
    simp only [Op.operands, Array.toList_append, List.mem_append]
    first
      | exact .inr (List.getElem_mem hj)
      | exact .inl (List.getElem_mem hj)
  have := hview.op _ _ hm q1
  refine ⟨A.eval caps.toList[j], ?_, CRel.down q2 this⟩
  rw [Array.getElem?_map]
  rw [← Array.getElem?_toList, List.getElem?_eq_getElem hj]
  rfl
/-! ### a slice and nil -/
def eqNArgs (P : Program) (s : St) (o : Oper) : Option (BinOp × List (List SC)) := match o.op with
  | .binOp op t x y _ => match opd s x, opd s y, P.underlying t with
    | some (.c (.slc _ _ _ xs)), some (.c (.lit (.slice none 0 0))), some (.slice _) => some (op, xs)
    | _, _, _ => none
  | _ => none
variable {K : Ctx} {n : Nat} {Q : Exit → St → Prop} {C : Cfg}
theorem TS_eqN {xs : List (List SC)} (h : C.with1 (eqNArgs P) = some (.eql, xs)) (hg : C.go1 n = true) (k1 : xs = [] → TS P K n (C.ret (.c (.lit (.bool true)))) Q) (k2 : TS P K n (C.ret (.c (.lit (.bool false)))) Q) : TS P K n C Q := by
  obtain ⟨os, o, ho, g1, g2, g3⟩ := go1_spec hg
  have h1 := with1_op h ho
  have hC : ∃ l fs s, C = .mk (.ops os (o :: l) :: fs) .normal s := by
    unfold Cfg.op at ho
    split at ho
    · cases ho; exact ⟨_, _, _, rfl⟩
    · cases ho
  obtain ⟨l, fs, s, rfl⟩ := hC
  simp only [Cfg.st, Cfg.next, Cfg.ret, g3] at *
  unfold eqNArgs at h1
  split at h1
  rotate_left
  · cases h1
  rename_i op t x y t' hop
  split at h1
  rotate_left
  · cases h1
  rename_i sz tag N xs' e hx hy hu
  cases h1
  intro a w r0
  obtain ⟨g, r⟩ := r0
  refine wpList_step fun K' hK => ?_
  have hw := guard_ok (a := a) g1 (fun t v ht hv => let ⟨u, h1, h2⟩ := r.view.tmps t v ht hv; ⟨u, _, _, h1, h2⟩)
  rw [if_pos hw]
  have hvx := r.view.opd hx
  have hvy := rel_lit (r.view.opd hy)
  have hform : ∃ A n c, a.eval x = .slice A n c ∧ (A = none → xs = []) := by
    obtain ⟨h2, _⟩ := hvx
    generalize a.eval x = u at h2
    cases h2 with
    | nil s a c hm => exact ⟨a, 0, c, rfl, fun _ => rfl⟩
    | slc b o n c s xs u hn hc hm hs hr hu => exact ⟨_, _, _, rfl, fun q => by cases q⟩
  obtain ⟨A, n', c, h2, h3⟩ := hform
  have hrun : (execOp a.eval o).run P w = .ok (.value (.bool A.isNone)) w := by
    simp [execOp, hop, h2, hvy, eqGuard, Go.binOp, run_equal_slice_nil w t e A n' c hu]
  unfold Oper.wp
  rw [hrun]
  simp only [Oper.upon]
  cases A with
  | none => exact hK _ _ (k1 (h3 rfl) _ _ ⟨g, r.put o.dst (dstOk_spec g2) (.lit _)⟩)
  | some ad => exact hK _ _ (k2 _ _ ⟨g, r.put o.dst (dstOk_spec g2) (.lit _)⟩)
variable {D : Dr}
theorem TS_mkf {f : Nat} {cs : List SC} (h : C.with1 mkfArgs = some (f, cs)) (hg : C.go1 n = true) (kk : TS P K n (C.ret (.c (.clo f cs))) Q) : TS P K n C Q := TS_val _ hg (fun _os _o ho => grow_mkf (with1_op h ho)) kk
theorem TD_mkf {f : Nat} {cs : List SC} (h : D.with1 mkfArgs = some (f, cs)) (hg : D.go1 n = true) (kk : TD P K n (D.ret (.c (.clo f cs))) Q) : TD P K n D Q := TD_val _ hg (fun _os _o ho => grow_mkf (with1D_op h ho)) kk
theorem appO_nil {α : Type} {by_ : Nat} {l r : List α} (hl : l = []) (h : appO by_ ([] : List α) (Cut.app .whole l) = some r) : r = [] := by
  subst hl
  simp [appO, Cut.app] at h
  exact h
end
end Go.Proofs.Ytbncbjblbdjddaa
