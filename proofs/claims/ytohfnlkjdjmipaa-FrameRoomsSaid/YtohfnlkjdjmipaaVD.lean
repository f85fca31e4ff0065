/-
  SHADOWS: calls run in place, closures, rows handed in, strings, loops run round by round.
-/
import Derived.Test.YtohfnlkjdjmipaaV19
import Derived.Laws.Cover3
import Derived.Laws.BytesArg
import Derived.Laws.IdiomStrings
namespace Go.Proofs.Ytohfnlkjdjmipaa
/-! ## SHADOWS, second make: the ends of a call whose body is run in place. -/
section
open Go.RowKit

section
variable {P : Program} {K K2 : Ctx} {n m : Nat} {Q : Exit → St → Prop} {C C' : Cfg} {X ρ : Type}
theorem fin_spec (h : C'.fin = true) : ∃ s, C' = .mk [] .normal s ∨ C' = .mk [] .ret s := by
  unfold Cfg.fin at h
  split at h
  · exact ⟨_, .inl rfl⟩
  · exact ⟨_, .inr rfl⟩
  · cases h
theorem TS_inlRet {rs : List ResultVar} {r : SV} (he : C'.fin = true) (h : (resL P C'.st [] rs).bind resV = some r) (k : TS P K n (C.next (St.put ⟨unghost C'.st.tmps, C'.st.hp⟩ C.dst r)) Q) : TS P K2 m C' (inlQ P K n C rs Q) := by
  obtain ⟨xs, h1, h2⟩ := Option.bind_eq_some_iff.1 h
  obtain ⟨s, rfl | rfl⟩ := fin_spec he
  · exact ⟨xs, r, h1, h2, k⟩
  · exact ⟨xs, r, h1, h2, k⟩
def inlJ (P : Program) (K : Ctx) (n : Nat) (C : Cfg) (rs : List ResultVar) (S : X → St) (j : X → Option ρ) (r : ρ) : Exit → St → Prop
  | .normal, s => ∃ xs rr v, resL P s [] rs = some xs ∧ resV xs = some rr ∧ j v = some r ∧ ∀ a w, R K n a w (St.put ⟨unghost s.tmps, s.hp⟩ C.dst rr) → R K n a w (S v)
  | .ret, s => ∃ xs rr v, resL P s [] rs = some xs ∧ resV xs = some rr ∧ j v = some r ∧ ∀ a w, R K n a w (St.put ⟨unghost s.tmps, s.hp⟩ C.dst rr) → R K n a w (S v)
  | _, _ => False
theorem TS_inlineJ {f : FuncId} {A : List SV} {fn : Func} {c : Code} (m : Nat) (hf : P.funcs[f]? = some fn) (hb : fn.body = some c) (hn : fn.ntmps = m) (f0 : Fit) (tv : X → List (Nat × SV)) (rv : X → List (Nat × Res)) (j : X → Option ρ) (r : ρ) (hc : C.callee [] = some (f, A)) (hg : (C.go1 n && hasBody P f && decide (A.length ≤ m ∧ m ≤ 2000000)) = true)
    (hj : ∀ v, j v = some r → TS P K n (C.next ((baseS f0 C.st).overs (tv v) (rv v))) Q)
    (k : ∀ K', TS P K' m (.mk [.code c] .normal ⟨initT 0 A ++ ghostL C.st.tmps, C.st.hp⟩) (inlJ P K n C fn.results.toList (fun v => (baseS f0 C.st).overs (tv v) (rv v)) j r)) : TS P K n C Q := by
  refine TS_inline m hf hb hn hc hg (fun K' => ?_)
  refine T_mono (k K') (fun e s hq => ?_)
  have hpre : ∀ s0, (C.next s0).pre = true := by
    intro s0
    simp only [Bool.and_eq_true] at hg
    obtain ⟨os, o, ho, _⟩ := go1_spec hg.1.1
    unfold Cfg.op at ho
    split at ho
    · cases ho; rfl
    · cases ho
  have hst : ∀ s0, (C.next s0).st = s0 ∧ ∀ s1, (C.next s0).withS s1 = C.next s1 := by
    intro s0
    simp only [Bool.and_eq_true] at hg
    obtain ⟨os, o, ho, _⟩ := go1_spec hg.1.1
    unfold Cfg.op at ho
    split at ho
    · cases ho; exact ⟨rfl, fun _ => rfl⟩
    · cases ho
  have fin : (∃ xs rr v, resL P s [] fn.results.toList = some xs ∧ resV xs = some rr ∧ j v = some r ∧ ∀ a w, R K n a w (St.put ⟨unghost s.tmps, s.hp⟩ C.dst rr) → R K n a w ((baseS f0 C.st).overs (tv v) (rv v))) → ∃ xs r, resL P s [] fn.results.toList = some xs ∧ resV xs = some r ∧ TS P K n (C.next (St.put ⟨unghost s.tmps, s.hp⟩ C.dst r)) Q := by
    rintro ⟨xs, rr, v, h1, h2, h3, h4⟩
    refine ⟨xs, rr, h1, h2, TS_state ((baseS f0 C.st).overs (tv v) (rv v)) (fun a w hr => h4 a w (by rw [(hst _).1] at hr; exact hr)) (hpre _) ?_⟩
    rw [(hst _).2]
    exact hj v h3
  cases e <;> first | exact fin hq | exact hq
theorem TS_inlMeet {rs : List ResultVar} {S : X → St} {j : X → Option ρ} {r : ρ} {rr : SV} (v : X) (f : Fit) (hj : j v = some r) (he : C'.fin = true) (h : (resL P C'.st [] rs).bind resV = some rr) (hf : fitS f (St.put ⟨unghost C'.st.tmps, C'.st.hp⟩ C.dst rr) = some (S v)) : TS P K2 m C' (inlJ P K n C rs S j r) := by
  obtain ⟨xs, h1, h2⟩ := Option.bind_eq_some_iff.1 h
  obtain ⟨s, rfl | rfl⟩ := fin_spec he
  · exact ⟨xs, rr, v, h1, h2, hj, fun a w hr => hr.fit f hf⟩
  · exact ⟨xs, rr, v, h1, h2, hj, fun a w hr => hr.fit f hf⟩
def arrL (n : Nat) (l : List Int) : List Int := (List.range n).map fun i => l.getD i 0
/-- the start of the body that is called -/
def Cfg.inl (C : Cfg) (c : Code) : Cfg := match C.callee [] with
  | some (_, A) => .mk [.code c] .normal ⟨initT 0 A ++ ghostL C.st.tmps, C.st.hp⟩
  | none => .bad
def Cfg.inlOk (P : Program) (n m f : Nat) (C : Cfg) : Bool := match C.callee [] with
  | some (f', A) => f' == f && (C.go1 n && hasBody P f && decide (A.length ≤ m ∧ m ≤ 2000000))
  | none => false
theorem inlOk_spec {f : Nat} {c : Code} (h : C.inlOk P n m f = true) : ∃ A, C.callee [] = some (f, A) ∧ (C.go1 n && hasBody P f && decide (A.length ≤ m ∧ m ≤ 2000000)) = true ∧ C.inl c = .mk [.code c] .normal ⟨initT 0 A ++ ghostL C.st.tmps, C.st.hp⟩ := by
  unfold Cfg.inlOk at h
  split at h
  · rename_i f' A hc
    rw [Bool.and_eq_true] at h
    have : f' = f := by simpa using h.1
    subst this
    exact ⟨A, hc, h.2, by simp only [Cfg.inl, hc]⟩
  · cases h
theorem TS_inl {f : FuncId} {fn : Func} {c : Code} (m : Nat) (hf : P.funcs[f]? = some fn) (hb : fn.body = some c) (hn : fn.ntmps = m) (hg : C.inlOk P n m f = true) (k : ∀ K', TS P K' m (C.inl c) (inlQ P K n C fn.results.toList Q)) : TS P K n C Q := by
  obtain ⟨A, h1, h2, h3⟩ := inlOk_spec (c := c) hg
  exact TS_inline m hf hb hn h1 h2 (fun K' => h3 ▸ k K')
theorem TS_inlJ {f : FuncId} {fn : Func} {c : Code} (m : Nat) (hf : P.funcs[f]? = some fn) (hb : fn.body = some c) (hn : fn.ntmps = m) (f0 : Fit) (tv : X → List (Nat × SV)) (rv : X → List (Nat × Res)) (j : X → Option ρ) (r : ρ) (hg : C.inlOk P n m f = true)
    (hj : ∀ v, j v = some r → TS P K n (C.next ((baseS f0 C.st).overs (tv v) (rv v))) Q)
    (k : ∀ K', TS P K' m (C.inl c) (inlJ P K n C fn.results.toList (fun v => (baseS f0 C.st).overs (tv v) (rv v)) j r)) : TS P K n C Q := by
  obtain ⟨A, h1, h2, h3⟩ := inlOk_spec (c := c) hg
  exact TS_inlineJ m hf hb hn f0 tv rv j r h1 h2 hj (fun K' => h3 ▸ k K')
def Cfg.back (P : Program) (C' : Cfg) (rs : List ResultVar) (dst : Option Tmp) : St := St.put ⟨unghost C'.st.tmps, C'.st.hp⟩ dst (((resL P C'.st [] rs).bind resV).getD (.tup []))
theorem TS_inlR {rs : List ResultVar} (he : C'.fin = true) (h : ((resL P C'.st [] rs).bind resV).isSome = true) (k : TS P K n (C.next (C'.back P rs C.dst)) Q) : TS P K2 m C' (inlQ P K n C rs Q) := by
  obtain ⟨r, hr⟩ := Option.isSome_iff_exists.1 h
  refine TS_inlRet he hr ?_
  simp only [Cfg.back, hr, Option.getD_some] at k
  exact k
theorem TS_inlM {rs : List ResultVar} {S : X → St} {j : X → Option ρ} {r : ρ} (v : X) (f : Fit) (hj : j v = some r) (he : C'.fin = true) (h : ((resL P C'.st [] rs).bind resV).isSome = true) (hf : fitS f (C'.back P rs C.dst) = some (S v)) : TS P K2 m C' (inlJ P K n C rs S j r) := by
  obtain ⟨rr, hr⟩ := Option.isSome_iff_exists.1 h
  refine TS_inlMeet v f hj he hr ?_
  simp only [Cfg.back, hr, Option.getD_some] at hf
  exact hf
end
end
/-! ## SHADOWS, second make: functions as values; a slice compared with nil. -/
section
open Go.RowKit

def capsS (s : St) : List Operand → Option (List SC)
  | [] => some []
  | x :: l => match opd s x, capsS s l with
    | some (.c (.clo _ _)), _ => none
    | some (.c y), some r => some (y :: r)
    | _, _ => none
theorem capsS_spec {s : St} : ∀ (l : List Operand) (r : List SC), capsS s l = some r → l.length = r.length ∧ ∀ (i : Nat) (x : Operand) (y : SC), l[i]? = some x → r[i]? = some y → opd s x = some (.c y) ∧ ∀ f cs, y ≠ .clo f cs
  | [], r, h => by cases h; exact ⟨rfl, fun i x y h1 => by simp at h1⟩
  | x :: l, r, h => by
    simp only [capsS] at h
    split at h
    · cases h
    · rename_i y r' hne hx hr
      cases h
      obtain ⟨k1, k2⟩ := capsS_spec l r' hr
      refine ⟨by simp [k1], fun i x' y' h1 h2 => ?_⟩
      cases i with
      | zero =>
        simp at h1 h2; subst h1; subst h2
        exact ⟨hx, fun f cs q => by subst q; exact hne f cs rfl⟩
      | succ i => simp at h1 h2; exact k2 i x' y' h1 h2
    · cases h
section
variable {P : Program} {o : Oper} {s : St}
def mkfArgs (s : St) (o : Oper) : Option (Nat × List SC) := match o.op with
  | .makeFunc (.func f) first caps => if first.size = 0 then (capsS s caps.toList).map fun cs => (f, cs) else none
  | _ => none
theorem grow_mkf {f : Nat} {cs : List SC} (h : mkfArgs s o = some (f, cs)) : GrowOp P o s (.c (.clo f cs)) := by
  unfold mkfArgs at h
  split at h
  rotate_left
  · cases h
  rename_i f' first caps ho
  split at h
  rotate_left
  · cases h
  rename_i h0
  obtain ⟨cs', h1, h2⟩ := Option.map_eq_some_iff.1 h
  cases h2
  have hfirst : first = #[] := Array.eq_empty_of_size_eq_zero h0
  subst hfirst
  obtain ⟨k1, k2⟩ := capsS_spec _ _ h1
  refine PureOp.grow fun g rd A w hview => ?_
  refine ⟨.func (.func f) #[] (caps.map A.eval), by simp [execOp, ho, Instr.makeFunc], caps.map A.eval, rfl, by simpa using k1, fun j y hy => ?_⟩
  have hj : j < caps.toList.length := by have := (List.getElem?_eq_some_iff.1 hy).1; omega
  obtain ⟨q1, q2⟩ := k2 j _ y (List.getElem?_eq_getElem hj) hy
  have hm : caps.toList[j] ∈ o.op.operands.toList := by
    rw [ho]
    simp only [Op.operands, Array.toList_append, List.mem_append]
    first
      | exact .inr (List.getElem_mem hj)
      | exact .inl (List.getElem_mem hj)
  have := hview.op _ _ hm q1
  refine ⟨A.eval caps.toList[j], ?_, CRel.down q2 this⟩
  rw [Array.getElem?_map]
  rw [← Array.getElem?_toList, List.getElem?_eq_getElem hj]
  rfl
/-! ### a slice and nil -/
def eqNArgs (P : Program) (s : St) (o : Oper) : Option (BinOp × List (List SC)) := match o.op with
  | .binOp op t x y _ => match opd s x, opd s y, P.underlying t with
    | some (.c (.slc _ _ _ xs)), some (.c (.lit (.slice none 0 0))), some (.slice _) => some (op, xs)
    | _, _, _ => none
  | _ => none
variable {K : Ctx} {n : Nat} {Q : Exit → St → Prop} {C : Cfg}
theorem TS_eqN {xs : List (List SC)} (h : C.with1 (eqNArgs P) = some (.eql, xs)) (hg : C.go1 n = true) (k1 : xs = [] → TS P K n (C.ret (.c (.lit (.bool true)))) Q) (k2 : TS P K n (C.ret (.c (.lit (.bool false)))) Q) : TS P K n C Q := by
  obtain ⟨os, o, ho, g1, g2, g3⟩ := go1_spec hg
  have h1 := with1_op h ho
  have hC : ∃ l fs s, C = .mk (.ops os (o :: l) :: fs) .normal s := by
    unfold Cfg.op at ho
    split at ho
    · cases ho; exact ⟨_, _, _, rfl⟩
    · cases ho
  obtain ⟨l, fs, s, rfl⟩ := hC
  simp only [Cfg.st, Cfg.next, Cfg.ret, g3] at *
  unfold eqNArgs at h1
  split at h1
  rotate_left
  · cases h1
  rename_i op t x y t' hop
  split at h1
  rotate_left
  · cases h1
  rename_i sz tag N xs' e hx hy hu
  cases h1
  intro a w r0
  obtain ⟨g, r⟩ := r0
  refine wpList_step fun K' hK => ?_
  have hw := guard_ok (a := a) g1 (fun t v ht hv => let ⟨u, h1, h2⟩ := r.view.tmps t v ht hv; ⟨u, _, _, h1, h2⟩)
  rw [if_pos hw]
  have hvx := r.view.opd hx
  have hvy := rel_lit (r.view.opd hy)
  have hform : ∃ A n c, a.eval x = .slice A n c ∧ (A = none → xs = []) := by
    obtain ⟨h2, _⟩ := hvx
    generalize a.eval x = u at h2
    cases h2 with
    | nil s a c hm => exact ⟨a, 0, c, rfl, fun _ => rfl⟩
    | slc b o n c s xs u hn hc hm hs hr hu => exact ⟨_, _, _, rfl, fun q => by cases q⟩
  obtain ⟨A, n', c, h2, h3⟩ := hform
  have hrun : (execOp a.eval o).run P w = .ok (.value (.bool A.isNone)) w := by
    simp [execOp, hop, h2, hvy, eqGuard, Go.binOp, run_equal_slice_nil w t e A n' c hu]
  unfold Oper.wp
  rw [hrun]
  simp only [Oper.upon]
  cases A with
  | none => exact hK _ _ (k1 (h3 rfl) _ _ ⟨g, r.put o.dst (dstOk_spec g2) (.lit _)⟩)
  | some ad => exact hK _ _ (k2 _ _ ⟨g, r.put o.dst (dstOk_spec g2) (.lit _)⟩)
variable {D : Dr}
theorem TS_mkf {f : Nat} {cs : List SC} (h : C.with1 mkfArgs = some (f, cs)) (hg : C.go1 n = true) (kk : TS P K n (C.ret (.c (.clo f cs))) Q) : TS P K n C Q := TS_val _ hg (fun _os _o ho => grow_mkf (with1_op h ho)) kk
theorem TD_mkf {f : Nat} {cs : List SC} (h : D.with1 mkfArgs = some (f, cs)) (hg : D.go1 n = true) (kk : TD P K n (D.ret (.c (.clo f cs))) Q) : TD P K n D Q := TD_val _ hg (fun _os _o ho => grow_mkf (with1D_op h ho)) kk
theorem appO_nil {α : Type} {by_ : Nat} {l r : List α} (hl : l = []) (h : appO by_ ([] : List α) (Cut.app .whole l) = some r) : r = [] := by
  subst hl
  simp [appO, Cut.app] at h
  exact h
end
end
/-! ## SHADOWS, second make: append within a row; a part of a row that becomes read-only. -/
section
open Go.RowKit

section
variable {P : Program} {o : Oper} {s : St} {α : Type}
theorem preOf_look {v : SV} {d e sz N m : Nat} {xs : List (List SC)} (h : preOf s v = some (d, e, sz, N, xs, m)) : look s.hp d = some (.row e sz N xs) := by
  unfold preOf at h
  split at h
  · split at h
    · rename_i hl; cases h; exact hl
    · cases h
  · split at h
    · rename_i hl; cases h; exact hl
    · cases h
  · cases h
/-- append that stays within the row: its contents change, its token does not -/
theorem upd_appP {d e sz by_ N m : Nat} (f : α → List SC) (hone : ∀ x, (f x).all SC.one = true) {l1 l2 : List α} {c : Cut} (hc : decide (m + (c.app l2).length ≤ l1.length) = true) (h : appRArgs P s o = some (d, e, sz, by_, N, l1.map f, m, l2.map f, c)) :
    UpdOp P o s d (.row e sz N (l1.map f)) (.row e sz (l1.take m ++ c.app l2 ++ l1.drop (m + (c.app l2).length)).length ((l1.take m ++ c.app l2 ++ l1.drop (m + (c.app l2).length)).map f)) (.c (.row d (m + (c.app l2).length))) := by
  unfold appRArgs at h
  split at h
  rotate_left
  · cases h
  rename_i xs ts ho
  split at h
  rotate_left
  · cases h
  rename_i x y t t' hxs hts
  have hxs' : xs = #[x, y] := by rw [← Array.toArray_toList (xs := xs), hxs]
  have hts' : ts = #[t, t'] := by rw [← Array.toArray_toList (xs := ts), hts]
  subst hxs'
  subst hts'
  split at h
  rotate_left
  · cases h
  rename_i e1 hu
  split at h
  rotate_left
  · cases h
  rename_i ie hi
  split at h
  rotate_left
  · cases h
  rename_i d1 e1' sz1 N1 a1 m1 b1 c1 hx hy
  split at h
  rotate_left
  · cases h
  rename_i hq
  obtain ⟨rfl, hz, hs0, rfl, rfl⟩ := hq
  cases h
  obtain ⟨vx, hx1, hx2⟩ := Option.bind_eq_some_iff.1 hx
  obtain ⟨vy, hy1, hy2⟩ := Option.bind_eq_some_iff.1 hy
  have hc' := of_decide_eq_true hc
  have hl := preOf_look hx2
  refine ⟨hl, rfl, fun _ _ _ hf => hf, fun g rd A w hview => ?_⟩
  have hvx := hview.op x _ (by simp [ho, Op.operands, Call.operands]) hx1
  have hsrc := srcS_rel hy2 hview (hview.op y _ (by simp [ho, Op.operands, Call.operands]) hy1)
  rw [Cut.map] at hsrc
  obtain ⟨us, hown, hlenx, hrowx⟩ := hview.holds d _ hl
  obtain ⟨ax, cx, hV, hVc, hVm, hvl, hblk⟩ := tk_slice hown
  have hlx : l1.length = N := by rw [List.length_map] at hlenx; exact hlenx
  have hul := hown.1
  have hpre : A.eval x = .slice ax m cx ∧ m ≤ N := by
    unfold preOf at hx2
    split at hx2
    · split at hx2
      · cases hx2
        obtain ⟨q1, _⟩ := hvx
        exact ⟨by rw [q1, hV], Nat.le_refl _⟩
      · cases hx2
    · split at hx2
      · cases hx2
        obtain ⟨ax', N', cx', q1, q2, q3⟩ := hvx
        rw [hV] at q1
        cases q1
        exact ⟨q2, q3⟩
      · cases hx2
    · cases hx2
  obtain ⟨hvx', hmN⟩ := hpre
  generalize hl2' : c.app l2 = l2' at *
  generalize hvy : A.eval y = uy at *
  obtain ⟨ay, cy, vals, rfl, hlv, hrow, hwhere, _⟩ := hsrc
  rw [List.length_map] at hlv
  simp only [execOp, ho, resolve, invoke, builtin, Sem.run_bind, Sem.run_pure, Result.andThen_ok, List.map_toArray, List.map_cons, List.map_nil, hvx', hvy, List.length_map]
  have hvr : ∀ rd' : Rd, VRel rd' g (.slice ax (m + l2'.length) cx) (.c (.row d (m + l2'.length))) := fun rd' => ⟨ax, N, cx, hV, rfl, by omega⟩
  by_cases hl2 : l2' = []
  · subst hl2
    simp only [List.length_nil, Nat.add_zero, List.append_nil, List.take_append_drop] at hvr ⊢
    rw [run_append_zero t o.type e ie hu hi ax ay m cx cy (by omega)]
    simp only [Result.andThen_ok]
    exact ⟨_, _, rfl, Keep.refl _ _, .inr ⟨_, rfl, fun rd' _ => hvr rd'⟩, fun rd' hle => ⟨us, by rw [hlx]; exact hown, by simp, hrowx.mono hle⟩⟩
  have hpos : 0 < l2'.length := List.length_pos_iff.2 hl2
  obtain ⟨ad, rfl, hcells⟩ : ∃ ad, ay = some ad ∧ ∀ j v, vals[j]? = some v → w.cell? (ad.add j) = some v := by
    rcases hwhere with h0 | h0
    · exact absurd (List.map_eq_nil_iff.1 h0) hl2
    · exact h0
  have h1v := SrcIs.one hs0 (by rw [List.length_map]; exact hlv) hrow (fun x hx => by obtain ⟨y, _, rfl⟩ := List.mem_map.1 hx; exact hone y)
  rcases hblk with h0 | ⟨gb, hgb, hbk⟩
  · omega
  subst hgb
  have hbound : m * ie.size + vals.length ≤ N * ie.size := by rw [hlv, ← Nat.add_mul]; exact Nat.mul_le_mul_right _ (by omega)
  have hcell : ∀ j, j < vals.length → ∃ u, w.cell? ⟨gb, m * ie.size + j, none⟩ = some u := by
    intro j hj
    have := hown.cells hbk (m * ie.size + j) _ (List.getElem?_eq_getElem (by omega))
    rw [addr_add, Nat.zero_add] at this
    exact ⟨_, this⟩
  have hst := run_storeCells_cells (P := P) gb (m * ie.size) vals 0 w
    (fun j hj => by obtain ⟨u, q⟩ := hcell j hj; rw [Nat.add_zero, q]; rfl)
    (fun j hj => by
      rcases hown.2 with ⟨q, _⟩ | ⟨gb', cap, cur, q1, _, q2, _⟩
      · rw [q] at hbk; cases hbk
      · rw [q1] at hbk; cases hbk
        simp [World.frozen?, q2]) h1v
  simp only [Nat.add_zero] at hst
  obtain ⟨o1, o2⟩ := own_write hown hbk (m * ie.size) vals hbound
  have hfc := run_firstCells_some (P := P) w ie.size l2'.length ad l2'.length cy vals hlv hcells
  have hrun : (Builtin.append_ #[t, t] o.type #[.slice (some ⟨gb, 0, none⟩) m cx, .slice (some ad) l2'.length cy]).run P w = .ok (.slice (some ⟨gb, 0, none⟩) (m + l2'.length) cx) (w.setCells gb (m * ie.size) vals) := by
    have hroom : m + l2'.length ≤ cx := by omega
    simp [Builtin.append_, run_underlying hu, Builtin.lenOf, sizeOf, typeInfo, hi, hfc, addr_add, hst, hroom]
  rw [hrun]
  simp only [Result.andThen_ok]
  refine ⟨_, _, rfl, o2, .inr ⟨_, rfl, fun rd' _ => hvr rd'⟩, fun rd' hle => ⟨_, (by
    have hlN : (l1.take m ++ l2' ++ l1.drop (m + l2'.length)).length = N := by
      simp only [List.length_append, List.length_take, List.length_drop]
      omega
    rw [hlN]; exact o1), by simp, ?_⟩⟩
  · rw [List.map_append, List.map_append]
    refine RowIs.mono hle ?_
    have e1 : RowIs rd ie.size (us.take (m * ie.size)) ((l1.take m).map f) := by
      have := hrowx.cut 0 m
      simpa [List.map_take] using this
    have e3 : RowIs rd ie.size (us.drop (m * ie.size + vals.length)) ((l1.drop (m + l2'.length)).map f) := by
      have := hrowx.cut (m + l2'.length) (N - (m + l2'.length))
      have q : (us.drop ((m + l2'.length) * ie.size)).take ((N - (m + l2'.length)) * ie.size) = us.drop ((m + l2'.length) * ie.size) := List.take_of_length_le (by rw [List.length_drop, hul, ← Nat.sub_mul]; exact Nat.le_refl _)
      have q' : ((l1.map f).drop (m + l2'.length)).take (N - (m + l2'.length)) = (l1.drop (m + l2'.length)).map f := by
        rw [List.map_drop]; exact List.take_of_length_le (by rw [List.length_drop, hlenx]; exact Nat.le_refl _)
      rw [q, q', Nat.add_mul, ← hlv] at this
      exact this
    refine (e1.append hrow ?_).append e3 ?_
    · simp only [List.length_map, List.length_take]; rw [Nat.min_eq_left (by rw [hul]; omega), Nat.min_eq_left (by omega)]
    · simp only [List.length_map, List.length_append, List.length_take]; rw [Nat.min_eq_left (by rw [hul]; omega), Nat.min_eq_left (by omega), hlv, Nat.add_mul]

/-! ### a list in other words -/
def slcAt (s : St) (t : Nat) : Option (Nat × Nat × List (List SC)) := match look s.tmps t with
  | some (.c (.slc sz 0 N xs)) => some (sz, N, xs)
  | _ => none
variable {K : Ctx} {n : Nat} {Q : Exit → St → Prop} {C : Cfg} {D : Dr}
theorem TS_recast (t : Nat) {sz N : Nat} {xs : List (List SC)} (N2 : Nat) (ys : List (List SC)) (hy : xs = ys) (hN : ys.length = N2) (h : slcAt C.st t = some (sz, N, xs)) (he : C.pre = true) (k : TS P K n (C.withS (C.st.put (some t) (.c (.slc sz 0 N2 ys)))) Q) : TS P K n C Q := by
  refine TS_state _ (fun a w ⟨g, r⟩ => ?_) he k
  unfold slcAt at h
  split at h
  · rename_i sz' N' xs' hl
    cases h
    refine ⟨g, r.recast hl (fun u hu => ?_)⟩
    obtain ⟨h1, _⟩ := hu
    have := irel_len h1
    rw [hy, hN] at this
    exact ⟨this, trivial⟩
  · cases h
theorem TS_appP (d e sz by_ N m : Nat) (f : α → List SC) (hone : ∀ x, (f x).all SC.one = true) {l1 l2 : List α} (c : Cut) (hc : decide (m + (c.app l2).length ≤ l1.length) = true) (h : C.with1 (appRArgs P) = some (d, e, sz, by_, N, l1.map f, m, l2.map f, c)) (hg : C.go1 n = true)
    (kk : TS P K n (C.next ((C.st.setR d (.row e sz (l1.take m ++ c.app l2 ++ l1.drop (m + (c.app l2).length)).length ((l1.take m ++ c.app l2 ++ l1.drop (m + (c.app l2).length)).map f))).put C.dst (.c (.row d (m + (c.app l2).length))))) Q) : TS P K n C Q :=
  TS_upd (fun _os _o ho => upd_appP f hone hc (with1_op h ho)) hg kk
theorem TD_appP (d e sz by_ N m : Nat) (f : α → List SC) (hone : ∀ x, (f x).all SC.one = true) {l1 l2 : List α} (c : Cut) (hc : decide (m + (c.app l2).length ≤ l1.length) = true) (h : D.with1 (appRArgs P) = some (d, e, sz, by_, N, l1.map f, m, l2.map f, c)) (hg : D.go1 n = true)
    (kk : TD P K n (D.push ⟨D.need, D.dst, .c (.row d (m + (c.app l2).length)), some (d, .row e sz (l1.take m ++ c.app l2 ++ l1.drop (m + (c.app l2).length)).length ((l1.take m ++ c.app l2 ++ l1.drop (m + (c.app l2).length)).map f)), false⟩) Q) : TD P K n D Q :=
  TD_upd (fun _os _o ho => upd_appP f hone hc (with1D_op h ho)) hg kk
end
end
/-! ## A contract that hands out its new rows, and the same contract without them. -/
section
open Go.RowKit

def castS (kss : List (List Nat)) : SV → SV
  | .tup vs => .tup ((List.range vs.length).map fun i => castF (kss.getD i []) (vs.getD i (false, [])))
  | x => castV (kss.getD 0 []) x
theorem castS_rel {rd : Rd} {g : Env} {v : Value} {x : SV} (kss : List (List Nat)) (h : VRel rd g v x) : VRel rd g v (castS kss x) := by
  cases x with
  | c x => exact castV_rel _ h
  | agg cs => exact castV_rel _ h
  | tup xs =>
    obtain ⟨vs, h1, h2, h3⟩ := h
    refine ⟨vs, h1, by simpa using h2, fun j x hx => ?_⟩
    have hj : j < xs.length := by have := (List.getElem?_eq_some_iff.1 hx).1; simpa using this
    rw [List.getElem?_map, List.getElem?_range hj] at hx
    cases hx
    obtain ⟨u, h4, h5⟩ := h3 j xs[j] (List.getElem?_eq_getElem hj)
    refine ⟨u, h4, castF_rel _ ?_⟩
    simpa [List.getD_eq_getElem?_getD, List.getElem?_eq_getElem hj] using h5
theorem con_drop {P : Program} {f : FuncId} {A : List SV} {h h' h2 : Hp} {r r2 : SV} (kss : List (List Nat)) (spec : List (Nat × List Nat)) (hp : Con P f A h r h') (hr : castS kss r = r2) (hh : pickH h' spec = some h2) (hd : (h2.all fun p => p.2.isBox) = true) : Con P f A h r2 h2 := by
  intro rd g w us a1 a2 a3 a4 a5 a6
  refine (hp rd g w us a1 a2 a3 a4 a5 a6).mono ?_
  rintro e w' ⟨u, g', rfl, hk, hpos, hin, hdis, hnew, hres⟩
  subst hr
  have hl : ∀ d x, look h2 d = some x → ∃ x0 ks, look h' d = some x0 ∧ x = castR ks x0 := pickH_look spec hh
  have hft : ∀ b o, InFoot g' h2 b o → InFoot g' h' b o := by
    rintro b o ⟨d, x, q1, q2⟩
    obtain ⟨x0, ks, q3, rfl⟩ := hl d x q1
    rw [castR_foot] at q2
    exact ⟨d, x0, q3, q2⟩
  refine ⟨u, g', rfl, hk, ?_, fun b o q => hin b o (hft b o q), ?_, ?_, ?_⟩
  · intro d cs hd6 hx
    obtain ⟨x0, ks, q3, q4⟩ := hl d _ hx
    cases x0 with
    | box c => exact hpos d c hd6 q3
    | row => cases q4
    | spare => cases q4
  · intro d d' r1 r2 b o hne q1 q2 q3 q4
    obtain ⟨x0, ks, q5, rfl⟩ := hl d _ q1
    obtain ⟨x1, ks1, q6, rfl⟩ := hl d' _ q2
    rw [castR_foot] at q3 q4
    exact hdis d d' x0 x1 b o hne q5 q6 q3 q4
  · intro d x q1 q2
    have := List.all_eq_true.1 hd _ (look_mem q1)
    rw [this] at q2
    cases q2
  · intro rd' hle hs
    obtain ⟨k1, k2⟩ := hres rd' hle (fun b o u q1 q2 q3 => hs b o u q1 (fun q => q2 (hft b o q)) q3)
    refine ⟨castS_rel kss k1, fun d x hx => ?_⟩
    obtain ⟨x0, ks, q5, rfl⟩ := hl d _ hx
    exact castR_holds ks (k2 d x0 q5)
section
variable {P : Program} {K : Ctx} {n : Nat} {Q : Exit → St → Prop} {C : Cfg} {g : Env} {a : Act} {w : World} {s : St}
/-- a nil in a slot as an own row -/
theorem RG.nilRow (h : RG K g n a w s) (d e sz : Nat) (hd6 : d < 1000000) (hf : NoName s d none) : RG K (g.setTk d (.slice none 0 0, undef) (0, 0)) n a w (s.setR d (.row e sz 0 [])) :=
  (h.add (g' := g.setTk d (.slice none 0 0, undef) (0, 0)) (w' := w) (r := .row e sz 0 []) hd6 hf (fun e he => by simp [Env.setTk, he]) (Ext.refl w) (fun b o hb => by
      simp [Foot, Env.setTk, Value.ownBlock] at hb) (fun hle => ⟨[], by simpa [Env.setTk] using World.ownsRow_nil w 0 e sz, rfl, by simp, by simp⟩)).1
def nilR (s : St) (t d e sz : Nat) : Option St := match look s.tmps t with
  | some (.c (.lit (.slice none 0 0))) => if decide (d < 1000000) && s.noname d none then some ((s.setR d (.row e sz 0 [])).put (some t) (.c (.own d))) else none
  | _ => none
theorem R.nilR {s' : St} (h : R K n a w s) {t d e sz : Nat} (hs : nilR s t d e sz = some s') : R K n a w s' := by
  obtain ⟨g, h⟩ := h
  unfold Go.Proofs.Ytohfnlkjdjmipaa.nilR at hs
  split at hs
  · rename_i hl
    split at hs
    · rename_i hq
      simp only [Bool.and_eq_true, decide_eq_true_eq] at hq
      cases hs
      have h1 := h.nilRow d e sz hq.1 (noname_spec hq.2)
      refine ⟨_, h1.recast (t := t) hl (fun u hu => ?_)⟩
      rw [rel_lit hu]
      exact ⟨by simp [Env.setTk], none, 0, 0, by simp [Env.setTk]⟩
    · cases hs
  · cases hs
theorem TS_nilR (t d e sz : Nat) (he : C.pre = true) (k : TS P K n (C.st2 (nilR C.st t d e sz)) Q) : TS P K n C Q := TS_st2 (fun _ _ _ hs r => r.nilR hs) he k
end
section
variable {P : Program} {K : Ctx} {n : Nat} {Q : Exit → St → Prop} {C : Cfg} {D : Dr} {o : Oper} {s : St}
def ncArgs (_ : Program) (s : St) (o : Oper) : Option (Nat × Nat × Nat × Nat) := match o.op with
  | .nilCheck x => match opd s x with
    | some (.c (.elt d sz i off)) => some (d, sz, i, off)
    | _ => none
  | _ => none
theorem grow_nc {d sz i off : Nat} (h : ncArgs P s o = some (d, sz, i, off)) : GrowOp P o s (.c (.elt d sz i off)) := by
  unfold ncArgs at h
  split at h
  rotate_left
  · cases h
  rename_i x ho
  split at h
  rotate_left
  · cases h
  rename_i hx
  cases h
  refine PureOp.grow fun g rd A w hview => ?_
  have hr := hview.op x _ (by simp [ho, Op.operands]) hx
  obtain ⟨b, N, c, h1, h2⟩ := hr
  exact ⟨_, by simp [execOp, ho, h2], ⟨b, N, c, h1, rfl⟩⟩
theorem TS_nc (d sz i off : Nat) (h : C.with1 (ncArgs P) = some (d, sz, i, off)) (hg : C.go1 n = true) (kk : TS P K n (C.ret (.c (.elt d sz i off))) Q) : TS P K n C Q :=
  TS_val _ hg (fun _os _o ho => grow_nc (with1_op h ho)) kk
theorem TD_nc (d sz i off : Nat) (h : D.with1 (ncArgs P) = some (d, sz, i, off)) (hg : D.go1 n = true) (kk : TD P K n (D.ret (.c (.elt d sz i off))) Q) : TD P K n D Q :=
  TD_val _ hg (fun _os _o ho => grow_nc (with1D_op h ho)) kk
end
end
/-! ## A configuration written out: what is dead is left behind, and what was reckoned is laid down. -/
section
open Go.RowKit

def codeAt : List Nat → Code → Code
  | [], c => c
  | 0 :: p, .seq a _ => codeAt p a
  | _ :: p, .seq _ b => codeAt p b
  | 0 :: p, .cond _ a _ => codeAt p a
  | _ :: p, .cond _ _ b => codeAt p b
  | _ :: p, .block _ a => codeAt p a
  | _ :: p, .loop a => codeAt p a
  | _ :: p, .scope a => codeAt p a
  | _, c => c
def bodyOf (f : Func) : Code := match f.body with
  | some c => c
  | none => .skip
def opsOf : Code → Array Oper
  | .region _ ops _ => ops
  | _ => #[]
def opsFr (c : Code) (i : Nat) : Fr := .ops (opsOf c) ((opsOf c).toList.drop i)
section
variable {P : Program} {K : Ctx} {n : Nat} {Q : Exit → St → Prop} {C : Cfg}
theorem TS_cut (f : Fit) (C' : Cfg) (he : C.pre = true) (h : C.fit f = C') (k : TS P K n C' Q) : TS P K n C Q := TS_fitU f he (h ▸ k)
end
end
/-! ## Calls that return a new row, within statements whose order is drawn; nil within a struct as an empty row. -/
section
open Go.RowKit

section
variable {P : Program} {K : Ctx} {n : Nat} {Q : Exit → St → Prop} {C : Cfg} {D : Dr}
theorem vd_conT {ops : Array Oper} {o : Oper} {need : St} {f : FuncId} {vs A : List SV} {d e el sz N : Nat} {xs : List (List SC)} (kss : List (List Nat)) (hgd : guardOf ops o need = some true) (hdst : o.dst = some d) (hdn : d < n) (hd6 : d < 1000000) (he6 : e < 1000000) (hc : calleeOf need o = some (f, vs)) (hb : hasBody P f = true) (hargs : castArgs kss vs = A) (hcl : A.all (fun v => v.every SC.closed) = true) (hp : Con P f A [] (.c (.slc sz (e + 2) N xs)) [(e, .spare el sz N)]) :
    VD P n ops o ⟨need, some d, .c (.slc sz (d + 2) N xs), some (d, .spare el sz N), true⟩ := by
  intro K s hs hn
  have hnm : NM d s := hn rfl
  obtain ⟨m1, m2, m3⟩ := hnm
  have hback : backL [(d, e)] e = d := by simp [backL]
  have hnone : ∀ x, (look [(d, e)] x).isNone = (x != d) := by
    intro x
    rw [look_cons]
    by_cases hx : d = x
    · subst hx; simp
    · rw [if_neg hx]
      simp [look]
      exact fun h => hx h.symm
  have hfun : (fun x => (look [(d, e)] x).isNone) = fun x => x != d := funext hnone
  have hokn : okN [(d, e)] e = true := by simp [okN, hback, look_cons]
  have := S_conL (P := P) (K := K) (n := n) (ops := ops) (o := o) (s := s) (h := []) (h' := [(e, .spare el sz N)]) (r := .c (.slc sz (e + 2) N xs)) kss [(d, e)] none (hs.guard hgd) (by simp [dstOk, hdst, hdn]) (hs.callee hc) hb hargs hcl rfl
    (by
      intro p hpm
      rw [List.mem_singleton.1 hpm]
      exact ⟨⟨⟨⟨⟨by simp [look_cons], by simpa using hd6⟩, by simpa using hback⟩, by simp [look_cons]⟩, by simp [m1]⟩, by simpa using he6⟩)
    (by
      intro t v hv
      rw [hdst, hfun]
      by_cases ht : t = d
      · subst ht; simp
      · rw [m2 t v hv (by intro h; cases h; exact ht rfl), Bool.or_true])
    (by
      intro d' r hr
      rw [hfun]
      exact m3 d' r hr)
    (by simp [SV.every, SC.say, SC.say0, hokn])
    (by
      intro q hq
      rw [List.mem_singleton.1 hq]
      simp [Res.every])
    hp
  refine this.sim ?_
  have e1 : s.after [(e, .spare el sz N)] (.c (.slc sz (e + 2) N xs)) [(d, e)] none o.dst = St.put { s with hp := (d, .spare el sz N) :: s.hp } (some d) (.c (.slc sz (d + 2) N xs)) := by
    rw [hdst]
    simp [St.after, newsHp, hpAfter, look_cons, Res.map, SV.map, SC.ren, SC.ren0, hback]
  rw [e1]
  refine ⟨fun k => rfl, fun k => ?_⟩
  simp only [DD.app, put_hp, St.setR]
  rw [look_cons, look_setL]
theorem TD_conT {f : FuncId} {A : List SV} {d e el sz N : Nat} {xs : List (List SC)} (kss : List (List Nat)) (hp : Con P f A [] (.c (.slc sz (e + 2) N xs)) [(e, .spare el sz N)]) (hc : D.callee kss = some (f, A)) (hg : (D.okNew n d && hasBody P f && decide (e < 1000000) && A.all (fun v => v.every SC.closed)) = true)
    (k : TD P K n (D.push ⟨D.need, some d, .c (.slc sz (d + 2) N xs), some (d, .spare el sz N), true⟩) Q) : TD P K n D Q := by
  simp only [Bool.and_eq_true, decide_eq_true_eq] at hg
  obtain ⟨⟨⟨g1, g2⟩, g3⟩, g4⟩ := hg
  obtain ⟨os, o, ho, h1, h2, h3, h4⟩ := okNewD_spec g1
  obtain ⟨vs, h5, h6⟩ := calleeD_op hc ho
  exact push_ok ho (vd_conT kss h1 h2 h3 h4 g3 h5 g2 h6 g4 hp) rfl k
end
section
variable {P : Program} {K : Ctx} {n : Nat} {Q : Exit → St → Prop} {C : Cfg} {g : Env} {a : Act} {w : World} {s : St}
/-- a nil within a struct in a slot, as an empty row -/
def nilA (s : St) (t j d e sz : Nat) : Option St := match look s.tmps t with
  | some (.agg cs) => match cs[j]? with
    | some (.lit (.slice none 0 0)) => if decide (d < 1000000) && s.noname d none then some ((s.setR d (.spare e sz 0)).put (some t) (.agg (cs.set j (.slc sz (d + 2) 0 [])))) else none
    | _ => none
  | _ => none
theorem R.nilA {s' : St} (h : R K n a w s) {t j d e sz : Nat} (hs : nilA s t j d e sz = some s') : R K n a w s' := by
  obtain ⟨g, h⟩ := h
  unfold Go.Proofs.Ytohfnlkjdjmipaa.nilA at hs
  split at hs
  · rename_i cs hl
    split at hs
    · rename_i hj
      split at hs
      · rename_i hq
        simp only [Bool.and_eq_true, decide_eq_true_eq] at hq
        cases hs
        have h1 := h.nilTok d e sz hq.1 (noname_spec hq.2)
        refine ⟨_, h1.recast (t := t) hl (fun u hu => ?_)⟩
        obtain ⟨vs, k1, k2, k3⟩ := hu
        refine ⟨vs, k1, by simpa using k2, fun i y hy => ?_⟩
        rw [List.getElem?_set] at hy
        split at hy
        · rename_i hij
          subst hij
          split at hy
          · cases hy
            obtain ⟨v, q1, q2⟩ := k3 j _ hj
            have : v = .slice none 0 0 := by cases q2; rfl
            subst this
            exact ⟨_, q1, .nil sz none 0 (by simp [maxLen]), by simp [Tag, Env.setTk, vlen]⟩
          · cases hy
        · exact k3 i y hy
      · cases hs
    · cases hs
  · cases hs
theorem TS_nilA (t j d e sz : Nat) (he : C.pre = true) (k : TS P K n (C.st2 (nilA C.st t j d e sz)) Q) : TS P K n C Q := TS_st2 (fun _ _ _ hs r => r.nilA hs) he k
end
end
/-! ## A contract for a function that is handed a row with the spare room behind it, and hands it back grown. -/
section
open Go.RowKit

def SC.renG (d : Nat) : SC → SC
  | .slc s tag n xs => .slc s (if tag = 1000003 then d + 2 else tag) n xs
  | x => x
def SC.okG : SC → Bool
  | .slc s tag n xs => tag == 1000003 || (SC.slc s tag n xs).closed
  | x => x.closed
theorem okG_cases {x : SC} (h : x.okG = true) : (∃ s n xs, x = .slc s 1000003 n xs) ∨ (x.closed = true ∧ ∀ d, x.renG d = x) := by
  cases x with
  | slc s tag n xs =>
    by_cases ht : tag = 1000003
    · subst ht; exact .inl ⟨s, n, xs, rfl⟩
    · exact .inr ⟨by simpa [SC.okG, ht] using h, fun d => by simp [SC.renG, ht]⟩
  | _ => exact .inr ⟨h, fun d => rfl⟩
/-- the function, called with a row and the room behind it, returns this, and leaves the row so long -/
def ConG (P : Program) (f : FuncId) (args : List SV) (el sz N : Nat) (r : SV) (N' : Nat) : Prop :=
  ∀ (rd : Rd) (g : Env) (w : World) (us : Array Value), (∀ b o v, rd b o = some v → w.cell? ⟨b, o, none⟩ = some v) → us.size = args.length → (∀ (i : Nat) (x : SV), args[i]? = some x → ∃ u, us[i]? = some u ∧ VRel rd g u x) →
    Holds rd g w 1000001 (.spare el sz N) → (∀ b o, Foot g 1000001 (.spare el sz N) b o → rd b o = none) →
    Calls P f us w fun e w' => ∃ u g', e = .returned u ∧ Keep w (Foot g 1000001 (.spare el sz N)) w' ∧ (∀ b o, Foot g' 1000001 (.spare el sz N') b o → Foot g 1000001 (.spare el sz N) b o ∨ w.heap.size ≤ b) ∧ ((g'.tk 1000001).2 = (g.tk 1000001).2 ∨ vlen (g.tk 1000001).2 < vlen (g'.tk 1000001).2) ∧
      ∀ rd', rd.le rd' → SeesX w (Foot g 1000001 (.spare el sz N)) rd' w' (Foot g' 1000001 (.spare el sz N')) → VRel rd' g' u r ∧ Holds rd' g' w' 1000001 (.spare el sz N')
theorem infoot_one {g : Env} {d : Nat} {r : Res} {b o : Nat} : InFoot g [(d, r)] b o ↔ Foot g d r b o := by
  constructor
  · rintro ⟨e, x, h1, h2⟩
    rw [look_cons] at h1
    split at h1
    · rename_i h; subst h; cases h1; exact h2
    · simp [look] at h1
  · intro h
    exact ⟨d, r, by rw [look_cons, if_pos rfl], h⟩
theorem look_app_none {α : Type} : ∀ (l l' : List (Nat × α)) (t : Nat), look l t = none → look (l ++ l') t = look l' t
  | [], _, _, _ => rfl
  | (k, x) :: l, l', t, h => by
    rw [List.cons_append, look_cons]
    rw [look_cons] at h
    split at h
    · cases h
    · rename_i hk; rw [if_neg hk]; exact look_app_none l l' t h
/-- where the row waits -/
def ghostOf (sz N : Nat) (xs : List (List SC)) : List (Nat × SV) := [(2000000, .c (.slc sz 1000003 N xs))]
def retG (P : Program) (fn : Func) (kss : List (List Nat)) (el sz N : Nat) (r : SV) (N' : Nat) : Exit → St → Prop
  | .normal, s => (∃ xs, resL P s kss fn.results.toList = some xs ∧ resV xs = some r) ∧ look s.hp 1000001 = some (.spare el sz N') ∧ ∃ sz1 xs, look s.tmps 2000000 = some (.c (.slc sz1 1000003 N xs))
  | .ret, s => (∃ xs, resL P s kss fn.results.toList = some xs ∧ resV xs = some r) ∧ look s.hp 1000001 = some (.spare el sz N') ∧ ∃ sz1 xs, look s.tmps 2000000 = some (.c (.slc sz1 1000003 N xs))
  | _, _ => False
theorem vlen_spare {rd : Rd} {g : Env} {w : World} {d e s n : Nat} (h : Holds rd g w d (.spare e s n)) : vlen (g.tk d).2 = n := by
  obtain ⟨us, h1⟩ := h
  obtain ⟨_, _, _, _, _, h2, _⟩ := tk_sliceM h1
  exact h2

theorem con_ofG {P : Program} {f : FuncId} {fn : Func} {c : Code} {args : List SV} {el sz N N' : Nat} {xs0 : List (List SC)} {r : SV} (kss : List (List Nat)) (n i : Nat) (hf : P.funcs[f]? = some fn) (hb : fn.body = some c) (hn : fn.ntmps = n) (hl : decide (args.length ≤ n ∧ n ≤ 2000000) = true) (hi : args[i]? = some (.c (.slc sz 1000003 N xs0)))
    (ht : ∀ K, TS P K n (.mk [.code c] .normal ⟨initT 0 args ++ ghostOf sz N xs0, [(1000001, .spare el sz N)]⟩) (retG P fn kss el sz N r N')) : ConG P f args el sz N r N' := by
  intro rd g w us hrd hus hargs hhold hnot
  obtain ⟨hl', hfew⟩ := of_decide_eq_true hl
  have hvN := vlen_spare hhold
  let h : Hp := [(1000001, .spare el sz N)]
  let K : Ctx := ⟨w, InFoot g h, rd, g.pos, fun j => if j = 0 then some (g.tk 1000001).2 else none, fun b o v hv => ⟨hrd b o v hv, fun x => by rw [hnot b o (infoot_one.1 x)] at hv; cases hv⟩⟩
  have hrdle : rd.le (rdOf K g h w) := by
    intro b o v hv
    unfold rdOf
    rw [if_neg (fun x => by rw [hnot b o (infoot_one.1 x)] at hv; cases hv), if_pos ⟨World.block_lt_of_cell? w _ (hrd b o v hv), fun x => by rw [hnot b o (infoot_one.1 x)] at hv; cases hv⟩]
    exact hv
  have hlk : ∀ d x, look h d = some x → d = 1000001 ∧ x = .spare el sz N := by
    intro d x hx
    rw [look_cons] at hx
    split at hx
    · rename_i hd; cases hx; exact ⟨hd.symm, rfl⟩
    · simp [look] at hx
  have hgh : VRel (rdOf K g h w) g (g.tk 1000001).2 (.c (.slc sz 1000003 N xs0)) := by
    obtain ⟨u, q1, q2⟩ := hargs i _ hi
    have q3 := q2.mono hrdle
    obtain ⟨q4, q5⟩ := q3
    have hu : u = (g.tk 1000001).2 := q5.2 hvN.symm
    rw [← hu]
    exact q2.mono hrdle
  have hR : RG K g n { tmps := us ++ Array.replicate (fn.ntmps - us.size) undef, defers := [] } w ⟨initT 0 args ++ ghostOf sz N xs0, h⟩ := by
    refine ⟨rfl, by simp; omega, hfew, ⟨Keep.refl _ _, fun d x hx => ?_, fun b o x _ => x, fun d d' r r' b o hne h1 h2 => absurd ((hlk d r h1).1.trans (hlk d' r' h2).1.symm) hne, fun d cs _ hx => (by cases (hlk d _ hx).2), fun d r hd _ b o hf => .inr ⟨d, r, hd, hf⟩⟩, fun t v hv => ?_⟩
    · obtain ⟨rfl, rfl⟩ := hlk d x hx
      exact hhold.mono hrdle
    · rcases look_append _ _ _ _ hv with hv1 | hv1
      · obtain ⟨_, h2⟩ := look_initT args 0 t v hv1
        obtain ⟨u, h3, h4⟩ := hargs (t - 0) v h2
        simp only [Nat.sub_zero] at h3
        refine ⟨u, ?_, h4.mono hrdle⟩
        have htn := (Array.getElem?_eq_some_iff.1 h3).1
        rw [slotAt, if_pos (by omega)]
        rw [Array.getElem?_append_left (Array.getElem?_eq_some_iff.1 h3).1]
        exact h3
      · simp only [ghostOf, look_cons] at hv1
        split at hv1
        · rename_i ht
          obtain rfl := Option.some.inj hv1
          refine ⟨_, ?_, hgh⟩
          rw [← ht, slotAt, if_neg (by omega)]
          simp [K]
        · simp [look] at hv1
  refine calls_of_wp hf hb (wp_mono (ht K _ w ⟨g, hR⟩) fun e a' w' hq => ?_)
  obtain ⟨s', ⟨g', r'⟩, q⟩ := hq
  have fin : ((∃ xs, resL P s' kss fn.results.toList = some xs ∧ resV xs = some r) ∧ look s'.hp 1000001 = some (.spare el sz N') ∧ ∃ sz1 xs, look s'.tmps 2000000 = some (.c (.slc sz1 1000003 N xs))) → a'.defers = [] ∧ ∃ v, (results fn a'.tmps).run P w' = .ok v w' ∧ ∃ u g', Ending.returned v = .returned u ∧ Keep w (Foot g 1000001 (.spare el sz N)) w' ∧ (∀ b o, Foot g' 1000001 (.spare el sz N') b o → Foot g 1000001 (.spare el sz N) b o ∨ w.heap.size ≤ b) ∧ ((g'.tk 1000001).2 = (g.tk 1000001).2 ∨ vlen (g.tk 1000001).2 < vlen (g'.tk 1000001).2) ∧
      ∀ rd', rd.le rd' → SeesX w (Foot g 1000001 (.spare el sz N)) rd' w' (Foot g' 1000001 (.spare el sz N')) → VRel rd' g' u r ∧ Holds rd' g' w' 1000001 (.spare el sz N') := by
    rintro ⟨⟨xs, h1, h2⟩, h3, sz1, xs1, h6⟩
    obtain ⟨u, h4, h5⟩ := run_results r'.view h1 h2
    have hin : ∀ b o, Foot g' 1000001 (.spare el sz N') b o → InFoot g' s'.hp b o := fun b o x => ⟨_, _, h3, x⟩
    obtain ⟨V, q1, q2⟩ := r'.tmps _ _ h6
    have hV : V = (g.tk 1000001).2 := by
      rw [slotAt, if_neg (by omega)] at q1
      simpa [K] using q1.symm
    obtain ⟨_, q4⟩ := q2
    have q5 : N ≤ vlen (g'.tk 1000001).2 := q4.1
    have q6 : N = vlen (g'.tk 1000001).2 → V = (g'.tk 1000001).2 := q4.2
    refine ⟨r'.defers, u, h4, u, g', rfl, r'.hg.keep.weak (fun b o x => infoot_one.1 x), ?_, ?_, ?_⟩
    · intro b o hx
      rcases Nat.lt_or_ge b w.heap.size with hb' | hb'
      · exact .inl (infoot_one.1 (r'.hg.may b o (hin b o hx) hb'))
      · exact .inr hb'
    · by_cases hN : N = vlen (g'.tk 1000001).2
      · left; rw [← hV]; exact (q6 hN).symm
      · right; rw [hvN]; omega
    · intro rd' hle hs
      have hle' : (rdOf K g' s'.hp w').le rd' := by
        intro b o v hv
        have hcell := rdOf_le g' s'.hp r'.hg.keep b o v hv
        unfold rdOf at hv
        split at hv
        · cases hv
        · rename_i hx
          split at hv
          · exact hle b o v hv
          · rename_i hbb
            refine hs b o v ?_ (fun q => hx (hin b o q)) hcell
            rcases Nat.lt_or_ge b w.heap.size with h6 | h6
            · exact .inr (infoot_one.1 (Classical.byContradiction fun h7 => hbb ⟨h6, h7⟩))
            · exact .inl h6
      exact ⟨h5.mono hle', (r'.hg.holds _ _ h3).mono hle'⟩
  cases e <;> simp only [QS, retG] at q <;> simp only [bodyPost]
  case normal => exact fin q
  case ret => exact fin q
theorem TS_retG {P : Program} {K : Ctx} {n : Nat} {C : Cfg} {fn : Func} {kss : List (List Nat)} {el sz N sz1 : Nat} {xs1 : List (List SC)} {r : SV} {N' : Nat} (he : C.fin = true) (h : (resL P C.st kss fn.results.toList).bind resV = some r) (hh : look C.st.hp 1000001 = some (.spare el sz N')) (hgh : look C.st.tmps 2000000 = some (.c (.slc sz1 1000003 N xs1))) : TS P K n C (retG P fn kss el sz N r N') := by
  obtain ⟨xs, h1, h2⟩ := Option.bind_eq_some_iff.1 h
  unfold Cfg.fin at he
  split at he
  · exact ⟨⟨xs, h1, h2⟩, hh, sz1, xs1, hgh⟩
  · exact ⟨⟨xs, h1, h2⟩, hh, sz1, xs1, hgh⟩
  · cases he

/-! ### the call -/
section
variable {P : Program} {K : Ctx} {n : Nat} {Q : Exit → St → Prop} {C : Cfg} {D : Dr} {ops : Array Oper} {o : Oper} {need : St}
theorem renG_rel {rd : Rd} {g : Env} {d : Nat} {v : Value} {x : SC} (hx : x.okG = true) (h : CRel rd g v (x.renG d)) : CRel rd (g.setTk 1000001 (g.tk d) (0, 0)) v x := by
  rcases okG_cases hx with ⟨s, m, xs, rfl⟩ | ⟨h1, h2⟩
  · have h' : CRel rd g v (.slc s (d + 2) m xs) := by simpa [SC.renG] using h
    obtain ⟨h1, h2⟩ := h'
    refine ⟨h1, ?_⟩
    simp only [Tag, Env.setTk, if_true] at h2 ⊢
    exact h2
  · rw [h2] at h
    exact closed_rel v x h1 h
theorem renG_rel' {rd : Rd} {g g' : Env} {d : Nat} (he : (g.tk d).2 = (g'.tk 1000001).2) {v : Value} {x : SC} (hx : x.okG = true) (h : CRel rd g' v x) : CRel rd g v (x.renG d) := by
  rcases okG_cases hx with ⟨s, m, xs, rfl⟩ | ⟨h1, h2⟩
  · obtain ⟨h1, h2⟩ := h
    have h' : CRel rd g v (.slc s (d + 2) m xs) := by
      refine ⟨h1, ?_⟩
      simp only [Tag, he] at h2 ⊢
      exact h2
    simpa [SC.renG] using h'
  · rw [h2]
    exact closed_rel v x h1 h
theorem vd_conG {f : FuncId} {vs A : List SV} {r : SV} {d el sz N N' : Nat} (kss : List (List Nat)) (hgd : guardOf ops o need = some true) (hd : dstOk n o = true) (hc : calleeOf need o = some (f, vs)) (hb : hasBody P f = true) (hargs : castArgs kss vs = A.map (SV.map (SC.renG d))) (hok : A.all (fun v => v.every SC.okG) = true) (hr : r.every SC.okG = true) (hl : look need.hp d = some (.spare el sz N)) (hp : ConG P f A el sz N r N') :
    VD P n ops o ⟨need, o.dst, r.map (SC.renG d), some (d, .spare el sz N'), false⟩ := by
  intro K s hs _
  refine Stp_mk (hs.guard hgd) fun g a w rg K' Q hK => ?_
  have hview := rg.view.o o
  obtain ⟨us, h1, h2, h3⟩ := callee_spec (hs.callee hc) hb hview
  have hls := hs.h _ _ hl
  have hold := rg.hg.holds d _ hls
  let gc : Env := g.setTk 1000001 (g.tk d) (0, 0)
  have htk : gc.tk 1000001 = g.tk d := by simp [gc, Env.setTk]
  have hfoot : ∀ b o, Foot gc 1000001 (.spare el sz N) b o ↔ Foot g d (.spare el sz N) b o := fun b o => by simp only [Foot, htk]
  have hcalls := hp (rdOf K g s.hp w) gc w us hview.reads (by
    rw [h1]
    have := congrArg List.length hargs
    rw [castArgs_length, List.length_map] at this
    exact this) (fun i y hy => by
    have hy2 : (A.map (SV.map (SC.renG d)))[i]? = some (y.map (SC.renG d)) := by rw [List.getElem?_map, hy]; rfl
    rw [← hargs] at hy2
    obtain ⟨ks, x, hx, hxe⟩ := castArgs_get kss vs i _ hy2
    obtain ⟨u, q1, q2⟩ := h2 i x hx
    have hrel := castV_rel ks q2
    rw [← hxe] at hrel
    refine ⟨u, q1, ?_⟩
    have hyo := List.all_eq_true.1 hok y (List.mem_of_getElem? hy)
    cases y with
    | c x => exact renG_rel (by simpa [SV.every] using hyo) hrel
    | agg cs =>
      obtain ⟨vs', e1, e2, e3⟩ := hrel
      refine ⟨vs', e1, by simpa using e2, fun j y hj => ?_⟩
      obtain ⟨u', k1, k2⟩ := e3 j (y.renG d) (by rw [List.getElem?_map, hj]; rfl)
      exact ⟨u', k1, renG_rel (List.all_eq_true.1 (by simpa [SV.every] using hyo) y (List.mem_of_getElem? hj)) k2⟩
    | tup ts =>
      obtain ⟨vs', e1, e2, e3⟩ := hrel
      refine ⟨vs', e1, by simpa using e2, fun j y hj => ?_⟩
      obtain ⟨u', k1, k2⟩ := e3 j (y.1, y.2.map (SC.renG d)) (by rw [List.getElem?_map, hj]; rfl)
      refine ⟨u', k1, ?_⟩
      have hyo' : (ts.all fun x => x.2.all SC.okG) = true := hyo
      have hall := List.all_eq_true.1 hyo' y (List.mem_of_getElem? hj)
      unfold FRel at k2 ⊢
      simp only at k2
      split at k2
      · rename_i hb; rw [if_pos hb]
        obtain ⟨vs2, m1, m2, m3⟩ := k2
        refine ⟨vs2, m1, by simpa using m2, fun j2 y2 hj2 => ?_⟩
        obtain ⟨u2, k3, k4⟩ := m3 j2 (y2.renG d) (by rw [List.getElem?_map, hj2]; rfl)
        exact ⟨u2, k3, renG_rel (List.all_eq_true.1 hall y2 (List.mem_of_getElem? hj2)) k4⟩
      · rename_i hb; rw [if_neg hb]
        obtain ⟨y2, m1, m2⟩ := k2
        have : ∃ y3, y.2 = [y3] ∧ y2 = y3.renG d := by
          cases hy : y.2 with
          | nil => rw [hy] at m1; cases m1
          | cons y3 t =>
            rw [hy] at m1
            cases t with
            | nil => simp at m1; exact ⟨y3, rfl, m1.symm⟩
            | cons _ _ => simp at m1
        obtain ⟨y3, m3, rfl⟩ := this
        rw [m3] at hall
        exact ⟨y3, m3, renG_rel (by simpa using hall) m2⟩) (by
    obtain ⟨us', q⟩ := hold
    exact ⟨us', by rw [htk]; exact q⟩) (fun b o' x => rdOf_none ⟨d, _, hls, (hfoot b o').1 x⟩)
  unfold Oper.wp
  rw [h3]
  simp only [Oper.upon]
  refine hcalls.mono fun e w' hq => ?_
  obtain ⟨u, g', rfl, hkeep, hin, hgr, hpost⟩ := hq
  simp only
  rw [htk] at hgr
  let g2 : Env := { pos := g.pos, tk := fun e => if e = d then ((g.tk d).1, (g'.tk 1000001).2) else g.tk e }
  have hg2 : g2.tk d = ((g.tk d).1, (g'.tk 1000001).2) := by simp [g2]
  have hgrew : Grew g g2 d := by
    refine ⟨fun _ => rfl, fun e => ?_, fun e he => ?_, ?_⟩
    · simp only [g2]; split
      · rename_i h; subst h; rfl
      · rfl
    · simp only [g2]; rw [if_neg he]
    · rw [hg2]
      rcases hgr with h | h
      · left; rw [h]
      · right; exact h
  have hfoot2 : ∀ b o, Foot g2 d (.spare el sz N') b o ↔ Foot g' 1000001 (.spare el sz N') b o := fun b o => by simp only [Foot, hg2]
  have hk : Keep w (Foot g d (.spare el sz N)) w' := hkeep.weak (fun b o x => (hfoot b o).1 x)
  have hf : ∀ b o, Foot g2 d (.spare el sz N') b o → Foot g d (.spare el sz N) b o ∨ w.heap.size ≤ b := fun b o x => (hin b o ((hfoot2 b o).1 x)).imp (fun q => (hfoot b o).1 q) id
  have key : (rdOf K g s.hp w).le (rdOf K g2 (setL d (.spare el sz N') s.hp) w') → VRel (rdOf K g2 (setL d (.spare el sz N') s.hp) w') g' u r ∧ Holds (rdOf K g2 (setL d (.spare el sz N') s.hp) w') g' w' 1000001 (.spare el sz N') := by
    intro hle
    refine hpost _ hle ?_
    intro b o' u' hb0 hx hcell
    have hlt := World.block_lt_of_cell? w' _ hcell
    have hns : ∀ e x, e ≠ d → look s.hp e = some x → Foot g e x b o' → False := by
      intro e x hne hx2 hfo
      rcases hb0 with h4 | h4
      · have := (rg.hg.holds e x hx2).lt hfo; omega
      · exact rg.hg.dis e d x _ b o' hne hx2 hls hfo ((hfoot b o').1 h4)
    unfold rdOf
    rw [if_neg]
    · split
      · rename_i hb
        exfalso
        rcases hb0 with h4 | h4
        · have := rg.hg.keep.size; omega
        · exact hb.2 (rg.hg.may b o' ⟨d, _, hls, (hfoot b o').1 h4⟩ hb.1)
      · exact hcell
    · rintro ⟨e, x, q1, q2⟩
      rw [look_setL] at q1
      split at q1
      · rename_i he; subst he; cases q1; exact hx ((hfoot2 b o').1 q2)
      · rename_i he
        refine hns e x (Ne.symm he) q1 ?_
        have := foot_env (g := g) (g' := g2) (d := e) ⟨rfl, hgrew.tk e (Ne.symm he)⟩ x
        rw [this] at q2
        exact q2
  obtain ⟨r1, hle⟩ := rg.grow (r := .spare el sz N') hls hgrew hk hf (fun _ q => by cases q) rfl (fun hle => by
    obtain ⟨us', q⟩ := (key hle).2
    exact ⟨us', by rw [hg2]; exact q⟩)
  obtain ⟨hres, _⟩ := key hle
  exact hK _ _ ⟨g2, r1.put o.dst (dstOk_spec hd) (hres.imp (fun v x hx k => renG_rel' (by rw [hg2]) hx k) hr)⟩
theorem TD_conG {f : FuncId} {A : List SV} {r : SV} {el sz N N' : Nat} (d : Nat) (kss : List (List Nat)) (hp : ConG P f A el sz N r N') (hc : D.callee kss = some (f, A.map (SV.map (SC.renG d)))) (hg : (D.go1 n && hasBody P f && A.all (fun v => v.every SC.okG) && r.every SC.okG) = true) (hl : look D.need.hp d = some (.spare el sz N))
    (k : TD P K n (D.push ⟨D.need, D.dst, r.map (SC.renG d), some (d, .spare el sz N'), false⟩) Q) : TD P K n D Q := by
  simp only [Bool.and_eq_true] at hg
  obtain ⟨⟨⟨g1, g2⟩, g3⟩, g4⟩ := hg
  obtain ⟨os, o, ho, h1, h2, h3⟩ := go1D_spec g1
  obtain ⟨vs, h5, h6⟩ := calleeD_op hc ho
  rw [h3] at k
  exact push_ok ho (vd_conG kss h1 h2 h5 g2 h6 g3 g4 hl hp) rfl k
theorem TS_conG {f : FuncId} {A : List SV} {r : SV} {el sz N N' : Nat} (d : Nat) (kss : List (List Nat)) (hp : ConG P f A el sz N r N') (hc : C.callee kss = some (f, A.map (SV.map (SC.renG d)))) (hg : (C.go1 n && hasBody P f && A.all (fun v => v.every SC.okG) && r.every SC.okG) = true) (hl : look C.st.hp d = some (.spare el sz N))
    (k : TS P K n (C.next ((C.st.setR d (.spare el sz N')).put C.dst (r.map (SC.renG d)))) Q) : TS P K n C Q := by
  simp only [Bool.and_eq_true] at hg
  obtain ⟨⟨⟨g1, g2⟩, g3⟩, g4⟩ := hg
  obtain ⟨os, o, ho, h1, h2, h3⟩ := go1_spec g1
  obtain ⟨vs, h5, h6⟩ := callee_op hc ho
  rw [h3] at k
  exact TS_stp ho (vd_conG (need := C.st) kss h1 h2 h5 g2 h6 g3 g4 hl hp K C.st ⟨fun _ _ h => h, fun _ _ h => h⟩ (fun h => by cases h)) k
end

/-! ### a new row in place of the one that was handed in -/
section
variable {P : Program} {K : Ctx} {n : Nat} {Q : Exit → St → Prop} {C : Cfg}
def ghostArgs (s : St) (d2 : Nat) : Option (Nat × Nat × List (List SC) × Nat) := match look s.tmps 2000000, look s.hp d2 with
  | some (.c (.slc sz _ N xs)), some (.spare _ _ N2) => some (sz, N, xs, N2)
  | _, _ => none
theorem TS_ghost (d2 : Nat) {sz N N2 : Nat} {xs : List (List SC)} (hlt : decide (N < N2) = true) (h : ghostArgs C.st d2 = some (sz, N, xs, N2)) (he : C.pre = true) (k : TS P K n (C.withS (C.st.put (some 2000000) (.c (.slc sz (d2 + 2) N xs)))) Q) : TS P K n C Q := by
  unfold ghostArgs at h
  split at h
  · rename_i sz1 tg N1 xs1 e1 s1 N3 h1 h2
    cases h
    have hlt := of_decide_eq_true hlt
    refine TS_state _ (fun a w r => ?_) he k
    obtain ⟨g, r⟩ := r
    have hv := vlen_spare (r.hg.holds _ _ h2)
    refine ⟨g, r.recast h1 (fun u hu => ?_)⟩
    obtain ⟨q1, _⟩ := hu
    exact ⟨q1, by simp only [Tag]; rw [hv]; exact ⟨by omega, fun q => by omega⟩⟩
  · cases h
end
end
/-! ## SHADOWS: strings; copy into a part of an array. -/
section
open Go.RowKit

def bs8 (l : List UInt8) : ByteArray := ⟨l.toArray⟩
def i8L (l : List UInt8) : List Int := l.map fun b => (b.toNat : Int)
theorem bs8_size (l : List UInt8) : (bs8 l).size = l.length := by simp [bs8, ByteArray.size]
theorem bs8_data (l : List UInt8) : (bs8 l).data = l.toArray := rfl
section
variable {P : Program} {o : Oper} {s : St} {α : Type}
/-! ### a string as a row -/
def s2bArgs (P : Program) (s : St) (o : Oper) : Option (Nat × ByteArray) := match o.op with
  | .convert t t' x => match P.underlying t, P.underlying t', opd s x with
    | some .string, some (.slice e), some (.c (.lit (.string b))) => match P.underlying e, P.info? e with
      | some (.int .u8), some ie => if ie.size = 1 then some (e, b) else none
      | _, _ => none
    | _, _, _ => none
  | _ => none
theorem own_s2b {e : Nat} {l : List UInt8} (hl : decide (l.length ≤ maxLen) = true) (h : s2bArgs P s o = some (e, bs8 l)) : OwnOpM P o s e 1 ((i8L l).map (ecI .u8)) := by
  have hl := of_decide_eq_true hl
  unfold s2bArgs at h
  split at h
  rotate_left
  · cases h
  rename_i t t' x ho
  split at h
  rotate_left
  · cases h
  rename_i e1 b hu hu' hx
  split at h
  rotate_left
  · cases h
  rename_i ie he hie
  split at h
  rotate_left
  · cases h
  rename_i hsz
  cases h
  intro g rd a w hview
  have hv := rel_lit (hview.op x _ (by simp [ho, Op.operands]) hx)
  have hr := run_bytes_of_string (P := P) w t t' e (bs8 l) hu hu' he
  have hcs : (bytesRow (bs8 l) (grownCap w (bs8 l).size 0 e)).size = grownCap w (bs8 l).size 0 e := by
    have := grownCap_ge w (bs8 l).size 0 e
    unfold bytesRow
    rw [Array.size_append, Array.size_map, Array.size_replicate, bs8_data, List.size_toArray]
    rw [bs8_size] at *
    omega
  have hsub : (bytesRow (bs8 l) (grownCap w (bs8 l).size 0 e)).toList.take l.length = l.map (fun b => Value.int .u8 (b.toNat : Int)) := by
    unfold bytesRow
    rw [Array.toList_append, Array.toList_map, bs8_data]
    simp
  have hge := grownCap_ge w (bs8 l).size 0 e
  have hle := grownCap_le_maxLen w (bs8 l).size 0 e (by rw [bs8_size]; exact hl)
  generalize hC : bytesRow (bs8 l) (grownCap w (bs8 l).size 0 e) = C at *
  generalize grownCap w (bs8 l).size 0 e = cap at *
  rw [bs8_size] at *
  refine ⟨.slice (some ⟨w.heap.size, 0, none⟩) l.length cap, w.drew.alloc (.cells C e (C.size, C.size + 1)), l.map (fun b => Value.int .u8 (b.toNat : Int)), ?_, (Ext.drew w).trans (Ext.alloc _ _), ?_, ?_, ?_⟩
  · simp only [execOp, ho, hv, hr, Sem.run_bind, Sem.run_pure, Result.andThen_ok]
  · simp only [i8L, List.length_map]
    refine ⟨by simp, .inr ⟨w.heap.size, cap, C, _, rfl, heap_alloc_new w.drew _, fun j hj q => by simp only at q; omega, hge, hle, ?_, ?_⟩⟩
    · rw [hcs, Nat.mul_one]
    · rw [Nat.mul_one]; exact hsub
  · intro b hb
    simp only [Value.ownBlock, Option.some.injEq] at hb
    omega
  · refine ⟨fun x hx => ?_, fun i x j y hx hy => ?_⟩
    · obtain ⟨n, _, rfl⟩ := List.mem_map.1 hx
      rfl
    · rw [List.getElem?_map, i8L, List.getElem?_map] at hx
      cases hb : l[i]? with
      | none => rw [hb] at hx; cases hx
      | some b =>
        rw [hb] at hx
        simp only [Option.map_some, Option.some.injEq] at hx
        subst hx
        cases j with
        | zero =>
          simp only [ecI, List.getElem?_cons_zero, Option.some.injEq] at hy
          subst hy
          exact ⟨_, by rw [Nat.mul_one, Nat.add_zero, List.getElem?_map, hb]; rfl, .lit _⟩
        | succ j => simp [ecI] at hy
/-! ### a row as a string -/
def b2sArgs (P : Program) (s : St) (o : Oper) : Option (List (List SC) × Cut) := match o.op with
  | .convert t t' x => match P.underlying t, P.underlying t', (opd s x).bind (srcS s 1) with
    | some (.slice e), some .string, some q => match P.underlying e with
      | some (.int .u8) => some q
      | _ => none
    | _, _, _ => none
  | _ => none
theorem grow_b2s {l : List Int} {c : Cut} (h : b2sArgs P s o = some (l.map (ecI .u8), c)) : GrowOp P o s (.c (.lit (.string (bs8 (u8L (c.app l)))))) := by
  unfold b2sArgs at h
  split at h
  rotate_left
  · cases h
  rename_i t t' x ho
  split at h
  rotate_left
  · cases h
  rename_i e q hu hu' hx
  split at h
  rotate_left
  · cases h
  rename_i he
  cases h
  obtain ⟨vx, hx1, hx2⟩ := Option.bind_eq_some_iff.1 hx
  refine PureOp.grow fun g rd a w hview => ?_
  have hsrc := srcS_rel hx2 hview (hview.op x _ (by simp [ho, Op.operands]) hx1)
  rw [Cut.map] at hsrc
  generalize hau : a.eval x = u at *
  refine ⟨.string (bs8 (u8L (c.app l))), ?_, .lit _⟩
  obtain ⟨ad, cp, vals, hu1, h1, h2, h3, h4, h5, h6⟩ := hsrc
  rw [List.length_map] at hu1 h1
  generalize hll : c.app l = l' at *
  have hconv : (convert t t' u).run P w = .ok (.string (bs8 (u8L l'))) w := by
    subst hu1
    rw [run_convert_bytes_string w t t' e ad l'.length cp hu he hu']
    cases ad with
    | none =>
      rcases h3 with h3 | ⟨ad, q, _⟩
      · have := List.map_eq_nil_iff.1 h3
        subst this
        simp [Conv.bytesToString, bs8, u8L]
        rfl
      · cases q
    | some ad =>
      have hl := run_loadCells_list (P := P) w ad (l'.map (Value.int .u8)) (fun j v hj => by
        rw [List.getElem?_map] at hj
        cases hn : l'[j]? with
        | none => rw [hn] at hj; cases hj
        | some n =>
          rw [hn] at hj
          cases hj
          rcases h3 with h3 | ⟨ad', q, h3⟩
          · rw [List.map_eq_nil_iff.1 h3] at hn; cases hn
          · cases q
            obtain ⟨v, q1, q2⟩ := h2.2 j _ 0 (.lit (.int .u8 n)) (by rw [List.getElem?_map, hn]; rfl) rfl
            rw [Nat.mul_one, Nat.add_zero] at q1
            rw [h3 _ _ q1]
            cases q2
            rfl)
      rw [List.length_map] at hl
      rw [run_bytesToString w ad l'.length cp l' hl, foldl_push_bytes]
      have he0 : ByteArray.empty.data = #[] := rfl
      rw [he0]
      simp [bs8, u8L]
  simp only [execOp, ho, hau, hconv, Sem.run_bind, Sem.run_pure, Result.andThen_ok]
/-! ### strings compared -/
def strOp (op : BinOp) (x y : List UInt8) : Option Bool := match op with
  | .eql => some (x == y)
  | .neq => some (!(x == y))
  | .lss => some (Go.Op.bytesLess x y)
  | .leq => some (Go.Op.bytesLess x y || x == y)
  | .gtr => some (!(Go.Op.bytesLess x y || x == y))
  | .geq => some (!Go.Op.bytesLess x y)
  | _ => none
def strArgs (s : St) (o : Oper) : Option (BinOp × ByteArray × ByteArray) := match o.op with
  | .binOp op _ x y _ => match opd s x, opd s y with
    | some (.c (.lit (.string a))), some (.c (.lit (.string b))) => some (op, a, b)
    | _, _ => none
  | _ => none
theorem bs8_toList (l : List UInt8) : (bs8 l).toList = l := by
  have key : ∀ (l : List UInt8) (n i : Nat) (r : List UInt8), l.length - i = n → ByteArray.toList.loop (bs8 l) i r = r.reverse ++ l.drop i := by
    intro l n
    induction n with
    | zero =>
      intro i r h
      rw [ByteArray.toList.loop]
      rw [if_neg (by rw [bs8_size]; omega), List.drop_eq_nil_of_le (by omega), List.append_nil]
    | succ n ih =>
      intro i r h
      rw [ByteArray.toList.loop]
      rw [if_pos (by rw [bs8_size]; omega), ih (i + 1) _ (by omega)]
      have hi : i < l.length := by omega
      rw [List.drop_eq_getElem_cons hi]
      have : (bs8 l).get! i = l[i] := by
        simp [bs8, ByteArray.get!, hi]
      rw [this]
      simp
  unfold ByteArray.toList
  rw [key l l.length 0 [] (by omega)]
  simp
theorem grow_str {op : BinOp} {a b : List UInt8} {r : Bool} (hr : strOp op a b = some r) (h : strArgs s o = some (op, bs8 a, bs8 b)) : GrowOp P o s (bool r) := by
  unfold strArgs at h
  split at h
  rotate_left
  · cases h
  rename_i op1 t x y t' ho
  split at h
  rotate_left
  · cases h
  rename_i a1 b1 hx hy
  cases h
  refine PureOp.grow fun g rd A w hview => ?_
  have h1 := rel_lit (hview.op x _ (by simp [ho, Op.operands]) hx)
  have h2 := rel_lit (hview.op y _ (by simp [ho, Op.operands]) hy)
  refine ⟨.bool r, ?_, .lit _⟩
  cases op <;> simp only [strOp, Option.some.injEq, reduceCtorEq] at hr <;> subst hr <;> simp [execOp, ho, h1, h2, eqGuard, binOp, Go.Op.stringOp, bs8_toList]
/-! ### the length of a string -/
def slenArgs (P : Program) (s : St) (o : Oper) : Option ByteArray := match o.op with
  | .call { callee := .builtin .len, args := xs, argTypes := ts } => match xs.toList, ts.toList with
    | [x], [t] => match P.underlying t, opd s x with
      | some .string, some (.c (.lit (.string b))) => some b
      | _, _ => none
    | _, _ => none
  | _ => none
theorem grow_slen {a : List UInt8} (h : slenArgs P s o = some (bs8 a)) : GrowOp P o s (int .i64 a.length) := by
  unfold slenArgs at h
  split at h
  rotate_left
  · cases h
  rename_i xs ts ho
  split at h
  rotate_left
  · cases h
  rename_i x t hxs hts
  have hxs' : xs = #[x] := by rw [← Array.toArray_toList (xs := xs), hxs]
  have hts' : ts = #[t] := by rw [← Array.toArray_toList (xs := ts), hts]
  subst hxs'
  subst hts'
  split at h
  rotate_left
  · cases h
  rename_i b hu hx
  cases h
  refine PureOp.grow fun g rd A w hview => ?_
  have h1 := rel_lit (hview.op x _ (by simp [ho, Op.operands, Call.operands]) hx)
  refine ⟨.int .i64 a.length, ?_, .lit _⟩
  simp [execOp, ho, resolve, invoke, builtin, h1, Builtin.len_, run_underlying hu, goInt, bs8_size]
/-! ### copy into a part of an array -/
def cpA (m : Nat) (l l2 : List Int) : List Int := (List.range m).map fun i => if i < l2.length then l2.getD i 0 else l.getD i 0
def cpWArgs (P : Program) (off m : Nat) (s : St) (o : Oper) : Option (Nat × List SC × List SC × List SC × List (List SC) × Cut) := match o.op with
  | .call { callee := .builtin .copy, args := xs, argTypes := ts } => match xs.toList, ts.toList with
    | [x, y], [t, _] => match P.underlying t with
      | some (.slice e') => match P.info? e' with
        | some ie => match opd s x, (opd s y).bind (srcS s 1) with
          | some (.c (.win d off' m')), some (ys, c') => match s.lookB d with
            | some cs => if ie.size = 1 ∧ off' = off ∧ m' = m ∧ off + m ≤ cs.length then some (d, cs.take off, (cs.drop off).take m, cs.drop (off + m), ys, c') else none
            | none => none
          | _, _ => none
        | none => none
      | _ => none
    | _, _ => none
  | _ => none
theorem arrS_getI (k : IntKind) (m : Nat) (l : List Int) (i : Nat) : (arrS k m l)[i]? = if i < m then some (.lit (.int k (l.getD i 0))) else none := by
  unfold arrS
  rw [List.getElem?_map]
  by_cases h : i < m
  · rw [if_pos h, List.getElem?_range h]; rfl
  · rw [if_neg h, List.getElem?_eq_none (by simpa using h)]; rfl
theorem arrS_len (k : IntKind) (m : Nat) (l : List Int) : (arrS k m l).length = m := by simp [arrS]
theorem cpA_get (m : Nat) (l l2 : List Int) (i : Nat) (h : i < m) : (cpA m l l2).getD i 0 = if i < l2.length then l2.getD i 0 else l.getD i 0 := by
  unfold cpA
  rw [List.getD_eq_getElem?_getD, List.getElem?_map, List.getElem?_range h]
  rfl
theorem mid_get {pre A A' post : List SC} (hl : A.length = A'.length) (j : Nat) (h : ∀ i, pre.length + i = j → i < A.length → A[i]? = A'[i]?) : (pre ++ A ++ post)[j]? = (pre ++ A' ++ post)[j]? := by
  simp only [List.append_assoc, List.getElem?_append]
  by_cases h1 : j < pre.length
  · simp only [if_pos h1]
  · simp only [if_neg h1, ← hl]
    by_cases h2 : j - pre.length < A.length
    · simp only [if_pos h2]; exact h _ (by omega) h2
    · simp only [if_neg h2]
theorem upd_cpW {d off m : Nat} {k : IntKind} {l l2 : List Int} {pre post : List SC} {c' : Cut} (hpre : decide (pre.length = off) = true) (h : cpWArgs P off m s o = some (d, pre, arrS k m l, post, l2.map (ecI k), c')) :
    UpdOp P o s d (.box (pre ++ arrS k m l ++ post)) (.box (pre ++ arrS k m (cpA m l (c'.app l2)) ++ post)) (int .i64 (min (c'.app l2).length m : Nat)) := by
  have hpl := of_decide_eq_true hpre
  unfold cpWArgs at h
  split at h
  rotate_left
  · cases h
  rename_i xs ts ho
  split at h
  rotate_left
  · cases h
  rename_i x y t t' hxs hts
  have hxs' : xs = #[x, y] := by rw [← Array.toArray_toList (xs := xs), hxs]
  have hts' : ts = #[t, t'] := by rw [← Array.toArray_toList (xs := ts), hts]
  subst hxs'
  subst hts'
  split at h
  rotate_left
  · cases h
  rename_i e1 hu
  split at h
  rotate_left
  · cases h
  rename_i ie hie
  split at h
  rotate_left
  · cases h
  rename_i d1 off1 m1 ys c1 hx hy
  split at h
  rotate_left
  · cases h
  rename_i cs hl
  split at h
  rotate_left
  · cases h
  rename_i hq
  obtain ⟨hsz, rfl, rfl, hlen⟩ := hq
  injection h with h
  simp only [Prod.mk.injEq] at h
  obtain ⟨rfl, h3, h4, h5, rfl, rfl⟩ := h
  have hcs : cs = pre ++ arrS k m1 l ++ post := by
    rw [← h3, ← h4, ← h5]
    rw [List.append_assoc, ← List.drop_drop, List.take_append_drop, List.take_append_drop]
  have hl' := lookB_some hl
  rw [hcs] at hl'
  refine ⟨hl', rfl, fun g b o' hf => ?_, fun g rd A w hview => ?_⟩
  · simp only [Foot, List.length_append, arrS_len] at hf ⊢
    exact hf
  obtain ⟨vy, hy1, hy2⟩ := Option.bind_eq_some_iff.1 hy
  have hvx := hview.op x _ (by simp [ho, Op.operands, Call.operands]) hx
  obtain ⟨ax, cx, hax, hc1, hc2, hc3⟩ := hvx
  obtain ⟨ay, cy, vals, v1, v2, v3, v4, _⟩ := srcS_rel hy2 hview (hview.op y _ (by simp [ho, Op.operands, Call.operands]) hy1)
  rw [Cut.map] at v1 v2 v3 v4
  rw [List.length_map] at v1 v2
  have hold : Holds rd g w d1 (.box (pre ++ arrS k m1 l ++ post)) := hview.holds d1 _ hl'
  simp only [execOp, ho, resolve, invoke, builtin, Sem.run_bind, Sem.run_pure, Result.andThen_ok, List.map_toArray, List.map_cons, List.map_nil, hax, v1]
  generalize hl2 : c1.app l2 = l2' at *
  generalize hk : min l2'.length m1 = kk at *
  have hk' : Nat.min l2'.length m1 = kk := hk
  by_cases hk0 : kk = 0
  · rw [run_copy_zero t t' o.type _ ie hu hie _ _ _ _ _ _ (by rw [hk', hk0])]
    simp only [Result.andThen_ok]
    refine ⟨_, _, rfl, Keep.refl _ _, .inr ⟨_, rfl, fun rd' _ => ?_⟩, fun rd' hle => ?_⟩
    · rw [hk0]; exact .lit _
    · have : arrS k m1 (cpA m1 l l2') = arrS k m1 l := by
        apply List.ext_getElem?
        intro q
        rw [arrS_getI, arrS_getI]
        by_cases hq : q < m1
        · rw [if_pos hq, if_pos hq, cpA_get _ _ _ _ hq, if_neg (by omega)]
        · rw [if_neg hq, if_neg hq]
      rw [this]
      exact Holds.mono hle hold
  · have hm0 : 0 < m1 := by omega
    have hl20 : 0 < l2'.length := by omega
    rcases hc3 with hc3 | hc3
    · omega
    rcases v4 with v4 | ⟨ad, v4, v5⟩
    · have := List.map_eq_nil_iff.1 v4
      rw [this] at hl20
      simp at hl20
    subst hc3
    subst v4
    have hkl : kk ≤ l2'.length := by omega
    have hkd : kk ≤ m1 := by omega
    have hvl : (vals.take kk).length = kk := by rw [List.length_take, v2]; omega
    have hval : ∀ i, i < kk → vals[i]? = some (.int k (l2'.getD i 0)) := by
      intro i hi
      have hi2 : i < l2'.length := by omega
      obtain ⟨u, q1, q2⟩ := v3.2 i _ 0 (.lit (.int k l2'[i])) (by rw [List.getElem?_map, List.getElem?_eq_getElem hi2]; rfl) rfl
      rw [Nat.mul_one, Nat.add_zero] at q1
      cases q2
      rw [q1, List.getD_eq_getElem?_getD, List.getElem?_eq_getElem hi2]
      rfl
    have hsrc : ∀ j v, (vals.take kk)[j]? = some v → w.cell? (ad.add j) = some v := by
      intro j v hj
      rw [List.getElem?_take] at hj
      split at hj
      · exact v5 j v hj
      · cases hj
    have hthere : ∀ j, j < kk → ∃ u, w.cell? ⟨(g.pos d1).1, (g.pos d1).2 + off1 + j, none⟩ = some u ∧ w.frozen? ⟨(g.pos d1).1, (g.pos d1).2 + off1 + j, none⟩ = false := by
      intro j hj
      obtain ⟨u, q1, q2, _⟩ := hold (off1 + j) (.lit (.int k (l.getD j 0))) (by
        rw [List.append_assoc, List.getElem?_append_right (by omega), List.getElem?_append_left (by rw [arrS_len]; omega), arrS_getI, show off1 + j - pre.length = j by omega, if_pos (by omega)])
      rw [← Nat.add_assoc] at q1 q2
      exact ⟨u, q1, q2⟩
    have hst := run_storeCells_cells (P := P) (g.pos d1).1 ((g.pos d1).2 + off1) (vals.take kk) 0 w
      (fun j hj => by obtain ⟨u, q1, _⟩ := hthere j (by omega); rw [Nat.add_zero, q1]; rfl)
      (fun j hj => by obtain ⟨u, _, q2⟩ := hthere j (by omega); rw [Nat.add_zero]; exact q2)
      (fun v hv => by
        obtain ⟨j, hj, rfl⟩ := List.getElem_of_mem hv
        have := hval j (by omega)
        have h2 : (vals.take kk)[j]? = some (.int k (l2'.getD j 0)) := by rw [List.getElem?_take, if_pos (by omega)]; exact this
        rw [List.getElem?_eq_getElem hj] at h2
        rw [Option.some.inj h2]
        rfl)
    simp only [Nat.add_zero] at hst
    have hfc := run_firstCells_some (P := P) w 1 kk ad l2'.length cy (vals.take kk) (by rw [hvl, Nat.mul_one]) hsrc
    have hrun : (Builtin.copy_ #[t, t'] o.type #[.slice (some ⟨(g.pos d1).1, (g.pos d1).2 + off1, none⟩) m1 cx, .slice (some ad) l2'.length cy]).run P w = .ok (goInt kk) (w.setCells (g.pos d1).1 ((g.pos d1).2 + off1) (vals.take kk)) := by
      simp [Builtin.copy_, run_underlying hu, Builtin.lenOf, sizeOf, typeInfo, hie, hsz, hk', hfc, hst]
    rw [hrun]
    simp only [Result.andThen_ok]
    have hkeep := Keep.setCells (g.pos d1).1 (vals.take kk) ((g.pos d1).2 + off1) w
    rw [hvl] at hkeep
    refine ⟨_, _, rfl, hkeep.weak (fun b o' q => ?_), .inr ⟨_, rfl, fun rd' _ => .lit _⟩, fun rd' hle => ?_⟩
    · obtain ⟨q1, q2, q3⟩ := q
      simp only [Foot, List.length_append, arrS_len]
      exact ⟨q1, by omega, by omega⟩
    · intro j y hj
      by_cases hin : off1 ≤ j ∧ j < off1 + kk
      · rw [List.append_assoc, List.getElem?_append_right (by omega), List.getElem?_append_left (by rw [arrS_len]; omega), arrS_getI, if_pos (by omega), cpA_get _ _ _ _ (by omega), if_pos (by omega)] at hj
        cases hj
        have hc := World.cell?_setCells_in (g.pos d1).1 (vals.take kk) ((g.pos d1).2 + off1) w (fun i hi => by obtain ⟨u, q1, _⟩ := hthere i (by omega); rw [q1]; rfl) (j - off1) (by omega)
        rw [show (g.pos d1).2 + off1 + (j - off1) = (g.pos d1).2 + j by omega] at hc
        obtain ⟨u, q1, q2⟩ := hthere (j - off1) (by omega)
        rw [show (g.pos d1).2 + off1 + (j - off1) = (g.pos d1).2 + j by omega] at q1 q2
        refine ⟨_, hc, by rw [hkeep.frozen (World.block_lt_of_cell? w _ q1)]; exact q2, ?_⟩
        have h2 : (vals.take kk)[j - off1]? = some (.int k (l2'.getD (j - off1) 0)) := by rw [List.getElem?_take, if_pos (by omega)]; exact hval _ (by omega)
        rw [List.getElem?_eq_getElem (by omega)] at h2
        rw [Option.some.inj h2, hpl]
        exact .lit _
      · have hj2 : (pre ++ arrS k m1 l ++ post)[j]? = some y := by
          rw [← hj]
          refine mid_get (by rw [arrS_len, arrS_len]) j (fun i hi hi2 => ?_)
          rw [arrS_len] at hi2
          rw [arrS_getI, if_pos hi2, arrS_getI, if_pos hi2, cpA_get _ _ _ _ hi2, if_neg (by omega)]
        obtain ⟨u, q1, q2, q3⟩ := hold j y hj2
        exact ⟨u, hkeep.cell q1 (fun q => hin ⟨by omega, by omega⟩), by rw [hkeep.frozen (World.block_lt_of_cell? w _ q1)]; exact q2, q3.mono hle⟩
end
/-! ### the rules -/
section
variable {P : Program} {K : Ctx} {n : Nat} {Q : Exit → St → Prop} {C : Cfg} {D : Dr} {α : Type} {ops : Array Oper} {o : Oper} {need : St}
theorem TS_ownM {e sz : Nat} {xs : List (List SC)} (d : Nat) (hp : ∀ os o, C.op = some (os, o) → OwnOpM P o C.st e sz xs) (hg : C.okNew n d = true) (k : TS P K n (C.next ((C.st.setR d (.spare e sz xs.length)).put (some d) (.c (.slc sz (d + 2) xs.length xs)))) Q) : TS P K n C Q := by
  obtain ⟨os, o, ho, h1, h2, h3, h4, h5⟩ := okNew_spec hg
  exact TS_stp ho (S_ownM d (hp os o ho) h1 h2 h3 h4 h5) k
theorem vd_ownM {e sz : Nat} {xs : List (List SC)} (d : Nat) (hp : OwnOpM P o need e sz xs) (hg : guardOf ops o need = some true) (hdst : o.dst = some d) (hd : d < n) (hd6 : d < 1000000) : VD P n ops o ⟨need, some d, .c (.slc sz (d + 2) xs.length xs), some (d, .spare e sz xs.length), true⟩ :=
  fun _K _s hs hn => S_ownM d (hs.ownM hp) (hs.guard hg) hdst hd hd6 (hn rfl)
theorem TD_ownM {e sz : Nat} {xs : List (List SC)} (d : Nat) (hp : ∀ os o, D.op = some (os, o) → OwnOpM P o D.need e sz xs) (hg : D.okNew n d = true) (k : TD P K n (D.push ⟨D.need, some d, .c (.slc sz (d + 2) xs.length xs), some (d, .spare e sz xs.length), true⟩) Q) : TD P K n D Q := by
  obtain ⟨os, o, ho, h1, h2, h3, h4⟩ := okNewD_spec hg
  exact push_ok ho (vd_ownM d (hp os o ho) h1 h2 h3 h4) rfl k
theorem i8L_len (l : List UInt8) (f : Int → List SC) : ((i8L l).map f).length = (i8L l).length := List.length_map _
theorem TS_s2bT (d e sz : Nat) (l : List UInt8) (hl : decide (l.length ≤ maxLen) = true) (hs : sz = 1) (h : C.with1 (s2bArgs P) = some (e, bs8 l)) (hg : C.okNew n d = true) (kk : TS P K n (C.next ((C.st.setR d (.spare e sz (i8L l).length)).put (some d) (.c (.slc sz (d + 2) (i8L l).length ((i8L l).map (ecI .u8)))))) Q) : TS P K n C Q := by
  subst hs
  refine TS_ownM (e := e) (sz := 1) (xs := (i8L l).map (ecI .u8)) d (fun os o ho => own_s2b hl (with1_op h ho)) hg ?_
  rw [i8L_len]
  exact kk
theorem TD_s2bT (d e sz : Nat) (l : List UInt8) (hl : decide (l.length ≤ maxLen) = true) (hs : sz = 1) (h : D.with1 (s2bArgs P) = some (e, bs8 l)) (hg : D.okNew n d = true) (kk : TD P K n (D.push ⟨D.need, some d, .c (.slc sz (d + 2) (i8L l).length ((i8L l).map (ecI .u8))), some (d, .spare e sz (i8L l).length), true⟩) Q) : TD P K n D Q := by
  subst hs
  refine TD_ownM (e := e) (sz := 1) (xs := (i8L l).map (ecI .u8)) d (fun os o ho => own_s2b hl (with1D_op h ho)) hg ?_
  rw [i8L_len]
  exact kk
theorem TS_b2s (l : List Int) (c : Cut) (h : C.with1 (b2sArgs P) = some (l.map (ecI .u8), c)) (hg : C.go1 n = true) (kk : TS P K n (C.ret (.c (.lit (.string (bs8 (u8L (c.app l))))))) Q) : TS P K n C Q :=
  TS_val _ hg (fun _os _o ho => grow_b2s (with1_op h ho)) kk
theorem TD_b2s (l : List Int) (c : Cut) (h : D.with1 (b2sArgs P) = some (l.map (ecI .u8), c)) (hg : D.go1 n = true) (kk : TD P K n (D.ret (.c (.lit (.string (bs8 (u8L (c.app l))))))) Q) : TD P K n D Q :=
  TD_val _ hg (fun _os _o ho => grow_b2s (with1D_op h ho)) kk
theorem TS_str (op : BinOp) (a b : List UInt8) {r : Bool} (hr : strOp op a b = some r) (h : C.with1 strArgs = some (op, bs8 a, bs8 b)) (hg : C.go1 n = true) (kk : TS P K n (C.ret (bool r)) Q) : TS P K n C Q :=
  TS_val _ hg (fun _os _o ho => grow_str hr (with1_op h ho)) kk
theorem TD_str (op : BinOp) (a b : List UInt8) {r : Bool} (hr : strOp op a b = some r) (h : D.with1 strArgs = some (op, bs8 a, bs8 b)) (hg : D.go1 n = true) (kk : TD P K n (D.ret (bool r)) Q) : TD P K n D Q :=
  TD_val _ hg (fun _os _o ho => grow_str hr (with1D_op h ho)) kk
theorem TS_slen (a : List UInt8) (h : C.with1 (slenArgs P) = some (bs8 a)) (hg : C.go1 n = true) (kk : TS P K n (C.ret (int .i64 a.length)) Q) : TS P K n C Q :=
  TS_val _ hg (fun _os _o ho => grow_slen (with1_op h ho)) kk
theorem TD_slen (a : List UInt8) (h : D.with1 (slenArgs P) = some (bs8 a)) (hg : D.go1 n = true) (kk : TD P K n (D.ret (int .i64 a.length)) Q) : TD P K n D Q :=
  TD_val _ hg (fun _os _o ho => grow_slen (with1D_op h ho)) kk
theorem TS_cpW {k : IntKind} (d off m : Nat) (l l2 : List Int) (c' : Cut) {pre post : List SC} (hpre : decide (pre.length = off) = true) (h : C.with1 (cpWArgs P off m) = some (d, pre, arrS k m l, post, l2.map (ecI k), c')) (hg : C.go1 n = true)
    (kk : TS P K n (C.next ((C.st.setR d (.box (pre ++ arrS k m (cpA m l (c'.app l2)) ++ post))).put C.dst (int .i64 (min (c'.app l2).length m : Nat)))) Q) : TS P K n C Q :=
  TS_upd (fun _os _o ho => upd_cpW hpre (with1_op h ho)) hg kk
theorem TD_cpW {k : IntKind} (d off m : Nat) (l l2 : List Int) (c' : Cut) {pre post : List SC} (hpre : decide (pre.length = off) = true) (h : D.with1 (cpWArgs P off m) = some (d, pre, arrS k m l, post, l2.map (ecI k), c')) (hg : D.go1 n = true)
    (kk : TD P K n (D.push ⟨D.need, D.dst, int .i64 (min (c'.app l2).length m : Nat), some (d, .box (pre ++ arrS k m (cpA m l (c'.app l2)) ++ post)), false⟩) Q) : TD P K n D Q :=
  TD_upd (fun _os _o ho => upd_cpW hpre (with1D_op h ho)) hg kk
end
end
/-! ## Loops run round by round; calls that return one new row, within statements whose order is drawn. -/
section
open Go.RowKit

section
variable {P : Program} {K : Ctx} {n : Nat} {Q : Exit → St → Prop} {C C0 : Cfg} {D : Dr}
/-- at most m rounds from here -/
def Unr (P : Program) (K : Ctx) (n : Nat) (c : Code) (Q : Exit → St → Prop) : Nat → St → Prop
  | 0, _ => False
  | m + 1, s => T P K n c s (thenQ (Unr P K n c Q m) Q)
theorem T_unr {c : Code} {s : St} (m : Nat) (h : Unr P K n c Q m s) : T P K n (.loop c) s Q := by
  refine T_loop (ι := Nat) (fun m s => Unr P K n c Q m s) (fun m => m) m h (fun m s hm => ?_)
  cases m with
  | zero => exact hm.elim
  | succ m =>
    refine T_mono hm (fun e s' q => ?_)
    cases e with
    | normal => exact ⟨m, q, Nat.lt_succ_self m⟩
    | exit i => exact q
    | goto i => exact q
    | ret => exact q
    | panic i => exact q
    | outgrown => exact q
def Cfg.loopC : Cfg → Code
  | .mk (.code (.loop c) :: _) .normal _ => c
  | _ => .skip
def unrQ (P : Program) (K : Ctx) (n : Nat) (C0 : Cfg) (m : Nat) (Q : Exit → St → Prop) : Exit → St → Prop := thenQ (Unr P K n C0.loopC (QS P K n C0.rest Q) m) (QS P K n C0.rest Q)
theorem TS_unr (m : Nat) (hC : C.isLoop = true) (k : TS P K n (C.body C.st) (unrQ P K n C m Q)) : TS P K n C Q := by
  unfold Cfg.isLoop at hC
  split at hC
  · exact T_unr (m + 1) k
  · cases hC
theorem TS_unrN {m : Nat} (he : C.ended = true) (hC : C0.isLoop = true) (k : TS P K n (C0.body C.st) (unrQ P K n C0 m Q)) : TS P K n C (unrQ P K n C0 (m + 1) Q) := by
  unfold Cfg.ended at he
  split at he
  · unfold Cfg.isLoop at hC
    split at hC
    · exact k
    · cases hC
  · cases he
theorem TS_unrX {m : Nat} (he : C.abn = true) (k : TS P K n (C.out C0.rest) Q) : TS P K n C (unrQ P K n C0 m Q) := by
  unfold Cfg.abn at he
  split at he
  · exact k
  · exact k
  · cases he
theorem vd_conX {ops : Array Oper} {o : Oper} {need : St} {f : FuncId} {vs A : List SV} {d e : Nat} {r : SV} {res : Res} (kss : List (List Nat)) (hgd : guardOf ops o need = some true) (hdst : o.dst = some d) (hdn : d < n) (hd6 : d < 1000000) (he6 : e < 1000000) (hc : calleeOf need o = some (f, vs)) (hb : hasBody P f = true) (hargs : castArgs kss vs = A) (hcl : A.all (fun v => v.every SC.closed) = true) (hres : res.isBox = false) (hr : r.every (SC.say (okN [(d, e)])) = true) (hp : Con P f A [] r [(e, res)]) :
    VD P n ops o ⟨need, some d, r.map (SC.ren (backL [(d, e)])), some (d, res), true⟩ := by
  intro K s hs hn
  have hnm : NM d s := hn rfl
  obtain ⟨m1, m2, m3⟩ := hnm
  have hback : backL [(d, e)] e = d := by simp [backL]
  have hnone : ∀ x, (look [(d, e)] x).isNone = (x != d) := by
    intro x
    rw [look_cons]
    by_cases hx : d = x
    · subst hx; simp
    · rw [if_neg hx]
      simp [look]
      exact fun h => hx h.symm
  have hfun : (fun x => (look [(d, e)] x).isNone) = fun x => x != d := funext hnone
  have hev : ∀ p, res.every p = true := by
    intro p
    cases res with
    | box cs => cases hres
    | row _ _ _ _ => rfl
    | spare _ _ _ => rfl
  have := S_conL (P := P) (K := K) (n := n) (ops := ops) (o := o) (s := s) (h := []) (h' := [(e, res)]) (r := r) kss [(d, e)] none (hs.guard hgd) (by simp [dstOk, hdst, hdn]) (hs.callee hc) hb hargs hcl rfl
    (by
      intro p hpm
      rw [List.mem_singleton.1 hpm]
      exact ⟨⟨⟨⟨⟨by simp [look_cons], by simpa using hd6⟩, by simpa using hback⟩, by simp [look_cons]⟩, by simp [m1]⟩, by simpa using he6⟩)
    (by
      intro t v hv
      rw [hdst, hfun]
      by_cases ht : t = d
      · subst ht; simp
      · rw [m2 t v hv (by intro h; cases h; exact ht rfl), Bool.or_true])
    (by
      intro d' r hr
      rw [hfun]
      exact m3 d' r hr)
    hr
    (by
      intro q hq
      rw [List.mem_singleton.1 hq]
      simp [hev])
    hp
  refine this.sim ?_
  have hmap : ∀ m, res.map m = res := by
    intro m
    cases res with
    | box cs => cases hres
    | row _ _ _ _ => rfl
    | spare _ _ _ => rfl
  have e1 : s.after [(e, res)] r [(d, e)] none o.dst = St.put { s with hp := (d, res) :: s.hp } (some d) (r.map (SC.ren (backL [(d, e)]))) := by
    rw [hdst]
    simp [St.after, newsHp, hpAfter, look_cons, hmap]
  rw [e1]
  refine ⟨fun k => rfl, fun k => ?_⟩
  simp only [DD.app, put_hp, St.setR]
  rw [look_cons, look_setL]
theorem TD_conX {f : FuncId} {A : List SV} {d e : Nat} {r : SV} {res : Res} (kss : List (List Nat)) (hp : Con P f A [] r [(e, res)]) (hc : D.callee kss = some (f, A)) (hg : (D.okNew n d && hasBody P f && decide (e < 1000000) && A.all (fun v => v.every SC.closed) && !res.isBox && r.every (SC.say (okN [(d, e)]))) = true)
    (k : TD P K n (D.push ⟨D.need, some d, r.map (SC.ren (backL [(d, e)])), some (d, res), true⟩) Q) : TD P K n D Q := by
  simp only [Bool.and_eq_true, decide_eq_true_eq, Bool.not_eq_true'] at hg
  obtain ⟨⟨⟨⟨⟨g1, g2⟩, g3⟩, g4⟩, g5⟩, g6⟩ := hg
  obtain ⟨os, o, ho, h1, h2, h3, h4⟩ := okNewD_spec g1
  obtain ⟨vs, h5, h6⟩ := calleeD_op hc ho
  exact push_ok ho (vd_conX kss h1 h2 h3 h4 g3 h5 g2 h6 g4 g5 g6 hp) rfl k
end
end
end Go.Proofs.Ytohfnlkjdjmipaa
