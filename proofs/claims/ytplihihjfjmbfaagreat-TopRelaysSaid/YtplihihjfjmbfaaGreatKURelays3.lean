/-
  Part 3 of what the proof of this law rests on.
-/
import Derived.Test.YtplihihjfjmbfaaGreatKURelays2
namespace Go.Proofs.YtplihihjfjmbfaaGreat
section
section
open Go.RowKit

section
variable {P : Program} {K K2 : Ctx} {n m : Nat} {Q : Exit → St → Prop} {C C' : Cfg} {X ρ : Type}
theorem fin_spec (h : C'.fin = true) : ∃ s, C' = .mk [] .normal s ∨ C' = .mk [] .ret s := by
  unfold Cfg.fin at h
  split at h
  · exact ⟨_, .inl rfl⟩
  · exact ⟨_, .inr rfl⟩
  · cases h
theorem TS_inlRet {rs : List ResultVar} {r : SV} (he : C'.fin = true) (h : (resL P C'.st [] rs).bind resV = some r) (k : TS P K n (C.next (St.put ⟨unghost C'.st.tmps, C'.st.hp⟩ C.dst r)) Q) : TS P K2 m C' (inlQ P K n C rs Q) := by
  obtain ⟨xs, h1, h2⟩ := Option.bind_eq_some_iff.1 h
  obtain ⟨s, rfl | rfl⟩ := fin_spec he
  · exact ⟨xs, r, h1, h2, k⟩
  · exact ⟨xs, r, h1, h2, k⟩
def inlJ (P : Program) (K : Ctx) (n : Nat) (C : Cfg) (rs : List ResultVar) (S : X → St) (j : X → Option ρ) (r : ρ) : Exit → St → Prop
  | .normal, s => ∃ xs rr v, resL P s [] rs = some xs ∧ resV xs = some rr ∧ j v = some r ∧ ∀ a w, R K n a w (St.put ⟨unghost s.tmps, s.hp⟩ C.dst rr) → R K n a w (S v)
  | .ret, s => ∃ xs rr v, resL P s [] rs = some xs ∧ resV xs = some rr ∧ j v = some r ∧ ∀ a w, R K n a w (St.put ⟨unghost s.tmps, s.hp⟩ C.dst rr) → R K n a w (S v)
  | _, _ => False
theorem TS_inlineJ {f : FuncId} {A : List SV} {fn : Func} {c : Code} (m : Nat) (hf : P.funcs[f]? = some fn) (hb : fn.body = some c) (hn : fn.ntmps = m) (f0 : Fit) (tv : X → List (Nat × SV)) (rv : X → List (Nat × Res)) (j : X → Option ρ) (r : ρ) (hc : C.callee [] = some (f, A)) (hg : (C.go1 n && hasBody P f && decide (A.length ≤ m ∧ m ≤ 2000000)) = true)
    (hj : ∀ v, j v = some r → TS P K n (C.next ((baseS f0 C.st).overs (tv v) (rv v))) Q)
    (k : ∀ K', TS P K' m (.mk [.code c] .normal ⟨initT 0 A ++ ghostL C.st.tmps, C.st.hp⟩) (inlJ P K n C fn.results.toList (fun v => (baseS f0 C.st).overs (tv v) (rv v)) j r)) : TS P K n C Q := by
  refine TS_inline m hf hb hn hc hg (fun K' => ?_)
  refine T_mono (k K') (fun e s hq => ?_)
  have hpre : ∀ s0, (C.next s0).pre = true := by
    intro s0
    simp only [Bool.and_eq_true] at hg
    obtain ⟨os, o, ho, _⟩ := go1_spec hg.1.1
    unfold Cfg.op at ho
    split at ho
    · cases ho; rfl
    · cases ho
  have hst : ∀ s0, (C.next s0).st = s0 ∧ ∀ s1, (C.next s0).withS s1 = C.next s1 := by
    intro s0
    simp only [Bool.and_eq_true] at hg
    obtain ⟨os, o, ho, _⟩ := go1_spec hg.1.1
    unfold Cfg.op at ho
    split at ho
    · cases ho; exact ⟨rfl, fun _ => rfl⟩
    · cases ho
  have fin : (∃ xs rr v, resL P s [] fn.results.toList = some xs ∧ resV xs = some rr ∧ j v = some r ∧ ∀ a w, R K n a w (St.put ⟨unghost s.tmps, s.hp⟩ C.dst rr) → R K n a w ((baseS f0 C.st).overs (tv v) (rv v))) → ∃ xs r, resL P s [] fn.results.toList = some xs ∧ resV xs = some r ∧ TS P K n (C.next (St.put ⟨unghost s.tmps, s.hp⟩ C.dst r)) Q := by
    rintro ⟨xs, rr, v, h1, h2, h3, h4⟩
    refine ⟨xs, rr, h1, h2, TS_state ((baseS f0 C.st).overs (tv v) (rv v)) (fun a w hr => h4 a w (by rw [(hst _).1] at hr; exact hr)) (hpre _) ?_⟩
    rw [(hst _).2]
    exact hj v h3
  cases e <;> first | exact fin hq | exact hq
theorem TS_inlMeet {rs : List ResultVar} {S : X → St} {j : X → Option ρ} {r : ρ} {rr : SV} (v : X) (f : Fit) (hj : j v = some r) (he : C'.fin = true) (h : (resL P C'.st [] rs).bind resV = some rr) (hf : fitS f (St.put ⟨unghost C'.st.tmps, C'.st.hp⟩ C.dst rr) = some (S v)) : TS P K2 m C' (inlJ P K n C rs S j r) := by
  obtain ⟨xs, h1, h2⟩ := Option.bind_eq_some_iff.1 h
  obtain ⟨s, rfl | rfl⟩ := fin_spec he
  · exact ⟨xs, rr, v, h1, h2, hj, fun a w hr => hr.fit f hf⟩
  · exact ⟨xs, rr, v, h1, h2, hj, fun a w hr => hr.fit f hf⟩
def arrL (n : Nat) (l : List Int) : List Int := (List.range n).map fun i => l.getD i 0
/-- the start of the body that is called -/
def Cfg.inl (C : Cfg) (c : Code) : Cfg := match C.callee [] with
  | some (_, A) => .mk [.code c] .normal ⟨initT 0 A ++ ghostL C.st.tmps, C.st.hp⟩
  | none => .bad
def Cfg.inlOk (P : Program) (n m f : Nat) (C : Cfg) : Bool := match C.callee [] with
  | some (f', A) => f' == f && (C.go1 n && hasBody P f && decide (A.length ≤ m ∧ m ≤ 2000000))
  | none => false
theorem inlOk_spec {f : Nat} {c : Code} (h : C.inlOk P n m f = true) : ∃ A, C.callee [] = some (f, A) ∧ (C.go1 n && hasBody P f && decide (A.length ≤ m ∧ m ≤ 2000000)) = true ∧ C.inl c = .mk [.code c] .normal ⟨initT 0 A ++ ghostL C.st.tmps, C.st.hp⟩ := by
  unfold Cfg.inlOk at h
  split at h
  · rename_i f' A hc
    rw [Bool.and_eq_true] at h
    have : f' = f := by simpa using h.1
    subst this
    exact ⟨A, hc, h.2, by simp only [Cfg.inl, hc]⟩
  · cases h
theorem TS_inl {f : FuncId} {fn : Func} {c : Code} (m : Nat) (hf : P.funcs[f]? = some fn) (hb : fn.body = some c) (hn : fn.ntmps = m) (hg : C.inlOk P n m f = true) (k : ∀ K', TS P K' m (C.inl c) (inlQ P K n C fn.results.toList Q)) : TS P K n C Q := by
  obtain ⟨A, h1, h2, h3⟩ := inlOk_spec (c := c) hg
  exact TS_inline m hf hb hn h1 h2 (fun K' => h3 ▸ k K')
theorem TS_inlJ {f : FuncId} {fn : Func} {c : Code} (m : Nat) (hf : P.funcs[f]? = some fn) (hb : fn.body = some c) (hn : fn.ntmps = m) (f0 : Fit) (tv : X → List (Nat × SV)) (rv : X → List (Nat × Res)) (j : X → Option ρ) (r : ρ) (hg : C.inlOk P n m f = true)
    (hj : ∀ v, j v = some r → TS P K n (C.next ((baseS f0 C.st).overs (tv v) (rv v))) Q)
    (k : ∀ K', TS P K' m (C.inl c) (inlJ P K n C fn.results.toList (fun v => (baseS f0 C.st).overs (tv v) (rv v)) j r)) : TS P K n C Q := by
  obtain ⟨A, h1, h2, h3⟩ := inlOk_spec (c := c) hg
  exact TS_inlineJ m hf hb hn f0 tv rv j r h1 h2 hj (fun K' => h3 ▸ k K')
def Cfg.back (P : Program) (C' : Cfg) (rs : List ResultVar) (dst : Option Tmp) : St := St.put ⟨unghost C'.st.tmps, C'.st.hp⟩ dst (((resL P C'.st [] rs).bind resV).getD (.tup []))
theorem TS_inlR {rs : List ResultVar} (he : C'.fin = true) (h : ((resL P C'.st [] rs).bind resV).isSome = true) (k : TS P K n (C.next (C'.back P rs C.dst)) Q) : TS P K2 m C' (inlQ P K n C rs Q) := by
  obtain ⟨r, hr⟩ := Option.isSome_iff_exists.1 h
  refine TS_inlRet he hr ?_
  simp only [Cfg.back, hr, Option.getD_some] at k
  exact k
theorem TS_inlM {rs : List ResultVar} {S : X → St} {j : X → Option ρ} {r : ρ} (v : X) (f : Fit) (hj : j v = some r) (he : C'.fin = true) (h : ((resL P C'.st [] rs).bind resV).isSome = true) (hf : fitS f (C'.back P rs C.dst) = some (S v)) : TS P K2 m C' (inlJ P K n C rs S j r) := by
  obtain ⟨rr, hr⟩ := Option.isSome_iff_exists.1 h
  refine TS_inlMeet v f hj he hr ?_
  simp only [Cfg.back, hr, Option.getD_some] at hf
  exact hf
end
end
section
open Go.RowKit

def capsS (s : St) : List Operand → Option (List SC)
  | [] => some []
  | x :: l => match opd s x, capsS s l with
    | some (.c (.clo _ _)), _ => none
    | some (.c y), some r => some (y :: r)
    | _, _ => none
theorem capsS_spec {s : St} : ∀ (l : List Operand) (r : List SC), capsS s l = some r → l.length = r.length ∧ ∀ (i : Nat) (x : Operand) (y : SC), l[i]? = some x → r[i]? = some y → opd s x = some (.c y) ∧ ∀ f cs, y ≠ .clo f cs
  | [], r, h => by cases h; exact ⟨rfl, fun i x y h1 => by simp at h1⟩
  | x :: l, r, h => by
    simp only [capsS] at h
    split at h
    · cases h
    · rename_i y r' hne hx hr
      cases h
      obtain ⟨k1, k2⟩ := capsS_spec l r' hr
      refine ⟨by simp [k1], fun i x' y' h1 h2 => ?_⟩
      cases i with
      | zero =>
        simp at h1 h2; subst h1; subst h2
        exact ⟨hx, fun f cs q => by subst q; exact hne f cs rfl⟩
      | succ i => simp at h1 h2; exact k2 i x' y' h1 h2
    · cases h
section
variable {P : Program} {o : Oper} {s : St}
def mkfArgs (s : St) (o : Oper) : Option (Nat × List SC) := match o.op with
  | .makeFunc (.func f) first caps => if f < 1000000 then (capsS s (first.toList ++ caps.toList)).map fun cs => (f + 1000000 * first.size, cs) else none
  | _ => none
theorem grow_mkf {f : Nat} {cs : List SC} (h : mkfArgs s o = some (f, cs)) : GrowOp P o s (.c (.clo f cs)) := by
  unfold mkfArgs at h
  split at h
  rotate_left
  · cases h
  rename_i f' first caps ho
  split at h
  rotate_left
  · cases h
  rename_i h0
  obtain ⟨cs', h1, h2⟩ := Option.map_eq_some_iff.1 h
  cases h2
  obtain ⟨k1, k2⟩ := capsS_spec _ _ h1
  refine PureOp.grow fun g rd A w hview => ?_
  have hd : (f' + 1000000 * first.size) / 1000000 = first.size := by rw [Nat.add_mul_div_left _ _ (by decide), Nat.div_eq_of_lt h0, Nat.zero_add]
  have hm : (f' + 1000000 * first.size) % 1000000 = f' := by rw [Nat.add_mul_mod_self_left, Nat.mod_eq_of_lt h0]
  refine ⟨.func (.func f') (first.map A.eval) (caps.map A.eval), by simp [execOp, ho, Instr.makeFunc], first.map A.eval ++ caps.map A.eval, ?_, by simpa using k1, fun j y hy => ?_⟩
  · rw [hd, hm]
    have e1 : (first.map A.eval ++ caps.map A.eval).extract 0 first.size = first.map A.eval := by
      rw [Array.extract_append]
      simp
    have e2 : (first.map A.eval ++ caps.map A.eval).extract first.size (first.map A.eval ++ caps.map A.eval).size = caps.map A.eval := by
      refine Array.ext (by simp) fun i h1 h2 => ?_
      rw [Array.getElem_extract, Array.getElem_append_right (by simp)]
      simp
    rw [e1, e2]
  have hj : j < (first.toList ++ caps.toList).length := by have := (List.getElem?_eq_some_iff.1 hy).1; omega
  obtain ⟨q1, q2⟩ := k2 j _ y (List.getElem?_eq_getElem hj) hy
  have hm : (first.toList ++ caps.toList)[j] ∈ o.op.operands.toList := by
    rw [ho]
    simp only [Op.operands, Array.toList_append]
    exact List.getElem_mem hj
  have := hview.op _ _ hm q1
  refine ⟨A.eval (first.toList ++ caps.toList)[j], ?_, CRel.down q2 this⟩
  rw [← Array.map_append, Array.getElem?_map, ← Array.getElem?_toList, Array.toList_append, List.getElem?_eq_getElem hj]
  rfl
variable {K : Ctx} {n : Nat} {Q : Exit → St → Prop} {C : Cfg}
variable {D : Dr}
theorem TS_mkf {f : Nat} {cs : List SC} (h : C.with1 mkfArgs = some (f, cs)) (hg : C.go1 n = true) (kk : TS P K n (C.ret (.c (.clo f cs))) Q) : TS P K n C Q := TS_val _ hg (fun _os _o ho => grow_mkf (with1_op h ho)) kk
end
end
section
open Go.RowKit

section
variable {P : Program} {o : Oper} {s : St} {α : Type}
theorem preOf_look {v : SV} {d e sz N m : Nat} {xs : List (List SC)} (h : preOf s v = some (d, e, sz, N, xs, m)) : look s.hp d = some (.row e sz N xs) := by
  unfold preOf at h
  split at h
  · split at h
    · rename_i hl; cases h; exact hl
    · cases h
  · split at h
    · rename_i hl; cases h; exact hl
    · cases h
  · cases h
/-- append that stays within the row: its contents change, its token does not -/
theorem upd_appP {d e sz by_ N m : Nat} (f : α → List SC) (hone : ∀ x, (f x).all SC.one = true) {l1 l2 : List α} {c : Cut} (hc : decide (m + (c.app l2).length ≤ l1.length) = true) (h : appRArgs P s o = some (d, e, sz, by_, N, l1.map f, m, l2.map f, c)) :
    UpdOp P o s d (.row e sz N (l1.map f)) (.row e sz (l1.take m ++ c.app l2 ++ l1.drop (m + (c.app l2).length)).length ((l1.take m ++ c.app l2 ++ l1.drop (m + (c.app l2).length)).map f)) (.c (.row d (m + (c.app l2).length))) := by
  unfold appRArgs at h
  split at h
  rotate_left
  · cases h
  rename_i xs ts ho
  split at h
  rotate_left
  · cases h
  rename_i x y t t' hxs hts
  have hxs' : xs = #[x, y] := by rw [← Array.toArray_toList (xs := xs), hxs]
  have hts' : ts = #[t, t'] := by rw [← Array.toArray_toList (xs := ts), hts]
  subst hxs'
  subst hts'
  split at h
  rotate_left
  · cases h
  rename_i e1 hu
  split at h
  rotate_left
  · cases h
  rename_i ie hi
  split at h
  rotate_left
  · cases h
  rename_i d1 e1' sz1 N1 a1 m1 b1 c1 hx hy
  split at h
  rotate_left
  · cases h
  rename_i hq
  obtain ⟨rfl, hz, hs0, rfl, rfl⟩ := hq
  cases h
  obtain ⟨vx, hx1, hx2⟩ := Option.bind_eq_some_iff.1 hx
  obtain ⟨vy, hy1, hy2⟩ := Option.bind_eq_some_iff.1 hy
  have hc' := of_decide_eq_true hc
  have hl := preOf_look hx2
  refine ⟨hl, rfl, fun _ _ _ hf => hf, fun g rd A w hview => ?_⟩
  have hvx := hview.op x _ (by simp [ho, Op.operands, Call.operands]) hx1
  have hsrc := srcS_rel hy2 hview (hview.op y _ (by simp [ho, Op.operands, Call.operands]) hy1)
  rw [Cut.map] at hsrc
  obtain ⟨us, hown, hlenx, hrowx⟩ := hview.holds d _ hl
  obtain ⟨ax, cx, hV, hVc, hVm, hvl, hblk⟩ := tk_slice hown
  have hlx : l1.length = N := by rw [List.length_map] at hlenx; exact hlenx
  have hul := hown.1
  have hpre : A.eval x = .slice ax m cx ∧ m ≤ N := by
    unfold preOf at hx2
    split at hx2
    · split at hx2
      · cases hx2
        obtain ⟨q1, _⟩ := hvx
        exact ⟨by rw [q1, hV], Nat.le_refl _⟩
      · cases hx2
    · split at hx2
      · cases hx2
        obtain ⟨ax', N', cx', q1, q2, q3⟩ := hvx
        rw [hV] at q1
        cases q1
        exact ⟨q2, q3⟩
      · cases hx2
    · cases hx2
  obtain ⟨hvx', hmN⟩ := hpre
  generalize hl2' : c.app l2 = l2' at *
  generalize hvy : A.eval y = uy at *
  obtain ⟨ay, cy, vals, rfl, hlv, hrow, hwhere, _⟩ := hsrc
  rw [List.length_map] at hlv
  simp only [execOp, ho, resolve, invoke, builtin, Sem.run_bind, Sem.run_pure, Result.andThen_ok, List.map_toArray, List.map_cons, List.map_nil, hvx', hvy, List.length_map]
  have hvr : ∀ rd' : Rd, VRel rd' g (.slice ax (m + l2'.length) cx) (.c (.row d (m + l2'.length))) := fun rd' => ⟨ax, N, cx, hV, rfl, by omega⟩
  by_cases hl2 : l2' = []
  · subst hl2
    simp only [List.length_nil, Nat.add_zero, List.append_nil, List.take_append_drop] at hvr ⊢
    rw [run_append_zero t o.type e ie hu hi ax ay m cx cy (by omega)]
    simp only [Result.andThen_ok]
    exact ⟨_, _, rfl, Keep.refl _ _, .inr ⟨_, rfl, fun rd' _ => hvr rd'⟩, fun rd' hle => ⟨us, by rw [hlx]; exact hown, by simp, hrowx.mono hle⟩⟩
  have hpos : 0 < l2'.length := List.length_pos_iff.2 hl2
  obtain ⟨ad, rfl, hcells⟩ : ∃ ad, ay = some ad ∧ ∀ j v, vals[j]? = some v → w.cell? (ad.add j) = some v := by
    rcases hwhere with h0 | h0
    · exact absurd (List.map_eq_nil_iff.1 h0) hl2
    · exact h0
  have h1v := SrcIs.one hs0 (by rw [List.length_map]; exact hlv) hrow (fun x hx => by obtain ⟨y, _, rfl⟩ := List.mem_map.1 hx; exact hone y)
  rcases hblk with h0 | ⟨gb, hgb, hbk⟩
  · omega
  subst hgb
  have hbound : m * ie.size + vals.length ≤ N * ie.size := by rw [hlv, ← Nat.add_mul]; exact Nat.mul_le_mul_right _ (by omega)
  have hcell : ∀ j, j < vals.length → ∃ u, w.cell? ⟨gb, m * ie.size + j, none⟩ = some u := by
    intro j hj
    have := hown.cells hbk (m * ie.size + j) _ (List.getElem?_eq_getElem (by omega))
    rw [addr_add, Nat.zero_add] at this
    exact ⟨_, this⟩
  have hst := run_storeCells_cells (P := P) gb (m * ie.size) vals 0 w
    (fun j hj => by obtain ⟨u, q⟩ := hcell j hj; rw [Nat.add_zero, q]; rfl)
    (fun j hj => by
      rcases hown.2 with ⟨q, _⟩ | ⟨gb', cap, cur, q1, _, q2, _⟩
      · rw [q] at hbk; cases hbk
      · rw [q1] at hbk; cases hbk
        simp [World.frozen?, q2]) h1v
  simp only [Nat.add_zero] at hst
  obtain ⟨o1, o2⟩ := own_write hown hbk (m * ie.size) vals hbound
  have hfc := run_firstCells_some (P := P) w ie.size l2'.length ad l2'.length cy vals hlv hcells
  have hrun : (Builtin.append_ #[t, t] o.type #[.slice (some ⟨gb, 0, none⟩) m cx, .slice (some ad) l2'.length cy]).run P w = .ok (.slice (some ⟨gb, 0, none⟩) (m + l2'.length) cx) (w.setCells gb (m * ie.size) vals) := by
    have hroom : m + l2'.length ≤ cx := by omega
    simp [Builtin.append_, run_underlying hu, Builtin.lenOf, sizeOf, typeInfo, hi, hfc, addr_add, hst, hroom]
  rw [hrun]
  simp only [Result.andThen_ok]
  refine ⟨_, _, rfl, o2, .inr ⟨_, rfl, fun rd' _ => hvr rd'⟩, fun rd' hle => ⟨_, (by
    have hlN : (l1.take m ++ l2' ++ l1.drop (m + l2'.length)).length = N := by
      simp only [List.length_append, List.length_take, List.length_drop]
      omega
    rw [hlN]; exact o1), by simp, ?_⟩⟩
  · rw [List.map_append, List.map_append]
    refine RowIs.mono hle ?_
    have e1 : RowIs rd ie.size (us.take (m * ie.size)) ((l1.take m).map f) := by
      have := hrowx.cut 0 m
      simpa [List.map_take] using this
    have e3 : RowIs rd ie.size (us.drop (m * ie.size + vals.length)) ((l1.drop (m + l2'.length)).map f) := by
      have := hrowx.cut (m + l2'.length) (N - (m + l2'.length))
      have q : (us.drop ((m + l2'.length) * ie.size)).take ((N - (m + l2'.length)) * ie.size) = us.drop ((m + l2'.length) * ie.size) := List.take_of_length_le (by rw [List.length_drop, hul, ← Nat.sub_mul]; exact Nat.le_refl _)
      have q' : ((l1.map f).drop (m + l2'.length)).take (N - (m + l2'.length)) = (l1.drop (m + l2'.length)).map f := by
        rw [List.map_drop]; exact List.take_of_length_le (by rw [List.length_drop, hlenx]; exact Nat.le_refl _)
      rw [q, q', Nat.add_mul, ← hlv] at this
      exact this
    refine (e1.append hrow ?_).append e3 ?_
    · simp only [List.length_map, List.length_take]; rw [Nat.min_eq_left (by rw [hul]; omega), Nat.min_eq_left (by omega)]
    · simp only [List.length_map, List.length_append, List.length_take]; rw [Nat.min_eq_left (by rw [hul]; omega), Nat.min_eq_left (by omega), hlv, Nat.add_mul]

variable {K : Ctx} {n : Nat} {Q : Exit → St → Prop} {C : Cfg} {D : Dr}
theorem TD_appP (d e sz by_ N m : Nat) (f : α → List SC) (hone : ∀ x, (f x).all SC.one = true) {l1 l2 : List α} (c : Cut) (hc : decide (m + (c.app l2).length ≤ l1.length) = true) (h : D.with1 (appRArgs P) = some (d, e, sz, by_, N, l1.map f, m, l2.map f, c)) (hg : D.go1 n = true)
    (kk : TD P K n (D.push ⟨D.need, D.dst, .c (.row d (m + (c.app l2).length)), some (d, .row e sz (l1.take m ++ c.app l2 ++ l1.drop (m + (c.app l2).length)).length ((l1.take m ++ c.app l2 ++ l1.drop (m + (c.app l2).length)).map f)), false, none⟩) Q) : TD P K n D Q :=
  TD_upd (fun _os _o ho => upd_appP f hone hc (with1D_op h ho)) hg kk
end
end
section
open Go.RowKit

def castS (kss : List (List Nat)) : SV → SV
  | .tup vs => .tup ((List.range vs.length).map fun i => castF (kss.getD i []) (vs.getD i (false, [])))
  | x => castV (kss.getD 0 []) x
theorem castS_rel {rd : Rd} {g : Env} {v : Value} {x : SV} (kss : List (List Nat)) (h : VRel rd g v x) : VRel rd g v (castS kss x) := by
  cases x with
  | c x => exact castV_rel _ h
  | agg cs => exact castV_rel _ h
  | tup xs =>
    obtain ⟨vs, h1, h2, h3⟩ := h
    refine ⟨vs, h1, by simpa using h2, fun j x hx => ?_⟩
    have hj : j < xs.length := by have := (List.getElem?_eq_some_iff.1 hx).1; simpa using this
    rw [List.getElem?_map, List.getElem?_range hj] at hx
    cases hx
    obtain ⟨u, h4, h5⟩ := h3 j xs[j] (List.getElem?_eq_getElem hj)
    refine ⟨u, h4, castF_rel _ ?_⟩
    simpa [List.getD_eq_getElem?_getD, List.getElem?_eq_getElem hj] using h5
theorem con_drop {P : Program} {f : FuncId} {A : List SV} {h h' h2 : Hp} {r r2 : SV} (kss : List (List Nat)) (spec : List (Nat × List Nat)) (hp : Con P f A h r h') (hr : castS kss r = r2) (hh : pickH h' spec = some h2) (hd : (h2.all fun p => p.2.isBox) = true) : Con P f A h r2 h2 := by
  intro rd g w us a1 a2 a3 a4 a5 a6
  refine (hp rd g w us a1 a2 a3 a4 a5 a6).mono ?_
  rintro e w' ⟨u, g', rfl, hk, hpos, hin, hdis, hnew, hres⟩
  subst hr
  have hl : ∀ d x, look h2 d = some x → ∃ x0 ks, look h' d = some x0 ∧ x = castR ks x0 := pickH_look spec hh
  have hft : ∀ b o, InFoot g' h2 b o → InFoot g' h' b o := by
    rintro b o ⟨d, x, q1, q2⟩
    obtain ⟨x0, ks, q3, rfl⟩ := hl d x q1
    rw [castR_foot] at q2
    exact ⟨d, x0, q3, q2⟩
  refine ⟨u, g', rfl, hk, ?_, fun b o q => hin b o (hft b o q), ?_, ?_, ?_⟩
  · intro d cs hd6 hx
    obtain ⟨x0, ks, q3, q4⟩ := hl d _ hx
    cases x0 with
    | box c => exact hpos d c hd6 q3
    | row => cases q4
    | spare => cases q4
    | mp => cases q4
  · intro d d' r1 r2 b o hne q1 q2 q3 q4
    obtain ⟨x0, ks, q5, rfl⟩ := hl d _ q1
    obtain ⟨x1, ks1, q6, rfl⟩ := hl d' _ q2
    rw [castR_foot] at q3 q4
    exact hdis d d' x0 x1 b o hne q5 q6 q3 q4
  · intro d x q1 q2
    have := List.all_eq_true.1 hd _ (look_mem q1)
    rw [this] at q2
    cases q2
  · intro rd' hle hs
    obtain ⟨k1, k2⟩ := hres rd' hle (fun b o u q1 q2 q3 => hs b o u q1 (fun q => q2 (hft b o q)) q3)
    refine ⟨castS_rel kss k1, fun d x hx => ?_⟩
    obtain ⟨x0, ks, q5, rfl⟩ := hl d _ hx
    exact castR_holds ks (k2 d x0 q5)
section
variable {P : Program} {K : Ctx} {n : Nat} {Q : Exit → St → Prop} {C : Cfg} {g : Env} {a : Act} {w : World} {s : St}
/-- a nil in a slot as an own row -/
theorem RG.nilRow (h : RG K g n a w s) (d e sz : Nat) (hd6 : d < 1000000) (hf : NoName s d none) : RG K (g.setTk d (.slice none 0 0, undef) (0, 0)) n a w (s.setR d (.row e sz 0 [])) :=
  (h.add (g' := g.setTk d (.slice none 0 0, undef) (0, 0)) (w' := w) (r := .row e sz 0 []) hd6 hf (fun e he => by simp [Env.setTk, he]) (Ext.refl w) (fun b o hb => by
      simp [Foot, Env.setTk, Value.ownBlock] at hb) (fun hle => ⟨[], by simpa [Env.setTk] using World.ownsRow_nil w 0 e sz, rfl, by simp, by simp⟩)).1
def nilR (s : St) (t d e sz : Nat) : Option St := match look s.tmps t with
  | some (.c (.lit (.slice none 0 0))) => if decide (d < 1000000) && s.noname d none then some ((s.setR d (.row e sz 0 [])).put (some t) (.c (.own d))) else none
  | _ => none
theorem R.nilR {s' : St} (h : R K n a w s) {t d e sz : Nat} (hs : nilR s t d e sz = some s') : R K n a w s' := by
  obtain ⟨g, h⟩ := h
  unfold Go.Proofs.YtplihihjfjmbfaaGreat.nilR at hs
  split at hs
  · rename_i hl
    split at hs
    · rename_i hq
      simp only [Bool.and_eq_true, decide_eq_true_eq] at hq
      cases hs
      have h1 := h.nilRow d e sz hq.1 (noname_spec hq.2)
      refine ⟨_, h1.recast (t := t) hl (fun u hu => ?_)⟩
      rw [rel_lit hu]
      exact ⟨by simp [Env.setTk], .inl ⟨none, 0, 0, by simp [Env.setTk]⟩⟩
    · cases hs
  · cases hs
theorem TS_nilR (t d e sz : Nat) (he : C.pre = true) (k : TS P K n (C.st2 (nilR C.st t d e sz)) Q) : TS P K n C Q := TS_st2 (fun _ _ _ hs r => r.nilR hs) he k
end
section
variable {P : Program} {K : Ctx} {n : Nat} {Q : Exit → St → Prop} {C : Cfg} {D : Dr} {o : Oper} {s : St}
def ncArgs (_ : Program) (s : St) (o : Oper) : Option (Nat × Nat × Nat × Nat) := match o.op with
  | .nilCheck x => match opd s x with
    | some (.c (.elt d sz i off)) => some (d, sz, i, off)
    | _ => none
  | _ => none
theorem grow_nc {d sz i off : Nat} (h : ncArgs P s o = some (d, sz, i, off)) : GrowOp P o s (.c (.elt d sz i off)) := by
  unfold ncArgs at h
  split at h
  rotate_left
  · cases h
  rename_i x ho
  split at h
  rotate_left
  · cases h
  rename_i hx
  cases h
  refine PureOp.grow fun g rd A w hview => ?_
  have hr := hview.op x _ (by simp [ho, Op.operands]) hx
  obtain ⟨b, N, c, h1, h2⟩ := hr
  exact ⟨_, by simp [execOp, ho, h2], ⟨b, N, c, h1, rfl⟩⟩
theorem TS_nc (d sz i off : Nat) (h : C.with1 (ncArgs P) = some (d, sz, i, off)) (hg : C.go1 n = true) (kk : TS P K n (C.ret (.c (.elt d sz i off))) Q) : TS P K n C Q :=
  TS_val _ hg (fun _os _o ho => grow_nc (with1_op h ho)) kk
theorem TD_nc (d sz i off : Nat) (h : D.with1 (ncArgs P) = some (d, sz, i, off)) (hg : D.go1 n = true) (kk : TD P K n (D.ret (.c (.elt d sz i off))) Q) : TD P K n D Q :=
  TD_val _ hg (fun _os _o ho => grow_nc (with1D_op h ho)) kk
end
end
section
open Go.RowKit

def codeAt : List Nat → Code → Code
  | [], c => c
  | 0 :: p, .seq a _ => codeAt p a
  | _ :: p, .seq _ b => codeAt p b
  | 0 :: p, .cond _ a _ => codeAt p a
  | _ :: p, .cond _ _ b => codeAt p b
  | _ :: p, .block _ a => codeAt p a
  | _ :: p, .loop a => codeAt p a
  | _ :: p, .scope a => codeAt p a
  | _, c => c
def bodyOf (f : Func) : Code := match f.body with
  | some c => c
  | none => .skip
def opsOf : Code → Array Oper
  | .region _ ops _ => ops
  | _ => #[]
def opsFr (c : Code) (i : Nat) : Fr := .ops (opsOf c) ((opsOf c).toList.drop i)
section
variable {P : Program} {K : Ctx} {n : Nat} {Q : Exit → St → Prop} {C : Cfg}
theorem TS_cut (f : Fit) (C' : Cfg) (he : C.pre = true) (h : C.fit f = C') (k : TS P K n C' Q) : TS P K n C Q := TS_fitU f he (h ▸ k)
end
end
section
open Go.RowKit

section
variable {P : Program} {K : Ctx} {n : Nat} {Q : Exit → St → Prop} {C : Cfg} {D : Dr}
end
section
variable {P : Program} {K : Ctx} {n : Nat} {Q : Exit → St → Prop} {C : Cfg} {g : Env} {a : Act} {w : World} {s : St}
end
end
section
open Go.RowKit

def SC.renG (d : Nat) : SC → SC
  | .slc s tag n xs => .slc s (if tag = 1000003 then d + 2 else tag) n xs
  | x => x
def SC.okG : SC → Bool
  | .slc s tag n xs => tag == 1000003 || (SC.slc s tag n xs).closed
  | x => x.closed
theorem okG_cases {x : SC} (h : x.okG = true) : (∃ s n xs, x = .slc s 1000003 n xs) ∨ (x.closed = true ∧ ∀ d, x.renG d = x) := by
  cases x with
  | slc s tag n xs =>
    by_cases ht : tag = 1000003
    · subst ht; exact .inl ⟨s, n, xs, rfl⟩
    · exact .inr ⟨by simpa [SC.okG, ht] using h, fun d => by simp [SC.renG, ht]⟩
  | _ => exact .inr ⟨h, fun d => rfl⟩
/-- the function, called with a row and the room behind it, returns this, and leaves the row so long -/
def ConG (P : Program) (f : FuncId) (args : List SV) (el sz N : Nat) (r : SV) (N' : Nat) : Prop :=
  ∀ (rd : Rd) (g : Env) (w : World) (us : Array Value), (∀ b o v, rd b o = some v → w.cell? ⟨b, o, none⟩ = some v) → us.size = args.length → (∀ (i : Nat) (x : SV), args[i]? = some x → ∃ u, us[i]? = some u ∧ VRel rd g u x) →
    Holds rd g w 1000001 (.spare el sz N) → (∀ b o, Foot g 1000001 (.spare el sz N) b o → rd b o = none) →
    Calls P f us w fun e w' => ∃ u g', e = .returned u ∧ Keep w (Foot g 1000001 (.spare el sz N)) w' ∧ (∀ b o, Foot g' 1000001 (.spare el sz N') b o → Foot g 1000001 (.spare el sz N) b o ∨ w.heap.size ≤ b) ∧ ((g'.tk 1000001).2 = (g.tk 1000001).2 ∨ vlen (g.tk 1000001).2 < vlen (g'.tk 1000001).2) ∧
      ∀ rd', rd.le rd' → SeesX w (Foot g 1000001 (.spare el sz N)) rd' w' (Foot g' 1000001 (.spare el sz N')) → VRel rd' g' u r ∧ Holds rd' g' w' 1000001 (.spare el sz N')
theorem infoot_one {g : Env} {d : Nat} {r : Res} {b o : Nat} : InFoot g [(d, r)] b o ↔ Foot g d r b o := by
  constructor
  · rintro ⟨e, x, h1, h2⟩
    rw [look_cons] at h1
    split at h1
    · rename_i h; subst h; cases h1; exact h2
    · simp [look] at h1
  · intro h
    exact ⟨d, r, by rw [look_cons, if_pos rfl], h⟩
/-- where the row waits -/
def ghostOf (sz N : Nat) (xs : List (List SC)) : List (Nat × SV) := [(2000000, .c (.slc sz 1000003 N xs))]
def retG (P : Program) (fn : Func) (kss : List (List Nat)) (el sz N : Nat) (r : SV) (N' : Nat) : Exit → St → Prop
  | .normal, s => (∃ xs, resL P s kss fn.results.toList = some xs ∧ resV xs = some r) ∧ look s.hp 1000001 = some (.spare el sz N') ∧ ∃ sz1 xs, look s.tmps 2000000 = some (.c (.slc sz1 1000003 N xs))
  | .ret, s => (∃ xs, resL P s kss fn.results.toList = some xs ∧ resV xs = some r) ∧ look s.hp 1000001 = some (.spare el sz N') ∧ ∃ sz1 xs, look s.tmps 2000000 = some (.c (.slc sz1 1000003 N xs))
  | _, _ => False
theorem vlen_spare {rd : Rd} {g : Env} {w : World} {d e s n : Nat} (h : Holds rd g w d (.spare e s n)) : vlen (g.tk d).2 = n := by
  obtain ⟨us, h1⟩ := h
  obtain ⟨_, _, _, _, _, h2, _⟩ := tk_sliceM h1
  exact h2

theorem con_ofG {P : Program} {f : FuncId} {fn : Func} {c : Code} {args : List SV} {el sz N N' : Nat} {xs0 : List (List SC)} {r : SV} (kss : List (List Nat)) (n i : Nat) (hf : P.funcs[f]? = some fn) (hb : fn.body = some c) (hn : fn.ntmps = n) (hl : decide (args.length ≤ n ∧ n ≤ 2000000) = true) (hi : args[i]? = some (.c (.slc sz 1000003 N xs0)))
    (ht : ∀ K, TS P K n (.mk [.code c] .normal ⟨initT 0 args ++ ghostOf sz N xs0, [(1000001, .spare el sz N)]⟩) (retG P fn kss el sz N r N')) : ConG P f args el sz N r N' := by
  intro rd g w us hrd hus hargs hhold hnot
  obtain ⟨hl', hfew⟩ := of_decide_eq_true hl
  have hvN := vlen_spare hhold
  let h : Hp := [(1000001, .spare el sz N)]
  let K : Ctx := ⟨w, InFoot g h, rd, g.pos, fun j => if j = 0 then some (g.tk 1000001).2 else none, fun b o v hv => ⟨hrd b o v hv, fun x => by rw [hnot b o (infoot_one.1 x)] at hv; cases hv⟩⟩
  have hrdle : rd.le (rdOf K g h w) := by
    intro b o v hv
    unfold rdOf
    rw [if_neg (fun x => by rw [hnot b o (infoot_one.1 x)] at hv; cases hv), if_pos ⟨World.block_lt_of_cell? w _ (hrd b o v hv), fun x => by rw [hnot b o (infoot_one.1 x)] at hv; cases hv⟩]
    exact hv
  have hlk : ∀ d x, look h d = some x → d = 1000001 ∧ x = .spare el sz N := by
    intro d x hx
    rw [look_cons] at hx
    split at hx
    · rename_i hd; cases hx; exact ⟨hd.symm, rfl⟩
    · simp [look] at hx
  have hgh : VRel (rdOf K g h w) g (g.tk 1000001).2 (.c (.slc sz 1000003 N xs0)) := by
    obtain ⟨u, q1, q2⟩ := hargs i _ hi
    have q3 := q2.mono hrdle
    obtain ⟨q4, q5⟩ := q3
    have hu : u = (g.tk 1000001).2 := q5.2 hvN.symm
    rw [← hu]
    exact q2.mono hrdle
  have hR : RG K g n { tmps := us ++ Array.replicate (fn.ntmps - us.size) undef, defers := [] } w ⟨initT 0 args ++ ghostOf sz N xs0, h⟩ := by
    refine ⟨rfl, by simp; omega, hfew, ⟨Keep.refl _ _, fun d x hx => ?_, fun b o x _ => x, fun d d' r r' b o hne h1 h2 => absurd ((hlk d r h1).1.trans (hlk d' r' h2).1.symm) hne, fun d cs _ hx => (by cases (hlk d _ hx).2), fun d r hd _ b o hf => .inr ⟨d, r, hd, hf⟩⟩, fun t v hv => ?_⟩
    · obtain ⟨rfl, rfl⟩ := hlk d x hx
      exact hhold.mono hrdle
    · rcases look_append _ _ _ _ hv with hv1 | hv1
      · obtain ⟨_, h2⟩ := look_initT args 0 t v hv1
        obtain ⟨u, h3, h4⟩ := hargs (t - 0) v h2
        simp only [Nat.sub_zero] at h3
        refine ⟨u, ?_, h4.mono hrdle⟩
        have htn := (Array.getElem?_eq_some_iff.1 h3).1
        rw [slotAt, if_pos (by omega)]
        rw [Array.getElem?_append_left (Array.getElem?_eq_some_iff.1 h3).1]
        exact h3
      · simp only [ghostOf, look_cons] at hv1
        split at hv1
        · rename_i ht
          obtain rfl := Option.some.inj hv1
          refine ⟨_, ?_, hgh⟩
          rw [← ht, slotAt, if_neg (by omega)]
          simp [K]
        · simp [look] at hv1
  refine calls_of_wp hf hb (wp_mono (ht K _ w ⟨g, hR⟩) fun e a' w' hq => ?_)
  obtain ⟨s', ⟨g', r'⟩, q⟩ := hq
  have fin : ((∃ xs, resL P s' kss fn.results.toList = some xs ∧ resV xs = some r) ∧ look s'.hp 1000001 = some (.spare el sz N') ∧ ∃ sz1 xs, look s'.tmps 2000000 = some (.c (.slc sz1 1000003 N xs))) → a'.defers = [] ∧ ∃ v, (results fn a'.tmps).run P w' = .ok v w' ∧ ∃ u g', Ending.returned v = .returned u ∧ Keep w (Foot g 1000001 (.spare el sz N)) w' ∧ (∀ b o, Foot g' 1000001 (.spare el sz N') b o → Foot g 1000001 (.spare el sz N) b o ∨ w.heap.size ≤ b) ∧ ((g'.tk 1000001).2 = (g.tk 1000001).2 ∨ vlen (g.tk 1000001).2 < vlen (g'.tk 1000001).2) ∧
      ∀ rd', rd.le rd' → SeesX w (Foot g 1000001 (.spare el sz N)) rd' w' (Foot g' 1000001 (.spare el sz N')) → VRel rd' g' u r ∧ Holds rd' g' w' 1000001 (.spare el sz N') := by
    rintro ⟨⟨xs, h1, h2⟩, h3, sz1, xs1, h6⟩
    obtain ⟨u, h4, h5⟩ := run_results r'.view h1 h2
    have hin : ∀ b o, Foot g' 1000001 (.spare el sz N') b o → InFoot g' s'.hp b o := fun b o x => ⟨_, _, h3, x⟩
    obtain ⟨V, q1, q2⟩ := r'.tmps _ _ h6
    have hV : V = (g.tk 1000001).2 := by
      rw [slotAt, if_neg (by omega)] at q1
      simpa [K] using q1.symm
    obtain ⟨_, q4⟩ := q2
    have q5 : N ≤ vlen (g'.tk 1000001).2 := q4.1
    have q6 : N = vlen (g'.tk 1000001).2 → V = (g'.tk 1000001).2 := q4.2
    refine ⟨r'.defers, u, h4, u, g', rfl, r'.hg.keep.weak (fun b o x => infoot_one.1 x), ?_, ?_, ?_⟩
    · intro b o hx
      rcases Nat.lt_or_ge b w.heap.size with hb' | hb'
      · exact .inl (infoot_one.1 (r'.hg.may b o (hin b o hx) hb'))
      · exact .inr hb'
    · by_cases hN : N = vlen (g'.tk 1000001).2
      · left; rw [← hV]; exact (q6 hN).symm
      · right; rw [hvN]; omega
    · intro rd' hle hs
      have hle' : (rdOf K g' s'.hp w').le rd' := by
        intro b o v hv
        have hcell := rdOf_le g' s'.hp r'.hg.keep b o v hv
        unfold rdOf at hv
        split at hv
        · cases hv
        · rename_i hx
          split at hv
          · exact hle b o v hv
          · rename_i hbb
            refine hs b o v ?_ (fun q => hx (hin b o q)) hcell
            rcases Nat.lt_or_ge b w.heap.size with h6 | h6
            · exact .inr (infoot_one.1 (Classical.byContradiction fun h7 => hbb ⟨h6, h7⟩))
            · exact .inl h6
      exact ⟨h5.mono hle', (r'.hg.holds _ _ h3).mono hle'⟩
  cases e <;> simp only [QS, retG] at q <;> simp only [bodyPost]
  case normal => exact fin q
  case ret => exact fin q
theorem TS_retG {P : Program} {K : Ctx} {n : Nat} {C : Cfg} {fn : Func} {kss : List (List Nat)} {el sz N sz1 : Nat} {xs1 : List (List SC)} {r : SV} {N' : Nat} (he : C.fin = true) (h : (resL P C.st kss fn.results.toList).bind resV = some r) (hh : look C.st.hp 1000001 = some (.spare el sz N')) (hgh : look C.st.tmps 2000000 = some (.c (.slc sz1 1000003 N xs1))) : TS P K n C (retG P fn kss el sz N r N') := by
  obtain ⟨xs, h1, h2⟩ := Option.bind_eq_some_iff.1 h
  unfold Cfg.fin at he
  split at he
  · exact ⟨⟨xs, h1, h2⟩, hh, sz1, xs1, hgh⟩
  · exact ⟨⟨xs, h1, h2⟩, hh, sz1, xs1, hgh⟩
  · cases he

section
variable {P : Program} {K : Ctx} {n : Nat} {Q : Exit → St → Prop} {C : Cfg} {D : Dr} {ops : Array Oper} {o : Oper} {need : St}
theorem renG_rel {rd : Rd} {g : Env} {d : Nat} {v : Value} {x : SC} (hx : x.okG = true) (h : CRel rd g v (x.renG d)) : CRel rd (g.setTk 1000001 (g.tk d) (0, 0)) v x := by
  rcases okG_cases hx with ⟨s, m, xs, rfl⟩ | ⟨h1, h2⟩
  · have h' : CRel rd g v (.slc s (d + 2) m xs) := by simpa [SC.renG] using h
    obtain ⟨h1, h2⟩ := h'
    refine ⟨h1, ?_⟩
    simp only [Tag, Env.setTk, if_true] at h2 ⊢
    exact h2
  · rw [h2] at h
    exact closed_rel v x h1 h
theorem renG_rel' {rd : Rd} {g g' : Env} {d : Nat} (he : (g.tk d).2 = (g'.tk 1000001).2) {v : Value} {x : SC} (hx : x.okG = true) (h : CRel rd g' v x) : CRel rd g v (x.renG d) := by
  rcases okG_cases hx with ⟨s, m, xs, rfl⟩ | ⟨h1, h2⟩
  · obtain ⟨h1, h2⟩ := h
    have h' : CRel rd g v (.slc s (d + 2) m xs) := by
      refine ⟨h1, ?_⟩
      simp only [Tag, he] at h2 ⊢
      exact h2
    simpa [SC.renG] using h'
  · rw [h2]
    exact closed_rel v x h1 h
theorem vd_conG {f : FuncId} {vs A : List SV} {r : SV} {d el sz N N' : Nat} (kss : List (List Nat)) (hgd : guardOf ops o need = some true) (hd : dstOk n o = true) (hc : calleeOf need o = some (f, vs)) (hb : hasBody P f = true) (hargs : castArgs kss vs = A.map (SV.map (SC.renG d))) (hok : A.all (fun v => v.every SC.okG) = true) (hr : r.every SC.okG = true) (hl : look need.hp d = some (.spare el sz N)) (hp : ConG P f A el sz N r N') :
    VD P n ops o ⟨need, o.dst, r.map (SC.renG d), some (d, .spare el sz N'), false, none⟩ := by
  intro K s hs _
  refine Stp_mk (hs.guard hgd) fun g a w rg K' Q hK => ?_
  have hview := rg.view.o o
  obtain ⟨us, h1, h2, h3⟩ := callee_spec (hs.callee hc) hb hview
  have hls := hs.h _ _ hl
  have hold := rg.hg.holds d _ hls
  let gc : Env := g.setTk 1000001 (g.tk d) (0, 0)
  have htk : gc.tk 1000001 = g.tk d := by simp [gc, Env.setTk]
  have hfoot : ∀ b o, Foot gc 1000001 (.spare el sz N) b o ↔ Foot g d (.spare el sz N) b o := fun b o => by simp only [Foot, htk]
  have hcalls := hp (rdOf K g s.hp w) gc w us hview.reads (by
    rw [h1]
    have := congrArg List.length hargs
    rw [castArgs_length, List.length_map] at this
    exact this) (fun i y hy => by
    have hy2 : (A.map (SV.map (SC.renG d)))[i]? = some (y.map (SC.renG d)) := by rw [List.getElem?_map, hy]; rfl
    rw [← hargs] at hy2
    obtain ⟨ks, x, hx, hxe⟩ := castArgs_get kss vs i _ hy2
    obtain ⟨u, q1, q2⟩ := h2 i x hx
    have hrel := castV_rel ks q2
    rw [← hxe] at hrel
    refine ⟨u, q1, ?_⟩
    have hyo := List.all_eq_true.1 hok y (List.mem_of_getElem? hy)
    cases y with
    | c x => exact renG_rel (by simpa [SV.every] using hyo) hrel
    | agg cs =>
      obtain ⟨vs', e1, e2, e3⟩ := hrel
      refine ⟨vs', e1, by simpa using e2, fun j y hj => ?_⟩
      obtain ⟨u', k1, k2⟩ := e3 j (y.renG d) (by rw [List.getElem?_map, hj]; rfl)
      exact ⟨u', k1, renG_rel (List.all_eq_true.1 (by simpa [SV.every] using hyo) y (List.mem_of_getElem? hj)) k2⟩
    | tup ts =>
      obtain ⟨vs', e1, e2, e3⟩ := hrel
      refine ⟨vs', e1, by simpa using e2, fun j y hj => ?_⟩
      obtain ⟨u', k1, k2⟩ := e3 j (y.1, y.2.map (SC.renG d)) (by rw [List.getElem?_map, hj]; rfl)
      refine ⟨u', k1, ?_⟩
      have hyo' : (ts.all fun x => x.2.all SC.okG) = true := hyo
      have hall := List.all_eq_true.1 hyo' y (List.mem_of_getElem? hj)
      unfold FRel at k2 ⊢
      simp only at k2
      split at k2
      · rename_i hb; rw [if_pos hb]
        obtain ⟨vs2, m1, m2, m3⟩ := k2
        refine ⟨vs2, m1, by simpa using m2, fun j2 y2 hj2 => ?_⟩
        obtain ⟨u2, k3, k4⟩ := m3 j2 (y2.renG d) (by rw [List.getElem?_map, hj2]; rfl)
        exact ⟨u2, k3, renG_rel (List.all_eq_true.1 hall y2 (List.mem_of_getElem? hj2)) k4⟩
      · rename_i hb; rw [if_neg hb]
        obtain ⟨y2, m1, m2⟩ := k2
        have : ∃ y3, y.2 = [y3] ∧ y2 = y3.renG d := by
          cases hy : y.2 with
          | nil => rw [hy] at m1; cases m1
          | cons y3 t =>
            rw [hy] at m1
            cases t with
            | nil => simp at m1; exact ⟨y3, rfl, m1.symm⟩
            | cons _ _ => simp at m1
        obtain ⟨y3, m3, rfl⟩ := this
        rw [m3] at hall
        exact ⟨y3, m3, renG_rel (by simpa using hall) m2⟩) (by
    obtain ⟨us', q⟩ := hold
    exact ⟨us', by rw [htk]; exact q⟩) (fun b o' x => rdOf_none ⟨d, _, hls, (hfoot b o').1 x⟩)
  unfold Oper.wp
  rw [h3]
  simp only [Oper.upon]
  refine hcalls.mono fun e w' hq => ?_
  obtain ⟨u, g', rfl, hkeep, hin, hgr, hpost⟩ := hq
  simp only
  rw [htk] at hgr
  let g2 : Env := { pos := g.pos, tk := fun e => if e = d then ((g.tk d).1, (g'.tk 1000001).2) else g.tk e }
  have hg2 : g2.tk d = ((g.tk d).1, (g'.tk 1000001).2) := by simp [g2]
  have hgrew : Grew g g2 d := by
    refine ⟨fun _ => rfl, fun e => ?_, fun e he => ?_, ?_⟩
    · simp only [g2]; split
      · rename_i h; subst h; rfl
      · rfl
    · simp only [g2]; rw [if_neg he]
    · rw [hg2]
      rcases hgr with h | h
      · left; rw [h]
      · right; exact h
  have hfoot2 : ∀ b o, Foot g2 d (.spare el sz N') b o ↔ Foot g' 1000001 (.spare el sz N') b o := fun b o => by simp only [Foot, hg2]
  have hk : Keep w (Foot g d (.spare el sz N)) w' := hkeep.weak (fun b o x => (hfoot b o).1 x)
  have hf : ∀ b o, Foot g2 d (.spare el sz N') b o → Foot g d (.spare el sz N) b o ∨ w.heap.size ≤ b := fun b o x => (hin b o ((hfoot2 b o).1 x)).imp (fun q => (hfoot b o).1 q) id
  have key : (rdOf K g s.hp w).le (rdOf K g2 (setL d (.spare el sz N') s.hp) w') → VRel (rdOf K g2 (setL d (.spare el sz N') s.hp) w') g' u r ∧ Holds (rdOf K g2 (setL d (.spare el sz N') s.hp) w') g' w' 1000001 (.spare el sz N') := by
    intro hle
    refine hpost _ hle ?_
    intro b o' u' hb0 hx hcell
    have hlt := World.block_lt_of_cell? w' _ hcell
    have hns : ∀ e x, e ≠ d → look s.hp e = some x → Foot g e x b o' → False := by
      intro e x hne hx2 hfo
      rcases hb0 with h4 | h4
      · have := (rg.hg.holds e x hx2).lt hfo; omega
      · exact rg.hg.dis e d x _ b o' hne hx2 hls hfo ((hfoot b o').1 h4)
    unfold rdOf
    rw [if_neg]
    · split
      · rename_i hb
        exfalso
        rcases hb0 with h4 | h4
        · have := rg.hg.keep.size; omega
        · exact hb.2 (rg.hg.may b o' ⟨d, _, hls, (hfoot b o').1 h4⟩ hb.1)
      · exact hcell
    · rintro ⟨e, x, q1, q2⟩
      rw [look_setL] at q1
      split at q1
      · rename_i he; subst he; cases q1; exact hx ((hfoot2 b o').1 q2)
      · rename_i he
        refine hns e x (Ne.symm he) q1 ?_
        have := foot_env (g := g) (g' := g2) (d := e) ⟨rfl, hgrew.tk e (Ne.symm he)⟩ x
        rw [this] at q2
        exact q2
  obtain ⟨r1, hle⟩ := rg.grow (r := .spare el sz N') hls hgrew hk hf (fun _ q => by cases q) rfl (fun hle => by
    obtain ⟨us', q⟩ := (key hle).2
    exact ⟨us', by rw [hg2]; exact q⟩)
  obtain ⟨hres, _⟩ := key hle
  exact hK _ _ ⟨g2, r1.put o.dst (dstOk_spec hd) (hres.imp (fun v x hx k => renG_rel' (by rw [hg2]) hx k) hr)⟩
theorem TD_conG {f : FuncId} {A : List SV} {r : SV} {el sz N N' : Nat} (d : Nat) (kss : List (List Nat)) (hp : ConG P f A el sz N r N') (hc : D.callee kss = some (f, A.map (SV.map (SC.renG d)))) (hg : (D.go1 n && hasBody P f && A.all (fun v => v.every SC.okG) && r.every SC.okG) = true) (hl : look D.need.hp d = some (.spare el sz N))
    (k : TD P K n (D.push ⟨D.need, D.dst, r.map (SC.renG d), some (d, .spare el sz N'), false, none⟩) Q) : TD P K n D Q := by
  simp only [Bool.and_eq_true] at hg
  obtain ⟨⟨⟨g1, g2⟩, g3⟩, g4⟩ := hg
  obtain ⟨os, o, ho, h1, h2, h3⟩ := go1D_spec g1
  obtain ⟨vs, h5, h6⟩ := calleeD_op hc ho
  rw [h3] at k
  exact push_ok ho (vd_conG kss h1 h2 h5 g2 h6 g3 g4 hl hp) rfl k
theorem TS_conG {f : FuncId} {A : List SV} {r : SV} {el sz N N' : Nat} (d : Nat) (kss : List (List Nat)) (hp : ConG P f A el sz N r N') (hc : C.callee kss = some (f, A.map (SV.map (SC.renG d)))) (hg : (C.go1 n && hasBody P f && A.all (fun v => v.every SC.okG) && r.every SC.okG) = true) (hl : look C.st.hp d = some (.spare el sz N))
    (k : TS P K n (C.next ((C.st.setR d (.spare el sz N')).put C.dst (r.map (SC.renG d)))) Q) : TS P K n C Q := by
  simp only [Bool.and_eq_true] at hg
  obtain ⟨⟨⟨g1, g2⟩, g3⟩, g4⟩ := hg
  obtain ⟨os, o, ho, h1, h2, h3⟩ := go1_spec g1
  obtain ⟨vs, h5, h6⟩ := callee_op hc ho
  rw [h3] at k
  exact TS_stp ho (vd_conG (need := C.st) kss h1 h2 h5 g2 h6 g3 g4 hl hp K C.st ⟨fun _ _ h => h, fun _ _ h => h⟩ (fun h => by cases h)) k
end

section
variable {P : Program} {K : Ctx} {n : Nat} {Q : Exit → St → Prop} {C : Cfg}
def ghostArgs (s : St) (d2 : Nat) : Option (Nat × Nat × List (List SC) × Nat) := match look s.tmps 2000000, look s.hp d2 with
  | some (.c (.slc sz _ N xs)), some (.spare _ _ N2) => some (sz, N, xs, N2)
  | _, _ => none
theorem TS_ghost (d2 : Nat) {sz N N2 : Nat} {xs : List (List SC)} (hlt : decide (N < N2) = true) (h : ghostArgs C.st d2 = some (sz, N, xs, N2)) (he : C.pre = true) (k : TS P K n (C.withS (C.st.put (some 2000000) (.c (.slc sz (d2 + 2) N xs)))) Q) : TS P K n C Q := by
  unfold ghostArgs at h
  split at h
  · rename_i sz1 tg N1 xs1 e1 s1 N3 h1 h2
    cases h
    have hlt := of_decide_eq_true hlt
    refine TS_state _ (fun a w r => ?_) he k
    obtain ⟨g, r⟩ := r
    have hv := vlen_spare (r.hg.holds _ _ h2)
    refine ⟨g, r.recast h1 (fun u hu => ?_)⟩
    obtain ⟨q1, _⟩ := hu
    exact ⟨q1, by simp only [Tag]; rw [hv]; exact ⟨by omega, fun q => by omega⟩⟩
  · cases h
end
end
section
open Go.RowKit

def bs8 (l : List UInt8) : ByteArray := ⟨l.toArray⟩
theorem bs8_size (l : List UInt8) : (bs8 l).size = l.length := by simp [bs8, ByteArray.size]
section
variable {P : Program} {o : Oper} {s : St} {α : Type}
def b2sArgs (P : Program) (s : St) (o : Oper) : Option (List (List SC) × Cut) := match o.op with
  | .convert t t' x => match P.underlying t, P.underlying t', (opd s x).bind (srcS s 1) with
    | some (.slice e), some .string, some q => match P.underlying e with
      | some (.int .u8) => some q
      | _ => none
    | _, _, _ => none
  | _ => none
theorem grow_b2s {l : List Int} {c : Cut} (h : b2sArgs P s o = some (l.map (ecI .u8), c)) : GrowOp P o s (.c (.lit (.string (bs8 (u8L (c.app l)))))) := by
  unfold b2sArgs at h
  split at h
  rotate_left
  · cases h
  rename_i t t' x ho
  split at h
  rotate_left
  · cases h
  rename_i e q hu hu' hx
  split at h
  rotate_left
  · cases h
  rename_i he
  cases h
  obtain ⟨vx, hx1, hx2⟩ := Option.bind_eq_some_iff.1 hx
  refine PureOp.grow fun g rd a w hview => ?_
  have hsrc := srcS_rel hx2 hview (hview.op x _ (by simp [ho, Op.operands]) hx1)
  rw [Cut.map] at hsrc
  generalize hau : a.eval x = u at *
  refine ⟨.string (bs8 (u8L (c.app l))), ?_, .lit _⟩
  obtain ⟨ad, cp, vals, hu1, h1, h2, h3, h4, h5, h6⟩ := hsrc
  rw [List.length_map] at hu1 h1
  generalize hll : c.app l = l' at *
  have hconv : (convert t t' u).run P w = .ok (.string (bs8 (u8L l'))) w := by
    subst hu1
    rw [run_convert_bytes_string w t t' e ad l'.length cp hu he hu']
    cases ad with
    | none =>
      rcases h3 with h3 | ⟨ad, q, _⟩
      · have := List.map_eq_nil_iff.1 h3
        subst this
        simp [Conv.bytesToString, bs8, u8L]
        rfl
      · cases q
    | some ad =>
      have hl := run_loadCells_list (P := P) w ad (l'.map (Value.int .u8)) (fun j v hj => by
        rw [List.getElem?_map] at hj
        cases hn : l'[j]? with
        | none => rw [hn] at hj; cases hj
        | some n =>
          rw [hn] at hj
          cases hj
          rcases h3 with h3 | ⟨ad', q, h3⟩
          · rw [List.map_eq_nil_iff.1 h3] at hn; cases hn
          · cases q
            obtain ⟨v, q1, q2⟩ := h2.2 j _ 0 (.lit (.int .u8 n)) (by rw [List.getElem?_map, hn]; rfl) rfl
            rw [Nat.mul_one, Nat.add_zero] at q1
            rw [h3 _ _ q1]
            cases q2
            rfl)
      rw [List.length_map] at hl
      rw [run_bytesToString w ad l'.length cp l' hl, foldl_push_bytes]
      have he0 : ByteArray.empty.data = #[] := rfl
      rw [he0]
      simp [bs8, u8L]
  simp only [execOp, ho, hau, hconv, Sem.run_bind, Sem.run_pure, Result.andThen_ok]
def strOp (op : BinOp) (x y : List UInt8) : Option Bool := match op with
  | .eql => some (x == y)
  | .neq => some (!(x == y))
  | .lss => some (Go.Op.bytesLess x y)
  | .leq => some (Go.Op.bytesLess x y || x == y)
  | .gtr => some (!(Go.Op.bytesLess x y || x == y))
  | .geq => some (!Go.Op.bytesLess x y)
  | _ => none
def strArgs (s : St) (o : Oper) : Option (BinOp × ByteArray × ByteArray) := match o.op with
  | .binOp op _ x y _ => match opd s x, opd s y with
    | some (.c (.lit (.string a))), some (.c (.lit (.string b))) => some (op, a, b)
    | _, _ => none
  | _ => none
theorem bs8_toList (l : List UInt8) : (bs8 l).toList = l := by
  have key : ∀ (l : List UInt8) (n i : Nat) (r : List UInt8), l.length - i = n → ByteArray.toList.loop (bs8 l) i r = r.reverse ++ l.drop i := by
    intro l n
    induction n with
    | zero =>
      intro i r h
      rw [ByteArray.toList.loop]
      rw [if_neg (by rw [bs8_size]; omega), List.drop_eq_nil_of_le (by omega), List.append_nil]
    | succ n ih =>
      intro i r h
      rw [ByteArray.toList.loop]
      rw [if_pos (by rw [bs8_size]; omega), ih (i + 1) _ (by omega)]
      have hi : i < l.length := by omega
      rw [List.drop_eq_getElem_cons hi]
      have : (bs8 l).get! i = l[i] := by
        simp [bs8, ByteArray.get!, hi]
      rw [this]
      simp
  unfold ByteArray.toList
  rw [key l l.length 0 [] (by omega)]
  simp
theorem grow_str {op : BinOp} {a b : List UInt8} {r : Bool} (hr : strOp op a b = some r) (h : strArgs s o = some (op, bs8 a, bs8 b)) : GrowOp P o s (bool r) := by
  unfold strArgs at h
  split at h
  rotate_left
  · cases h
  rename_i op1 t x y t' ho
  split at h
  rotate_left
  · cases h
  rename_i a1 b1 hx hy
  cases h
  refine PureOp.grow fun g rd A w hview => ?_
  have h1 := rel_lit (hview.op x _ (by simp [ho, Op.operands]) hx)
  have h2 := rel_lit (hview.op y _ (by simp [ho, Op.operands]) hy)
  refine ⟨.bool r, ?_, .lit _⟩
  cases op <;> simp only [strOp, Option.some.injEq, reduceCtorEq] at hr <;> subst hr <;> simp [execOp, ho, h1, h2, eqGuard, binOp, Go.Op.stringOp, bs8_toList]
def cpA (m : Nat) (l l2 : List Int) : List Int := (List.range m).map fun i => if i < l2.length then l2.getD i 0 else l.getD i 0
def cpWArgs (P : Program) (off m : Nat) (s : St) (o : Oper) : Option (Nat × List SC × List SC × List SC × List (List SC) × Cut) := match o.op with
  | .call { callee := .builtin .copy, args := xs, argTypes := ts } => match xs.toList, ts.toList with
    | [x, y], [t, _] => match P.underlying t with
      | some (.slice e') => match P.info? e' with
        | some ie => match opd s x, (opd s y).bind (srcS s 1) with
          | some (.c (.win d off' m')), some (ys, c') => match s.lookB d with
            | some cs => if ie.size = 1 ∧ off' = off ∧ m' = m ∧ off + m ≤ cs.length then some (d, cs.take off, (cs.drop off).take m, cs.drop (off + m), ys, c') else none
            | none => none
          | _, _ => none
        | none => none
      | _ => none
    | _, _ => none
  | _ => none
theorem arrS_getI (k : IntKind) (m : Nat) (l : List Int) (i : Nat) : (arrS k m l)[i]? = if i < m then some (.lit (.int k (l.getD i 0))) else none := by
  unfold arrS
  rw [List.getElem?_map]
  by_cases h : i < m
  · rw [if_pos h, List.getElem?_range h]; rfl
  · rw [if_neg h, List.getElem?_eq_none (by simpa using h)]; rfl
theorem arrS_len (k : IntKind) (m : Nat) (l : List Int) : (arrS k m l).length = m := by simp [arrS]
theorem cpA_get (m : Nat) (l l2 : List Int) (i : Nat) (h : i < m) : (cpA m l l2).getD i 0 = if i < l2.length then l2.getD i 0 else l.getD i 0 := by
  unfold cpA
  rw [List.getD_eq_getElem?_getD, List.getElem?_map, List.getElem?_range h]
  rfl
theorem mid_get {pre A A' post : List SC} (hl : A.length = A'.length) (j : Nat) (h : ∀ i, pre.length + i = j → i < A.length → A[i]? = A'[i]?) : (pre ++ A ++ post)[j]? = (pre ++ A' ++ post)[j]? := by
  simp only [List.append_assoc, List.getElem?_append]
  by_cases h1 : j < pre.length
  · simp only [if_pos h1]
  · simp only [if_neg h1, ← hl]
    by_cases h2 : j - pre.length < A.length
    · simp only [if_pos h2]; exact h _ (by omega) h2
    · simp only [if_neg h2]
theorem upd_cpW {d off m : Nat} {k : IntKind} {l l2 : List Int} {pre post : List SC} {c' : Cut} (hpre : decide (pre.length = off) = true) (h : cpWArgs P off m s o = some (d, pre, arrS k m l, post, l2.map (ecI k), c')) :
    UpdOp P o s d (.box (pre ++ arrS k m l ++ post)) (.box (pre ++ arrS k m (cpA m l (c'.app l2)) ++ post)) (int .i64 (min (c'.app l2).length m : Nat)) := by
  have hpl := of_decide_eq_true hpre
  unfold cpWArgs at h
  split at h
  rotate_left
  · cases h
  rename_i xs ts ho
  split at h
  rotate_left
  · cases h
  rename_i x y t t' hxs hts
  have hxs' : xs = #[x, y] := by rw [← Array.toArray_toList (xs := xs), hxs]
  have hts' : ts = #[t, t'] := by rw [← Array.toArray_toList (xs := ts), hts]
  subst hxs'
  subst hts'
  split at h
  rotate_left
  · cases h
  rename_i e1 hu
  split at h
  rotate_left
  · cases h
  rename_i ie hie
  split at h
  rotate_left
  · cases h
  rename_i d1 off1 m1 ys c1 hx hy
  split at h
  rotate_left
  · cases h
  rename_i cs hl
  split at h
  rotate_left
  · cases h
  rename_i hq
  obtain ⟨hsz, rfl, rfl, hlen⟩ := hq
  injection h with h
  simp only [Prod.mk.injEq] at h
  obtain ⟨rfl, h3, h4, h5, rfl, rfl⟩ := h
  have hcs : cs = pre ++ arrS k m1 l ++ post := by
    rw [← h3, ← h4, ← h5]
    rw [List.append_assoc, ← List.drop_drop, List.take_append_drop, List.take_append_drop]
  have hl' := lookB_some hl
  rw [hcs] at hl'
  refine ⟨hl', rfl, fun g b o' hf => ?_, fun g rd A w hview => ?_⟩
  · simp only [Foot, List.length_append, arrS_len] at hf ⊢
    exact hf
  obtain ⟨vy, hy1, hy2⟩ := Option.bind_eq_some_iff.1 hy
  have hvx := hview.op x _ (by simp [ho, Op.operands, Call.operands]) hx
  obtain ⟨ax, cx, hax, hc1, hc2, hc3⟩ := hvx
  obtain ⟨ay, cy, vals, v1, v2, v3, v4, _⟩ := srcS_rel hy2 hview (hview.op y _ (by simp [ho, Op.operands, Call.operands]) hy1)
  rw [Cut.map] at v1 v2 v3 v4
  rw [List.length_map] at v1 v2
  have hold : Holds rd g w d1 (.box (pre ++ arrS k m1 l ++ post)) := hview.holds d1 _ hl'
  simp only [execOp, ho, resolve, invoke, builtin, Sem.run_bind, Sem.run_pure, Result.andThen_ok, List.map_toArray, List.map_cons, List.map_nil, hax, v1]
  generalize hl2 : c1.app l2 = l2' at *
  generalize hk : min l2'.length m1 = kk at *
  have hk' : Nat.min l2'.length m1 = kk := hk
  by_cases hk0 : kk = 0
  · rw [run_copy_zero t t' o.type _ ie hu hie _ _ _ _ _ _ (by rw [hk', hk0])]
    simp only [Result.andThen_ok]
    refine ⟨_, _, rfl, Keep.refl _ _, .inr ⟨_, rfl, fun rd' _ => ?_⟩, fun rd' hle => ?_⟩
    · rw [hk0]; exact .lit _
    · have : arrS k m1 (cpA m1 l l2') = arrS k m1 l := by
        apply List.ext_getElem?
        intro q
        rw [arrS_getI, arrS_getI]
        by_cases hq : q < m1
        · rw [if_pos hq, if_pos hq, cpA_get _ _ _ _ hq, if_neg (by omega)]
        · rw [if_neg hq, if_neg hq]
      rw [this]
      exact Holds.mono hle hold
  · have hm0 : 0 < m1 := by omega
    have hl20 : 0 < l2'.length := by omega
    rcases hc3 with hc3 | hc3
    · omega
    rcases v4 with v4 | ⟨ad, v4, v5⟩
    · have := List.map_eq_nil_iff.1 v4
      rw [this] at hl20
      simp at hl20
    subst hc3
    subst v4
    have hkl : kk ≤ l2'.length := by omega
    have hkd : kk ≤ m1 := by omega
    have hvl : (vals.take kk).length = kk := by rw [List.length_take, v2]; omega
    have hval : ∀ i, i < kk → vals[i]? = some (.int k (l2'.getD i 0)) := by
      intro i hi
      have hi2 : i < l2'.length := by omega
      obtain ⟨u, q1, q2⟩ := v3.2 i _ 0 (.lit (.int k l2'[i])) (by rw [List.getElem?_map, List.getElem?_eq_getElem hi2]; rfl) rfl
      rw [Nat.mul_one, Nat.add_zero] at q1
      cases q2
      rw [q1, List.getD_eq_getElem?_getD, List.getElem?_eq_getElem hi2]
      rfl
    have hsrc : ∀ j v, (vals.take kk)[j]? = some v → w.cell? (ad.add j) = some v := by
      intro j v hj
      rw [List.getElem?_take] at hj
      split at hj
      · exact v5 j v hj
      · cases hj
    have hthere : ∀ j, j < kk → ∃ u, w.cell? ⟨(g.pos d1).1, (g.pos d1).2 + off1 + j, none⟩ = some u ∧ w.frozen? ⟨(g.pos d1).1, (g.pos d1).2 + off1 + j, none⟩ = false := by
      intro j hj
      obtain ⟨u, q1, q2, _⟩ := hold (off1 + j) (.lit (.int k (l.getD j 0))) (by
        rw [List.append_assoc, List.getElem?_append_right (by omega), List.getElem?_append_left (by rw [arrS_len]; omega), arrS_getI, show off1 + j - pre.length = j by omega, if_pos (by omega)])
      rw [← Nat.add_assoc] at q1 q2
      exact ⟨u, q1, q2⟩
    have hst := run_storeCells_cells (P := P) (g.pos d1).1 ((g.pos d1).2 + off1) (vals.take kk) 0 w
      (fun j hj => by obtain ⟨u, q1, _⟩ := hthere j (by omega); rw [Nat.add_zero, q1]; rfl)
      (fun j hj => by obtain ⟨u, _, q2⟩ := hthere j (by omega); rw [Nat.add_zero]; exact q2)
      (fun v hv => by
        obtain ⟨j, hj, rfl⟩ := List.getElem_of_mem hv
        have := hval j (by omega)
        have h2 : (vals.take kk)[j]? = some (.int k (l2'.getD j 0)) := by rw [List.getElem?_take, if_pos (by omega)]; exact this
        rw [List.getElem?_eq_getElem hj] at h2
        rw [Option.some.inj h2]
        rfl)
    simp only [Nat.add_zero] at hst
    have hfc := run_firstCells_some (P := P) w 1 kk ad l2'.length cy (vals.take kk) (by rw [hvl, Nat.mul_one]) hsrc
    have hrun : (Builtin.copy_ #[t, t'] o.type #[.slice (some ⟨(g.pos d1).1, (g.pos d1).2 + off1, none⟩) m1 cx, .slice (some ad) l2'.length cy]).run P w = .ok (goInt kk) (w.setCells (g.pos d1).1 ((g.pos d1).2 + off1) (vals.take kk)) := by
      simp [Builtin.copy_, run_underlying hu, Builtin.lenOf, sizeOf, typeInfo, hie, hsz, hk', hfc, hst]
    rw [hrun]
    simp only [Result.andThen_ok]
    have hkeep := Keep.setCells (g.pos d1).1 (vals.take kk) ((g.pos d1).2 + off1) w
    rw [hvl] at hkeep
    refine ⟨_, _, rfl, hkeep.weak (fun b o' q => ?_), .inr ⟨_, rfl, fun rd' _ => .lit _⟩, fun rd' hle => ?_⟩
    · obtain ⟨q1, q2, q3⟩ := q
      simp only [Foot, List.length_append, arrS_len]
      exact ⟨q1, by omega, by omega⟩
    · intro j y hj
      by_cases hin : off1 ≤ j ∧ j < off1 + kk
      · rw [List.append_assoc, List.getElem?_append_right (by omega), List.getElem?_append_left (by rw [arrS_len]; omega), arrS_getI, if_pos (by omega), cpA_get _ _ _ _ (by omega), if_pos (by omega)] at hj
        cases hj
        have hc := World.cell?_setCells_in (g.pos d1).1 (vals.take kk) ((g.pos d1).2 + off1) w (fun i hi => by obtain ⟨u, q1, _⟩ := hthere i (by omega); rw [q1]; rfl) (j - off1) (by omega)
        rw [show (g.pos d1).2 + off1 + (j - off1) = (g.pos d1).2 + j by omega] at hc
        obtain ⟨u, q1, q2⟩ := hthere (j - off1) (by omega)
        rw [show (g.pos d1).2 + off1 + (j - off1) = (g.pos d1).2 + j by omega] at q1 q2
        refine ⟨_, hc, by rw [hkeep.frozen (World.block_lt_of_cell? w _ q1)]; exact q2, ?_⟩
        have h2 : (vals.take kk)[j - off1]? = some (.int k (l2'.getD (j - off1) 0)) := by rw [List.getElem?_take, if_pos (by omega)]; exact hval _ (by omega)
        rw [List.getElem?_eq_getElem (by omega)] at h2
        rw [Option.some.inj h2, hpl]
        exact .lit _
      · have hj2 : (pre ++ arrS k m1 l ++ post)[j]? = some y := by
          rw [← hj]
          refine mid_get (by rw [arrS_len, arrS_len]) j (fun i hi hi2 => ?_)
          rw [arrS_len] at hi2
          rw [arrS_getI, if_pos hi2, arrS_getI, if_pos hi2, cpA_get _ _ _ _ hi2, if_neg (by omega)]
        obtain ⟨u, q1, q2, q3⟩ := hold j y hj2
        exact ⟨u, hkeep.cell q1 (fun q => hin ⟨by omega, by omega⟩), by rw [hkeep.frozen (World.block_lt_of_cell? w _ q1)]; exact q2, q3.mono hle⟩
end
section
variable {P : Program} {K : Ctx} {n : Nat} {Q : Exit → St → Prop} {C : Cfg} {D : Dr} {α : Type} {ops : Array Oper} {o : Oper} {need : St}
theorem TS_b2s (l : List Int) (c : Cut) (h : C.with1 (b2sArgs P) = some (l.map (ecI .u8), c)) (hg : C.go1 n = true) (kk : TS P K n (C.ret (.c (.lit (.string (bs8 (u8L (c.app l))))))) Q) : TS P K n C Q :=
  TS_val _ hg (fun _os _o ho => grow_b2s (with1_op h ho)) kk
theorem TS_str (op : BinOp) (a b : List UInt8) {r : Bool} (hr : strOp op a b = some r) (h : C.with1 strArgs = some (op, bs8 a, bs8 b)) (hg : C.go1 n = true) (kk : TS P K n (C.ret (bool r)) Q) : TS P K n C Q :=
  TS_val _ hg (fun _os _o ho => grow_str hr (with1_op h ho)) kk
theorem TD_cpW {k : IntKind} (d off m : Nat) (l l2 : List Int) (c' : Cut) {pre post : List SC} (hpre : decide (pre.length = off) = true) (h : D.with1 (cpWArgs P off m) = some (d, pre, arrS k m l, post, l2.map (ecI k), c')) (hg : D.go1 n = true)
    (kk : TD P K n (D.push ⟨D.need, D.dst, int .i64 (min (c'.app l2).length m : Nat), some (d, .box (pre ++ arrS k m (cpA m l (c'.app l2)) ++ post)), false, none⟩) Q) : TD P K n D Q :=
  TD_upd (fun _os _o ho => upd_cpW hpre (with1D_op h ho)) hg kk
end
end
section
open Go.RowKit

section
variable {P : Program} {K : Ctx} {n : Nat} {Q : Exit → St → Prop} {C C0 : Cfg} {D : Dr}
/-- at most m rounds from here -/
def Unr (P : Program) (K : Ctx) (n : Nat) (c : Code) (Q : Exit → St → Prop) : Nat → St → Prop
  | 0, _ => False
  | m + 1, s => T P K n c s (thenQ (Unr P K n c Q m) Q)
theorem T_unr {c : Code} {s : St} (m : Nat) (h : Unr P K n c Q m s) : T P K n (.loop c) s Q := by
  refine T_loop (ι := Nat) (fun m s => Unr P K n c Q m s) (fun m => m) m h (fun m s hm => ?_)
  cases m with
  | zero => exact hm.elim
  | succ m =>
    refine T_mono hm (fun e s' q => ?_)
    cases e with
    | normal => exact ⟨m, q, Nat.lt_succ_self m⟩
    | exit i => exact q
    | goto i => exact q
    | ret => exact q
    | panic i => exact q
    | outgrown => exact q
def Cfg.loopC : Cfg → Code
  | .mk (.code (.loop c) :: _) .normal _ => c
  | _ => .skip
def unrQ (P : Program) (K : Ctx) (n : Nat) (C0 : Cfg) (m : Nat) (Q : Exit → St → Prop) : Exit → St → Prop := thenQ (Unr P K n C0.loopC (QS P K n C0.rest Q) m) (QS P K n C0.rest Q)
theorem TS_unr (m : Nat) (hC : C.isLoop = true) (k : TS P K n (C.body C.st) (unrQ P K n C m Q)) : TS P K n C Q := by
  unfold Cfg.isLoop at hC
  split at hC
  · exact T_unr (m + 1) k
  · cases hC
theorem TS_unrN {m : Nat} (he : C.ended = true) (hC : C0.isLoop = true) (k : TS P K n (C0.body C.st) (unrQ P K n C0 m Q)) : TS P K n C (unrQ P K n C0 (m + 1) Q) := by
  unfold Cfg.ended at he
  split at he
  · unfold Cfg.isLoop at hC
    split at hC
    · exact k
    · cases hC
  · cases he
theorem TS_unrX {m : Nat} (he : C.abn = true) (k : TS P K n (C.out C0.rest) Q) : TS P K n C (unrQ P K n C0 m Q) := by
  unfold Cfg.abn at he
  split at he
  · exact k
  · exact k
  · cases he
theorem vd_conX {ops : Array Oper} {o : Oper} {need : St} {f : FuncId} {vs A : List SV} {d e : Nat} {r : SV} {res : Res} (kss : List (List Nat)) (hgd : guardOf ops o need = some true) (hdst : o.dst = some d) (hdn : d < n) (hd6 : d < 1000000) (he6 : e < 1000000) (hc : calleeOf need o = some (f, vs)) (hb : hasBody P f = true) (hargs : castArgs kss vs = A) (hcl : A.all (fun v => v.every SC.closed) = true) (hres : res.isBox = false) (hr : r.every (SC.say (okN [(d, e)])) = true) (hp : Con P f A [] r [(e, res)]) :
    VD P n ops o ⟨need, some d, r.map (SC.ren (backL [(d, e)])), some (d, res), true, none⟩ := by
  intro K s hs hn
  have hnm : NM d s := hn rfl
  obtain ⟨m1, m2, m3⟩ := hnm
  have hback : backL [(d, e)] e = d := by simp [backL]
  have hnone : ∀ x, (look [(d, e)] x).isNone = (x != d) := by
    intro x
    rw [look_cons]
    by_cases hx : d = x
    · subst hx; simp
    · rw [if_neg hx]
      simp [look]
      exact fun h => hx h.symm
  have hfun : (fun x => (look [(d, e)] x).isNone) = fun x => x != d := funext hnone
  have hev : ∀ p, res.every p = true := by
    intro p
    cases res with
    | box cs => cases hres
    | row _ _ _ _ => rfl
    | spare _ _ _ => rfl
    | mp _ => rfl
  have := S_conL (P := P) (K := K) (n := n) (ops := ops) (o := o) (s := s) (h := []) (h' := [(e, res)]) (r := r) kss [(d, e)] none (hs.guard hgd) (by simp [dstOk, hdst, hdn]) (hs.callee hc) hb hargs hcl rfl
    (by
      intro p hpm
      rw [List.mem_singleton.1 hpm]
      exact ⟨⟨⟨⟨⟨by simp [look_cons], by simpa using hd6⟩, by simpa using hback⟩, by simp [look_cons]⟩, by simp [m1]⟩, by simpa using he6⟩)
    (by
      intro t v hv
      rw [hdst, hfun]
      by_cases ht : t = d
      · subst ht; simp
      · rw [m2 t v hv (by intro h; cases h; exact ht rfl), Bool.or_true])
    (by
      intro d' r hr
      rw [hfun]
      exact m3 d' r hr)
    hr
    (by
      intro q hq
      rw [List.mem_singleton.1 hq]
      simp [hev])
    hp
  refine this.sim ?_
  have hmap : ∀ m, res.map m = res := by
    intro m
    cases res with
    | box cs => cases hres
    | row _ _ _ _ => rfl
    | spare _ _ _ => rfl
    | mp _ => rfl
  have e1 : s.after [(e, res)] r [(d, e)] none o.dst = St.put { s with hp := (d, res) :: s.hp } (some d) (r.map (SC.ren (backL [(d, e)]))) := by
    rw [hdst]
    simp [St.after, newsHp, hpAfter, look_cons, hmap]
  rw [e1]
  refine ⟨fun k => rfl, fun k => ?_⟩
  simp only [DD.app, DD.pre, put_hp, St.setR]
  rw [look_cons, look_setL]
theorem TD_conX {f : FuncId} {A : List SV} {d e : Nat} {r : SV} {res : Res} (kss : List (List Nat)) (hp : Con P f A [] r [(e, res)]) (hc : D.callee kss = some (f, A)) (hg : (D.okNew n d && hasBody P f && decide (e < 1000000) && A.all (fun v => v.every SC.closed) && !res.isBox && r.every (SC.say (okN [(d, e)]))) = true)
    (k : TD P K n (D.push ⟨D.need, some d, r.map (SC.ren (backL [(d, e)])), some (d, res), true, none⟩) Q) : TD P K n D Q := by
  simp only [Bool.and_eq_true, decide_eq_true_eq, Bool.not_eq_true'] at hg
  obtain ⟨⟨⟨⟨⟨g1, g2⟩, g3⟩, g4⟩, g5⟩, g6⟩ := hg
  obtain ⟨os, o, ho, h1, h2, h3, h4⟩ := okNewD_spec g1
  obtain ⟨vs, h5, h6⟩ := calleeD_op hc ho
  exact push_ok ho (vd_conX kss h1 h2 h3 h4 g3 h5 g2 h6 g4 g5 g6 hp) rfl k
end
end
end
section
section
open Go.RowKit

theorem zeroCells_row {α : Type} {rd : Rd} {z : Value} {sz : Nat} (m : Nat) (f : α → List SC) (z0 : α) (ks : List Nat) (hzs : z.cells.size = sz) (hf : castL ks (z.cells.toList.map SC.lit) = f z0) : RowIs rd sz (Builtin.zeroCells z.cells m).toList ((List.replicate m z0).map f) := by
  have hzl : (f z0).length = sz := by rw [← hf, castL_length, List.length_map, Array.length_toList, hzs]
  refine ⟨fun x hx => ?_, fun i x j y hx hy => ?_⟩
  · obtain ⟨x0, hx0, rfl⟩ := List.mem_map.1 hx
    rw [(List.mem_replicate.1 hx0).2]; exact hzl
  · rw [List.getElem?_map] at hx
    obtain ⟨x0, hx0, rfl⟩ := Option.map_eq_some_iff.1 hx
    have hi : i < m := by have := (List.getElem?_eq_some_iff.1 hx0).1; simpa using this
    have hx1 : x0 = z0 := by rw [List.getElem?_replicate, if_pos hi] at hx0; cases hx0; rfl
    subst hx1
    have hj : j < sz := by have := (List.getElem?_eq_some_iff.1 hy).1; omega
    rw [← hf] at hy
    obtain ⟨k, y0, hy0, rfl⟩ := castL_get ks _ j y hy
    rw [List.getElem?_map] at hy0
    obtain ⟨u, hu', rfl⟩ := Option.map_eq_some_iff.1 hy0
    refine ⟨u, ?_, cast1_imm k (.lit u)⟩
    have hij : i * sz + j < m * sz := by
      have : (i + 1) * sz ≤ m * sz := Nat.mul_le_mul_right _ hi
      rw [Nat.add_mul, Nat.one_mul] at this
      omega
    simp only [Builtin.zeroCells, Array.getElem?_toList, Array.getElem?_map]
    rw [hzs, Array.getElem?_eq_getElem (by simp; omega)]
    simp only [Option.map_some, Array.getElem_range, Option.some.injEq]
    rw [Nat.mul_add_mod_of_lt' hj]
    rw [Array.getElem?_toList] at hu'
    rw [getElem!_def, hu']
theorem zeroCells_one {z : Value} (m : Nat) (hz : ∀ u ∈ z.cells.toList, u.oneCell' = true) : ∀ u ∈ (Builtin.zeroCells z.cells m).toList, u.oneCell' = true := by
  intro u hu
  simp only [Builtin.zeroCells, Array.mem_toList_iff, Array.mem_map, Array.mem_range] at hu
  obtain ⟨i, hi, rfl⟩ := hu
  have hp : 0 < z.cells.size := by
    rcases Nat.eq_zero_or_pos z.cells.size with h | h
    · rw [h] at hi; omega
    · exact h
  have hm := Nat.mod_lt i hp
  rw [getElem!_pos z.cells _ hm]
  exact hz _ (by simp)
section
variable {K : Ctx} {g : Env} {w w' : World} {n : Nat} {a : Act} {s : St} {α : Type}
theorem RG.appended (r : RG K g n a w s) {e sz d : Nat} (f : α → List SC) {l1 l2 : List α} {V V' : Value} {us vals : List Value} (hl : look s.hp d = some (.spare e sz l1.length)) (hux : V = (g.tk d).2) (rx : IRel (rdOf K g s.hp w) V (.slc sz 0 l1.length (l1.map f))) (hs0 : 0 < sz)
    (hown : w.ownsRowM e sz (g.tk d).2 l1.length us) (hrow : RowIs (rdOf K g s.hp w) sz vals (l2.map f)) (hpos : 0 < l2.length)
    (q2 : w'.ownsRowM e sz V' (l1.length + l2.length) (us ++ vals)) (q3 : Keep w (fun b o => (g.tk d).2.ownBlock = some b ∧ l1.length * sz ≤ o) w') (q4 : ∀ k, V'.ownBlock = some k → (g.tk d).2.ownBlock = some k ∨ w.heap.size ≤ k) :
    ∃ g', RG K g' n a w' (s.setR d (.spare e sz (l1 ++ l2).length)) ∧ VRel (rdOf K g' (s.setR d (.spare e sz (l1 ++ l2).length)).hp w') g' V' (.c (.slc sz (d + 2) (l1 ++ l2).length ((l1 ++ l2).map f))) := by
  obtain ⟨aV, cV, hV, hVc, hVm, hvl, hblk⟩ := tk_sliceM hown
  rw [hux] at rx
  obtain ⟨aV', cV', hV', hVc', hVm', hvl', hblk'⟩ := tk_sliceM q2
  let g' : Env := { pos := g.pos, tk := fun e => if e = d then ((g.tk d).1, V') else g.tk e }
  have hgd' : g'.tk d = ((g.tk d).1, V') := by simp [g']
  have hgr : Grew g g' d := ⟨fun _ => rfl, fun e => by by_cases q : e = d <;> simp [g', q], fun e q => by simp [g', q], .inr (by rw [hgd', hvl, hvl']; omega)⟩
  have hlen : (l1 ++ l2).length = l1.length + l2.length := List.length_append
  obtain ⟨r1, hle⟩ := r.grow (g' := g') (w' := w') (r := .spare e sz (l1 ++ l2).length) hl hgr q3 (fun b o' hf => by
      simp only [Foot, hgd'] at hf
      rcases q4 b hf.1 with h5 | h5
      · refine .inl ⟨h5, Nat.le_trans (Nat.mul_le_mul_right _ ?_) hf.2⟩
        omega
      · exact .inr h5) (fun _ q => by cases q) rfl (fun _ => ⟨us ++ vals, by rw [hgd', hlen]; exact q2⟩)
  refine ⟨g', r1, ⟨?_, ?_⟩⟩
  · -- the elements
    have hrx : RowIs (rdOf K g s.hp w) sz us (l1.map f) := by
      rcases hblk with h0 | ⟨bb, hbb, hbk⟩
      · have : l1 = [] := List.eq_nil_of_length_eq_zero h0
        subst this
        have : us = [] := List.eq_nil_of_length_eq_zero (by simpa using hown.1)
        subst this
        exact ⟨by simp, by simp⟩
      · obtain ⟨_, _, valsx, hs | ⟨ad', c', h3, hnil', _⟩⟩ := src_row (rdOf_le g s.hp r.hg.keep) rx
        · obtain ⟨h3, _, _, hrow', hlv', hw'⟩ := hs
          rw [List.length_map] at hlv' hw' h3
          rcases hw' with h0 | ⟨ad', hh, hcells'⟩
          · have : l1 = [] := List.eq_nil_of_length_eq_zero h0
            subst this
            have : us = [] := List.eq_nil_of_length_eq_zero (by simpa using hown.1)
            subst this
            exact ⟨by simp, by simp⟩
          · rw [hV, hbb] at h3
            cases h3
            cases hh
            have : us = valsx := by
              apply List.ext_getElem?
              intro j
              rcases Nat.lt_or_ge j (l1.length * sz) with hj | hj
              · have hju : j < us.length := by rw [hown.1]; exact hj
                have hjv : j < valsx.length := by omega
                have q1 := hown.cells hbk j (us[j]'hju) (List.getElem?_eq_getElem hju)
                have q2 := hcells' j (valsx[j]'hjv) (List.getElem?_eq_getElem hjv)
                rw [q1] at q2
                rw [List.getElem?_eq_getElem hju, List.getElem?_eq_getElem hjv]
                exact q2
              · rw [List.getElem?_eq_none (by rw [hown.1]; exact hj), List.getElem?_eq_none (by omega)]
            rw [this]
            exact hrow'
        · have : l1 = [] := by simpa using hnil'
          subst this
          have : us = [] := List.eq_nil_of_length_eq_zero (by simpa using hown.1)
          subst this
          exact ⟨by simp, by simp⟩
    have hr2 : RowIs (rdOf K g s.hp w) sz (us ++ vals) ((l1 ++ l2).map f) := by
      rw [List.map_append]
      exact hrx.append hrow (by rw [List.length_map]; exact hown.1)
    rcases hblk' with h0 | ⟨bb, hbb, hbk⟩
    · omega
    rw [hV', hbb, ← hlen]
    refine row_is (b := bb) (vals := us ++ vals) (hr2.mono hle) (by simp) (by rw [hlen]; exact hVc') hVm' (fun k v hv hk => ?_)
    -- each cell is read
    have hcell := q2.cells hbk k v hv
    rw [addr_add, Nat.zero_add] at hcell
    rcases q4 bb hbk with h5 | h5
    · -- in place
      rcases Nat.lt_or_ge k (l1.length * sz) with hk1 | hk1
      · rcases hblk with h0 | ⟨b2, hb2, hbk2⟩
        · rw [h0] at hk1; omega
        · rw [h5] at hbk2
          cases hbk2
          rw [hV, hb2] at rx
          have hv2 : us[k]? = some v := by rwa [List.getElem?_append_left (by rw [hown.1]; exact hk1)] at hv
          refine hle _ _ _ ?_
          generalize hsc : SC.slc sz 0 l1.length (l1.map f) = yy at rx
          generalize hvv : Value.slice (some ⟨bb, 0, none⟩) l1.length cV = vv at rx
          cases rx with
          | lit v => cases hsc
          | nil s' a c hm => injection hsc with _ _ h9 _; rw [h9] at hk1; omega
          | ref b o cs f hr hu => cases hsc
          | slc1 => cases hsc
          | slc b o n c s' xs' ff hn hc hm hs hr hu =>
            cases hsc
            cases hvv
            have hs0' : 0 < sz := hs0
            have hi2 : k / sz < (l1.map f).length := by rw [List.length_map]; exact Nat.div_lt_of_lt_mul (by rw [Nat.mul_comm]; exact hk1)
            have hx2 := List.getElem?_eq_getElem hi2
            have hlx := hs _ (List.getElem_mem hi2)
            have hj2 : k % sz < ((l1.map f)[k / sz]).length := by rw [hlx]; exact Nat.mod_lt _ hs0'
            have h6 := hr _ _ _ _ hx2 (List.getElem?_eq_getElem hj2)
            rw [Nat.zero_add, show k / sz * sz + k % sz = k by have := Nat.div_add_mod k sz; rw [Nat.mul_comm] at this; omega] at h6
            have h7 := rdOf_le g s.hp r.hg.keep _ _ _ h6
            have h8 := hown.cells h5 k v hv2
            rw [addr_add, Nat.zero_add, h7] at h8
            rw [h6]; exact h8
      · unfold rdOf
        have hnew : ¬ InFoot g' (s.setR d (.spare e sz (l1 ++ l2).length)).hp bb k := by
          rintro ⟨d2, x2, k1, k2⟩
          simp only [St.setR, look_setL] at k1
          split at k1
          · rename_i hdd
            cases k1
            simp only [Foot, ← hdd, hgd'] at k2
            have := (List.getElem?_eq_some_iff.1 hv).1
            rw [q2.1] at this
            omega
          · rename_i hdd
            rw [foot_env ⟨hgr.pos d2, hgr.tk d2 (Ne.symm hdd)⟩] at k2
            exact r.hg.dis d2 d x2 _ bb k (Ne.symm hdd) k1 hl k2 ⟨h5, hk1⟩
        rw [if_neg hnew, if_neg]
        · exact hcell
        · exact fun q => (r.hg.new d _ hl rfl bb k ⟨h5, hk1⟩).elim (fun q2 => Nat.not_lt.2 q2 q.1) q.2
    · unfold rdOf
      have hnew : ¬ InFoot g' (s.setR d (.spare e sz (l1 ++ l2).length)).hp bb k := by
        rintro ⟨d2, x2, k1, k2⟩
        simp only [St.setR, look_setL] at k1
        split at k1
        · rename_i hdd
          cases k1
          simp only [Foot, ← hdd, hgd'] at k2
          have := (List.getElem?_eq_some_iff.1 hv).1
          rw [q2.1] at this
          omega
        · rename_i hdd
          rw [foot_env ⟨hgr.pos d2, hgr.tk d2 (Ne.symm hdd)⟩] at k2
          have := (r.hg.holds d2 x2 k1).lt k2
          omega
      rw [if_neg hnew, if_neg (by have := r.hg.keep.size; omega)]
      exact hcell
  · show _ ≤ vlen (g'.tk d).2 ∧ (_ = vlen (g'.tk d).2 → V' = (g'.tk d).2)
    rw [hgd']
    exact ⟨by rw [hvl', hlen]; exact Nat.le_refl _, fun _ => rfl⟩
end

section
variable {P : Program} {K : Ctx} {n : Nat} {ops : Array Oper} {o : Oper} {s need : St} {α : Type} {C : Cfg} {D : Dr} {Q : Exit → St → Prop}
end
end
section
open Go.RowKit

theorem run_boundsC {P : Program} {w : World} {A : Act} {g : Env} {rd : Rd} {s : St} {o : Oper} (hview : OView g rd A w s o) {lo hi : Option Operand} (hlm : ∀ y, lo = some y → y ∈ o.op.operands.toList) (hhm : ∀ y, hi = some y → y ∈ o.op.operands.toList) {len cap : Nat} {a b : Int} {vlo vhi : Option (IntKind × Int)}
    (hlo : lo.map (opd s) = vlo.map fun p => some (int p.1 p.2)) (hhi : hi.map (opd s) = vhi.map fun p => some (int p.1 p.2)) (ha : a = (vlo.map (·.2)).getD 0) (hb : b = (vhi.map (·.2)).getD (len : Int)) (h0 : 0 ≤ a) (h1 : a ≤ b) (h2 : b ≤ cap) :
    (Instr.sliceBounds true len cap (lo.map A.eval) (hi.map A.eval) (none : Option Value)).run P w = .ok (a.toNat, b.toNat, cap) w := by
  have hb' : (match hi.map A.eval with | some v => Instr.sliceBound v cap .sliceAcap | none => pure len : Sem Nat).run P w = .ok b.toNat w := by
    cases hi with
    | none =>
      cases vhi with
      | none => simp at hb; subst hb; simp
      | some p => simp at hhi
    | some y =>
      cases vhi with
      | none => simp at hhi
      | some p =>
        simp only [Option.map_some, Option.some.injEq, Option.getD_some] at hhi hb
        have := rel_lit (hview.op y _ (hhm y rfl) hhi)
        simp only [Option.map_some, this]
        rw [← hb]
        exact run_bound _ _ _ _ (by omega) (by omega)
  have ha' : (match lo.map A.eval with | some v => Instr.sliceBound v b.toNat .sliceB | none => pure 0 : Sem Nat).run P w = .ok a.toNat w := by
    cases lo with
    | none =>
      cases vlo with
      | none => simp at ha; subst ha; simp
      | some p => simp at hlo
    | some y =>
      cases vlo with
      | none => simp at hlo
      | some p =>
        simp only [Option.map_some, Option.some.injEq, Option.getD_some] at hlo ha
        have := rel_lit (hview.op y _ (hlm y rfl) hlo)
        simp only [Option.map_some, this]
        rw [← ha]
        exact run_bound _ _ _ _ (by omega) (by omega)
  unfold Instr.sliceBounds
  cases hi with
  | none =>
    cases lo with
    | none => simp at ha' hb' ⊢; exact ⟨ha', hb'⟩
    | some y => simp only [Option.map_none, Option.map_some, Sem.run_bind, Sem.run_pure, Result.andThen_ok, Option.isSome_none, Bool.false_eq_true, if_false] at ha' hb' ⊢; cases hb'; rw [ha']; simp
  | some z =>
    cases lo with
    | none => simp only [Option.map_none, Option.map_some, Sem.run_bind, Sem.run_pure, Result.andThen_ok, if_true] at ha' hb' ⊢; rw [hb']; simp at ha' ⊢; exact ha'
    | some y => simp only [Option.map_some, Sem.run_bind, Sem.run_pure, Result.andThen_ok, Option.isSome_none, Bool.false_eq_true, if_false, if_true] at ha' hb' ⊢; rw [hb']; simp only [Result.andThen_ok]; rw [ha']; simp
theorem run_bounds3 {P : Program} {w : World} {A : Act} {g : Env} {rd : Rd} {s : St} {o : Oper} (hview : OView g rd A w s o) {lo : Option Operand} {hi mx : Operand} (hlm : ∀ y, lo = some y → y ∈ o.op.operands.toList) (hhm : hi ∈ o.op.operands.toList) (hmm : mx ∈ o.op.operands.toList) {len cap : Nat} {a b m : Int} {vlo : Option (IntKind × Int)} {kh km : IntKind}
    (hlo : lo.map (opd s) = vlo.map fun p => some (int p.1 p.2)) (hhi : opd s hi = some (int kh b)) (hmx : opd s mx = some (int km m)) (ha : a = (vlo.map (·.2)).getD 0) (h0 : 0 ≤ a) (h1 : a ≤ b) (h2 : b ≤ m) (h3 : m ≤ cap) :
    (Instr.sliceBounds true len cap (lo.map A.eval) (some (A.eval hi)) (some (A.eval mx))).run P w = .ok (a.toNat, b.toNat, m.toNat) w := by
  have e1 := rel_lit (hview.op hi _ hhm hhi)
  have e2 := rel_lit (hview.op mx _ hmm hmx)
  have hm' := run_bound (P := P) (w := w) km m cap .slice3Acap (by omega) h3
  have hb' := run_bound (P := P) (w := w) kh b m.toNat .slice3B (by omega) (by omega)
  unfold Instr.sliceBounds
  rw [e1, e2]
  cases lo with
  | none =>
    cases vlo with
    | none =>
      simp only [Option.map_none, Option.getD_none] at ha
      subst ha
      simp only [Option.map_none, if_true, Sem.run_bind, hm', Result.andThen_ok, hb', Sem.run_pure]
      rfl
    | some p => simp at hlo
  | some y =>
    cases vlo with
    | none => simp at hlo
    | some p =>
      simp only [Option.map_some, Option.some.injEq, Option.getD_some] at hlo ha
      have e3 := rel_lit (hview.op y _ (hlm y rfl) hlo)
      have ha' := run_bound (P := P) (w := w) p.1 p.2 b.toNat .slice3C (by omega) (by omega)
      subst ha
      simp only [Option.map_some, e3, if_true, Sem.run_bind, hm', Result.andThen_ok, hb', Option.isSome_some, ha', Sem.run_pure]

section
variable {P : Program} {o : Oper} {s : St} {α : Type}
def slPArgs (P : Program) (s : St) (o : Oper) : Option (Nat × Nat × Nat × Int × Int) := match o.op with
  | .slice t x lo hi none => match opd s x, P.underlying t with
    | some (.c (.row d m)), some (.slice e') => match look s.hp d, P.info? e' with
      | some (.row _ sz N _), some ie => match bnd s 0 lo, bnd s m hi with
        | some (_, a), some (_, b) => if ie.size = sz then some (d, sz, N, a, b) else none
        | _, _ => none
      | _, _ => none
    | _, _ => none
  | _ => none
theorem slP_run {d sz N : Nat} {a b : Int} (h : slPArgs P s o = some (d, sz, N, a, b)) (hc : decide (0 ≤ a ∧ a ≤ b ∧ b ≤ (N : Int)) = true) {g : Env} {rd : Rd} {A : Act} {w : World} (hview : OView g rd A w s o) :
    ∃ x c, (g.tk d).1 = .slice x N c ∧ N ≤ c ∧ c ≤ maxLen ∧ (N = 0 ∨ ∃ blk, x = some ⟨blk, 0, none⟩) ∧ (execOp A.eval o).run P w = .ok (.value (.slice (if c = a.toNat then x else x.map (·.add (a.toNat * sz))) (b.toNat - a.toNat) (c - a.toNat))) w := by
  unfold slPArgs at h
  split at h
  rotate_left
  · cases h
  rename_i t xo lo hi ho
  split at h
  rotate_left
  · cases h
  rename_i d1 m1 e1 hx hu
  split at h
  rotate_left
  · cases h
  rename_i e2 sz2 N2 xs2 ie hl hie
  split at h
  rotate_left
  · cases h
  rename_i vlo a1 vhi b1 hlo hhi
  split at h
  rotate_left
  · cases h
  rename_i hsz
  cases h
  obtain ⟨c0, c1, c2⟩ := of_decide_eq_true hc
  obtain ⟨us, h3, h4, h5⟩ := hview.holds d _ hl
  obtain ⟨x, c, k1, k2, k3, _, k5⟩ := tk_slice h3
  obtain ⟨x', N', c', r1, hv, r3⟩ := hview.op xo _ (by simp [ho, Op.operands]) hx
  rw [k1] at r1
  cases r1
  refine ⟨x, c, k1, k2, k3, ?_, ?_⟩
  · rcases k5 with k5 | ⟨blk, k5, _⟩
    · exact .inl k5
    · exact .inr ⟨blk, k5⟩
  · obtain ⟨q1, q2⟩ := bnd_spec hlo
    obtain ⟨q3, q4⟩ := bnd_spec hhi
    have hk := run_boundsC (P := P) (A := A) hview (lo := lo) (hi := hi) (fun y hy => by subst hy; simp [ho, Op.operands]) (fun y hy => by subst hy; cases lo <;> simp [ho, Op.operands]) (len := m1) (cap := c) q1 q3 q2 q4 c0 c1 (by omega)
    simp only [execOp, ho, Option.map_none, Instr.sliceAt, Instr.slice, run_underlying hu, hv, hk, sizeOf, typeInfo, program, hie, Sem.run_bind, Sem.run_pure, Sem.run, Result.andThen_ok, hsz]
theorem sub_of_run {d sz N : Nat} {a b : Int} {rd : Rd} {g : Env} {x : Option Addr} {c m : Nat} (k1 : (g.tk d).1 = .slice x N c) (k3 : c ≤ maxLen) (k4 : N = 0 ∨ ∃ blk, x = some ⟨blk, 0, none⟩) (c0 : 0 ≤ a) (c1 : a ≤ b) (c2 : b ≤ (N : Int)) (hm : b.toNat ≤ m) (hmc : m ≤ c) :
    VRel rd g (.slice (if m = a.toNat then x else x.map (·.add (a.toNat * sz))) (b.toNat - a.toNat) (m - a.toNat)) (.c (.sub d sz a.toNat (b.toNat - a.toNat))) := by
  refine ⟨x, N, c, _, _, k1, by omega, rfl, by omega, by omega, ?_⟩
  by_cases hz : b.toNat - a.toNat = 0
  · exact .inl hz
  · right
    rcases k4 with k4 | ⟨blk, k4⟩
    · omega
    · refine ⟨blk, k4, ?_⟩
      rw [if_neg (by omega), k4]
      simp only [Option.map_some, addr_add, Nat.zero_add]
theorem grow_slPSub {d sz N : Nat} {a b : Int} (h : slPArgs P s o = some (d, sz, N, a, b)) (hc : decide (0 ≤ a ∧ a ≤ b ∧ b ≤ (N : Int)) = true) : GrowOp P o s (.c (.sub d sz a.toNat (b.toNat - a.toNat))) := by
  refine PureOp.grow fun g rd A w hview => ?_
  obtain ⟨x, c, k1, k2, k3, k4, k5⟩ := slP_run h hc hview
  obtain ⟨c0, c1, c2⟩ := of_decide_eq_true hc
  exact ⟨_, k5, sub_of_run k1 k3 k4 c0 c1 c2 (by omega) (Nat.le_refl _)⟩
def slMArgs (P : Program) (s : St) (o : Oper) : Option (Nat × Nat × Nat × Int × Int × Int) := match o.op with
  | .slice t x lo (some hi) (some mx) => match (opd s x).bind (preOf s), P.underlying t with
    | some (d, _, sz, N, _, _), some (.slice e') => match P.info? e', bnd s 0 lo, opd s hi, opd s mx with
      | some ie, some (_, a), some (.c (.lit (.int _ b))), some (.c (.lit (.int _ m))) => if ie.size = sz then some (d, sz, N, a, b, m) else none
      | _, _, _, _ => none
    | _, _ => none
  | _ => none
theorem grow_slM {d sz N : Nat} {a b m : Int} (h : slMArgs P s o = some (d, sz, N, a, b, m)) (hc : decide (0 ≤ a ∧ a ≤ b ∧ b ≤ m ∧ m ≤ (N : Int)) = true) : GrowOp P o s (.c (.sub d sz a.toNat (b.toNat - a.toNat))) := by
  refine PureOp.grow fun g rd A w hview => ?_
  unfold slMArgs at h
  split at h
  rotate_left
  · cases h
  rename_i t xo lo hi mx ho
  split at h
  rotate_left
  · cases h
  rename_i d1 e1 sz1 N1 xs1 m1 e2 hx hu
  split at h
  rotate_left
  · cases h
  rename_i ie vlo a1 kb b1 km mm hie hlo hhi hmx
  split at h
  rotate_left
  · cases h
  rename_i hsz
  cases h
  obtain ⟨vx, hx1, hx2⟩ := Option.bind_eq_some_iff.1 hx
  obtain ⟨c0, c1, c2, c3⟩ := of_decide_eq_true hc
  have hl := preOf_look hx2
  obtain ⟨us, h3, h4, h5⟩ := hview.holds d _ hl
  obtain ⟨x, c, k1, k2, k3, _, k5⟩ := tk_slice h3
  have hv : ∃ n, A.eval xo = .slice x n c := by
    have hr := hview.op xo _ (by simp [ho, Op.operands]) hx1
    unfold preOf at hx2
    split at hx2
    · split at hx2
      · cases hx2; exact ⟨_, hr.1.trans k1⟩
      · cases hx2
    · split at hx2
      · cases hx2
        obtain ⟨x', N', c', r1, hv, r3⟩ := hr
        rw [k1] at r1
        cases r1
        exact ⟨_, hv⟩
      · cases hx2
    · cases hx2
  obtain ⟨n0, hv⟩ := hv
  obtain ⟨q1, q2⟩ := bnd_spec hlo
  have hk := run_bounds3 (P := P) (A := A) hview (lo := lo) (hi := hi) (mx := mx) (fun y hy => by subst hy; simp [ho, Op.operands]) (by cases lo <;> simp [ho, Op.operands]) (by cases lo <;> simp [ho, Op.operands]) (len := n0) (cap := c) q1 hhi hmx q2 c0 c1 c2 (by omega)
  refine ⟨.slice (if m.toNat = a.toNat then x else x.map (·.add (a.toNat * sz))) (b.toNat - a.toNat) (m.toNat - a.toNat), ?_, sub_of_run k1 k3 (by
    rcases k5 with k5 | ⟨blk, k5, _⟩
    · exact .inl k5
    · exact .inr ⟨blk, k5⟩) c0 c1 (by omega) (by omega) (by omega)⟩
  simp only [execOp, ho, Option.map_some, Instr.sliceAt, Instr.slice, run_underlying hu, hv, hk, sizeOf, typeInfo, program, hie, Sem.run_bind, Sem.run_pure, Sem.run, Result.andThen_ok, hsz]
end

section
variable {P : Program} {K : Ctx} {n : Nat} {Q : Exit → St → Prop} {C : Cfg} {D : Dr}
theorem TS_slPSub (d sz N : Nat) {a b : Int} (hc : decide (0 ≤ a ∧ a ≤ b ∧ b ≤ (N : Int)) = true) (h : C.with1 (slPArgs P) = some (d, sz, N, a, b)) (hg : C.go1 n = true) (kk : TS P K n (C.ret (.c (.sub d sz a.toNat (b.toNat - a.toNat)))) Q) : TS P K n C Q :=
  TS_val _ hg (fun _os _o ho => grow_slPSub (with1_op h ho) hc) kk
theorem TS_slM (d sz N : Nat) {a b m : Int} (hc : decide (0 ≤ a ∧ a ≤ b ∧ b ≤ m ∧ m ≤ (N : Int)) = true) (h : C.with1 (slMArgs P) = some (d, sz, N, a, b, m)) (hg : C.go1 n = true) (kk : TS P K n (C.ret (.c (.sub d sz a.toNat (b.toNat - a.toNat)))) Q) : TS P K n C Q :=
  TS_val _ hg (fun _os _o ho => grow_slM (with1_op h ho) hc) kk
def rowAt (s : St) (t : Nat) : Option (Nat × Nat × Nat × Nat × Nat × List (List SC)) := match look s.tmps t with
  | some (.c (.row d m)) => match look s.hp d with
    | some (.row e sz N xs) => some (d, m, e, sz, N, xs)
    | _ => none
  | _ => none
theorem ownsRow_cut {w : World} {e sz N m : Nat} {x : Option Addr} {c : Nat} {us : List Value} (h : w.ownsRow 0 e sz (.slice x N c) N us) (hm : m ≤ N) : w.ownsRow 0 e sz (.slice x m c) m (us.take (m * sz)) := by
  have hms : m * sz ≤ N * sz := Nat.mul_le_mul_right _ hm
  refine ⟨by rw [List.length_take, h.1]; omega, ?_⟩
  rcases h.2 with ⟨hn, h0⟩ | ⟨gb, cap, cur, hv, hb, hgg, h1, h2, h3, h4⟩
  · cases hn
    obtain rfl : m = 0 := by omega
    exact .inl ⟨rfl, rfl⟩
  · cases hv
    refine .inr ⟨gb, c, cur, rfl, hb, hgg, by omega, h2, h3, ?_⟩
    rw [← h4, List.take_take, Nat.min_eq_left hms]
theorem TS_trunc (t : Nat) {d m e sz N : Nat} {xs : List (List SC)} (N2 : Nat) (ys : List (List SC)) (hy : xs.take m = ys) (hN : ys.length = N2) (h : rowAt C.st t = some (d, m, e, sz, N, xs)) (he : C.pre = true) (k : TS P K n (C.withS (((C.st.mapC (SC.kill d)).setR d (.row e sz N2 ys)).put (some t) (.c (.own d)))) Q) : TS P K n C Q := by
  unfold rowAt at h
  split at h
  rotate_left
  · cases h
  rename_i d1 m1 hlt
  split at h
  rotate_left
  · cases h
  rename_i e1 sz1 N1 xs1 hl
  cases h
  refine TS_state _ (fun a w r => ?_) he k
  obtain ⟨g, r⟩ := r
  obtain ⟨us, h1, h2, h3⟩ := r.hg.holds d _ hl
  obtain ⟨u, hu1, hu2⟩ := r.tmps t _ hlt
  obtain ⟨x, N', c, k1, rfl, k3⟩ := hu2
  have hN' : N' = N := by
    obtain ⟨x', c', k4, _⟩ := tk_slice h1
    rw [k1] at k4
    cases k4
    rfl
  subst hN'
  rw [k1] at h1
  have hcut := ownsRow_cut h1 k3
  have hm : m = N2 := by rw [← hN, ← hy, List.length_take, h2, Nat.min_eq_left k3]
  let g' : Env := { pos := g.pos, tk := fun e => if e = d then (.slice x m c, (g.tk d).2) else g.tk e }
  have hgd' : g'.tk d = (.slice x m c, (g.tk d).2) := by simp [g']
  have hot : Other g g' d := ⟨fun _ => rfl, fun e q => by simp [g', q], fun e => by by_cases q : e = d <;> simp [g', q]⟩
  obtain ⟨r1, hle⟩ := r.turn (g' := g') (w' := w) (r := .row e sz N2 ys) (SC.kill d) hl (fun _ => rfl) (fun e q => by simp [g', q]) (fun _ => true) (fun _ v _ => v.every_true) (fun _ x _ => x.every_true) (fun hle v y _ hc => hc.kill hle hot) (Keep.refl _ _) (fun b o hf => by
      simp only [Foot, hgd'] at hf
      refine .inl ?_
      simp only [Foot, k1]
      cases x with
      | none => simp [Value.ownBlock] at hf
      | some ad => exact hf) (fun _ q => by cases q) rfl (fun hle => by
      refine ⟨us.take (m * sz), by rw [hgd', ← hm]; exact hcut, hN, ?_⟩
      have := h3.cut 0 m
      simp only [Nat.zero_mul, List.drop_zero, hy] at this
      exact this.mono hle)
  refine ⟨g', r1.defers, r1.size, r1.few, r1.hg, fun j v hv => ?_⟩
  rw [look_put] at hv
  split at hv
  · rename_i hj
    cases hv
    subst hj
    exact ⟨_, hu1, by rw [hgd'], .inl ⟨x, m, c, by rw [hgd']⟩⟩
  · exact r1.tmps j v hv
end
end
section
open Go.RowKit

section
variable {P : Program} {K : Ctx} {n : Nat} {Q : Exit → St → Prop} {C : Cfg} {D : Dr} {g : Env} {a : Act} {w : World} {s : St} {o : Oper} {α : Type}
def clrL (l : List α) (a m : Nat) (z : α) : List α := l.take a ++ List.replicate m z ++ l.drop (a + m)
def clrArgs (P : Program) (s : St) (o : Oper) : Option (Nat × Nat × Nat × Nat × List (List SC) × Cut × Nat × List SC) := match o.op with
  | .call { callee := .builtin .clear, args := xs, argTypes := ts } => match xs.toList, ts.toList with
    | [x], [t] => match P.underlying t with
      | some (.slice e') => match P.info? e' with
        | some ie => match ie.zero, (opd s x).bind (rowOfS s) with
          | some z, some (d, e, sz, N, xs, c, a) => if ie.size = sz ∧ 0 < sz ∧ z.cells.size = sz ∧ z.cells.all Value.oneCell' = true then some (d, e, sz, N, xs, c, a, z.cells.toList.map SC.lit) else none
          | _, _ => none
        | none => none
      | _ => none
    | _, _ => none
  | _ => none
theorem rowOfS_look {v : SV} {d e sz N a : Nat} {xs : List (List SC)} {c : Cut} (hx2 : rowOfS s v = some (d, e, sz, N, xs, c, a)) : look s.hp d = some (.row e sz N xs) := by
  unfold rowOfS at hx2
  split at hx2
  · split at hx2
    · rename_i hl; cases hx2; exact hl
    · cases hx2
  · split at hx2
    · rename_i hl; cases hx2; exact hl
    · cases hx2
  · split at hx2
    · rename_i hl; cases hx2; exact hl
    · cases hx2
  · split at hx2
    · rename_i hl
      split at hx2
      · cases hx2; exact hl
      · cases hx2
    · cases hx2
  · cases hx2
theorem upd_clr {d e sz N a : Nat} {f : α → List SC} (z0 : α) (ks : List Nat) {cs : List SC} {l : List α} {c : Cut} (hf : castL ks cs = f z0) (h : clrArgs P s o = some (d, e, sz, N, l.map f, c, a, cs)) :
    UpdOp P o s d (.row e sz N (l.map f)) (.row e sz (clrL l a (c.app l).length z0).length ((clrL l a (c.app l).length z0).map f)) (.tup []) := by
  unfold clrArgs at h
  split at h
  rotate_left
  · cases h
  rename_i xs ts ho
  split at h
  rotate_left
  · cases h
  rename_i x t hxs hts
  have hxs' : xs = #[x] := by rw [← Array.toArray_toList (xs := xs), hxs]
  have hts' : ts = #[t] := by rw [← Array.toArray_toList (xs := ts), hts]
  subst hxs'
  subst hts'
  split at h
  rotate_left
  · cases h
  rename_i e1 hu
  split at h
  rotate_left
  · cases h
  rename_i ie hie
  split at h
  rotate_left
  · cases h
  rename_i z d1 e2 sz2 N2 xs2 c2 a2 hz hx
  split at h
  rotate_left
  · cases h
  rename_i hq
  obtain ⟨hsz, hs0, hzc, hone⟩ := hq
  cases h
  obtain ⟨vx, hx1, hx2⟩ := Option.bind_eq_some_iff.1 hx
  have hl := rowOfS_look hx2
  refine ⟨hl, rfl, fun _ _ _ hf => hf, fun g rd A w hview => ?_⟩
  obtain ⟨_, hr⟩ := rowOfS_rel hx2 hview (hview.op x _ (by simp [ho, Op.operands, Call.operands]) hx1)
  obtain ⟨us, h1, h2, h3⟩ := hr.own
  obtain ⟨xa, cap, q1, q2, q3, q4, q5⟩ := hr.val
  rw [Cut.map, List.length_map] at q1 q2 q4 q5
  simp only [execOp, ho, resolve, invoke, builtin, Sem.run_bind, Sem.run_pure, Result.andThen_ok, List.map_toArray, List.map_cons, List.map_nil, q1]
  generalize hk : (c.app l).length = k at *
  by_cases hk0 : k = 0
  · subst hk0
    have hrun : (Builtin.clear_ #[t] o.type #[.slice xa 0 cap]).run P w = .ok (.tuple #[]) w := by
      cases xa <;> simp [Builtin.clear_, run_underlying hu]
    rw [hrun]
    simp only [Result.andThen_ok]
    refine ⟨_, _, rfl, Keep.refl _ _, .inr ⟨_, rfl, fun rd' _ => ⟨#[], rfl, rfl, fun j y hy => by simp at hy⟩⟩, fun rd' hle => ?_⟩
    have : clrL l a 0 z0 = l := by simp [clrL]
    rw [this]
    have hlN : l.length = N := by simpa using h2
    exact ⟨us, by rw [hlN]; exact h1, by simp, h3.mono hle⟩
  · rcases q5 with q5 | ⟨b, q5, q6⟩
    · omega
    subst q6
    have hzl : (Builtin.zeroCells z.cells k).toList.length = k * sz := by simp [Builtin.zeroCells, hzc]
    have hzr := zeroCells_row (rd := rd) k f z0 ks hzc hf
    have hz1 := zeroCells_one (z := z) k (fun u hu => Array.all_eq_true'.1 hone u (by simpa using hu))
    generalize hvals : (Builtin.zeroCells z.cells k).toList = vals at *
    have hb1 : a * sz + k * sz ≤ N * sz := by rw [← Nat.add_mul]; exact Nat.mul_le_mul_right _ (by omega)
    have hul := h1.1
    have hst := run_storeCells_cells (P := P) b (a * sz) vals 0 w
      (fun j hj => by
        have := h1.cells q5 (a * sz + j) _ (List.getElem?_eq_getElem (by omega))
        rw [addr_add, Nat.zero_add] at this
        rw [Nat.add_zero, this]; rfl)
      (fun j hj => by
        rcases h1.2 with ⟨q, _⟩ | ⟨gb, cap, cur, q1, _, q2, _⟩
        · rw [q] at q5; cases q5
        · rw [q1] at q5; cases q5
          simp [World.frozen?, q2]) hz1
    simp only [Nat.add_zero] at hst
    obtain ⟨o1, o2⟩ := own_write h1 q5 (a * sz) vals (by omega)
    have hrun : (Builtin.clear_ #[t] o.type #[.slice (some ⟨b, a * sz, none⟩) k cap]).run P w = .ok (.tuple #[]) (w.setCells b (a * sz) vals) := by
      obtain ⟨k', rfl⟩ : ∃ k', k = k' + 1 := ⟨k - 1, by omega⟩
      simp [Builtin.clear_, run_underlying hu, zeroValue, typeInfo, hie, hz, hvals, hst]
    rw [hrun]
    simp only [Result.andThen_ok]
    refine ⟨_, _, rfl, o2, .inr ⟨_, rfl, fun rd' _ => ⟨#[], rfl, rfl, fun j y hy => by simp at hy⟩⟩, fun rd' hle => ⟨_, (by
      have hlN : (clrL l a k z0).length = N := by
        unfold clrL
        simp only [List.length_map, List.length_append, List.length_take, List.length_drop, List.length_replicate] at h2 ⊢
        omega
      rw [hlN]; exact o1), by simp, ?_⟩⟩
    unfold clrL
    rw [List.map_append, List.map_append, hzl, ← Nat.add_mul]
    refine RowIs.mono hle ?_
    have e1 : RowIs rd sz (us.take (a * sz)) ((l.take a).map f) := by
      have := h3.cut 0 a
      simpa [List.map_take] using this
    have e3 : RowIs rd sz (us.drop ((a + k) * sz)) ((l.drop (a + k)).map f) := by
      have := h3.cut (a + k) (N - (a + k))
      have q : (us.drop ((a + k) * sz)).take ((N - (a + k)) * sz) = us.drop ((a + k) * sz) := List.take_of_length_le (by rw [List.length_drop, hul, ← Nat.sub_mul]; exact Nat.le_refl _)
      have q' : ((l.map f).drop (a + k)).take (N - (a + k)) = (l.drop (a + k)).map f := by
        rw [List.map_drop]; exact List.take_of_length_le (by rw [List.length_drop, h2]; exact Nat.le_refl _)
      rw [q, q'] at this
      exact this
    have hal : a ≤ l.length := by rw [List.length_map] at h2; omega
    refine (e1.append hzr ?_).append e3 ?_
    · simp only [List.length_map, List.length_take]; rw [Nat.min_eq_left (by rw [hul]; omega), Nat.min_eq_left hal]
    · simp only [List.length_map, List.length_append, List.length_take, hzl, List.length_replicate]; rw [Nat.min_eq_left (by rw [hul]; omega), Nat.min_eq_left hal, Nat.add_mul]
theorem TS_clr (d e sz N a : Nat) (f : α → List SC) (z0 : α) (ks : List Nat) {cs : List SC} {l : List α} (c : Cut) (hf : castL ks cs = f z0) (h : C.with1 (clrArgs P) = some (d, e, sz, N, l.map f, c, a, cs)) (hg : C.go1 n = true) (kk : TS P K n (C.next ((C.st.setR d (.row e sz (clrL l a (c.app l).length z0).length ((clrL l a (c.app l).length z0).map f))).put C.dst (.tup []))) Q) : TS P K n C Q :=
  TS_upd (fun _os _o ho => upd_clr z0 ks hf (with1_op h ho)) hg kk
end
end
section
open Go.RowKit

section
variable {P : Program} {K : Ctx} {n : Nat} {Q : Exit → St → Prop} {C : Cfg} {D : Dr} {s : St} {o : Oper} {α : Type}
def SC.fzv : SC → Option SC
  | .lit v => some (.lit v)
  | .slc s _ n xs => some (.slc s 0 n xs)
  | .ref cs => some (.ref cs)
  | _ => none
def fzvL : List SC → Option (List SC)
  | [] => some []
  | x :: l => match x.fzv, fzvL l with
    | some y, some r => some (y :: r)
    | _, _ => none
theorem fzv_rel {rd : Rd} {g : Env} {u : Value} {x y : SC} (h : CRel rd g u x) (hx : x.fzv = some y) : IRel rd u y := by
  cases x <;> simp only [SC.fzv, reduceCtorEq, Option.some.injEq] at hx
  · subst hx; exact h
  · subst hx; exact h.1
  · subst hx; exact h
theorem fzvL_get : ∀ {l : List SC} {r : List SC}, fzvL l = some r → l.length = r.length ∧ ∀ (i : Nat) (x y : SC), l[i]? = some x → r[i]? = some y → x.fzv = some y
  | [], r, h => by cases h; exact ⟨rfl, fun i x y h1 => by simp at h1⟩
  | x :: l, r, h => by
    simp only [fzvL] at h
    split at h
    · rename_i y r' hy hr
      cases h
      obtain ⟨h1, h2⟩ := fzvL_get hr
      refine ⟨by simp [h1], fun i a b ha hb => ?_⟩
      cases i with
      | zero => cases ha; cases hb; exact hy
      | succ i => exact h2 i a b ha hb
    · cases h
def boxFArgs (s : St) (o : Oper) : Option (List SC) := match o.op with
  | .box _ x => match opd s x with
    | some v => match cellsOf v with
      | some cs => fzvL cs
      | none => none
    | none => none
  | _ => none
theorem grow_boxF {cs : List SC} (h : boxFArgs s o = some cs) : GrowOp P o s (.c (.ref cs)) := by
  unfold boxFArgs at h
  split at h
  rotate_left
  · cases h
  rename_i t x ho
  split at h
  rotate_left
  · cases h
  rename_i v hx
  split at h
  rotate_left
  · cases h
  rename_i cs0 hc
  obtain ⟨hlen, hget⟩ := fzvL_get h
  intro g rd A w hview
  have hr := rel_cells (hview.op x _ (by simp [ho, Op.operands]) hx) hc
  unfold mSafe
  simp only [execOp, ho, Instr.box, newVar, newRow, newObj, Sem.run_bind, Sem.run_pure, Sem.run, Result.andThen_ok]
  refine ⟨Ext.alloc _ _, fun rd' hle hsees => ?_⟩
  have key : ∀ (j : Nat) (y : SC), cs[j]? = some y → ∃ u, (A.eval x).cells[j]? = some u ∧ IRel rd' u y := by
    intro j y hy
    have hj := (List.getElem?_eq_some_iff.1 hy).1
    obtain ⟨x0, hx0⟩ : ∃ x0, cs0[j]? = some x0 := ⟨_, List.getElem?_eq_getElem (by omega)⟩
    obtain ⟨u, h1, h2⟩ := hr.2 j x0 hx0
    exact ⟨u, h1, (fzv_rel h2 (hget j x0 y hx0 hy)).mono hle⟩
  refine .ref w.heap.size 0 cs (fun j => ((A.eval x).cells[j]?).getD undef) (fun j y hy => ?_) (fun j y hy => ?_)
  · obtain ⟨u, h1, _⟩ := key j y hy
    refine hsees _ _ _ (Nat.le_refl _) ?_
    have hc := World.cell?_alloc_at (w := w) (A.eval x).cells t w.heap.size j rfl
    rw [Nat.zero_add]
    refine Eq.trans ?_ (Eq.trans hc ?_)
    · rfl
    · rw [h1]; rfl
  · obtain ⟨u, h1, h2⟩ := key j y hy
    rw [h1]
    exact h2
theorem TS_boxF {cs : List SC} (h : C.with1 boxFArgs = some cs) (hg : C.go1 n = true) (k : TS P K n (C.ret (.c (.ref cs))) Q) : TS P K n C Q :=
  TS_val _ hg (fun _ _ ho => grow_boxF (with1_op h ho)) k
def slFArgs (P : Program) (k : IntKind) (m : Nat) (s : St) (o : Oper) : Option (List SC × Int × Int) := match o.op with
  | .slice t x lo hi none => match opd s x, P.underlying t with
    | some (.c (.ref cs)), some (.array n e) => match P.info? e, P.underlying e, bnd s 0 lo, bnd s n hi with
      | some ie, some (.int k'), some (_, a), some (_, b) => if ie.size = 1 ∧ n = m ∧ m ≤ cs.length ∧ k' = k then some (cs.take m, a, b) else none
      | _, _, _, _ => none
    | _, _ => none
  | _ => none
theorem arrS_take_drop (_k : IntKind) (m : Nat) (l : List Int) (a b i : Nat) (hb : b ≤ m) : ((((List.range m).map fun i => l.getD i 0).take b).drop a)[i]? = if a + i < b then some (l.getD (a + i) 0) else none := by
  rw [List.getElem?_drop, List.getElem?_take]
  split
  · rw [List.getElem?_map, List.getElem?_range (by omega)]; rfl
  · rfl
theorem grow_slF {k : IntKind} {m : Nat} {l : List Int} {l' : List Int} {a b : Int} (hm : decide (m ≤ 140737488355328) = true) (he : subO (arrL m l) a b = some l') (h : slFArgs P k m s o = some (arrS k m l, a, b)) : GrowOp P o s (.c (.slc 1 0 l'.length (l'.map (ecI k)))) := by
  have hm' := of_decide_eq_true hm
  unfold subO at he
  split at he
  rotate_left
  · cases he
  rename_i hab
  cases he
  obtain ⟨p1, p2, p3⟩ := hab
  have hal : (arrL m l).length = m := by simp [arrL]
  rw [hal] at p3
  unfold slFArgs at h
  split at h
  rotate_left
  · cases h
  rename_i t x lo hi ho
  split at h
  rotate_left
  · cases h
  rename_i cs n1 e hx hu
  split at h
  rotate_left
  · cases h
  rename_i ie k' v1 a' v2 b' hie hue h1 h2
  split at h
  rotate_left
  · cases h
  rename_i hq
  obtain ⟨hsz, rfl, hmc, rfl⟩ := hq
  injection h with h
  simp only [Prod.mk.injEq] at h
  obtain ⟨hcs, rfl, rfl⟩ := h
  obtain ⟨q1, q2⟩ := bnd_spec h1
  obtain ⟨q3, q4⟩ := bnd_spec h2
  refine PureOp.grow fun g rd A w hview => ?_
  have hv := hview.op x _ (by simp [ho, Op.operands]) hx
  have hk := run_bounds (P := P) (w := w) (A := A) hview (lo := lo) (hi := hi) (fun y hy => by subst hy; simp [ho, Op.operands]) (fun y hy => by subst hy; cases lo <;> simp [ho, Op.operands]) false (len := n1) (cap := n1) q1 q3 q2 q4 p1 p2 (by omega) (Nat.le_refl _)
  simp only [VRel, CRel, CRel0] at hv
  generalize hev : A.eval x = v at *
  cases hv with
  | ref b0 o0 _ u hr hu' =>
    have hcell : ∀ i, i < n1 → rd b0 (o0 + i) = some (.int k' (l.getD i 0)) := by
      intro i hi
      have hci : cs[i]? = some (.lit (.int k' (l.getD i 0))) := by
        have : (cs.take n1)[i]? = some (.lit (.int k' (l.getD i 0))) := by rw [hcs, arrS_getI, if_pos hi]
        rw [List.getElem?_take, if_pos hi] at this
        exact this
      have h3 := hu' i _ hci
      have h4 := hr i _ hci
      generalize hz : u i = z at *
      cases h3
      exact h4
    have hlen : (((arrL n1 l).take b'.toNat).drop a'.toNat).length = b'.toNat - a'.toNat := by simp [arrL]; omega
    refine ⟨.slice (if n1 = a'.toNat then some ⟨b0, o0, none⟩ else some ⟨b0, o0 + a'.toNat, none⟩) (b'.toNat - a'.toNat) (n1 - a'.toNat), ?_, ?_⟩
    · simp only [execOp, ho, Option.map_none, Instr.sliceAt, Instr.sureAddr, run_underlying hu, hev, hk, sizeOf, typeInfo, program, hie, Sem.run_bind, Sem.run_pure, Sem.run, Result.andThen_ok, hsz, Nat.mul_one, addr_add]
      split <;> rfl
    · refine ⟨?_, trivial⟩
      by_cases hz : b'.toNat - a'.toNat = 0
      · have h0 : ((arrL n1 l).take b'.toNat).drop a'.toNat = [] := List.eq_nil_of_length_eq_zero (by rw [hlen]; exact hz)
        rw [h0, hz]
        exact .nil _ _ _ (by unfold maxLen; omega)
      · rw [if_neg (by omega), hlen]
        refine .slc b0 (o0 + a'.toNat) _ _ 1 ((((arrL n1 l).take b'.toNat).drop a'.toNat).map (ecI k')) (fun i _ => .int k' (l.getD (a'.toNat + i) 0)) (by rw [List.length_map, hlen]) (by omega) (by unfold maxLen; omega) (fun y hy => ?_) (fun i y j z hy hz' => ?_) (fun i y j z hy hz' => ?_)
        · obtain ⟨y0, _, rfl⟩ := List.mem_map.1 hy
          rfl
        · rw [List.getElem?_map] at hy
          obtain ⟨y0, hy0, rfl⟩ := Option.map_eq_some_iff.1 hy
          rw [arrL, arrS_take_drop k' _ _ _ _ _ (by omega)] at hy0
          split at hy0
          · cases hy0
            rcases j with _ | j
            · rw [show o0 + a'.toNat + i * 1 + 0 = o0 + (a'.toNat + i) by omega]
              exact hcell _ (by omega)
            · simp [ecI] at hz'
          · cases hy0
        · rw [List.getElem?_map] at hy
          obtain ⟨y0, hy0, rfl⟩ := Option.map_eq_some_iff.1 hy
          rw [arrL, arrS_take_drop k' _ _ _ _ _ (by omega)] at hy0
          split at hy0
          · cases hy0
            rcases j with _ | j
            · simp only [ecI, List.getElem?_cons_zero, Option.some.injEq] at hz'
              subst hz'
              exact .lit _
            · simp [ecI] at hz'
          · cases hy0
theorem TD_slF {k : IntKind} {l' : List Int} {a b : Int} (m : Nat) (l : List Int) (hm : decide (m ≤ 140737488355328) = true) (he : subO (arrL m l) a b = some l') (h : D.with1 (slFArgs P k m) = some (arrS k m l, a, b)) (hg : D.go1 n = true) (kk : TD P K n (D.ret (.c (.slc 1 0 l'.length (l'.map (ecI k))))) Q) : TD P K n D Q :=
  TD_val _ hg (fun _ _ ho => grow_slF hm he (with1D_op h ho)) kk
end
end
section
open Go.RowKit

end
section
open Go.RowKit

section
variable {P : Program} {K : Ctx} {n : Nat} {Q : Exit → St → Prop} {C : Cfg} {D : Dr} {s : St} {o : Oper} {α : Type}
end
section
variable {P : Program} {K : Ctx} {n : Nat} {Q : Exit → St → Prop} {C : Cfg}
def Cfg.pad : Cfg → Cfg
  | .mk (.code c :: fs) .normal s => .mk (.code c :: .ops #[] [] :: fs) .normal s
  | C => C
theorem TS_pad (k : TS P K n C.pad Q) : TS P K n C Q := by
  unfold Cfg.pad at k
  split at k
  · intro a w r
    exact wp_mono (k a w r) fun e a' w' ⟨s', r', q⟩ => by
      cases e
      case normal => exact q a' w' r'
      all_goals exact ⟨s', r', q⟩
  · exact k
end
end
end
section
open Go.RowKit

/-- what a cell says does not rest on the memory that may be read -/
def SC.noRd : SC → Bool
  | .lit _ => true
  | .own _ => true
  | .row _ _ => true
  | _ => false
theorem noRd_any {rd rd' : Rd} {g : Env} {v : Value} {x : SC} (hx : x.noRd = true) (h : CRel rd g v x) : CRel rd' g v x := by
  cases x <;> simp only [SC.noRd, Bool.false_eq_true] at hx
  · have := rel_lit (g := g) h
    subst this
    exact .lit _
  · exact h
  · exact h
def Res.noRd : Res → Prop
  | .box cs => cs.all SC.noRd = true
  | .row _ _ _ xs => ∀ x ∈ xs, x.all SC.isLit = true
  | .spare _ _ _ => True
  | .mp _ => True
def noRdAll : Hp → Prop
  | [] => True
  | (_, r) :: l => r.noRd ∧ noRdAll l
theorem noRdAll_look : ∀ {h : Hp} {d : Nat} {r : Res}, noRdAll h → look h d = some r → r.noRd
  | [], _, _, _, hx => by simp [look] at hx
  | (k, x) :: l, d, r, hh, hx => by
    simp only [look] at hx
    split at hx
    · cases hx
      exact hh.1
    · exact noRdAll_look hh.2 hx
theorem IRel.isLit {rd rd' : Rd} {v : Value} {x : SC} (hx : x.isLit = true) (h : IRel rd v x) : IRel rd' v x := by
  cases x <;> simp only [SC.isLit, Bool.false_eq_true] at hx
  cases h
  exact .lit _
theorem Holds.noRd {rd rd' : Rd} {g : Env} {w : World} {d : Nat} {r : Res} (hr : r.noRd) (h : Holds rd g w d r) : Holds rd' g w d r := by
  cases r with
  | box cs =>
    intro j y hy
    obtain ⟨u, h1, h2, h3⟩ := h j y hy
    exact ⟨u, h1, h2, noRd_any (List.all_eq_true.1 hr y (List.mem_of_getElem? hy)) h3⟩
  | row e s n xs =>
    obtain ⟨us, h1, h2, h3⟩ := h
    refine ⟨us, h1, h2, h3.1, fun i x j y hx hy => ?_⟩
    obtain ⟨u, q1, q2⟩ := h3.2 i x j y hx hy
    exact ⟨u, q1, q2.isLit (List.all_eq_true.1 (hr x (List.mem_of_getElem? hx)) y (List.mem_of_getElem? hy))⟩
  | spare e s n => exact h
  | mp L => exact h

def frzC (s : St) : SC → SC
  | .own d => match look s.hp d with
    | some (.row _ sz n xs) => .slc sz 0 n xs
    | _ => .own d
  | x => x
def frz2 (s : St) (ks : List Nat) : SV → Option SV
  | .agg cs => some (castV ks (.agg (cs.map (frzC s))))
  | .c x => frz s ks (.c x)
  | .tup vs => frz s ks (.tup vs)
theorem frzC_rel {s : St} {g : Env} {rd : Rd} {a : Act} {w : World} {o : Oper} (hv : OView g rd a w s o) {u : Value} {x : SC} (hu : CRel rd g u x) : CRel (allRd w) g u (frzC s x) := by
  have hm : CRel (allRd w) g u x := hu.mono (fun b o v => hv.reads b o v)
  unfold frzC
  split
  · rename_i d
    split
    · rename_i e sz n xs hl
      have hsrc := srcS_rel (sz := sz) (v := .c (.own d)) (xs := xs) (c := .whole) (by simp [srcS, hl]) hv hu
      obtain ⟨us, _, h2, _⟩ := hv.holds d _ hl
      rw [← h2]
      exact ⟨hsrc.irel hv.reads, trivial⟩
    · exact hm
  · exact hm
theorem frz2_rel {s : St} {ks : List Nat} {v A : SV} (h : frz2 s ks v = some A) {g : Env} {rd : Rd} {a : Act} {w : World} {o : Oper} (hv : OView g rd a w s o) {u : Value} (hu : VRel rd g u v) : VRel (allRd w) g u A := by
  cases v with
  | c x =>
    simp only [frz2] at h
    exact frz_rel h hv hu
  | tup vs =>
    simp only [frz2] at h
    exact frz_rel h hv hu
  | agg cs =>
    simp only [frz2, Option.some.injEq] at h
    subst h
    refine castV_rel ks ?_
    obtain ⟨vs, q1, q2⟩ := hu
    exact ⟨vs, q1, CsRel.imp (p := fun _ => true) (fun v x _ k => frzC_rel hv k) (by simp) q2⟩
def frzL2 (s : St) : List (List Nat) → List SV → Option (List SV)
  | _, [] => some []
  | kss, v :: vs => match frz2 s (kss.headD []) v, frzL2 s kss.tail vs with
    | some A, some As => some (A :: As)
    | _, _ => none
theorem frzL2_spec {s : St} : ∀ (kss : List (List Nat)) (vs As : List SV), frzL2 s kss vs = some As → vs.length = As.length ∧ ∀ (i : Nat) (v A : SV), vs[i]? = some v → As[i]? = some A → ∃ ks, frz2 s ks v = some A
  | _, [], As, h => by cases h; exact ⟨rfl, fun i v A h1 => by simp at h1⟩
  | kss, v :: vs, As, h => by
    simp only [frzL2] at h
    split at h
    · rename_i A As' h1 h2
      cases h
      obtain ⟨k1, k2⟩ := frzL2_spec kss.tail vs As' h2
      refine ⟨by simp [k1], fun i v' A' hv hA => ?_⟩
      cases i with
      | zero => simp at hv hA; subst hv; subst hA; exact ⟨_, h1⟩
      | succ i => simp at hv hA; exact k2 i v' A' hv hA
    · cases h
def Cfg.calleeF2 (C : Cfg) (kss : List (List Nat)) : Option (FuncId × List SV) := match C.op with
  | some (_, o) => match calleeOf C.st o with
    | some (f, vs) => (frzL2 C.st kss vs).map fun A => (f, A)
    | none => none
  | none => none

section
variable {P : Program} {K : Ctx} {n : Nat} {ops : Array Oper} {l : List Oper} {o : Oper} {s s' : St} {g : Env} {a : Act} {w : World}
theorem S_conF {f : FuncId} {vs args : List SV} {h' : Hp} {r : SV} (kss : List (List Nat)) (news : List (Nat × Nat)) (hgd : guardOf ops o s = some true) (hd : dstOk n o = true) (hc : calleeOf s o = some (f, vs)) (hb : hasBody P f = true)
    (hargs : frzL2 s kss vs = some args)
    (hn : newsOk s h' r news o.dst = true) (hr : r.every SC.noRd = true) (hh : noRdAll h') (hp : Con P f args [] r h') : Stp P K n ops o s (s.after h' r news none o.dst) := by
  simp only [newsOk, Bool.and_eq_true, List.all_eq_true] at hn
  obtain ⟨⟨⟨⟨hn1, hn2'⟩, hn3'⟩, hn4⟩, hn5⟩ := hn
  have hn2 : ∀ t v, look s.tmps t = some v → (some t == o.dst || v.every (SC.say fun d => (look news d).isNone)) = true := fun t v hv => hn2' _ (look_mem hv)
  have hn3 : ∀ d r, look s.hp d = some r → r.every (SC.say fun d => (look news d).isNone) = true := fun d r hr => hn3' _ (look_mem hr)
  have hall : (news.all fun p => (look h' p.2).isSome) = true := List.all_eq_true.2 (fun p hp => (hn1 p hp).1.1.1.1.1)
  have nw : ∀ d e, look news d = some e → d < 1000000 ∧ backL news e = d ∧ look s.hp d = none ∧ e < 1000000 := by
    intro d e hde
    have hm := hn1 _ (look_mem hde)
    exact ⟨of_decide_eq_true hm.1.1.1.1.2, of_decide_eq_true hm.1.1.1.2, by simpa using hm.1.2, of_decide_eq_true hm.2⟩
  refine Stp_mk hgd fun g a w rg K' Q hK => ?_
  have hview := rg.view.o o
  obtain ⟨us, h1, h2, h3⟩ := callee_spec hc hb hview
  obtain ⟨k1, k2⟩ := frzL2_spec kss vs args hargs
  have hcalls := hp (allRd w) g w us (fun _ _ _ h => h) (by rw [h1, k1]) (fun i y hy => by
    have hi : i < vs.length := by have := (List.getElem?_eq_some_iff.1 hy).1; omega
    obtain ⟨u, q1, q2⟩ := h2 i _ (List.getElem?_eq_getElem hi)
    obtain ⟨ks, q3⟩ := k2 i _ y (List.getElem?_eq_getElem hi) hy
    exact ⟨u, q1, frz2_rel q3 hview q2⟩) (fun d x hx => by simp [look] at hx) (fun d d' x x' b o _ hx => by simp [look] at hx) (fun b o hx => (infoot_nil hx).elim)
  unfold Oper.wp
  rw [h3]
  simp only [Oper.upon]
  refine hcalls.mono fun e w' hq => ?_
  obtain ⟨u, g', rfl, hkeep, hpos', hin, hdis', hnewr, hpost⟩ := hq
  simp only
  have he : Ext w w' := (hkeep.weak (fun b o x => (infoot_nil x))).ext
  let g2 := g.news g' news
  let hp2 := newsHp h' (backL news) news s.hp
  have lk2 : ∀ d, look hp2 d = match look news d with
    | some e => (look h' e).map (Res.map (SC.ren (backL news)))
    | none => look s.hp d := fun d => look_news h' _ s.hp d news hall
  have hren : ∀ e, okN news e = true → g2.pos (backL news e) = g'.pos e ∧ g2.tk (backL news e) = g'.tk e := by
    intro e he
    simp only [okN, beq_iff_eq] at he
    simp only [g2, Env.news, he, and_self]
  have hok2 : ∀ d e, look news d = some e → okN news e = true := by
    intro d e hde
    simp only [okN, beq_iff_eq, (nw d e hde).2.1, hde]
  let p : Nat → Bool := fun d => (look news d).isNone
  have hp0 : ∀ d, p d = true → g2.pos d = g.pos d ∧ g2.tk d = g.tk d := by
    intro d hd'
    simp only [p, Option.isNone_iff_eq_none] at hd'
    simp only [g2, Env.news, hd', and_self]
  let t : Nat → Bool := fun d => (look news d).isSome
  have ht0 : ∀ d, t d = false → look news d = none := by
    intro d hd'
    simpa [t] using hd'
  have hk2 : Keep w (fun b o => ∃ d r, t d = true ∧ look s.hp d = some r ∧ Foot g d r b o) w' := hkeep.weak (fun b o hx => (infoot_nil hx).elim)
  have hfn : ∀ d e x, look news d = some e → Foot g2 d (Res.map (SC.ren (backL news)) x) = Foot g' e x := by
    intro d e x hde
    rw [foot_map]
    have := hren e (hok2 d e hde)
    rw [(nw d e hde).2.1] at this
    funext b o'
    cases x <;> simp only [Foot, this.1, this.2]
  have hcase : ∀ d r, t d = true → look hp2 d = some r → ∃ e x, look news d = some e ∧ look h' e = some x ∧ r = x.map (SC.ren (backL news)) := by
    intro d r hd' hr
    rw [lk2] at hr
    obtain ⟨e, hnd⟩ := Option.isSome_iff_exists.1 hd'
    rw [hnd] at hr
    obtain ⟨x, hx, rfl⟩ := Option.map_eq_some_iff.1 hr
    exact ⟨e, x, hnd, hx, rfl⟩
  have hf2 : ∀ d r b o, t d = true → look hp2 d = some r → Foot g2 d r b o → (∃ e r0, t e = true ∧ look s.hp e = some r0 ∧ Foot g e r0 b o) ∨ w.heap.size ≤ b := by
    intro d r b o' hd' hr hfo
    obtain ⟨e, x, h4, h5, rfl⟩ := hcase d r hd' hr
    rw [hfn d e x h4] at hfo
    rcases hin b o' ⟨e, x, h5, hfo⟩ with h6 | h6
    · exact (infoot_nil h6).elim
    · exact .inr h6
  have hl2 : ∀ d r', t d = false → look hp2 d = some r' → look s.hp d = some r' := by
    intro d r' hd' hr
    rw [lk2, ht0 d hd'] at hr
    exact hr
  have he2 : ∀ d r, t d = false → look s.hp d = some r → g2.pos d = g.pos d ∧ g2.tk d = g.tk d := fun d r hd' _ => hp0 d (by simp [p, ht0 d hd'])
  have hle := rd_step (K := K) (g := g) (g' := g2) (w := w) (w' := w') (h := s.hp) (h' := hp2) rg.hg t he2 (fun d r' h4 h5 => ⟨r', fun y => y, hl2 d r' h4 h5, r'.map_id.symm⟩) hk2 hf2
  obtain ⟨hres0, hhold0⟩ := hpost (allRd w') (fun b o v hv => (Keep.of_ext he).cell hv (by simp)) (fun b o u _ _ h2 => h2)
  have hres : VRel (rdOf K g2 hp2 w') g' u r := hres0.imp1 (fun v x hx k => noRd_any hx k) hr
  have hhold : ∀ d x, look h' d = some x → Holds (rdOf K g2 hp2 w') g' w' d x := fun d x hx => (hhold0 d x hx).noRd (noRdAll_look hh hx)
  have hHG : HG K g2 w' hp2 := by
    refine rg.hg.step (g' := g2) (w' := w') (h' := hp2) t (fun y => y) (SC.say p) he2 (fun d r' h4 h5 => ⟨r', hl2 d r' h4 h5, r'.map_id.symm, hn3 _ _ (hl2 d r' h4 h5)⟩) hk2 hf2 ?_ (fun u' x hx hcr => hcr.env hle p hp0 hx) ?_ ?_ ?_
    · intro d d' r r' b o' hd' hd'' hne hr hr' hfo hfo'
      obtain ⟨e, x, h6, h7, rfl⟩ := hcase d r hd' hr
      obtain ⟨e', x', h8, h9, rfl⟩ := hcase d' r' hd'' hr'
      rw [hfn d e x h6] at hfo
      rw [hfn d' e' x' h8] at hfo'
      refine hdis' e e' x x' b o' (fun hee => hne ?_) h7 h9 hfo hfo'
      rw [← (nw d e h6).2.1, ← (nw d' e' h8).2.1, hee]
    · intro d r0 hd' hr
      obtain ⟨e, x, h4, h5, rfl⟩ := hcase d r0 hd' hr
      have := (hhold e x h5).ren (Rd.le.refl _) (backL news) (okN news) hren (hok2 d e h4) (by
        have := hn5 _ (look_mem h5)
        simp only [Bool.or_eq_true, beq_iff_eq] at this
        rcases this with h9 | h9
        · have := (nw d e h4).2.2.2; omega
        · exact h9)
      rw [(nw d e h4).2.1] at this
      exact this
    · intro d cs0 hd' h6 hr
      obtain ⟨e, x, h4, h5, _⟩ := hcase d _ hd' hr
      have := (nw d e h4).1
      omega
    · intro d r hd' hr hb b o' hfo
      obtain ⟨e, x, h4, h5, rfl⟩ := hcase d r hd' hr
      rw [hfn d e x h4] at hfo
      exact (hnewr e x h5 (by cases x <;> simp_all [Res.isBox, Res.map]) b o' hfo).elim (fun q => .inl (Nat.le_trans rg.hg.keep.size q)) (fun q => (infoot_nil q).elim)
  have hput := (rg.move hHG hle p hp0 (match o.dst with | some t => drop1 s.tmps t | none => s.tmps) (fun t' v hv => by
    cases hds : o.dst with
    | none =>
      rw [hds] at hv
      refine ⟨hv, ?_⟩
      have := hn2 _ _ hv
      simpa [hds] using this
    | some t0 =>
      rw [hds] at hv
      simp only [look_drop1] at hv
      split at hv
      · cases hv
      · rename_i hne
        refine ⟨hv, ?_⟩
        have := hn2 _ _ hv
        simp only [hds, Bool.or_eq_true, beq_iff_eq, Option.some.injEq] at this
        rcases this with h4 | h4
        · exact absurd h4 hne
        · exact h4)).put o.dst (dstOk_spec hd) (hres.imp (fun v x hx k => k.ren (Rd.le.refl _) (backL news) (okN news) hren hx) hn4)
  refine hK _ _ ⟨g2, hput.sim (fun k => ?_) ?_⟩
  · cases hds : o.dst with
    | none => rfl
    | some t0 =>
      simp only [St.after]
      exact (put_drop _ t0 _ k).symm
  · cases hds : o.dst <;> rfl
end
section
variable {P : Program} {K : Ctx} {n : Nat} {Q : Exit → St → Prop} {C : Cfg}
theorem TS_conF {f : FuncId} {A : List SV} {r : SV} {h' : Hp} (kss : List (List Nat)) (news : List (Nat × Nat)) (hp : Con P f A [] r h') (hc : C.calleeF2 kss = some (f, A)) (hh : noRdAll h') (hg : (C.go1 n && hasBody P f && r.every SC.noRd && newsOk C.st h' r news C.dst) = true)
    (k : TS P K n (C.next (C.st.after h' r news none C.dst)) Q) : TS P K n C Q := by
  simp only [Bool.and_eq_true] at hg
  obtain ⟨⟨⟨hg1, hg2⟩, hg3⟩, hg5⟩ := hg
  obtain ⟨os, o, ho, h1, h2, h3⟩ := go1_spec hg1
  unfold Cfg.calleeF2 at hc
  rw [ho] at hc
  simp only at hc
  split at hc
  · rename_i f' vs h4
    obtain ⟨A', h5, h6⟩ := Option.map_eq_some_iff.1 hc
    cases h6
    rw [h3] at k hg5
    exact TS_stp ho (S_conF kss news h1 h2 h4 hg2 h5 hg5 hg3 hh hp) k
  · cases hc
end
end
section
open Go.RowKit

def SC.val : SC → Value
  | .lit v => v
  | _ => undef
/-- the value of cells -/
def mkV (ag : Bool) (cs : List SC) : Value := if ag then .agg (cs.map SC.val).toArray else match cs with
  | [c] => c.val
  | _ => undef
section
variable {κ ν : Type}
def mpL (ka va : Bool) (kf : κ → List SC) (vf : ν → List SC) (l : List (κ × ν)) : List (Value × Value) := l.map fun p => (mkV ka (kf p.1), mkV va (vf p.2))
def mpGet (beq : κ → κ → Bool) (l : List (κ × ν)) (k : κ) : Option ν := (l.find? fun p => beq k p.1).map (·.2)
def mpHas (beq : κ → κ → Bool) (l : List (κ × ν)) (k : κ) : Bool := (l.find? fun p => beq k p.1).isSome
end
def rdN : Rd := fun _ _ => none
def envN : Env := ⟨fun _ => (0, 0), fun _ => (undef, undef)⟩
theorem val_rel {rd : Rd} {g : Env} {x : SC} (h : x.isLit = true) : CRel rd g x.val x := by
  cases x <;> simp only [SC.isLit, Bool.false_eq_true] at h
  exact .lit _
theorem vals_rel {rd : Rd} {g : Env} {cs : List SC} (h : cs.all SC.isLit = true) : CsRel rd g (cs.map SC.val).toArray cs := by
  refine ⟨by simp, fun j y hy => ⟨y.val, by simp [hy], val_rel (List.all_eq_true.1 h y (List.mem_of_getElem? hy))⟩⟩
theorem formed_mk {P : Program} {t : TypeId} {cs : List SC} (h : cs.all SC.isLit = true) (h1 : aggT P t = false → cs.length = 1) : Formed P rdN envN t (mkV (aggT P t) cs) cs := by
  unfold Formed mkV
  cases ha : aggT P t
  · obtain ⟨c, rfl⟩ := List.length_eq_one_iff.1 (h1 ha)
    simp only [Bool.false_eq_true, if_false]
    exact ⟨c, rfl, val_rel (by simpa using h)⟩
  · simp only [if_true]
    exact ⟨_, rfl, vals_rel h⟩
theorem mkV_rel {rd : Rd} {g : Env} {ag : Bool} {cs : List SC} (h : cs.all SC.isLit = true) (h1 : ag = false → cs.length = 1) : FRel rd g (mkV ag cs) (ag, cs) := by
  unfold FRel mkV
  cases ag
  · obtain ⟨c, rfl⟩ := List.length_eq_one_iff.1 (h1 rfl)
    simp only [Bool.false_eq_true, if_false]
    exact ⟨c, rfl, val_rel (by simpa using h)⟩
  · simp only [if_true]
    exact ⟨_, rfl, vals_rel h⟩
theorem checkKey_run {P : Program} (em : Bool) {rd : Rd} {g : Env} : ∀ (d : Nat) (t : TypeId) (x : Value) (cs : List SC) (r : Bool) (dd : Nat) (w : World), d ≤ dd → Formed P rd g t x cs → eqT P d t cs cs = some r → (Instr.checkKey em dd t x).run P w = .ok () w
  | 0, _, _, _, _, _, _, _, _, h => by cases h
  | d + 1, t, x, cs, r, 0, w, hdd, hx, h => by omega
  | d + 1, t, x, cs, r, dd + 1, w, hdd, hx, h => by
    unfold eqT at h
    split at h
    · rename_i hu
      have hagg : aggT P t = false := by simp [aggT, hu]
      unfold Formed at hx
      rw [if_neg (by simp [hagg])] at hx
      obtain ⟨c, rfl, hx⟩ := hx
      split at h
      · rename_i h1 h2
        cases h1
        cases hx
        simp [Instr.checkKey, run_underlying hu]
      · cases h
    · rename_i k0 hu
      have hagg : aggT P t = false := by simp [aggT, hu]
      unfold Formed at hx
      rw [if_neg (by simp [hagg])] at hx
      obtain ⟨c, rfl, hx⟩ := hx
      split at h
      · rename_i h1 h2
        cases h1
        cases hx
        simp [Instr.checkKey, run_underlying hu]
      · cases h
    · rename_i fs hu
      have hagg : aggT P t = true := by simp [aggT, hu]
      unfold Formed at hx
      rw [if_pos hagg] at hx
      obtain ⟨xs, rfl, hx⟩ := hx
      split at h
      · cases h
      · rw [Instr.checkKey]
        simp only [Sem.run_bind, run_underlying hu, Result.andThen_ok]
        rw [← Array.forIn_toList]
        clear hu
        generalize fs.toList = l at h
        induction l generalizing r with
        | nil => simp
        | cons f l ih =>
          simp only [eqF] at h
          split at h
          · cases h
          · rename_i hn
            split at h
            · cases h
            · rename_i i hi
              split at h
              · rename_i hc
                split at h
                · rename_i a b ha hb
                  cases h
                  have hd' : ∃ dsc, P.underlying f.type = some dsc := by
                    cases hu : P.underlying f.type with
                    | some dsc => exact ⟨dsc, rfl⟩
                    | none =>
                      exfalso
                      cases d with
                      | zero => cases ha
                      | succ d => simp [eqT, hu] at ha
                  obtain ⟨dsc, hdsc⟩ := hd'
                  obtain ⟨u1, p1, f1⟩ := run_part_sh (w := w) hdsc hi hc.2.2.2 hc.1 hc.2.2.1 hx
                  have e1 := checkKey_run em d f.type u1 _ a dd w (by omega) f1 ha
                  simp only [List.forIn_cons, Sem.run_bind, hn, ne_eq, not_false_eq_true, if_true, Result.andThen_ok, p1, e1, Sem.run_pure]
                  exact ih b hb
                · cases h
              · cases h
    · rename_i n e hu
      have hagg : aggT P t = true := by simp [aggT, hu]
      unfold Formed at hx
      rw [if_pos hagg] at hx
      obtain ⟨xs, rfl, hx⟩ := hx
      split at h
      · rename_i i hi
        rw [Instr.checkKey]
        simp only [Sem.run_bind, run_underlying hu, Result.andThen_ok]
        simp only [Std.Legacy.Range.forIn_eq_forIn_range', Std.Legacy.Range.size, Nat.sub_zero, Nat.add_one_sub_one, Nat.div_one]
        rw [List.range_eq_range'] at h
        clear hu
        generalize List.range' 0 n = l at h
        induction l generalizing r with
        | nil => simp
        | cons j l ih =>
          simp only [eqI] at h
          split at h
          · rename_i hc
            split at h
            · rename_i a b ha hb
              cases h
              have hd' : ∃ dsc, P.underlying e = some dsc := by
                cases hu : P.underlying e with
                | some dsc => exact ⟨dsc, rfl⟩
                | none =>
                  exfalso
                  cases d with
                  | zero => cases ha
                  | succ d => simp [eqT, hu] at ha
              obtain ⟨dsc, hdsc⟩ := hd'
              obtain ⟨u1, p1, f1⟩ := run_part_sh (w := w) hdsc hi hc.2.2.2 hc.1 hc.2.2.1 hx
              have e1 := checkKey_run em d e u1 _ a dd w (by omega) f1 ha
              have hco : P.cellsOf e = i.size := by simp [Program.cellsOf, hi]
              simp only [List.forIn_cons, Sem.run_bind, run_sizeOf w hi, hco, Result.andThen_ok, p1, e1, Sem.run_pure]
              exact ih b hb
            · cases h
          · cases h
      · cases h
    · cases h
theorem sameNow_eq {P : Program} {t : TypeId} {d : TypeDesc} {x y : Value} {q b : Bool} (hu : P.underlying t = some d) (hns : d ≠ .string) (h : Instr.sameNow d x y = some q) (w : World) (he : (Op.equalIn 10000 t x y).run P w = .ok b w) : q = b := by
  unfold Instr.sameNow at h
  split at h
  · split at h
    · rename_i k0 k a k' b' hk
      subst hk
      cases h
      have := run_equalIn_int w 9999 t k k0 a b' hu
      rw [this] at he
      cases he
      rfl
    · cases h
  · exact absurd rfl hns
  · rename_i a' b'
    cases h
    have := run_equalIn_bool w 9999 t a' b' hu
    rw [this] at he
    cases he
    rfl
  · cases h
section
variable {P : Program} {κ ν : Type} {kt : TypeId} {ka va : Bool} {kf : κ → List SC} {vf : ν → List SC} {beq : κ → κ → Bool}
theorem equal_run (hall : ∀ k, (kf k).all SC.isLit = true) (h1 : ∀ k, (aggT P kt || (kf k).length == 1) = true) (heq : ∀ x y, eqT P 40 kt (kf x) (kf y) = some (beq x y)) (x y : κ) (w : World) : (Op.equalIn 10000 kt (mkV (aggT P kt) (kf x)) (mkV (aggT P kt) (kf y))).run P w = .ok (beq x y) w := by
  have hl : ∀ k, aggT P kt = false → (kf k).length = 1 := fun k ha => by
    have := h1 k
    rw [ha, Bool.false_or, beq_iff_eq] at this
    exact this
  exact eqT_run (rd := rdN) (g := envN) 40 kt _ _ (kf x) (kf y) (beq x y) 10000 w (by decide) (formed_mk (hall x) (hl x)) (formed_mk (hall y) (hl y)) (heq x y)
/-- the entries tell the list -/
def Ent (ka va : Bool) (kf : κ → List SC) (vf : ν → List SC) (es : List MapEntry) (l : List (κ × ν)) : Prop := es.map (fun e => (e.key, e.val)) = mpL ka va kf vf l
theorem Ent.nil {es : List MapEntry} (h : Ent ka va kf vf es ([] : List (κ × ν))) : es = [] := List.map_eq_nil_iff.1 h
theorem Ent.cons {es : List MapEntry} {p : κ × ν} {l : List (κ × ν)} (h : Ent ka va kf vf es (p :: l)) : ∃ e r, es = e :: r ∧ e.key = mkV ka (kf p.1) ∧ e.val = mkV va (vf p.2) ∧ Ent ka va kf vf r l := by
  cases es with
  | nil => cases h
  | cons e r =>
    simp only [Ent, mpL, List.map_cons, List.cons.injEq, Prod.mk.injEq] at h
    exact ⟨e, r, rfl, h.1.1, h.1.2, h.2⟩
def Found (va : Bool) (vf : ν → List SC) (r : Option (Nat × Value)) (v : Option ν) : Prop := match v with
  | some v => ∃ i, r = some (i, mkV va (vf v))
  | none => r = none
theorem findNow_run {d : TypeDesc} (hu : P.underlying kt = some d) (hns : d ≠ .string) (hq : ∀ x y w, (Op.equalIn 10000 kt (mkV (aggT P kt) (kf x)) (mkV (aggT P kt) (kf y))).run P w = .ok (beq x y) w) (w : World) (k : κ) : ∀ (l : List (κ × ν)) (es : List MapEntry) (i : Nat), Ent (aggT P kt) va kf vf es l →
    Instr.findNow d (mkV (aggT P kt) (kf k)) es i = none ∨ ∃ r, Instr.findNow d (mkV (aggT P kt) (kf k)) es i = some r ∧ Found va vf r (mpGet beq l k)
  | [], es, i, h => by
    rw [h.nil]
    exact .inr ⟨none, rfl, rfl⟩
  | p :: l, es, i, h => by
    obtain ⟨e, r, rfl, h2, h3, h4⟩ := h.cons
    unfold Instr.findNow
    rw [h2]
    cases hs : Instr.sameNow d (mkV (aggT P kt) (kf k)) (mkV (aggT P kt) (kf p.1)) with
    | none => exact .inl rfl
    | some q =>
      have hb := sameNow_eq hu hns hs w (hq k p.1 w)
      subst hb
      cases hb : beq k p.1
      · rcases findNow_run hu hns hq w k l r (i + 1) h4 with e1 | ⟨x, e1, e2⟩
        · exact .inl e1
        · refine .inr ⟨x, e1, ?_⟩
          have : mpGet beq (p :: l) k = mpGet beq l k := by simp [mpGet, hb]
          rw [this]
          exact e2
      · refine .inr ⟨_, rfl, ?_⟩
        have : mpGet beq (p :: l) k = some p.2 := by simp [mpGet, hb]
        rw [this, h3]
        exact ⟨i, rfl⟩
theorem findAsking_run (hq : ∀ x y w, (Op.equalIn 10000 kt (mkV (aggT P kt) (kf x)) (mkV (aggT P kt) (kf y))).run P w = .ok (beq x y) w) (w : World) (k : κ) : ∀ (l : List (κ × ν)) (es : List MapEntry) (i : Nat), Ent (aggT P kt) va kf vf es l →
    ∃ r, (Instr.findAsking kt (mkV (aggT P kt) (kf k)) es i).run P w = .ok r w ∧ Found va vf r (mpGet beq l k)
  | [], es, i, h => by
    rw [h.nil]
    exact ⟨none, rfl, rfl⟩
  | p :: l, es, i, h => by
    obtain ⟨e, r, rfl, h2, h3, h4⟩ := h.cons
    unfold Instr.findAsking
    have hb := hq k p.1 w
    rw [h2]
    simp only [Op.equal, Op.maxDepth, Sem.run_bind, hb, Result.andThen_ok]
    cases hbb : beq k p.1
    · obtain ⟨x, e1, e2⟩ := findAsking_run hq w k l r (i + 1) h4
      refine ⟨x, by simpa using e1, ?_⟩
      have : mpGet beq (p :: l) k = mpGet beq l k := by simp [mpGet, hbb]
      rw [this]
      exact e2
    · refine ⟨some (i, e.val), by simp, ?_⟩
      have : mpGet beq (p :: l) k = some p.2 := by simp [mpGet, hbb]
      rw [this, h3]
      exact ⟨i, rfl⟩
theorem eqT_kind {d : Nat} {cs ds : List SC} {r : Bool} (h : eqT P d kt cs ds = some r) : ∃ dd, P.underlying kt = some dd ∧ dd ≠ .string := by
  cases d with
  | zero => cases h
  | succ d =>
    unfold eqT at h
    split at h
    · rename_i hu; exact ⟨_, hu, by simp⟩
    · rename_i hu; exact ⟨_, hu, by simp⟩
    · rename_i hu; exact ⟨_, hu, by simp⟩
    · rename_i hu; exact ⟨_, hu, by simp⟩
    · cases h
theorem findKey_run (hall : ∀ k, (kf k).all SC.isLit = true) (h1 : ∀ k, (aggT P kt || (kf k).length == 1) = true) (heq : ∀ x y, eqT P 40 kt (kf x) (kf y) = some (beq x y)) (w : World) (k : κ) (l : List (κ × ν)) (es : List MapEntry) (h : Ent (aggT P kt) va kf vf es l) :
    ∃ r, (Instr.findKey kt (mkV (aggT P kt) (kf k)) es).run P w = .ok r w ∧ Found va vf r (mpGet beq l k) := by
  obtain ⟨d, hu, hns⟩ := eqT_kind (heq k k)
  have hq := equal_run hall h1 heq
  unfold Instr.findKey
  simp only [Sem.run_bind, run_underlying hu, Result.andThen_ok]
  rcases findNow_run hu hns hq w k l es 0 h with e | ⟨r, e1, e2⟩
  · rw [e]
    exact findAsking_run hq w k l es 0 h
  · rw [e1]
    exact ⟨r, rfl, e2⟩
theorem check_run (hall : ∀ k, (kf k).all SC.isLit = true) (h1 : ∀ k, (aggT P kt || (kf k).length == 1) = true) (heq : ∀ x y, eqT P 40 kt (kf x) (kf y) = some (beq x y)) (em : Bool) (k : κ) (w : World) : (Instr.checkKey em 10000 kt (mkV (aggT P kt) (kf k))).run P w = .ok () w :=
  checkKey_run em 40 kt _ (kf k) _ 10000 w (by decide) (formed_mk (hall k) (fun ha => by
    have := h1 k
    rw [ha, Bool.false_or, beq_iff_eq] at this
    exact this)) (heq k k)
end
/-- the cells of an operand that is a key or a value -/
def cellsAg (ag : Bool) : SV → Option (List SC)
  | .agg cs => if ag then some cs else none
  | .c x => if ag then none else some [x]
  | _ => none
theorem cellsAg_val {ag : Bool} {v : SV} {cs : List SC} (h : cellsAg ag v = some cs) (hl : cs.all SC.isLit = true) {rd : Rd} {g : Env} {u : Value} (hu : VRel rd g u v) : u = mkV ag cs := by
  unfold cellsAg at h
  split at h
  · split at h
    · rename_i hag
      cases h
      subst hag
      obtain ⟨vs, rfl, h1, h2⟩ := hu
      unfold mkV
      rw [if_pos rfl]
      congr 1
      apply Array.ext_getElem?
      intro j
      simp only [List.getElem?_toArray, List.getElem?_map]
      cases hy : cs[j]? with
      | none =>
        have : cs.length ≤ j := List.getElem?_eq_none_iff.1 hy
        rw [Array.getElem?_eq_none (by omega)]
        rfl
      | some y =>
        obtain ⟨u, q1, q2⟩ := h2 j y hy
        have hy' := List.all_eq_true.1 hl y (List.mem_of_getElem? hy)
        rw [q1]
        cases y <;> simp only [SC.isLit, Bool.false_eq_true] at hy'
        rw [rel_lit (g := g) q2]
        rfl
    · cases h
  · split at h
    · cases h
    · rename_i x hag
      cases h
      have hag' : ag = false := by simpa using hag
      subst hag'
      simp only [List.all_cons, List.all_nil, Bool.and_true] at hl
      cases x <;> simp only [SC.isLit, Bool.false_eq_true] at hl
      have hu' : CRel rd g u (.lit _) := hu
      rw [rel_lit (g := g) hu']
      rfl
  · cases h
section
variable {P : Program} {K : Ctx} {n : Nat} {ops : Array Oper} {o : Oper} {s : St} {κ ν : Type} {kf : κ → List SC} {vf : ν → List SC} {beq : κ → κ → Bool}
def isMk : Oper → Bool
  | { op := .makeMap _ none, .. } => true
  | _ => false
theorem S_mkmap (d : Nat) (ho : isMk o = true) (hgd : guardOf ops o s = some true) (hdst : o.dst = some d) (hd : d < n) (hd6 : d < 1000000) (hf : NoName s d (some d)) :
    Stp P K n ops o s ((s.setR d (.mp [])).put (some d) (.c (.own d))) := by
  refine Stp_mk hgd fun g a w r K' Q hK => ?_
  obtain ⟨t, ho⟩ : ∃ t, o.op = .makeMap t none := by
    unfold isMk at ho
    split at ho
    · exact ⟨_, rfl⟩
    · cases ho
  unfold Oper.wp
  simp only [execOp, ho, Option.map_none, Instr.makeMap, Sem.run_bind, Sem.run_pure, run_newObj_alloc, Result.andThen_ok, Oper.upon]
  have h0 := r.forget d
  have hgd' : (g.setTk d (.map (some w.heap.size), undef) (0, 0)).tk d = (.map (some w.heap.size), undef) := by simp [Env.setTk]
  obtain ⟨r1, hle⟩ := h0.add (g' := g.setTk d (.map (some w.heap.size), undef) (0, 0)) (w' := w.alloc (.map #[] 0)) (r := .mp []) hd6 hf.drop (fun e he => by simp [Env.setTk, he]) (Ext.alloc w _) (fun b o hb => by
      simp only [Foot, hgd'] at hb
      cases hb
      exact Nat.le_refl _) (fun hle => ⟨w.heap.size, #[], 0, by rw [hgd'], heap_alloc_new w _, rfl⟩)
  have r2 := r1.put (some d) (fun t ht => by cases ht; exact hd) (u := .map (some w.heap.size)) (v := .c (.own d)) (by
    simp only [VRel, CRel, CRel0]
    rw [hgd']
    exact ⟨rfl, .inr ⟨_, rfl⟩⟩)
  rw [hdst]
  exact hK _ _ ⟨_, r2.sim (fun k => (put_drop (s.setR d (.mp [])) d _ k).symm) rfl⟩
def zOk (ag : Bool) : Value → Bool
  | .agg _ => ag
  | _ => !ag
theorem zOk_val {ag : Bool} {z : Value} (h : zOk ag z = true) : z = mkV ag (z.cells.toList.map SC.lit) := by
  have e : ∀ l : List Value, (l.map SC.lit).map SC.val = l := fun l => by induction l <;> simp_all [SC.val]
  cases z <;> cases ag <;> simp_all [zOk, mkV, Value.cells, SC.val]
/-- the result of asking a map -/
def lkSV (va ok : Bool) (cs : List SC) (b : Bool) : SV := if ok then .tup [(va, cs), (false, [.lit (.bool b)])] else if va then .agg cs else .c (cs.headD .any)
def lkArgs (P : Program) (s : St) (o : Oper) : Option (TypeId × Bool × Bool × List SC × List (Value × Value) × List SC) := match o.op with
  | .lookup t m k ok => match P.underlying t, opd s m, opd s k with
    | some (.map kt et), some (.c (.own d)), some kv => match look s.hp d, cellsAg (aggT P kt) kv, (P.info? et).bind (·.zero) with
      | some (.mp L), some ks, some z => if zOk (aggT P et) z then some (kt, aggT P et, ok, ks, L, z.cells.toList.map SC.lit) else none
      | _, _, _ => none
    | _, _, _ => none
  | _ => none
theorem lkSV_rel {rd : Rd} {g : Env} {va ok : Bool} {cs : List SC} {b : Bool} (hl : cs.all SC.isLit = true) (h1 : (va || cs.length == 1) = true) : VRel rd g (if ok then .tuple #[mkV va cs, .bool b] else mkV va cs) (lkSV va ok cs b) := by
  have hf : FRel rd g (mkV va cs) (va, cs) := mkV_rel hl (fun e => by rw [e, Bool.false_or, beq_iff_eq] at h1; exact h1)
  unfold lkSV
  cases ok
  · simp only [Bool.false_eq_true, if_false]
    cases va
    · simp only [Bool.false_eq_true, if_false]
      simp only [Bool.false_or, beq_iff_eq] at h1
      obtain ⟨c, rfl⟩ := List.length_eq_one_iff.1 h1
      exact val_rel (by simpa using hl)
    · exact ⟨_, rfl, vals_rel hl⟩
  · simp only [if_true]
    refine ⟨_, rfl, rfl, fun j x hx => ?_⟩
    match j, hx with
    | 0, hx => cases hx; exact ⟨_, rfl, hf⟩
    | 1, hx => cases hx; exact ⟨_, rfl, ⟨_, rfl, .lit _⟩⟩
theorem grow_lk {kt : TypeId} {va ok : Bool} {l : List (κ × ν)} {k : κ} {z : ν} (hall : ∀ k, (kf k).all SC.isLit = true) (halv : ∀ v, (vf v).all SC.isLit = true) (h1 : ∀ k, (aggT P kt || (kf k).length == 1) = true) (h2 : ∀ v, (va || (vf v).length == 1) = true) (heq : ∀ x y, eqT P 40 kt (kf x) (kf y) = some (beq x y))
    (h : lkArgs P s o = some (kt, va, ok, kf k, mpL (aggT P kt) va kf vf l, vf z)) : GrowOp P o s (lkSV va ok (vf ((mpGet beq l k).getD z)) (mpGet beq l k).isSome) := by
  unfold lkArgs at h
  split at h
  rotate_left
  · cases h
  rename_i t m ko ok' ho
  split at h
  rotate_left
  · cases h
  rename_i kt' et d kv hu hm hk
  split at h
  rotate_left
  · cases h
  rename_i L ks zz hl hc hz
  split at h
  rotate_left
  · cases h
  rename_i hzo
  simp only [Option.some.injEq, Prod.mk.injEq] at h
  obtain ⟨rfl, rfl, rfl, rfl, rfl, hzz⟩ := h
  obtain ⟨i, hi, hz⟩ := Option.bind_eq_some_iff.1 hz
  intro g rd a w hview
  obtain ⟨hmv, _⟩ : a.eval m = (g.tk d).1 ∧ _ := hview.op m _ (by simp [ho, Op.operands]) hm
  have hkv := cellsAg_val hc (hall k) (hview.op ko _ (by simp [ho, Op.operands]) hk)
  obtain ⟨r, es, c, h3, h4, h5⟩ := hview.holds d _ hl
  obtain ⟨x, q1, q2⟩ := findKey_run (va := aggT P et) (vf := vf) hall h1 heq w k l es.toList h5
  have hzv : zz = mkV (aggT P et) (vf z) := by
    rw [← hzz]
    exact zOk_val hzo
  unfold mSafe
  have hrun : (Instr.lookup t (a.eval m) (a.eval ko) ok').run P w = .ok (if ok' then .tuple #[mkV (aggT P et) (vf ((mpGet beq l k).getD z)), .bool (mpGet beq l k).isSome] else mkV (aggT P et) (vf ((mpGet beq l k).getD z))) w := by
    rw [hmv, h3, hkv]
    simp only [Instr.lookup, Sem.run_bind, run_underlying hu, Result.andThen_ok, MapKept.run_getObj_map h4, Sem.run_pure, check_run hall h1 heq, q1]
    cases hg : mpGet beq l k with
    | none =>
      rw [hg] at q2
      have q2 : x = none := q2
      subst q2
      simp [zeroValue, typeInfo, program, hi, hz, Sem.run, hzv]
    | some v =>
      rw [hg] at q2
      obtain ⟨j, rfl⟩ := q2
      cases ok' <;> rfl
  simp only [execOp, ho, Sem.run_bind, hrun, Result.andThen_ok, Sem.run_pure]
  exact ⟨Ext.refl w, fun rd' _ _ => lkSV_rel (halv _) (h2 _)⟩
def mpArgs (P : Program) (s : St) (o : Oper) : Option (Nat × TypeId × Bool × List SC × List SC × List (Value × Value)) := match o.op with
  | .mapUpdate t m k v => match P.underlying t, opd s m, opd s k, opd s v with
    | some (.map kt et), some (.c (.own d)), some kv, some vv => match look s.hp d, cellsAg (aggT P kt) kv, cellsAg (aggT P et) vv, o.dst with
      | some (.mp L), some ks, some vs, none => some (d, kt, aggT P et, ks, vs, L)
      | _, _, _, _ => none
    | _, _, _, _ => none
  | .insert t m k v => match P.underlying t, opd s m, opd s k, opd s v with
    | some (.map kt et), some (.c (.own d)), some kv, some vv => match look s.hp d, cellsAg (aggT P kt) kv, cellsAg (aggT P et) vv, o.dst with
      | some (.mp L), some ks, some vs, none => some (d, kt, aggT P et, ks, vs, L)
      | _, _, _, _ => none
    | _, _, _, _ => none
  | _ => none
theorem mpArgs_spec {d : Nat} {kt : TypeId} {va : Bool} {ks vs : List SC} {L : List (Value × Value)} (h : mpArgs P s o = some (d, kt, va, ks, vs, L)) :
    ∃ t m k v et kv vv, (o.op = .mapUpdate t m k v ∨ o.op = .insert t m k v) ∧ P.underlying t = some (.map kt et) ∧ opd s m = some (.c (.own d)) ∧ opd s k = some kv ∧ opd s v = some vv ∧ look s.hp d = some (.mp L) ∧ cellsAg (aggT P kt) kv = some ks ∧ cellsAg (aggT P et) vv = some vs ∧ o.dst = none ∧ va = aggT P et := by
  unfold mpArgs at h
  split at h
  · rename_i t m k v ho
    split at h
    · rename_i kt' et d' kv vv hu hm hk hv
      split at h
      · rename_i L' ks' vs' hl hc1 hc2 hd
        cases h
        exact ⟨t, m, k, v, et, kv, vv, .inl ho, hu, hm, hk, hv, hl, hc1, hc2, hd, rfl⟩
      · cases h
    · cases h
  · rename_i t m k v ho
    split at h
    · rename_i kt' et d' kv vv hu hm hk hv
      split at h
      · rename_i L' ks' vs' hl hc1 hc2 hd
        cases h
        exact ⟨t, m, k, v, et, kv, vv, .inr ho, hu, hm, hk, hv, hl, hc1, hc2, hd, rfl⟩
      · cases h
    · cases h
  · cases h
theorem upd_mp {d : Nat} {kt : TypeId} {va : Bool} {l : List (κ × ν)} {k : κ} {v : ν} (hall : ∀ k, (kf k).all SC.isLit = true) (halv : ∀ v, (vf v).all SC.isLit = true) (h1 : ∀ k, (aggT P kt || (kf k).length == 1) = true) (heq : ∀ x y, eqT P 40 kt (kf x) (kf y) = some (beq x y)) (hfr : (!mpHas beq l k) = true)
    (h : mpArgs P s o = some (d, kt, va, kf k, vf v, mpL (aggT P kt) va kf vf l)) : UpdOp P o s d (.mp (mpL (aggT P kt) va kf vf l)) (.mp (mpL (aggT P kt) va kf vf (l ++ [(k, v)]))) (.tup []) := by
  obtain ⟨t, m, ko, vo, et, kv, vv, ho, hu, hm, hk, hv, hl, hc1, hc2, hdst, rfl⟩ := mpArgs_spec h
  refine ⟨hl, rfl, fun _ _ _ hf => hf, fun g rd A w hview => ?_⟩
  have hm1 : m ∈ o.op.operands.toList := by rcases ho with ho | ho <;> simp [ho, Op.operands]
  have hk1 : ko ∈ o.op.operands.toList := by rcases ho with ho | ho <;> simp [ho, Op.operands]
  have hv1 : vo ∈ o.op.operands.toList := by rcases ho with ho | ho <;> simp [ho, Op.operands]
  obtain ⟨hmv, _⟩ : A.eval m = (g.tk d).1 ∧ _ := hview.op m _ hm1 hm
  have hkv := cellsAg_val hc1 (hall k) (hview.op ko _ hk1 hk)
  have hvv := cellsAg_val hc2 (halv v) (hview.op vo _ hv1 hv)
  obtain ⟨r, es, c, h3, h4, h5⟩ := hview.holds d _ hl
  obtain ⟨x, q1, q2⟩ := findKey_run (va := aggT P et) (vf := vf) hall h1 heq w k l es.toList h5
  have hno : mpGet beq l k = none := by
    unfold mpHas at hfr
    unfold mpGet
    cases hf : l.find? (fun p => beq k p.1) with
    | none => rfl
    | some _ => rw [hf] at hfr; cases hfr
  rw [hno] at q2
  have q2 : x = none := q2
  subst q2
  have hlt := (Array.getElem?_eq_some_iff.1 h4).1
  have hrun : (Instr.mapUpdate t (A.eval m) (A.eval ko) (A.eval vo)).run P w = .ok () { w with heap := w.heap.setIfInBounds r (.map (es.push { key := mkV (aggT P kt) (kf k), val := mkV (aggT P et) (vf v), born := c }) (c + 1)) } := by
    rw [hmv, h3, hkv, hvv]
    simp only [Instr.mapUpdate, Sem.run_bind, run_underlying hu, Result.andThen_ok, MapKept.run_getObj_map h4, check_run hall h1 heq, q1, MapKept.run_setObj_map _ h4]
  have hexec : (execOp A.eval o).run P w = .ok .skip { w with heap := w.heap.setIfInBounds r (.map (es.push { key := mkV (aggT P kt) (kf k), val := mkV (aggT P et) (vf v), born := c }) (c + 1)) } := by
    rcases ho with ho | ho <;> simp only [execOp, ho, Sem.run_bind, hrun, Result.andThen_ok, Sem.run_pure]
  refine ⟨_, _, hexec, ⟨rfl, rfl, rfl, by simp, fun b hb => ?_⟩, .inl ⟨rfl, hdst⟩, fun rd' _ => ⟨r, _, _, h3, Array.getElem?_setIfInBounds_self_of_lt hlt, ?_⟩⟩
  · by_cases hbr : b = r
    · subst hbr
      exact .inr (.inr ⟨h3, es, c, _, _, h4, Array.getElem?_setIfInBounds_self_of_lt hlt⟩)
    · refine .inl ?_
      simp only
      rw [Array.getElem?_setIfInBounds_ne (Ne.symm hbr)]
  · unfold MapIs at h5 ⊢
    simp only [Array.toList_push, List.map_append, h5, List.map_cons, List.map_nil, mpL]
end
section
variable {P : Program} {K : Ctx} {n : Nat} {Q : Exit → St → Prop} {C : Cfg} {D : Dr} {κ ν : Type} {kf : κ → List SC} {vf : ν → List SC}
def Cfg.isMk (C : Cfg) : Bool := match C.op with
  | some (_, o) => Go.Proofs.YtplihihjfjmbfaaGreat.isMk o
  | none => false
def Dr.isMk (D : Dr) : Bool := match D.op with
  | some (_, o) => Go.Proofs.YtplihihjfjmbfaaGreat.isMk o
  | none => false
theorem TS_mkmap (d : Nat) (hi : C.isMk = true) (hg : C.okNew n d = true) (k : TS P K n (C.next ((C.st.setR d (.mp [])).put (some d) (.c (.own d)))) Q) : TS P K n C Q := by
  obtain ⟨os, o, ho, h1, h2, h3, h4, h5⟩ := okNew_spec hg
  unfold Cfg.isMk at hi
  rw [ho] at hi
  exact TS_stp ho (S_mkmap d hi h1 h2 h3 h4 h5) k
theorem TS_lk {kt : TypeId} {va ok : Bool} (kf : κ → List SC) (vf : ν → List SC) (beq : κ → κ → Bool) (l : List (κ × ν)) (k : κ) (z : ν) (hall : ∀ k, (kf k).all SC.isLit = true) (halv : ∀ v, (vf v).all SC.isLit = true) (h1 : ∀ k, (aggT P kt || (kf k).length == 1) = true) (h2 : ∀ v, (va || (vf v).length == 1) = true) (heq : ∀ x y, eqT P 40 kt (kf x) (kf y) = some (beq x y))
    (h : C.with1 (lkArgs P) = some (kt, va, ok, kf k, mpL (aggT P kt) va kf vf l, vf z)) (hg : C.go1 n = true) (kk : TS P K n (C.ret (lkSV va ok (vf ((mpGet beq l k).getD z)) (mpGet beq l k).isSome)) Q) : TS P K n C Q :=
  TS_val _ hg (fun _os _o ho => grow_lk hall halv h1 h2 heq (with1_op h ho)) kk
theorem TS_lk2 {kt : TypeId} {va ok : Bool} (kf : κ → List SC) (vf : ν → List SC) (beq : κ → κ → Bool) (l : List (κ × ν)) (k : κ) (z : ν) (r : Option ν) (hr : some (mpGet beq l k) = some r) (hall : ∀ k, (kf k).all SC.isLit = true) (halv : ∀ v, (vf v).all SC.isLit = true) (h1 : ∀ k, (aggT P kt || (kf k).length == 1) = true) (h2 : ∀ v, (va || (vf v).length == 1) = true) (heq : ∀ x y, eqT P 40 kt (kf x) (kf y) = some (beq x y))
    (h : C.with1 (lkArgs P) = some (kt, va, ok, kf k, mpL (aggT P kt) va kf vf l, vf z)) (hg : C.go1 n = true) (kk : TS P K n (C.ret (lkSV va ok (vf (r.getD z)) r.isSome)) Q) : TS P K n C Q := by
  cases hr
  exact TS_lk kf vf beq l k z hall halv h1 h2 heq h hg kk
theorem TD_mpset {kt : TypeId} {va : Bool} (d : Nat) (kf : κ → List SC) (vf : ν → List SC) (beq : κ → κ → Bool) (l : List (κ × ν)) (k : κ) (v : ν) (hall : ∀ k, (kf k).all SC.isLit = true) (halv : ∀ v, (vf v).all SC.isLit = true) (h1 : ∀ k, (aggT P kt || (kf k).length == 1) = true) (heq : ∀ x y, eqT P 40 kt (kf x) (kf y) = some (beq x y)) (hfr : (!mpHas beq l k) = true)
    (h : D.with1 (mpArgs P) = some (d, kt, va, kf k, vf v, mpL (aggT P kt) va kf vf l)) (hg : D.go1 n = true) (kk : TD P K n (D.push ⟨D.need, D.dst, .tup [], some (d, .mp (mpL (aggT P kt) va kf vf (l ++ [(k, v)]))), false, none⟩) Q) : TD P K n D Q :=
  TD_upd (fun _os _o ho => upd_mp hall halv h1 heq hfr (with1D_op h ho)) hg kk
end
end
section
open Go.RowKit

/-- n elements of a list, from the place a on, as cells -/
def getsL (k : IntKind) (l : List Int) : Nat → Nat → List SC
  | _, 0 => []
  | a, n + 1 => .lit (.int k (l.getD a 0)) :: getsL k l (a + 1) n
section
variable {K : Ctx} {g g' : Env} {w w' : World} {n : Nat} {a : Act} {s : St}
/-- a resource gives way to one that holds nothing -/
theorem RG.turnE (h : RG K g n a w s) {d : Nat} {r0 r : Res} (m : SC → SC) (hl : look s.hp d = some r0) (hpos : ∀ e, g'.pos e = g.pos e) (htk : ∀ e, e ≠ d → g'.tk e = g.tk e) (ok : SC → Bool) (hok1 : ∀ t v, look s.tmps t = some v → v.every ok = true) (hok2 : ∀ e x, look s.hp e = some x → x.every ok = true)
    (hm : (rdOf K g s.hp w).le (rdOf K g' (setL d r (s.mapC m).hp) w) → ∀ v x, ok x = true → CRel (rdOf K g s.hp w) g v x → CRel (rdOf K g' (setL d r (s.mapC m).hp) w) g' v (m x)) (hemp : ∀ b o, ¬ Foot g' d r b o) (hnb : ∀ cs, r ≠ .box cs)
    (hh : Holds (rdOf K g' (setL d r (s.mapC m).hp) w) g' w d r) : RG K g' n a w ((s.mapC m).setR d r) := by
  have ht : ∀ e, (e == d) = false → e ≠ d := fun e h => by simpa using h
  have ht' : ∀ e, (e == d) = true → e = d := fun e h => by simpa using h
  have he : ∀ e x, (e == d) = false → look s.hp e = some x → g'.pos e = g.pos e ∧ g'.tk e = g.tk e := fun e x h1 _ => ⟨hpos e, htk e (ht e h1)⟩
  have hl' : ∀ e x, e ≠ d → look (setL d r (s.mapC m).hp) e = some x → ∃ x0, look s.hp e = some x0 ∧ x = x0.map m := by
    intro e x he' hx
    rw [look_setL, if_neg (Ne.symm he')] at hx
    simp only [St.mapC, look_map (fun x => Res.map m x)] at hx
    obtain ⟨x0, h1, h2⟩ := Option.map_eq_some_iff.1 hx
    exact ⟨x0, h1, h2.symm⟩
  have hld : look (setL d r (s.mapC m).hp) d = some r := by rw [look_setL, if_pos rfl]
  have hk' : Keep w (fun b o => ∃ e x, (e == d) = true ∧ look s.hp e = some x ∧ Foot g e x b o) w := Keep.refl _ _
  have hf' : ∀ e x b o, (e == d) = true → look (setL d r (s.mapC m).hp) e = some x → Foot g' e x b o → (∃ e' r', (e' == d) = true ∧ look s.hp e' = some r' ∧ Foot g e' r' b o) ∨ w.heap.size ≤ b := by
    intro e x b o h1 h2 h3
    have := ht' e h1; subst this
    rw [hld] at h2; cases h2
    exact absurd h3 (hemp b o)
  have hle := rd_step (K := K) (g := g) (g' := g') (w := w) (w' := w) (h := s.hp) (h' := setL d r (s.mapC m).hp) h.hg (· == d) he (fun e x h1 h2 => let ⟨x0, h3, h4⟩ := hl' e x (ht e h1) h2; ⟨x0, m, h3, h4⟩) hk' hf'
  have k := h.hg.step (g' := g') (w' := w) (h' := setL d r (s.mapC m).hp) (· == d) m ok he (fun e x h1 h2 => let ⟨x0, h3, h4⟩ := hl' e x (ht e h1) h2; ⟨x0, h3, h4, hok2 e x0 h3⟩) hk' hf'
    (fun e e' x x' b o h1 h2 hne => absurd ((ht' e h1).trans (ht' e' h2).symm) hne) (fun u x hx hc => hm hle u x hx hc)
    (fun e x h1 h2 => by have := ht' e h1; subst this; rw [hld] at h2; cases h2; exact hh)
    (fun e cs h1 _ h2 => by have := ht' e h1; subst this; rw [hld] at h2; cases h2; exact absurd rfl (hnb cs))
    (fun e x h1 h2 _ b o hf => by
      have := ht' e h1; subst this
      rw [hld] at h2; cases h2
      exact absurd hf (hemp b o))
  refine ⟨h.defers, h.size, h.few, k, fun t v hv => ?_⟩
  simp only [St.setR, St.mapC, look_map (fun v => SV.map m v)] at hv
  obtain ⟨v0, hv0, rfl⟩ := Option.map_eq_some_iff.1 hv
  obtain ⟨u, h1, h2⟩ := h.tmps t v0 hv0
  exact ⟨u, h1, h2.imp (p := ok) (fun v x hx hc => hm hle v x hx hc) (hok1 t v0 hv0)⟩
end

def SC.freeze0 (d : Nat) (cs : List SC) : SC → SC
  | .box e off => if e = d then .ref (cs.drop off) else .box e off
  | .win e off n => if e = d then (if off + n ≤ cs.length then .slc 1 0 n (((cs.drop off).take n).map fun c => [c]) else .any) else .win e off n
  | .own e => if e = d then .any else .own e
  | .row e m => if e = d then .any else .row e m
  | .sub e s a n => if e = d then .any else .sub e s a n
  | .elt e s i off => if e = d then .any else .elt e s i off
  | .ex e => if e = d then .any else .ex e
  | x => x
def SC.freeze (d : Nat) (cs : List SC) : SC → SC
  | .clo f xs => .clo f (xs.map (SC.freeze0 d cs))
  | x => x.freeze0 d cs
def freezeS (s : St) (d : Nat) : Option St := match look s.hp d with
  | some (.box cs0) => match fzvL cs0 with
    | some cs => if s.tmps.all (fun p => p.2.every (noTag d)) && s.hp.all (fun p => p.2.every (noTag d)) && decide (cs.length ≤ maxLen) then some ((s.mapC (SC.freeze d cs)).setR d (.spare 0 1 0)) else none
    | none => none
  | _ => none
/-- all but the row of one name is as it was -/
structure Other3 (g g' : Env) (d0 : Nat) : Prop where
  pos : ∀ d, g'.pos d = g.pos d
  tk : ∀ d, d ≠ d0 → g'.tk d = g.tk d
theorem CRel0.freeze {rd rd' : Rd} (hle : rd.le rd') {g g' : Env} {d0 : Nat} {cs : List SC} (k : Other3 g g' d0) (hn : ∀ v off, CRel0 rd g v (.box d0 off) → IRel rd' v (.ref (cs.drop off))) (hn2 : ∀ v off m, off + m ≤ cs.length → CRel0 rd g v (.win d0 off m) → IRel rd' v (.slc 1 0 m (((cs.drop off).take m).map fun c => [c]))) {v : Value} {x : SC} (hx : noTag0 d0 x = true) (h : CRel0 rd g v x) : CRel0 rd' g' v (x.freeze0 d0 cs) := by
  cases x with
  | lit u => exact h.mono hle
  | ref cs => exact h.mono hle
  | box d off =>
    simp only [SC.freeze0]
    split
    · rename_i hd; subst hd; exact hn v off h
    · simp only [CRel0, k.pos] at *; exact h
  | win d off m =>
    simp only [SC.freeze0]
    split
    · rename_i hd
      subst hd
      split
      · rename_i hb
        exact ⟨hn2 v off m hb h, trivial⟩
      · trivial
    · simp only [CRel0, k.pos] at *; exact h
  | own d =>
    simp only [SC.freeze0]
    split
    · trivial
    · rename_i hd; simp only [CRel0, k.tk d hd] at *; exact h
  | row d n =>
    simp only [SC.freeze0]
    split
    · trivial
    · rename_i hd; simp only [CRel0, k.tk d hd] at *; exact h
  | sub d s a n =>
    simp only [SC.freeze0]
    split
    · trivial
    · rename_i hd; simp only [CRel0, k.tk d hd] at *; exact h
  | elt d s i off =>
    simp only [SC.freeze0]
    split
    · trivial
    · rename_i hd; simp only [CRel0, k.tk d hd] at *; exact h
  | ex d =>
    simp only [SC.freeze0]
    split
    · trivial
    · rename_i hd; simp only [CRel0, k.tk d hd] at *; exact h
  | any => trivial
  | clo c cs => exact h.elim
  | slc s tag n xs =>
    refine ⟨h.1.mono hle, ?_⟩
    rcases tag with _ | _ | t
    · trivial
    · exact h.2
    · have h2 := h.2
      have ht : t ≠ d0 := by
        intro q; subst q
        simp [noTag0] at hx
      simp only [Tag, k.tk t ht] at h2 ⊢
      exact h2
theorem CRel.freeze {rd rd' : Rd} (hle : rd.le rd') {g g' : Env} {d0 : Nat} {cs : List SC} (k : Other3 g g' d0) (hn : ∀ v off, CRel0 rd g v (.box d0 off) → IRel rd' v (.ref (cs.drop off))) (hn2 : ∀ v off m, off + m ≤ cs.length → CRel0 rd g v (.win d0 off m) → IRel rd' v (.slc 1 0 m (((cs.drop off).take m).map fun c => [c]))) {v : Value} {x : SC} (hx : noTag d0 x = true) (h : CRel rd g v x) : CRel rd' g' v (x.freeze d0 cs) := by
  cases x with
  | clo c xs =>
    obtain ⟨caps, h1, h2, h3⟩ := h
    refine ⟨caps, h1, by simpa using h2, fun j y hy => ?_⟩
    rw [List.getElem?_map] at hy
    obtain ⟨y0, hy0, rfl⟩ := Option.map_eq_some_iff.1 hy
    obtain ⟨u, h4, h5⟩ := h3 j y0 hy0
    exact ⟨u, h4, h5.freeze hle k hn hn2 (List.all_eq_true.1 hx y0 (List.mem_of_getElem? hy0))⟩
  | lit u => exact CRel0.up (CRel0.freeze hle k hn hn2 (x := .lit u) hx h)
  | ref u => exact CRel0.up (CRel0.freeze hle k hn hn2 (x := .ref u) hx h)
  | box d off => exact CRel0.up (CRel0.freeze hle k hn hn2 (x := .box d off) hx h)
  | own d => exact CRel0.up (CRel0.freeze hle k hn hn2 (x := .own d) hx h)
  | row d n => exact CRel0.up (CRel0.freeze hle k hn hn2 (x := .row d n) hx h)
  | win d off n => exact CRel0.up (CRel0.freeze hle k hn hn2 (x := .win d off n) hx h)
  | sub d s a n => exact CRel0.up (CRel0.freeze hle k hn hn2 (x := .sub d s a n) hx h)
  | elt d s i off => exact CRel0.up (CRel0.freeze hle k hn hn2 (x := .elt d s i off) hx h)
  | ex d => exact CRel0.up (CRel0.freeze hle k hn hn2 (x := .ex d) hx h)
  | any => trivial
  | slc s tag n xs => exact CRel0.up (CRel0.freeze hle k hn hn2 (x := .slc s tag n xs) hx h)
theorem R.freeze {K : Ctx} {w : World} {n : Nat} {a : Act} {s s' : St} {d : Nat} (h : R K n a w s) (hs : freezeS s d = some s') : R K n a w s' := by
  obtain ⟨g, h⟩ := h
  unfold freezeS at hs
  split at hs
  rotate_left
  · cases hs
  rename_i cs0 hl
  split at hs
  rotate_left
  · cases hs
  rename_i cs hcs
  split at hs
  rotate_left
  · cases hs
  rename_i hq
  cases hs
  simp only [Bool.and_eq_true, List.all_eq_true, decide_eq_true_eq] at hq
  obtain ⟨⟨hq1, hq2⟩, hlen⟩ := hq
  obtain ⟨hf1, hf2⟩ := fzvL_get hcs
  have hbox := h.hg.holds d _ hl
  let g' : Env := { pos := g.pos, tk := fun e => if e = d then (.slice none 0 0, .slice none 0 0) else g.tk e }
  have hgd' : g'.tk d = (.slice none 0 0, .slice none 0 0) := by simp [g']
  have hoth : Other3 g g' d := ⟨fun _ => rfl, fun e q => by simp [g', q]⟩
  have hread : ∀ (hle : (rdOf K g s.hp w).le (rdOf K g' (setL d (.spare 0 1 0) (s.mapC (SC.freeze d cs)).hp) w)) (j : Nat) (y : SC), cs[j]? = some y → ∃ u, rdOf K g' (setL d (.spare 0 1 0) (s.mapC (SC.freeze d cs)).hp) w (g.pos d).1 ((g.pos d).2 + j) = some u ∧ IRel (rdOf K g' (setL d (.spare 0 1 0) (s.mapC (SC.freeze d cs)).hp) w) u y := by
    intro hle j y hy
    have hj := (List.getElem?_eq_some_iff.1 hy).1
    obtain ⟨x0, hx0⟩ : ∃ x0, cs0[j]? = some x0 := ⟨_, List.getElem?_eq_getElem (by omega)⟩
    obtain ⟨u, h1, _, h3⟩ := hbox j x0 hx0
    refine ⟨u, ?_, (fzv_rel h3 (hf2 j x0 y hx0 hy)).mono hle⟩
    have hfoot : Foot g d (.box cs0) (g.pos d).1 ((g.pos d).2 + j) := ⟨rfl, by omega, by omega⟩
    unfold rdOf
    rw [if_neg, if_neg (fun q => q.2 (h.hg.may _ _ ⟨d, _, hl, hfoot⟩ q.1))]
    · exact h1
    · rintro ⟨d2, x2, k1, k2⟩
      rw [look_setL] at k1
      split at k1
      · rename_i hdd
        cases k1
        subst hdd
        simp only [Foot, hgd', Value.ownBlock] at k2
        exact absurd k2.1 (by simp)
      · rename_i hdd
        simp only [St.mapC, look_map (fun x => Res.map (SC.freeze d cs) x)] at k1
        obtain ⟨x0', k3, rfl⟩ := Option.map_eq_some_iff.1 k1
        rw [foot_map, foot_env (g := g) (g' := g') ⟨rfl, hoth.tk d2 (Ne.symm hdd)⟩] at k2
        exact h.hg.dis d2 d x0' _ _ _ (Ne.symm hdd) k3 hl k2 hfoot
  refine ⟨g', h.turnE (g' := g') (r := .spare 0 1 0) (SC.freeze d cs) hl (fun _ => rfl) hoth.tk (noTag d) (fun t v hv => hq1 _ (look_mem hv)) (fun e x hx => hq2 _ (look_mem hx)) (fun hle v x hx hc => hc.freeze hle hoth (fun v off hv => ?_) (fun v off m hb hv => ?_) hx) (fun b o hf => by
      simp only [Foot, hgd', Value.ownBlock] at hf
      exact absurd hf.1 (by simp)) (fun _ q => by cases q) ⟨[], ⟨rfl, .inl ⟨by rw [hgd'], rfl⟩⟩⟩⟩
  · simp only [CRel0] at hv
    subst hv
    have key := hread hle
    refine .ref _ _ _ (fun j => (rdOf K g' (setL d (.spare 0 1 0) (s.mapC (SC.freeze d cs)).hp) w (g.pos d).1 ((g.pos d).2 + off + j)).getD undef) (fun j y hy => ?_) (fun j y hy => ?_)
    · rw [List.getElem?_drop] at hy
      obtain ⟨u, h1, _⟩ := key _ y hy
      rw [← Nat.add_assoc] at h1
      rw [h1]; rfl
    · rw [List.getElem?_drop] at hy
      obtain ⟨u, h1, h2⟩ := key _ y hy
      rw [← Nat.add_assoc] at h1
      rw [h1]; exact h2
  · obtain ⟨x, c, rfl, hc1, hc2, hwh⟩ := hv
    have key := hread hle
    by_cases hm0 : m = 0
    · subst hm0
      rw [List.take_zero, List.map_nil]
      exact .nil 1 _ _ hc2
    · rcases hwh with h0 | rfl
      · exact absurd h0 hm0
      · have hget : ∀ (i : Nat) (xx : List SC) (j : Nat) (y : SC), (((cs.drop off).take m).map fun c => [c])[i]? = some xx → xx[j]? = some y → j = 0 ∧ cs[off + i]? = some y := by
          intro i xx j y h1 h2
          rw [List.getElem?_map] at h1
          obtain ⟨y0, h3, rfl⟩ := Option.map_eq_some_iff.1 h1
          rw [List.getElem?_take] at h3
          split at h3
          · rw [List.getElem?_drop] at h3
            cases j with
            | zero => simp at h2; subst h2; exact ⟨rfl, h3⟩
            | succ j => simp at h2
          · cases h3
        refine .slc _ _ m c 1 _ (fun i j => (rdOf K g' (setL d (.spare 0 1 0) (s.mapC (SC.freeze d cs)).hp) w (g.pos d).1 ((g.pos d).2 + off + i * 1 + j)).getD undef) (by simp; omega) hc1 hc2 (fun x hx => by obtain ⟨y, _, rfl⟩ := List.mem_map.1 hx; rfl) (fun i xx j y h1 h2 => ?_) (fun i xx j y h1 h2 => ?_)
        · obtain ⟨rfl, h3⟩ := hget i xx j y h1 h2
          obtain ⟨u, h4, _⟩ := key _ y h3
          rw [← Nat.add_assoc] at h4
          rw [Nat.mul_one, Nat.add_zero, h4]; rfl
        · obtain ⟨rfl, h3⟩ := hget i xx j y h1 h2
          obtain ⟨u, h4, h5⟩ := key _ y h3
          rw [← Nat.add_assoc] at h4
          rw [Nat.mul_one, Nat.add_zero, h4]; exact h5
section
variable {P : Program} {K : Ctx} {n : Nat} {Q : Exit → St → Prop} {C : Cfg}
theorem TS_freeze (d : Nat) (he : C.pre = true) (k : TS P K n (C.st2 (freezeS C.st d)) Q) : TS P K n C Q := TS_st2 (fun _ _ _ hs r => r.freeze hs) he k
end
end
section
open Go.RowKit

theorem kr {p : Prop} (h : p := by kernel_rfl) : p := h
theorem condT {α : Type} {b : Bool} {x : Option α} {r : α} (h : (bif b then x else none) = some r) : b = true ∧ x = some r := chkO h
theorem condF {α : Type} {b : Bool} {x : Option α} {r : α} (h : (bif b then none else x) = some r) : b = false ∧ x = some r := by
  cases b
  · exact ⟨rfl, h⟩
  · cases h
def I6 (x : Int) : SC := .lit (.int .i64 x)
def U8 (x : Int) : SC := .lit (.int .u8 x)
def U1 (x : Int) : SC := .lit (.int .u16 x)
def U3 (x : Int) : SC := .lit (.int .u32 x)
def U6 (x : Int) : SC := .lit (.int .u64 x)
def BL (b : Bool) : SC := .lit (.bool b)
def bx (d : Nat) : SV := .c (.box d 0)
def fI (ts ds : List Nat) : Fit := ⟨ts.map fun t => (t, []), ds.map fun d => (d, (d, []))⟩
def fJ (ts : List Nat) (ds : List (Nat × Nat)) : Fit := ⟨ts.map fun t => (t, []), ds.map fun d => (d.1, (d.2, []))⟩
def pthF : Nat → Nat → List Nat
  | 0, _ => []
  | k + 1, n => bif Nat.ble n 1 then [] else (n % 2) :: pthF k (n / 2)
def pth (n : Nat) : List Nat := pthF 300 n
def cA (n : Nat) (b : Code) : Fr := .code (codeAt (pth n) b)
def oA (n : Nat) (b : Code) (k : Nat) : Fr := opsFr (codeAt (pth n) b) k
end
section
open Go.RowKit

section
variable {α : Type} {P : Program} {K : Ctx} {n : Nat} {ops : Array Oper} {o : Oper} {s : St}
theorem RowIs.one {rd : Rd} {sz : Nat} {vals : List Value} {xs : List (List SC)} (hs : 0 < sz) (hl : vals.length = xs.length * sz) (h : RowIs rd sz vals xs) (h1 : ∀ x ∈ xs, x.all SC.one = true) : ∀ v ∈ vals, v.oneCell' = true := by
  intro v hv
  obtain ⟨k, hk⟩ := List.getElem?_of_mem hv
  obtain ⟨hlt, hkv⟩ := List.getElem?_eq_some_iff.1 hk
  have hdm := Nat.div_add_mod k sz
  have hmod := Nat.mod_lt k hs
  have hdiv : k / sz < xs.length := by
    rw [Nat.div_lt_iff_lt_mul hs]
    omega
  have hx := List.getElem?_eq_getElem hdiv
  have hlen := h.1 _ (List.getElem_mem hdiv)
  have hy := List.getElem?_eq_getElem (l := xs[k / sz]) (i := k % sz) (by omega)
  obtain ⟨u, hu1, hu2⟩ := h.2 _ _ _ _ hx hy
  have he : k / sz * sz + k % sz = k := by rw [Nat.mul_comm]; exact hdm
  rw [he, hk] at hu1
  cases hu1
  exact oneCell_imm hu2 (List.all_eq_true.1 (h1 _ (List.getElem_mem hdiv)) _ (List.getElem_mem _))
variable {Q : Exit → St → Prop} {C : Cfg}
end
theorem setL_same {α : Type} {d : Nat} {x : α} : ∀ {l : List (Nat × α)}, look l d = some x → setL d x l = l
  | [], h => by cases h
  | (k, y) :: l, h => by
    simp only [look_cons] at h
    simp only [setL]
    split at h
    · rename_i hk; cases h; rw [if_pos hk, hk]
    · rename_i hk; rw [if_neg hk, setL_same h]
theorem over_same {csD cs : List SC} {off : Nat} (hw : (csD.drop off).take cs.length = cs) (hsz : off + cs.length ≤ csD.length) : over csD off cs = csD := by
  unfold over
  conv => lhs; rw [← hw]
  rw [List.length_take, List.length_drop, Nat.min_eq_left (by omega)]
  have h1 : csD.drop (off + cs.length) = (csD.drop off).drop cs.length := by rw [List.drop_drop]
  rw [h1, List.append_assoc, List.take_append_drop, List.take_append_drop]
section
variable {P : Program} {K : Ctx} {n : Nat} {Q : Exit → St → Prop} {D : Dr}
theorem vd_conP {ops : Array Oper} {o : Oper} {need : St} {f : FuncId} {vs A : List SV} {r : SV} (kss : List (List Nat)) (d off : Nat) (csD cs : List SC) (hgd : guardOf ops o need = some true) (hd : dstOk n o = true) (hc : calleeOf need o = some (f, vs)) (hb : hasBody P f = true) (hargs : castArgs kss vs = A.map (renV d off)) (hok : A.all SV.okP = true)
    (hl : look need.hp d = some (.box csD)) (hcl : cs.all SC.closed = true) (hw : (csD.drop off).take cs.length = cs) (hsz : off + cs.length ≤ csD.length) (hr : r.every SC.closed = true) (hp : Con P f A [(1000000, .box cs)] r [(1000000, .box cs)]) :
    VD P n ops o ⟨need, o.dst, r, none, false, none⟩ := by
  intro K s hs hnm
  have h := vd_con kss d off csD cs cs hgd hd hc hb hargs hok hl hcl hcl hw rfl hsz hr hp K s hs (fun q => by cases q)
  rw [over_same hw hsz] at h
  simp only [DD.app, DD.pre, St.setR] at h ⊢
  rw [setL_same (hs.h _ _ hl)] at h
  exact h
theorem TD_conP {f : FuncId} {A : List SV} {r : SV} (kss : List (List Nat)) (d off : Nat) (csD cs : List SC) (hp : Con P f A [(1000000, .box cs)] r [(1000000, .box cs)]) (hc : D.callee kss = some (f, A.map (renV d off))) (hl : look D.need.hp d = some (.box csD)) (hw : (csD.drop off).take cs.length = cs) (hg : (D.go1 n && hasBody P f && A.all SV.okP && cs.all SC.closed && decide (off + cs.length ≤ csD.length) && r.every SC.closed) = true)
    (k : TD P K n (D.push ⟨D.need, D.dst, r, none, false, none⟩) Q) : TD P K n D Q := by
  simp only [Bool.and_eq_true, decide_eq_true_eq] at hg
  obtain ⟨⟨⟨⟨⟨g1, g2⟩, g3⟩, g4⟩, g7⟩, g8⟩ := hg
  obtain ⟨os, o, ho, h1, h2, h3⟩ := go1D_spec g1
  obtain ⟨vs, h4, h5⟩ := calleeD_op hc ho
  rw [h3] at k
  exact push_ok ho (vd_conP kss d off csD cs h1 h2 h4 g2 h5 g3 hl g4 hw g7 g8 hp) rfl k
end
end
section
open Go.RowKit

abbrev LitV := List (Nat × (Nat × SV))
def below (V : LitV) (i : Nat) : LitV := V.filter fun p => decide (p.1 < i)
section
variable {P : Program} {K : Ctx} {n : Nat} {ops : Array Oper} {s : St} {d : Nat}
end
section
variable {P : Program} {K : Ctx} {n : Nat} {κ ν : Type} {kf : κ → List SC} {vf : ν → List SC} {beq : κ → κ → Bool}
end
end
section
open Go.RowKit

/-- what is said of the room behind a slice is forgotten -/
def SC.wk : SC → SC
  | .slc s 1 n xs => .slc s 0 n xs
  | x => x
/-- the other way: what is claimed of rows that are made so -/
def SC.up : SC → SC
  | .slc s 0 n xs => .slc s 1 n xs
  | x => x
theorem IRel.wk {rd : Rd} {v : Value} {x : SC} (h : IRel rd v x) : IRel rd v x.wk := by
  unfold SC.wk
  split
  · cases h with
    | slc1 _ _ _ _ h _ => exact h
  · exact h
theorem RowIs.wk {rd : Rd} {s : Nat} {us : List Value} {xs : List (List SC)} (h : RowIs rd s us xs) : RowIs rd s us (xs.map (List.map SC.wk)) := by
  refine ⟨fun x hx => ?_, fun i x j y hx hy => ?_⟩
  · obtain ⟨x0, h0, rfl⟩ := List.mem_map.1 hx
    rw [List.length_map]
    exact h.1 x0 h0
  · rw [List.getElem?_map] at hx
    obtain ⟨x0, hx0, rfl⟩ := Option.map_eq_some_iff.1 hx
    rw [List.getElem?_map] at hy
    obtain ⟨y0, hy0, rfl⟩ := Option.map_eq_some_iff.1 hy
    obtain ⟨u, h1, h2⟩ := h.2 i x0 j y0 hx0 hy0
    exact ⟨u, h1, h2.wk⟩
theorem IRel.wkL {rd : Rd} {v : Value} {s n : Nat} {xs : List (List SC)} (h : IRel rd v (.slc s 0 n xs)) : IRel rd v (.slc s 0 n (xs.map (List.map SC.wk))) := by
  cases h with
  | nil s a c hm => exact .nil s a c hm
  | slc b o n c s xs u hn hc hm hs hr hu =>
    have get : ∀ (i : Nat) (x : List SC) (j : Nat) (y : SC), (xs.map (List.map SC.wk))[i]? = some x → x[j]? = some y → ∃ x0 y0, xs[i]? = some x0 ∧ x0[j]? = some y0 ∧ y = y0.wk := by
      intro i x j y hx hy
      rw [List.getElem?_map] at hx
      obtain ⟨x0, hx0, rfl⟩ := Option.map_eq_some_iff.1 hx
      rw [List.getElem?_map] at hy
      obtain ⟨y0, hy0, rfl⟩ := Option.map_eq_some_iff.1 hy
      exact ⟨x0, y0, hx0, hy0, rfl⟩
    refine .slc b o n c s _ u (by simpa using hn) hc hm (fun x hx => ?_) (fun i x j y hx hy => ?_) (fun i x j y hx hy => ?_)
    · obtain ⟨x0, h0, rfl⟩ := List.mem_map.1 hx
      rw [List.length_map]
      exact hs x0 h0
    · obtain ⟨x0, y0, h1, h2, rfl⟩ := get i x j y hx hy
      exact hr i x0 j y0 h1 h2
    · obtain ⟨x0, y0, h1, h2, rfl⟩ := get i x j y hx hy
      exact (hu i x0 j y0 h1 h2).wk
theorem wk_map {α : Type} {c1 c2 : α → List SC} (hw : ∀ x, (c1 x).map SC.wk = c2 x) (l : List α) : (l.map c1).map (List.map SC.wk) = l.map c2 := by
  rw [List.map_map]
  exact List.map_congr_left (fun x _ => hw x)
/-- a contract for a slice serves a slice of which more is known -/
theorem Con.wk {P : Program} {f : FuncId} {α : Type} {c1 c2 : α → List SC} (hw : ∀ x, (c1 x).map SC.wk = c2 x) {sz N : Nat} {l : List α} {post : List SV} {h : Hp} {r : SV} {h' : Hp}
    (hp : Con P f (.c (.slc sz 0 N (l.map c2)) :: post) h r h') : Con P f (.c (.slc sz 0 N (l.map c1)) :: post) h r h' := by
  intro rd g w us h1 h2 h3
  refine hp rd g w us h1 h2 (fun i x hx => ?_)
  cases i with
  | zero =>
    obtain ⟨u, k1, k2⟩ := h3 0 _ rfl
    simp only [List.getElem?_cons_zero, Option.some.injEq] at hx
    subst hx
    refine ⟨u, k1, ?_⟩
    have := IRel.wkL k2.1
    rw [wk_map hw] at this
    exact ⟨this, trivial⟩
  | succ i => exact h3 (i + 1) x hx
section
variable {P : Program} {K : Ctx} {n : Nat} {Q : Exit → St → Prop} {C : Cfg}
/-- the same of a row of its own -/
theorem TS_weak {α : Type} (d e sz N : Nat) {l : List α} (c1 c2 : α → List SC) (hw : ∀ x, (c1 x).map SC.wk = c2 x) (h : look C.st.hp d = some (.row e sz N (l.map c1))) (he : C.pre = true) (k : TS P K n (C.withS (C.st.setR d (.row e sz N (l.map c2)))) Q) : TS P K n C Q := by
  refine TS_state _ (fun a w ⟨g, r⟩ => ⟨g, (r.upd (r := .row e sz N (l.map c2)) (w' := w) h (fun _ _ x => x) (Keep.refl _ _) (fun _ q => by cases q) (fun q => q) (fun hle => ?_)).1⟩) he k
  obtain ⟨us, h1, h2, h3⟩ := r.hg.holds d _ h
  refine ⟨us, h1, by rw [List.length_map] at h2 ⊢; exact h2, ?_⟩
  have := (h3.mono hle).wk
  rw [wk_map hw] at this
  exact this
end

section
variable {P : Program} {K : Ctx} {n : Nat} {Q : Exit → St → Prop} {C : Cfg} {α : Type}
/-- the new row gets a name -/
theorem TS_stEn (d e sz N i off : Nat) (f : α → List SC) {l : List α} {x : α} (x' : α) {ds : List SC} (hx : l[i]? = some x) (hx' : over (f x) off ds = f x') (hlen : (decide (off + ds.length ≤ (f x).length) && ds.all SC.one) = true) (h : C.with1 (stEArgs P) = some (d, e, sz, N, l.map f, i, off, ds)) (hg : C.go1 n = true) {l' : List α} (hn : some (l.set i x') = some l')
    (kk : TS P K n (C.next ((C.st.setR d (.row e sz l'.length (l'.map f))).put C.dst (.tup []))) Q) : TS P K n C Q := by
  cases hn
  exact TS_stE d e sz N i off f x' hx hx' hlen h hg kk
theorem TD_stEn {D : Dr} (d e sz N i off : Nat) (f : α → List SC) {l : List α} {x : α} (x' : α) {ds : List SC} (hx : l[i]? = some x) (hx' : over (f x) off ds = f x') (hlen : (decide (off + ds.length ≤ (f x).length) && ds.all SC.one) = true) (h : D.with1 (stEArgs P) = some (d, e, sz, N, l.map f, i, off, ds)) (hg : D.go1 n = true) {l' : List α} (hn : some (l.set i x') = some l')
    (kk : TD P K n (D.push ⟨D.need, D.dst, .tup [], some (d, .row e sz l'.length (l'.map f)), false, none⟩) Q) : TD P K n D Q := by
  cases hn
  exact TD_stE d e sz N i off f x' hx hx' hlen h hg kk
theorem TD_appPn {D : Dr} (d e sz by_ N m : Nat) (f : α → List SC) (hone : ∀ x, (f x).all SC.one = true) {l1 l2 : List α} (c : Cut) (hc : decide (m + (c.app l2).length ≤ l1.length) = true) (h : D.with1 (appRArgs P) = some (d, e, sz, by_, N, l1.map f, m, l2.map f, c)) (hg : D.go1 n = true) {m' : Nat} (hm : some (m + (c.app l2).length) = some m') {l' : List α} (hn : some (l1.take m ++ c.app l2 ++ l1.drop (m + (c.app l2).length)) = some l')
    (kk : TD P K n (D.push ⟨D.need, D.dst, .c (.row d m'), some (d, .row e sz l'.length (l'.map f)), false, none⟩) Q) : TD P K n D Q := by
  cases hn
  cases hm
  exact TD_appP d e sz by_ N m f hone c hc h hg kk
end

def OwnOpX (P : Program) (o : Oper) (s : St) (e sz : Nat) (xs : List (List SC)) : Prop :=
  ∀ g rd a w, OView g rd a w s o → ∃ V w' us, (execOp a.eval o).run P w = .ok (.value V) w' ∧ Ext w w' ∧ w'.ownsRow 0 e sz V xs.length us ∧ (∀ b, V.ownBlock = some b → w.heap.size ≤ b) ∧ RowIs rd sz us xs ∧ (V = .slice none 0 0 ∨ ∃ a n, V = .slice (some a) n n)
section
variable {P : Program} {o : Oper} {s : St} {α : Type}
theorem own_makeX {e sz by_ : Nat} (f : α → List SC) (z0 : α) (ks : List Nat) {cs : List SC} {l : Int} {m : Nat} (he : mkO by_ l l = some m) (h : makeArgs P s o = some (e, sz, by_, cs, l, l)) (hf : castL ks cs = f z0) : OwnOpX P o s e sz ((List.replicate m z0).map f) := by
  unfold makeArgs at h
  split at h
  rotate_left
  · cases h
  rename_i t x y ho
  split at h
  rotate_left
  · cases h
  rename_i e1 kl l1 kc c1 hu hx hy
  split at h
  rotate_left
  · cases h
  rename_i ie hie
  split at h
  rotate_left
  · cases h
  rename_i z hz
  split at h
  rotate_left
  · cases h
  rename_i hq
  cases h
  obtain ⟨hzs, hs0⟩ := hq
  simp only [mkO] at he
  split at he
  rotate_left
  · cases he
  rename_i hb
  cases he
  obtain ⟨b1, b2, b3, b4⟩ := hb
  intro g rd a w hview
  have hvx := rel_lit (hview.op x _ (by simp [ho, Op.operands]) hx)
  have hvy := rel_lit (hview.op y _ (by simp [ho, Op.operands]) hy)
  have hrun := run_make (P := P) w t e ie z hu hie hz kl kc l l b1 b2 b3 (by omega)
  simp only [execOp, ho, Sem.run_bind, hvx, hvy, hrun, Result.andThen_ok, Sem.run_pure]
  have hzl : (f z0).length = ie.size := by rw [← hf, castL_length, List.length_map, Array.length_toList, hzs]
  have hlen : ((List.replicate l.toNat z0).map f).length = l.toNat := by simp
  have hms : (madeCells z.cells (l.toNat * ie.size)).size = l.toNat * ie.size := size_madeCells _ _
  refine ⟨_, _, (madeCells z.cells (l.toNat * ie.size)).toList.take (l.toNat * ie.size), rfl, Ext.alloc _ _, ⟨by rw [hlen, List.length_take, Array.length_toList, hms]; omega, .inr ⟨w.heap.size, l.toNat, _, by rw [hlen], Nat.zero_le _, heap_alloc_new w _, by rw [hlen]; exact Nat.le_refl _, by unfold maxLen; omega, hms, by rw [hlen]⟩⟩, fun b hb' => by simp only [Value.ownBlock, Option.some.injEq] at hb'; omega, ⟨fun x hx => ?_, fun i x j y hx hy => ?_⟩, .inr ⟨_, _, rfl⟩⟩
  · obtain ⟨x0, hx0, rfl⟩ := List.mem_map.1 hx
    rw [(List.mem_replicate.1 hx0).2]; exact hzl
  · rw [List.getElem?_map] at hx
    obtain ⟨x0, hx0, rfl⟩ := Option.map_eq_some_iff.1 hx
    have hi : i < l.toNat := by have := (List.getElem?_eq_some_iff.1 hx0).1; simpa using this
    have hx1 : x0 = z0 := by rw [List.getElem?_replicate, if_pos hi] at hx0; cases hx0; rfl
    subst hx1
    have hj : j < ie.size := by have := (List.getElem?_eq_some_iff.1 hy).1; omega
    rw [← hf] at hy
    obtain ⟨k, y0, hy0, rfl⟩ := castL_get ks _ j y hy
    rw [List.getElem?_map] at hy0
    obtain ⟨u, hu', rfl⟩ := Option.map_eq_some_iff.1 hy0
    refine ⟨u, ?_, cast1_imm k (.lit u)⟩
    have hij : i * ie.size + j < l.toNat * ie.size := by
      have : (i + 1) * ie.size ≤ l.toNat * ie.size := Nat.mul_le_mul_right _ hi
      rw [Nat.add_mul, Nat.one_mul] at this
      omega
    rw [List.getElem?_take, if_pos hij]
    simp only [madeCells, Array.getElem?_toList, Array.getElem?_map]
    rw [Array.getElem?_eq_getElem (by simp; omega)]
    simp only [Option.map_some, Array.getElem_range, Option.some.injEq]
    rw [hzs, Nat.mul_add_mod_of_lt' hj]
    rw [Array.getElem?_toList] at hu'
    rw [getElem!_def, hu']
end
section
variable {P : Program} {K : Ctx} {n : Nat} {s : St} {ops : Array Oper} {o : Oper} {Q : Exit → St → Prop} {C : Cfg} {α : Type}
theorem S_ownX {e sz : Nat} {xs : List (List SC)} (d : Nat) (hp : OwnOpX P o s e sz xs) (hgd : guardOf ops o s = some true) (hdst : o.dst = some d) (hd : d < n) (hd6 : d < 1000000) (hf : NoName s d (some d)) :
    Stp P K n ops o s ((s.setR d (.row e sz xs.length xs)).put (some d) (.c (.ex d))) := by
  refine Stp_mk hgd fun g a w r K' Q hK => ?_
  obtain ⟨V, w', us, h1, h2, h3, h4, h5, h6⟩ := hp _ _ _ _ (r.view.o o)
  unfold Oper.wp
  rw [h1]
  simp only [Oper.upon]
  have h0 := r.forget d
  have hgd' : (g.setTk d (V, undef) (0, 0)).tk d = (V, undef) := by simp [Env.setTk]
  obtain ⟨r1, hle⟩ := h0.add (g' := g.setTk d (V, undef) (0, 0)) (w' := w') (r := .row e sz xs.length xs) hd6 hf.drop (fun e he => by simp [Env.setTk, he]) h2 (fun b o hb => by
      simp only [Foot, hgd'] at hb
      exact h4 b hb) (fun hle => ⟨us, by rw [hgd']; exact h3, rfl, h5.mono hle⟩)
  have r2 := r1.put (some d) (fun t ht => by cases ht; exact hd) (u := V) (v := .c (.ex d)) (by
    simp only [VRel, CRel, CRel0]
    rw [hgd']
    exact ⟨rfl, h6⟩)
  rw [hdst]
  exact hK _ _ ⟨_, r2.sim (fun k => (put_drop (s.setR d (.row e sz xs.length xs)) d _ k).symm) rfl⟩
theorem TS_makeX (d : Nat) (e sz : Nat) {by_ : Nat} (f : α → List SC) (z0 : α) (ks : List Nat) {cs : List SC} {l : Int} {m : Nat} (he : mkO by_ l l = some m) (hf : castL ks cs = f z0) (h : C.with1 (makeArgs P) = some (e, sz, by_, cs, l, l)) (hg : C.okNew n d = true) (kk : TS P K n (C.next ((C.st.setR d (.row e sz ((List.replicate m z0).length) ((List.replicate m z0).map f))).put (some d) (.c (.ex d)))) Q) : TS P K n C Q := by
  obtain ⟨os, o, ho, h1, h2, h3, h4, h5⟩ := okNew_spec hg
  have := S_ownX (K := K) (ops := os) d (own_makeX f z0 ks he (with1_op h ho) hf) h1 h2 h3 h4 h5
  rw [List.length_map] at this
  exact TS_stp ho this kk
end

def SC.immX : SC → Option SC
  | .slc s 1 n xs => some (.slc s 1 n xs)
  | x => x.imm
theorem immX_rel {rd : Rd} {g : Env} {u : Value} {x y : SC} (h : CRel rd g u x) (hy : x.immX = some y) : IRel rd u y := by
  unfold SC.immX at hy
  split at hy
  · cases hy
    exact .slc1 _ _ _ _ h.1 h.2
  · exact imm_rel h hy
def immXL : List SC → Option (List SC)
  | [] => some []
  | x :: xs => match x.immX, immXL xs with
    | some y, some ys => some (y :: ys)
    | _, _ => none
theorem immXL_get : ∀ (xs ys : List SC), immXL xs = some ys → xs.length = ys.length ∧ ∀ (j : Nat) (y : SC), ys[j]? = some y → ∃ x, xs[j]? = some x ∧ x.immX = some y
  | [], ys, h => by cases h; exact ⟨rfl, by simp⟩
  | x :: xs, ys, h => by
    simp only [immXL] at h
    split at h
    · rename_i y' ys' h1 h2
      cases h
      obtain ⟨h3, h4⟩ := immXL_get xs ys' h2
      refine ⟨by simp [h3], fun j y hy => ?_⟩
      cases j with
      | zero => cases hy; exact ⟨x, rfl, h1⟩
      | succ j => exact h4 j y hy
    · cases h
def buildXL (P : Program) (s : St) (e : TypeId) (len : Nat) (ks : List Nat) (parts : List (Nat × Operand)) : Option (List (List SC)) := match P.info? e, partsS s parts with
  | some ie, some ps => match ie.zero with
    | some z => match fillS (fun i => some (i * ie.size, ie.size)) (((Array.range (len * ie.size)).map (z.cells[· % z.cells.size]!)).toList.map SC.lit) ps with
      | some cs => match immXL cs with
        | some cs' => some ((chunks ie.size len cs').map (castL ks))
        | none => none
      | none => none
    | none => none
  | _, _ => none
def litXArgs (P : Program) (ks : List Nat) (s : St) (o : Oper) : Option (Nat × Nat × List (List SC)) := match o.op with
  | .buildSlice t len parts => match P.underlying t with
    | some (.slice e) => match P.info? e with
      | some ie => if decide (0 < len * ie.size ∧ len * ie.size ≤ 16777216) && ie.zero.isSome then match buildXL P s e len ks parts.toList with
          | some xs => some (e, ie.size, xs)
          | none => none
        else none
      | none => none
    | _ => none
  | _ => none
section
variable {P : Program} {o : Oper} {s : St}
theorem own_litX {e sz : Nat} {xs : List (List SC)} {ks : List Nat} (h : litXArgs P ks s o = some (e, sz, xs)) : OwnOp P o s e sz xs := by
  unfold litXArgs at h
  split at h
  rotate_left
  · cases h
  rename_i t len parts ho
  split at h
  rotate_left
  · cases h
  rename_i e1 hu
  split at h
  rotate_left
  · cases h
  rename_i ie hie
  split at h
  rotate_left
  · cases h
  rename_i hpos
  simp only [Bool.and_eq_true, decide_eq_true_eq] at hpos
  obtain ⟨hpos', hz'⟩ := hpos
  split at h
  rotate_left
  · cases h
  rename_i xs' hb
  cases h
  intro g rd a w hview
  unfold buildXL at hb
  rw [hie] at hb
  split at hb
  rotate_left
  · cases hb
  rename_i ie' ps hie' hps
  cases hie'
  split at hb
  rotate_left
  · cases hb
  rename_i z hz
  split at hb
  rotate_left
  · cases hb
  rename_i cs hcs
  split at hb
  rotate_left
  · cases hb
  rename_i cs' hcs'
  cases hb
  obtain ⟨l1, l2⟩ := parts_rel hview hps (fun i p hp => by rw [ho]; simp only [Op.operands]; exact parts_mem hp)
  obtain ⟨r, hr1, hr2⟩ := fill_rel _ ps _ _ cs l1 l2 (lits_rel rd g _) hcs
  have hrun := run_buildSlice (P := P) w t e len _ r ie z hu hie hz (by omega) (by omega) hr1
  simp only [execOp, ho, Sem.run_bind, hrun, Result.andThen_ok, Sem.run_pure]
  obtain ⟨h5, h6⟩ := immXL_get cs cs' hcs'
  have hrs : r.size = len * ie.size := by
    have hfl : ∀ (ps : List (Nat × Value)) (c c' : Array Value), Instr.fill (fun i => some (i * ie.size, ie.size)) c ps = some c' → c'.size = c.size := by
      intro ps
      induction ps with
      | nil => intro c c' hc; cases hc; rfl
      | cons p ps ih =>
        intro c c' hc
        obtain ⟨j, v⟩ := p
        simp only [Instr.fill] at hc
        split at hc
        · cases hc
        · have := ih _ _ hc
          rw [this]
          have e' : Array.foldl (fun cs (x : Value × Nat) => match x with | (c, j') => cs.setIfInBounds (j * ie.size + j') c) c v.cells.zipIdx = (v.cells.toList.zipIdx 0).foldl (fun cs (p : Value × Nat) => cs.setIfInBounds (j * ie.size + p.2) p.1) c := by
            rw [← Array.foldl_toList, Array.toList_zipIdx]
          have e2 : Array.foldl (fun cs (x : Value × Nat) => cs.setIfInBounds (j * ie.size + x.2) x.1) c v.cells.zipIdx = (v.cells.toList.zipIdx 0).foldl (fun cs (p : Value × Nat) => cs.setIfInBounds (j * ie.size + p.2) p.1) c := e'
          first
            | rw [e']
            | rw [e2]
          exact (foldl_set (j * ie.size) v.cells.toList 0 c).1
    rw [hfl _ _ _ hr1]
    simp
  have hcl : cs'.length = len * ie.size := by rw [← h5, ← hr2.1, hrs]
  have hlen : ((chunks ie.size len cs').map (castL ks)).length = len := by rw [List.length_map, chunks_length]
  refine ⟨_, _, r.toList, rfl, Ext.alloc _ _, ⟨by rw [hlen, Array.length_toList, hrs], .inr ⟨w.heap.size, len, r, by rw [hlen], Nat.zero_le _, heap_alloc_new w _, by rw [hlen]; exact Nat.le_refl _, ?_, hrs, ?_⟩⟩, fun b hb' => by simp only [Value.ownBlock, Option.some.injEq] at hb'; omega, ⟨fun x hx => ?_, fun i x j y hx hy => ?_⟩⟩
  · unfold maxLen
    have : len ≤ len * ie.size := Nat.le_mul_of_pos_right _ (Nat.pos_of_ne_zero (fun h0 => by rw [h0] at hpos'; simp at hpos'))
    omega
  · rw [hlen, ← hrs, ← Array.length_toList, List.take_length]
  · obtain ⟨x0, hx0, rfl⟩ := List.mem_map.1 hx
    obtain ⟨i, hi⟩ := List.getElem?_of_mem hx0
    rw [castL_length]
    exact (chunks_get ie.size len cs' i x0 (by omega) hi).1
  · rw [List.getElem?_map] at hx
    obtain ⟨x0, hx0, rfl⟩ := Option.map_eq_some_iff.1 hx
    obtain ⟨k, y0, hy0, rfl⟩ := castL_get ks x0 j y hy
    have h7 := (chunks_get ie.size len cs' i x0 (by omega) hx0).2 j y0 hy0
    obtain ⟨y1, h8, h9⟩ := h6 _ y0 h7
    obtain ⟨u, h10, h11⟩ := hr2.2 _ y1 h8
    exact ⟨u, by simpa using h10, cast1_imm k (immX_rel h11 h9)⟩
end
section
variable {P : Program} {K : Ctx} {n : Nat} {Q : Exit → St → Prop} {C : Cfg} {D : Dr} {α : Type}
theorem TS_litXT (d : Nat) (e sz : Nat) (f : α → List SC) (ks : List Nat) (l : List α) (h : C.with1 (litXArgs P ks) = some (e, sz, l.map f)) (hg : C.okNew n d = true) (kk : TS P K n (C.next ((C.st.setR d (.spare e sz (l.length))).put (some d) (.c (.slc sz (d + 2) (l.length) (l.map f))))) Q) : TS P K n C Q := by
  refine TS_ownT (e := e) (sz := sz) (xs := l.map f) d (fun os o ho => own_litX (with1_op h ho)) hg ?_
  rw [List.length_map]
  exact kk
end
end
end Go.Proofs.YtplihihjfjmbfaaGreat
