/-
  SHADOWS: results, contracts of functions that only compute, calls of such functions.
-/
import Derived.Test.YtohhaibbbnobpaaSh5
namespace Go.Proofs.Ytohhaibbbnobpaa
open Go.RowKit

/-! ### tags struck; nil as an empty list -/
def cast1 : Nat → SC → SC
  | 0, x => x
  | s + 1, x => match x with
    | .lit (.slice none 0 0) => .slc s 0 []
    | .slc s' _ xs => .slc s' 0 xs
    | x => x
theorem cast1_rel {rd : Rd} {g : Env} {v : Value} {x : SC} (k : Nat) (h : CRel rd g v x) : CRel rd g v (cast1 k x) := by
  unfold cast1
  split
  · exact h
  · split
    · simp only [CRel] at h
      cases h
      exact ⟨.nil _ _ _ (by decide), trivial⟩
    · exact ⟨h.1, trivial⟩
    · exact h
def castL : List Nat → List SC → List SC
  | k :: ks, x :: xs => cast1 k x :: castL ks xs
  | _, xs => xs
theorem castL_length : ∀ (ks : List Nat) (xs : List SC), (castL ks xs).length = xs.length
  | [], _ => rfl
  | _ :: _, [] => rfl
  | k :: ks, x :: xs => by simp [castL, castL_length ks xs]
theorem castL_get : ∀ (ks : List Nat) (xs : List SC) (j : Nat) (y : SC), (castL ks xs)[j]? = some y → ∃ k x, xs[j]? = some x ∧ y = cast1 k x
  | [], xs, j, y, h => ⟨0, y, h, rfl⟩
  | _ :: _, [], j, y, h => by simp [castL] at h
  | k :: ks, x :: xs, j, y, h => by
    cases j with
    | zero => simp [castL] at h; exact ⟨k, x, rfl, h.symm⟩
    | succ j => exact castL_get ks xs j y (by simpa [castL] using h)
theorem castL_rel {rd : Rd} {g : Env} {vs : Array Value} {cs : List SC} (ks : List Nat) (h : CsRel rd g vs cs) : CsRel rd g vs (castL ks cs) := by
  refine ⟨by rw [castL_length]; exact h.1, fun j y hy => ?_⟩
  obtain ⟨k, x, hx, rfl⟩ := castL_get ks cs j y hy
  obtain ⟨u, h1, h2⟩ := h.2 j x hx
  exact ⟨u, h1, cast1_rel k h2⟩
def castV (ks : List Nat) : SV → SV
  | .c x => match ks with
    | k :: _ => .c (cast1 k x)
    | [] => .c x
  | .agg cs => .agg (castL ks cs)
  | x => x
theorem castV_rel {rd : Rd} {g : Env} {v : Value} {x : SV} (ks : List Nat) (h : VRel rd g v x) : VRel rd g v (castV ks x) := by
  cases x with
  | c x => cases ks with
    | nil => exact h
    | cons k ks => exact cast1_rel k h
  | agg cs => obtain ⟨vs, h1, h2⟩ := h; exact ⟨vs, h1, castL_rel ks h2⟩
  | tup xs => exact h
def castF (ks : List Nat) (x : Bool × List SC) : Bool × List SC := (x.1, castL ks x.2)
theorem castF_rel {rd : Rd} {g : Env} {v : Value} {x : Bool × List SC} (ks : List Nat) (h : FRel rd g v x) : FRel rd g v (castF ks x) := by
  unfold FRel castF at *
  simp only
  split
  · rename_i hx; rw [if_pos hx] at h; obtain ⟨vs, h1, h2⟩ := h; exact ⟨vs, h1, castL_rel ks h2⟩
  · rename_i hx; rw [if_neg hx] at h
    obtain ⟨y, h1, h2⟩ := h
    rw [h1]
    cases ks with
    | nil => exact ⟨y, rfl, h2⟩
    | cons k ks => exact ⟨cast1 k y, by simp [castL], cast1_rel k h2⟩

/-! ### values that name no variable -/
def SC.closed : SC → Bool
  | .box _ _ => false
  | .bsl _ _ _ _ _ => false
  | .slc _ tag _ => decide (tag < 2)
  | _ => true
theorem closed_rel {rd : Rd} {g g' : Env} (v : Value) (x : SC) (hx : x.closed = true) (h : CRel rd g v x) : CRel rd g' v x := by
  cases x <;> simp only [CRel] at *
  case lit => exact h
  case ref => exact h
  case slc s tag xs =>
    refine ⟨h.1, ?_⟩
    simp only [SC.closed, decide_eq_true_eq] at hx
    rcases tag with _ | _ | t
    · trivial
    · exact h.2
    · omega
  case box => simp [SC.closed] at hx
  case bsl => simp [SC.closed] at hx

/-! ### what a function returns -/
def svF : SV → Option (Bool × List SC)
  | .c x => some (false, [x])
  | .agg cs => some (true, cs)
  | .tup _ => none
theorem svF_rel {rd : Rd} {g : Env} {v : Value} {x : SV} {y : Bool × List SC} (h : VRel rd g v x) (hy : svF x = some y) : FRel rd g v y := by
  cases x <;> simp only [svF, reduceCtorEq] at hy
  · cases hy; exact ⟨_, rfl, h⟩
  · cases hy; exact h
def resS (P : Program) (s : St) : ResultVar → Option (Bool × List SC)
  | .tmp t => match look s.tmps t with
    | some v => svF v
    | none => none
  | .cell a t => match look s.tmps a with
    | some p => match cellsAt s p with
      | some cs => match wrapT P t cs with
        | some v => svF v
        | none => none
      | none => none
    | none => none
def resL (P : Program) (s : St) : List (List Nat) → List ResultVar → Option (List (Bool × List SC))
  | _, [] => some []
  | kss, r :: rs => match resS P s r, resL P s kss.tail rs with
    | some x, some xs => some (castF (kss.headD []) x :: xs)
    | _, _ => none
/-- one result by itself, several as a tuple -/
def resV : List (Bool × List SC) → Option SV
  | [(true, cs)] => some (.agg cs)
  | [(false, [x])] => some (.c x)
  | [(false, _)] => none
  | xs => some (.tup xs)

def rv (a : Act) : ResultVar → Sem Value
  | .tmp t => pure (a.tmps.getD t undef)
  | .cell b t => do loadVar t (← asAddr (a.tmps.getD b undef))
theorem resS_rel {P : Program} {g : Env} {rd : Rd} {a : Act} {w : World} {s : St} (h : View g rd a w s) {r : ResultVar} {x : Bool × List SC} (hr : resS P s r = some x) :
    ∃ u, (rv a r).run P w = .ok u w ∧ FRel rd g u x := by
  cases r with
  | tmp t =>
    simp only [resS] at hr
    split at hr
    · rename_i v hv
      obtain ⟨u, h1, h2⟩ := h.tmps t v hv
      refine ⟨u, ?_, svF_rel h2 hr⟩
      simp [rv, Array.getD_eq_getD_getElem?, h1]
    · cases hr
  | cell b t =>
    simp only [resS] at hr
    split at hr
    · rename_i p hp
      split at hr
      · rename_i cs hcs
        split at hr
        · rename_i v hv
          obtain ⟨u, h1, h2⟩ := h.tmps b p hp
          obtain ⟨bb, oo, rfl, h4⟩ := (h.o default).cellsAt h2 hcs
          obtain ⟨u', h5, h6⟩ := run_loadVar_sh (P := P) hv h4
          refine ⟨u', ?_, svF_rel h6 hr⟩
          simp [rv, Array.getD_eq_getD_getElem?, h1, asAddr, h5]
        · cases hr
      · cases hr
    · cases hr

theorem resL_rel {P : Program} {g : Env} {rd : Rd} {a : Act} {w : World} {s : St} (h : View g rd a w s) : ∀ (rs : List ResultVar) (kss : List (List Nat)) (xs : List (Bool × List SC)), resL P s kss rs = some xs →
    ∃ us : List Value, (rs.mapM (rv a)).run P w = .ok us w ∧ us.length = xs.length ∧ ∀ (j : Nat) (x : Bool × List SC), xs[j]? = some x → ∃ u, us[j]? = some u ∧ FRel rd g u x
  | [], kss, xs, hx => by
    cases hx
    exact ⟨[], by simp, rfl, fun j x hj => by simp at hj⟩
  | r :: rs, kss, xs, hx => by
    simp only [resL] at hx
    split at hx
    · rename_i x xs' h1 h2
      cases hx
      obtain ⟨u, h3, h4⟩ := resS_rel h h1
      obtain ⟨us, h5, h6, h7⟩ := resL_rel h rs _ xs' h2
      refine ⟨u :: us, by rw [List.mapM_cons]; simp [h3, h5], by simp [h6], fun j y hy => ?_⟩
      cases j with
      | zero => cases hy; exact ⟨u, rfl, castF_rel _ h4⟩
      | succ j => exact h7 j y hy
    · cases hx

def retQ (P : Program) (fn : Func) (kss : List (List Nat)) (r : SV) : Exit → St → Prop
  | .normal, s => ∃ xs, resL P s kss fn.results.toList = some xs ∧ resV xs = some r
  | .ret, s => ∃ xs, resL P s kss fn.results.toList = some xs ∧ resV xs = some r
  | _, _ => False

theorem run_results {P : Program} {g : Env} {rd : Rd} {a : Act} {w : World} {s : St} (h : View g rd a w s) {fn : Func} {kss : List (List Nat)} {xs : List (Bool × List SC)} {r : SV} (hx : resL P s kss fn.results.toList = some xs) (hr : resV xs = some r) :
    ∃ u, (results fn a.tmps).run P w = .ok u w ∧ VRel rd g u r := by
  obtain ⟨us, h1, h2, h3⟩ := resL_rel h _ kss xs hx
  have hm : (fn.results.mapM (rv a)).run P w = .ok us.toArray w := by
    rw [Array.mapM_eq_mapM_toList]
    simp [h1]
  refine ⟨if h : us.toArray.size = 1 then us.toArray[0] else .tuple us.toArray, ?_, ?_⟩
  · unfold results
    simp only [Sem.run_bind]
    refine (congrArg (fun z => Result.andThen z _) hm).trans ?_
    simp
  · unfold resV at hr
    split at hr
    · cases hr
      obtain ⟨u, h4, h5⟩ := h3 0 _ rfl
      have h6 : us.length = 1 := by simpa using h2
      obtain ⟨x, rfl⟩ := List.length_eq_one_iff.1 h6
      cases h4
      simp
      exact h5
    · cases hr
      obtain ⟨u, h4, h5⟩ := h3 0 _ rfl
      have h6 : us.length = 1 := by simpa using h2
      obtain ⟨x, rfl⟩ := List.length_eq_one_iff.1 h6
      cases h4
      simp
      obtain ⟨y, h7, h8⟩ := h5
      cases h7
      exact h8
    · cases hr
    · rename_i hn1 hn2 hn3
      cases hr
      have h6 : us.toArray.size ≠ 1 := by
        intro h6
        have : xs.length = 1 := by rw [← h2]; simpa using h6
        obtain ⟨x, rfl⟩ := List.length_eq_one_iff.1 this
        obtain ⟨b, cs⟩ := x
        cases b
        · exact hn3 _ rfl
        · exact hn1 _ rfl
      rw [dif_neg h6]
      exact ⟨us.toArray, rfl, by simpa using h2, fun j x hj => by simpa using h3 j x hj⟩

/-! ### contracts -/
def Pure (P : Program) (f : FuncId) (args : List SV) (r : SV) : Prop :=
  ∀ (rd : Rd) (g : Env) (w : World) (us : Array Value), (∀ b o v, rd b o = some v → w.cell? ⟨b, o, none⟩ = some v) → us.size = args.length → (∀ (i : Nat) (x : SV), args[i]? = some x → ∃ u, us[i]? = some u ∧ VRel rd g u x) →
    Calls P f us w fun e w' => ∃ u, e = .returned u ∧ Ext w w' ∧ ∀ rd', rd.le rd' → Sees w rd' w' → VRel rd' g u r

def initT : Nat → List SV → List (Nat × SV)
  | _, [] => []
  | i, x :: xs => (i, x) :: initT (i + 1) xs
theorem look_initT : ∀ (xs : List SV) (i t : Nat) (v : SV), look (initT i xs) t = some v → i ≤ t ∧ xs[t - i]? = some v
  | [], i, t, v, h => by simp [initT, look] at h
  | x :: xs, i, t, v, h => by
    simp only [initT, look_cons] at h
    split at h
    · rename_i ht; subst ht; cases h; simp
    · rename_i ht
      obtain ⟨h1, h2⟩ := look_initT xs (i + 1) t v h
      exact ⟨by omega, by rw [show t - i = (t - (i + 1)) + 1 by omega, List.getElem?_cons_succ]; exact h2⟩

theorem pure_of {P : Program} {f : FuncId} {fn : Func} {c : Code} {args : List SV} {r : SV} (kss : List (List Nat)) (n : Nat) (hf : P.funcs[f]? = some fn) (hb : fn.body = some c) (hn : fn.ntmps = n) (hl : decide (args.length ≤ n) = true) (hc : r.every SC.closed = true)
    (h : ∀ K, T P K n c { tmps := initT 0 args, hp := ⟨[], []⟩ } (retQ P fn kss r)) : Pure P f args r := by
  intro rd g w us hrd hus hargs
  have hl' := of_decide_eq_true hl
  let K : Ctx := ⟨w, fun _ _ => False, rd, g.pos, fun b o v hv => ⟨hrd b o v hv, fun x => x⟩⟩
  have hR : RG K g n { tmps := us ++ Array.replicate (fn.ntmps - us.size) undef, defers := [] } w { tmps := initT 0 args, hp := ⟨[], []⟩ } := by
    refine ⟨rfl, by simp; omega, ⟨Keep.refl _ _, ?_, ?_, ?_, ?_, ?_, ?_, fun _ _ => rfl⟩, fun t v hv => ?_⟩
    · intro d cs hd; simp [look] at hd
    · intro d cs hd; simp [look] at hd
    · intro d d' cs cs' _ hd; simp [look] at hd
    · intro t e s xs ht; simp [look] at ht
    · intro t t' x x' _ ht; simp [look] at ht
    · intro t x d cs ht; simp [look] at ht
    · obtain ⟨_, h2⟩ := look_initT args 0 t v hv
      obtain ⟨u, h3, h4⟩ := hargs (t - 0) v h2
      simp only [Nat.sub_zero] at h3
      refine ⟨u, ?_, h4.mono ?_⟩
      · rw [Array.getElem?_append_left (Array.getElem?_eq_some_iff.1 h3).1]
        exact h3
      · intro b o v hv
        unfold rdOf
        rw [if_neg, if_pos]
        · exact hv
        · exact World.block_lt_of_cell? w _ (hrd b o v hv)
        · rintro (⟨d, cs, h1, _⟩ | ⟨t, e, s, xs, a, c, h1, _⟩) <;> simp [look] at h1
  refine calls_of_wp hf hb (wp_mono (h K _ w ⟨g, hR⟩) fun e a' w' hq => ?_)
  obtain ⟨s', ⟨g', r'⟩, q⟩ := hq
  have fin : (∃ xs, resL P s' kss fn.results.toList = some xs ∧ resV xs = some r) → a'.defers = [] ∧ ∃ v, (results fn a'.tmps).run P w' = .ok v w' ∧ ∃ u, Ending.returned v = .returned u ∧ Ext w w' ∧ ∀ rd', rd.le rd' → Sees w rd' w' → VRel rd' g u r := by
    rintro ⟨xs, h1, h2⟩
    obtain ⟨u, h3, h4⟩ := run_results r'.view h1 h2
    refine ⟨r'.defers, u, h3, u, rfl, r'.hg.keep.ext, fun rd' hle hs => ?_⟩
    refine VRel.imp (fun v x hx k => closed_rel v x hx k) (h4.mono ?_) hc
    intro b o v hv
    have hcell := rdOf_le g' s'.hp r'.hg.keep b o v hv
    unfold rdOf at hv
    split at hv
    · cases hv
    · split at hv
      · exact hle b o v hv
      · rename_i hbb
        exact hs b o v (Nat.not_lt.1 hbb) hcell
  cases e <;> simp only [retQ] at q <;> simp only [bodyPost]
  case normal => exact fin q
  case ret => exact fin q

/-! ### calls -/
def argsS (s : St) : List Operand → Option (List SV)
  | [] => some []
  | x :: l => match opd s x, argsS s l with
    | some v, some r => some (v :: r)
    | _, _ => none
theorem argsS_spec {s : St} : ∀ (l : List Operand) (r : List SV), argsS s l = some r → l.length = r.length ∧ ∀ (i : Nat) (x : Operand) (v : SV), l[i]? = some x → r[i]? = some v → opd s x = some v
  | [], r, h => by cases h; exact ⟨rfl, fun i p q h1 => by simp at h1⟩
  | x :: l, r, h => by
    simp only [argsS] at h
    split at h
    · rename_i v r' hv hr
      cases h
      obtain ⟨h1, h2⟩ := argsS_spec l r' hr
      refine ⟨by simp [h1], fun k p q hp hq => ?_⟩
      cases k with
      | zero => cases hp; cases hq; exact hv
      | succ k => exact h2 k p q hp hq
    · cases h
def castArgs : List (List Nat) → List SV → List SV
  | ks :: kss, x :: xs => castV ks x :: castArgs kss xs
  | _, xs => xs
theorem castArgs_get : ∀ (kss : List (List Nat)) (xs : List SV) (i : Nat) (y : SV), (castArgs kss xs)[i]? = some y → ∃ ks x, xs[i]? = some x ∧ y = castV ks x
  | [], xs, i, y, h => ⟨[], y, h, by cases y <;> simp [castV, castL]⟩
  | _ :: _, [], i, y, h => by simp [castArgs] at h
  | ks :: kss, x :: xs, i, y, h => by
    cases i with
    | zero => simp [castArgs] at h; exact ⟨ks, x, rfl, h.symm⟩
    | succ i => exact castArgs_get kss xs i y (by simpa [castArgs] using h)
theorem castArgs_length : ∀ (kss : List (List Nat)) (xs : List SV), (castArgs kss xs).length = xs.length
  | [], _ => rfl
  | _ :: _, [] => rfl
  | _ :: kss, _ :: xs => by simp [castArgs, castArgs_length kss xs]

theorem grow_call {P : Program} {o : Oper} {s : St} {r : SV} {fo : Operand} {xs : Array Operand} {ts : Array TypeId} (f : FuncId) (fn : Func) (kss : List (List Nat)) (args : List SV) (ho : o.op = .call { callee := .value fo, args := xs, argTypes := ts }) (hfo : opd s fo = some (.c (.lit (.func (.func f) #[] #[]))))
    (hf : P.funcs[f]? = some fn) (hname : (fn.name == "runtime.NumGoroutine") = false) (hbody : fn.body.isNone = false) (hv' : (argsS s xs.toList).map (castArgs kss) = some args) (hp : Pure P f args r) : GrowOp P o s r := by
  intro g rd a w hview
  obtain ⟨vs, hv, hargs⟩ := Option.map_eq_some_iff.1 hv'
  have h1 := rel_lit (hview.op fo _ (by simp [ho, Op.operands, Call.operands]) hfo)
  obtain ⟨hl, hget⟩ := argsS_spec _ _ hv
  have hcalls := hp rd g w (xs.map a.eval) hview.reads (by rw [← hargs, castArgs_length, ← hl]; simp) (fun i y hy => by
    rw [← hargs] at hy
    obtain ⟨ks, x, hx, rfl⟩ := castArgs_get kss vs i y hy
    have hi : i < xs.toList.length := by rw [hl]; exact (List.getElem?_eq_some_iff.1 hx).1
    have := hget i xs.toList[i] x (List.getElem?_eq_getElem hi) hx
    refine ⟨a.eval xs.toList[i], ?_, castV_rel ks (hview.op _ _ ?_ this)⟩
    · simp only [Array.length_toList] at hi
      simp [hi]
    · rw [ho]
      simp only [Op.operands, Call.operands, Array.toList_append]
      exact List.mem_append_right _ (List.getElem_mem _))
  unfold mSafe
  simp only [execOp, ho, resolve, h1, Deferred.ofValue, invoke, callFunc, program, hf, hname, hbody, Bool.false_eq_true, if_false, Sem.run_bind, Sem.run_pure, Sem.run, Result.andThen_ok, Array.append_empty, Array.empty_append, mUpon]
  exact hcalls.mono fun e w' ⟨u, h2, h3, h4⟩ => ⟨u, h2, h3, h4⟩
end Go.Proofs.Ytohhaibbbnobpaa
