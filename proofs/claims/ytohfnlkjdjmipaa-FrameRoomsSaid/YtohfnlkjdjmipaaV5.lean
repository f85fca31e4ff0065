/-
  SHADOWS, second make: results, contracts, calls.
-/
import Derived.Test.YtohfnlkjdjmipaaV4
namespace Go.Proofs.Ytohfnlkjdjmipaa
open Go.RowKit

/-! ### tags struck; nil as an empty list -/
def cast1 : Nat → SC → SC
  | 0, x => x
  | s + 1, x => match x with
    | .lit (.slice none 0 0) => .slc s 0 0 []
    | .slc s' _ n xs => .slc s' 0 n xs
    | x => x
theorem cast1_rel {rd : Rd} {g : Env} {v : Value} {x : SC} (k : Nat) (h : CRel rd g v x) : CRel rd g v (cast1 k x) := by
  unfold cast1
  split
  · exact h
  · split
    · simp only [CRel, CRel0] at h
      cases h
      exact ⟨.nil _ _ _ (by decide), trivial⟩
    · exact ⟨h.1, trivial⟩
    · exact h
def castL : List Nat → List SC → List SC
  | k :: ks, x :: xs => cast1 k x :: castL ks xs
  | _, xs => xs
theorem castL_length : ∀ (ks : List Nat) (xs : List SC), (castL ks xs).length = xs.length
  | [], _ => rfl
  | _ :: _, [] => rfl
  | k :: ks, x :: xs => by simp [castL, castL_length ks xs]
theorem castL_get : ∀ (ks : List Nat) (xs : List SC) (j : Nat) (y : SC), (castL ks xs)[j]? = some y → ∃ k x, xs[j]? = some x ∧ y = cast1 k x
  | [], xs, j, y, h => ⟨0, y, h, rfl⟩
  | _ :: _, [], j, y, h => by simp [castL] at h
  | k :: ks, x :: xs, j, y, h => by
    cases j with
    | zero => simp [castL] at h; exact ⟨k, x, rfl, h.symm⟩
    | succ j => exact castL_get ks xs j y (by simpa [castL] using h)
theorem castL_rel {rd : Rd} {g : Env} {vs : Array Value} {cs : List SC} (ks : List Nat) (h : CsRel rd g vs cs) : CsRel rd g vs (castL ks cs) := by
  refine ⟨by rw [castL_length]; exact h.1, fun j y hy => ?_⟩
  obtain ⟨k, x, hx, rfl⟩ := castL_get ks cs j y hy
  obtain ⟨u, h1, h2⟩ := h.2 j x hx
  exact ⟨u, h1, cast1_rel k h2⟩
def castF (ks : List Nat) (x : Bool × List SC) : Bool × List SC := (x.1, castL ks x.2)
theorem castF_rel {rd : Rd} {g : Env} {v : Value} {x : Bool × List SC} (ks : List Nat) (h : FRel rd g v x) : FRel rd g v (castF ks x) := by
  unfold FRel castF at *
  simp only
  split
  · rename_i hx; rw [if_pos hx] at h; obtain ⟨vs, h1, h2⟩ := h; exact ⟨vs, h1, castL_rel ks h2⟩
  · rename_i hx; rw [if_neg hx] at h
    obtain ⟨y, h1, h2⟩ := h
    rw [h1]
    cases ks with
    | nil => exact ⟨y, rfl, h2⟩
    | cons k ks => exact ⟨cast1 k y, by simp [castL], cast1_rel k h2⟩
def castTs : List Nat → List (Bool × List SC) → List (Bool × List SC)
  | _, [] => []
  | ks, x :: xs => castF (ks.take x.2.length) x :: castTs (ks.drop x.2.length) xs
theorem castTs_nil : ∀ (xs : List (Bool × List SC)), castTs [] xs = xs
  | [] => rfl
  | x :: xs => by simp [castTs, castF, castL, castTs_nil xs]
theorem castTs_length : ∀ (ks : List Nat) (xs : List (Bool × List SC)), (castTs ks xs).length = xs.length
  | _, [] => rfl
  | ks, x :: xs => by simp [castTs, castTs_length _ xs]
theorem castTs_get : ∀ (ks : List Nat) (xs : List (Bool × List SC)) (j : Nat) (y : Bool × List SC), (castTs ks xs)[j]? = some y → ∃ ks' x, xs[j]? = some x ∧ y = castF ks' x
  | _, [], j, y, h => by simp [castTs] at h
  | ks, x :: xs, j, y, h => by
    cases j with
    | zero => simp [castTs] at h; exact ⟨_, x, rfl, h.symm⟩
    | succ j => exact castTs_get _ xs j y (by simpa [castTs] using h)
def castV (ks : List Nat) : SV → SV
  | .c x => match ks with
    | k :: _ => .c (cast1 k x)
    | [] => .c x
  | .agg cs => .agg (castL ks cs)
  | .tup xs => .tup (castTs ks xs)
theorem castV_rel {rd : Rd} {g : Env} {v : Value} {x : SV} (ks : List Nat) (h : VRel rd g v x) : VRel rd g v (castV ks x) := by
  cases x with
  | c x => cases ks with
    | nil => exact h
    | cons k ks => exact cast1_rel k h
  | agg cs => obtain ⟨vs, h1, h2⟩ := h; exact ⟨vs, h1, castL_rel ks h2⟩
  | tup xs =>
    obtain ⟨vs, h1, h2, h3⟩ := h
    refine ⟨vs, h1, by rw [castTs_length]; exact h2, fun j y hj => ?_⟩
    obtain ⟨ks', x, hx, rfl⟩ := castTs_get ks xs j y hj
    obtain ⟨u, h4, h5⟩ := h3 j x hx
    exact ⟨u, h4, castF_rel ks' h5⟩

/-! ### what a function returns -/
def svF : SV → Option (Bool × List SC)
  | .c x => some (false, [x])
  | .agg cs => some (true, cs)
  | .tup _ => none
theorem svF_rel {rd : Rd} {g : Env} {v : Value} {x : SV} {y : Bool × List SC} (h : VRel rd g v x) (hy : svF x = some y) : FRel rd g v y := by
  cases x <;> simp only [svF, reduceCtorEq] at hy
  · cases hy; exact ⟨_, rfl, h⟩
  · cases hy; exact h
def resS (P : Program) (s : St) : ResultVar → Option (Bool × List SC)
  | .tmp t => match (if t < 2000000 then look s.tmps t else none) with
    | some v => svF v
    | none => none
  | .cell a t => match (if a < 2000000 then look s.tmps a else none) with
    | some p => match cellsAt s p with
      | some cs => match wrapT P t cs with
        | some v => svF v
        | none => none
      | none => none
    | none => none
def resL (P : Program) (s : St) : List (List Nat) → List ResultVar → Option (List (Bool × List SC))
  | _, [] => some []
  | kss, r :: rs => match resS P s r, resL P s kss.tail rs with
    | some x, some xs => some (castF (kss.headD []) x :: xs)
    | _, _ => none
/-- one result by itself, several as a tuple -/
def resV : List (Bool × List SC) → Option SV
  | [(true, cs)] => some (.agg cs)
  | [(false, [x])] => some (.c x)
  | [(false, _)] => none
  | xs => some (.tup xs)

def rv (a : Act) : ResultVar → Sem Value
  | .tmp t => pure (a.tmps.getD t undef)
  | .cell b t => do loadVar t (← asAddr (a.tmps.getD b undef))
theorem resS_rel {P : Program} {g : Env} {rd : Rd} {a : Act} {w : World} {s : St} (h : View g rd a w s) {r : ResultVar} {x : Bool × List SC} (hr : resS P s r = some x) :
    ∃ u, (rv a r).run P w = .ok u w ∧ FRel rd g u x := by
  cases r with
  | tmp t =>
    simp only [resS] at hr
    split at hr
    · rename_i v hv
      split at hv
      rotate_left
      · cases hv
      rename_i ht
      obtain ⟨u, h1, h2⟩ := h.tmps t v ht hv
      refine ⟨u, ?_, svF_rel h2 hr⟩
      simp [rv, Array.getD_eq_getD_getElem?, h1]
    · cases hr
  | cell b t =>
    simp only [resS] at hr
    split at hr
    · rename_i p hp
      split at hr
      · rename_i cs hcs
        split at hr
        · rename_i v hv
          split at hp
          rotate_left
          · cases hp
          rename_i ht
          obtain ⟨u, h1, h2⟩ := h.tmps b p ht hp
          obtain ⟨bb, oo, rfl, h4⟩ := (h.o default).cellsAt h2 hcs
          obtain ⟨u', h5, h6⟩ := run_loadVar_sh (P := P) hv h4
          refine ⟨u', ?_, svF_rel h6 hr⟩
          simp [rv, Array.getD_eq_getD_getElem?, h1, asAddr, h5]
        · cases hr
      · cases hr
    · cases hr

theorem resL_rel {P : Program} {g : Env} {rd : Rd} {a : Act} {w : World} {s : St} (h : View g rd a w s) : ∀ (rs : List ResultVar) (kss : List (List Nat)) (xs : List (Bool × List SC)), resL P s kss rs = some xs →
    ∃ us : List Value, (rs.mapM (rv a)).run P w = .ok us w ∧ us.length = xs.length ∧ ∀ (j : Nat) (x : Bool × List SC), xs[j]? = some x → ∃ u, us[j]? = some u ∧ FRel rd g u x
  | [], kss, xs, hx => by
    cases hx
    exact ⟨[], by simp, rfl, fun j x hj => by simp at hj⟩
  | r :: rs, kss, xs, hx => by
    simp only [resL] at hx
    split at hx
    · rename_i x xs' h1 h2
      cases hx
      obtain ⟨u, h3, h4⟩ := resS_rel h h1
      obtain ⟨us, h5, h6, h7⟩ := resL_rel h rs _ xs' h2
      refine ⟨u :: us, by rw [List.mapM_cons]; simp [h3, h5], by simp [h6], fun j y hy => ?_⟩
      cases j with
      | zero => cases hy; exact ⟨u, rfl, castF_rel _ h4⟩
      | succ j => exact h7 j y hy
    · cases hx

theorem run_results {P : Program} {g : Env} {rd : Rd} {a : Act} {w : World} {s : St} (h : View g rd a w s) {fn : Func} {kss : List (List Nat)} {xs : List (Bool × List SC)} {r : SV} (hx : resL P s kss fn.results.toList = some xs) (hr : resV xs = some r) :
    ∃ u, (results fn a.tmps).run P w = .ok u w ∧ VRel rd g u r := by
  obtain ⟨us, h1, h2, h3⟩ := resL_rel h _ kss xs hx
  have hm : (fn.results.mapM (rv a)).run P w = .ok us.toArray w := by
    rw [Array.mapM_eq_mapM_toList]
    simp [h1]
  refine ⟨if h : us.toArray.size = 1 then us.toArray[0] else .tuple us.toArray, ?_, ?_⟩
  · unfold results
    simp only [Sem.run_bind]
    refine (congrArg (fun z => Result.andThen z _) hm).trans ?_
    simp
  · unfold resV at hr
    split at hr
    · cases hr
      obtain ⟨u, h4, h5⟩ := h3 0 _ rfl
      have h6 : us.length = 1 := by simpa using h2
      obtain ⟨x, rfl⟩ := List.length_eq_one_iff.1 h6
      cases h4
      simp
      exact h5
    · cases hr
      obtain ⟨u, h4, h5⟩ := h3 0 _ rfl
      have h6 : us.length = 1 := by simpa using h2
      obtain ⟨x, rfl⟩ := List.length_eq_one_iff.1 h6
      cases h4
      simp
      obtain ⟨y, h7, h8⟩ := h5
      cases h7
      exact h8
    · cases hr
    · rename_i hn1 hn2 hn3
      cases hr
      have h6 : us.toArray.size ≠ 1 := by
        intro h6
        have : xs.length = 1 := by rw [← h2]; simpa using h6
        obtain ⟨x, rfl⟩ := List.length_eq_one_iff.1 this
        obtain ⟨b, cs⟩ := x
        cases b
        · exact hn3 _ rfl
        · exact hn1 _ rfl
      rw [dif_neg h6]
      exact ⟨us.toArray, rfl, by simpa using h2, fun j x hj => by simpa using h3 j x hj⟩

def initT : Nat → List SV → List (Nat × SV)
  | _, [] => []
  | i, x :: xs => (i, x) :: initT (i + 1) xs
theorem look_initT : ∀ (xs : List SV) (i t : Nat) (v : SV), look (initT i xs) t = some v → i ≤ t ∧ xs[t - i]? = some v
  | [], i, t, v, h => by simp [initT, look] at h
  | x :: xs, i, t, v, h => by
    simp only [initT, look_cons] at h
    split at h
    · rename_i ht; subst ht; cases h; simp
    · rename_i ht
      obtain ⟨h1, h2⟩ := look_initT xs (i + 1) t v h
      exact ⟨by omega, by rw [show t - i = (t - (i + 1)) + 1 by omega, List.getElem?_cons_succ]; exact h2⟩


/-! ### contracts -/
theorem Holds.mono {rd rd' : Rd} (hle : rd.le rd') {g : Env} {w : World} {d : Nat} {r : Res} (h : Holds rd g w d r) : Holds rd' g w d r := by
  cases r with
  | box cs => exact fun j y hy => let ⟨u, h1, h2, h3⟩ := h j y hy; ⟨u, h1, h2, h3.mono hle⟩
  | row e s n xs => exact let ⟨us, h1, h2, h3⟩ := h; ⟨us, h1, h2, h3.mono hle⟩
  | spare e s n => exact h
def Dis (g : Env) (h : Hp) : Prop := ∀ d d' r r' b o, d ≠ d' → look h d = some r → look h d' = some r' → Foot g d r b o → ¬ Foot g d' r' b o
/-- rows and spare room lie in new memory -/
def NewR (g : Env) (n : Nat) (may : Nat → Nat → Prop) (h : Hp) : Prop := ∀ d r, look h d = some r → r.isBox = false → ∀ b o, Foot g d r b o → n ≤ b ∨ may b o
/-- the function, called with these arguments and these resources, returns this, and leaves these resources -/
def Con (P : Program) (f : FuncId) (args : List SV) (h : Hp) (r : SV) (h' : Hp) : Prop :=
  ∀ (rd : Rd) (g : Env) (w : World) (us : Array Value), (∀ b o v, rd b o = some v → w.cell? ⟨b, o, none⟩ = some v) → us.size = args.length → (∀ (i : Nat) (x : SV), args[i]? = some x → ∃ u, us[i]? = some u ∧ VRel rd g u x) →
    (∀ d x, look h d = some x → Holds rd g w d x) → Dis g h → (∀ b o, InFoot g h b o → rd b o = none) →
    Calls P f us w fun e w' => ∃ u g', e = .returned u ∧ Keep w (InFoot g h) w' ∧ (∀ d cs, 1000000 ≤ d → look h' d = some (.box cs) → g'.pos d = g.pos d) ∧ (∀ b o, InFoot g' h' b o → InFoot g h b o ∨ w.heap.size ≤ b) ∧ Dis g' h' ∧ NewR g' w.heap.size (InFoot g h) h' ∧
      ∀ rd', rd.le rd' → SeesX w (InFoot g h) rd' w' (InFoot g' h') → VRel rd' g' u r ∧ ∀ d x, look h' d = some x → Holds rd' g' w' d x
def castR (ks : List Nat) : Res → Res
  | .box cs => .box (castL ks cs)
  | r => r
def pickH (h : Hp) : List (Nat × List Nat) → Option Hp
  | [] => some []
  | (d, ks) :: l => match look h d, pickH h l with
    | some r, some h' => some ((d, castR ks r) :: h')
    | _, _ => none
theorem pickH_look {h : Hp} : ∀ (l : List (Nat × List Nat)) {h' : Hp}, pickH h l = some h' → ∀ d x, look h' d = some x → ∃ r ks, look h d = some r ∧ x = castR ks r
  | [], h', e, d, x, hx => by cases e; simp [look] at hx
  | (d0, ks) :: l, h', e, d, x, hx => by
    simp only [pickH] at e
    split at e
    · rename_i r h1 q1 q2
      cases e
      rw [look_cons] at hx
      split at hx
      · rename_i hd; subst hd; cases hx; exact ⟨r, ks, q1, rfl⟩
      · exact pickH_look l q2 d x hx
    · cases e
theorem castR_foot (g : Env) (d : Nat) (ks : List Nat) (r : Res) : Foot g d (castR ks r) = Foot g d r := by
  funext b o
  cases r <;> simp [Foot, castR, castL_length]
theorem castR_holds {rd : Rd} {g : Env} {w : World} {d : Nat} {r : Res} (ks : List Nat) (h : Holds rd g w d r) : Holds rd g w d (castR ks r) := by
  cases r with
  | box cs =>
    intro j y hy
    obtain ⟨k, x, hx, rfl⟩ := castL_get ks cs j y hy
    obtain ⟨u, h1, h2, h3⟩ := h j x hx
    exact ⟨u, h1, h2, cast1_rel k h3⟩
  | row e s n xs => exact h
  | spare e s n => exact h
def retC (P : Program) (fn : Func) (kss : List (List Nat)) (spec : List (Nat × List Nat)) (r : SV) (h' : Hp) : Exit → St → Prop
  | .normal, s => (∃ xs, resL P s kss fn.results.toList = some xs ∧ resV xs = some r) ∧ pickH s.hp spec = some h'
  | .ret, s => (∃ xs, resL P s kss fn.results.toList = some xs ∧ resV xs = some r) ∧ pickH s.hp spec = some h'
  | _, _ => False

theorem con_of {P : Program} {f : FuncId} {fn : Func} {c : Code} {args : List SV} {h h' : Hp} {r : SV} (kss : List (List Nat)) (spec : List (Nat × List Nat)) (n : Nat) (hf : P.funcs[f]? = some fn) (hb : fn.body = some c) (hn : fn.ntmps = n) (hl : decide (args.length ≤ n ∧ n ≤ 2000000) = true)
    (ht : ∀ K, TS P K n (.mk [.code c] .normal ⟨initT 0 args, h⟩) (retC P fn kss spec r h')) : Con P f args h r h' := by
  intro rd g w us hrd hus hargs hholds hdis hnot
  obtain ⟨hl', hfew⟩ := of_decide_eq_true hl
  let K : Ctx := ⟨w, InFoot g h, rd, g.pos, fun _ => none, fun b o v hv => ⟨hrd b o v hv, fun x => by rw [hnot b o x] at hv; cases hv⟩⟩
  have hrdle : rd.le (rdOf K g h w) := by
    intro b o v hv
    unfold rdOf
    rw [if_neg (fun x => by rw [hnot b o x] at hv; cases hv), if_pos ⟨World.block_lt_of_cell? w _ (hrd b o v hv), fun x => by rw [hnot b o x] at hv; cases hv⟩]
    exact hv
  have hR : RG K g n { tmps := us ++ Array.replicate (fn.ntmps - us.size) undef, defers := [] } w ⟨initT 0 args, h⟩ := by
    refine ⟨rfl, by simp; omega, hfew, ⟨Keep.refl _ _, fun d x hx => (hholds d x hx).mono hrdle, fun b o x _ => x, hdis, fun _ _ _ _ => rfl, fun d r hd _ b o hf => .inr ⟨d, r, hd, hf⟩⟩, fun t v hv => ?_⟩
    obtain ⟨_, h2⟩ := look_initT args 0 t v hv
    obtain ⟨u, h3, h4⟩ := hargs (t - 0) v h2
    simp only [Nat.sub_zero] at h3
    refine ⟨u, ?_, h4.mono hrdle⟩
    have htn := (Array.getElem?_eq_some_iff.1 h3).1
    rw [slotAt, if_pos (by omega)]
    rw [Array.getElem?_append_left (Array.getElem?_eq_some_iff.1 h3).1]
    exact h3
  refine calls_of_wp hf hb (wp_mono (ht K _ w ⟨g, hR⟩) fun e a' w' hq => ?_)
  obtain ⟨s', ⟨g', r'⟩, q⟩ := hq
  have fin : ((∃ xs, resL P s' kss fn.results.toList = some xs ∧ resV xs = some r) ∧ pickH s'.hp spec = some h') → a'.defers = [] ∧ ∃ v, (results fn a'.tmps).run P w' = .ok v w' ∧ ∃ u g', Ending.returned v = .returned u ∧ Keep w (InFoot g h) w' ∧ (∀ d cs, 1000000 ≤ d → look h' d = some (.box cs) → g'.pos d = g.pos d) ∧ (∀ b o, InFoot g' h' b o → InFoot g h b o ∨ w.heap.size ≤ b) ∧ Dis g' h' ∧ NewR g' w.heap.size (InFoot g h) h' ∧
      ∀ rd', rd.le rd' → SeesX w (InFoot g h) rd' w' (InFoot g' h') → VRel rd' g' u r ∧ ∀ d x, look h' d = some x → Holds rd' g' w' d x := by
    rintro ⟨⟨xs, h1, h2⟩, h3⟩
    obtain ⟨u, h4, h5⟩ := run_results r'.view h1 h2
    have hpk := fun d x hx => pickH_look spec h3 d x hx
    have hin : ∀ b o, InFoot g' h' b o → InFoot g' s'.hp b o := by
      rintro b o ⟨d, x, q1, q2⟩
      obtain ⟨x0, ks, q3, rfl⟩ := hpk d x q1
      rw [castR_foot] at q2
      exact ⟨d, x0, q3, q2⟩
    refine ⟨r'.defers, u, h4, u, g', rfl, r'.hg.keep, ?_, ?_, ?_, ?_, ?_⟩
    · intro d cs h6 hx
      obtain ⟨x0, ks, q3, q4⟩ := hpk d _ hx
      cases x0 with
      | box cs0 => exact r'.hg.fix d cs0 h6 q3
      | row e s n xs => cases q4
      | spare e s n => cases q4
    · intro b o hx
      rcases Nat.lt_or_ge b w.heap.size with hb' | hb'
      · exact .inl (r'.hg.may b o (hin b o hx) hb')
      · exact .inr hb'
    · intro d d' x x' b o hne hx hx' hfo hfo'
      obtain ⟨x0, ks, q3, rfl⟩ := hpk d x hx
      obtain ⟨x1, ks', q4, rfl⟩ := hpk d' x' hx'
      rw [castR_foot] at hfo hfo'
      exact r'.hg.dis d d' x0 x1 b o hne q3 q4 hfo hfo'
    · intro d x hx hb b o hfo
      obtain ⟨x0, ks, q3, rfl⟩ := hpk d x hx
      rw [castR_foot] at hfo
      exact r'.hg.new d x0 q3 (by cases x0 <;> simp_all [castR, Res.isBox]) b o hfo
    · intro rd' hle hs
      have hle' : (rdOf K g' s'.hp w').le rd' := by
        intro b o v hv
        have hcell := rdOf_le g' s'.hp r'.hg.keep b o v hv
        unfold rdOf at hv
        split at hv
        · cases hv
        · rename_i hx
          split at hv
          · exact hle b o v hv
          · rename_i hbb
            refine hs b o v ?_ (fun q => hx (hin b o q)) hcell
            rcases Nat.lt_or_ge b w.heap.size with h6 | h6
            · exact .inr (Classical.byContradiction fun h7 => hbb ⟨h6, h7⟩)
            · exact .inl h6
      refine ⟨h5.mono hle', fun d x hx => ?_⟩
      obtain ⟨x0, ks, q3, rfl⟩ := hpk d x hx
      exact castR_holds ks ((r'.hg.holds d x0 q3).mono hle')
  cases e <;> simp only [QS, retC] at q <;> simp only [bodyPost]
  case normal => exact fin q
  case ret => exact fin q

/-! ### calls -/
def argsS (s : St) : List Operand → Option (List SV)
  | [] => some []
  | x :: l => match opd s x, argsS s l with
    | some v, some r => some (v :: r)
    | _, _ => none
theorem argsS_spec {s : St} : ∀ (l : List Operand) (r : List SV), argsS s l = some r → l.length = r.length ∧ ∀ (i : Nat) (x : Operand) (v : SV), l[i]? = some x → r[i]? = some v → opd s x = some v
  | [], r, h => by cases h; exact ⟨rfl, fun i p q h1 => by simp at h1⟩
  | x :: l, r, h => by
    simp only [argsS] at h
    split at h
    · rename_i v r' hv hr
      cases h
      obtain ⟨h1, h2⟩ := argsS_spec l r' hr
      refine ⟨by simp [h1], fun k p q hp hq => ?_⟩
      cases k with
      | zero => cases hp; cases hq; exact hv
      | succ k => exact h2 k p q hp hq
    · cases h
def castArgs : List (List Nat) → List SV → List SV
  | ks :: kss, x :: xs => castV ks x :: castArgs kss xs
  | _, xs => xs
theorem castArgs_get : ∀ (kss : List (List Nat)) (xs : List SV) (i : Nat) (y : SV), (castArgs kss xs)[i]? = some y → ∃ ks x, xs[i]? = some x ∧ y = castV ks x
  | [], xs, i, y, h => ⟨[], y, h, by cases y <;> simp [castV, castL, castTs_nil]⟩
  | _ :: _, [], i, y, h => by simp [castArgs] at h
  | ks :: kss, x :: xs, i, y, h => by
    cases i with
    | zero => simp [castArgs] at h; exact ⟨ks, x, rfl, h.symm⟩
    | succ i => exact castArgs_get kss xs i y (by simpa [castArgs] using h)
theorem castArgs_length : ∀ (kss : List (List Nat)) (xs : List SV), (castArgs kss xs).length = xs.length
  | [], _ => rfl
  | _ :: _, [] => rfl
  | _ :: kss, _ :: xs => by simp [castArgs, castArgs_length kss xs]


def SC.closed (x : SC) : Bool := x.say fun _ => false
theorem closed_rel {rd : Rd} {g g' : Env} (v : Value) (x : SC) (hx : x.closed = true) (h : CRel rd g v x) : CRel rd g' v x := h.env (Rd.le.refl _) (fun _ => false) (fun _ h => by cases h) hx

/-- the function that is called, and its arguments -/
def funOf : SV → Option (FuncId × List SC)
  | .c (.lit (.func (.func f) x y)) => if x.size = 0 ∧ y.size = 0 then some (f, []) else none
  | .c (.clo f cs) => some (f, cs)
  | _ => none
theorem funOf_rel {rd : Rd} {g : Env} {u : Value} {v : SV} {f : FuncId} {cs : List SC} (h : VRel rd g u v) (hv : funOf v = some (f, cs)) : ∃ caps : Array Value, u = .func (.func f) #[] caps ∧ CsRel rd g caps cs := by
  unfold funOf at hv
  split at hv
  · split at hv
    · rename_i hx
      cases hv
      have := rel_lit h
      subst this
      rw [Array.eq_empty_of_size_eq_zero hx.1, Array.eq_empty_of_size_eq_zero hx.2]
      exact ⟨#[], rfl, rfl, fun j y hy => by simp at hy⟩
    · cases hv
  · cases hv
    obtain ⟨caps, h1, h2, h3⟩ := h
    exact ⟨caps, h1, h2, fun j y hy => let ⟨u, q1, q2⟩ := h3 j y hy; ⟨u, q1, q2.up⟩⟩
  · cases hv
def calleeOf (s : St) (o : Oper) : Option (FuncId × List SV) := match o.op with
  | .call { callee := .value fo, args := xs, argTypes := _ } => match opd s fo, argsS s xs.toList with
    | some fv, some vs => match funOf fv with
      | some (f, cs) => some (f, vs ++ cs.map SV.c)
      | none => none
    | _, _ => none
  | _ => none
def hasBody (P : Program) (f : FuncId) : Bool := match P.funcs[f]? with
  | some fn => !(fn.name == "runtime.NumGoroutine") && fn.body.isSome
  | none => false
theorem callee_spec {P : Program} {s : St} {o : Oper} {f : FuncId} {vs : List SV} (h : calleeOf s o = some (f, vs)) (hb : hasBody P f = true) {g : Env} {rd : Rd} {a : Act} {w : World} (hv : OView g rd a w s o) :
    ∃ us : Array Value, us.size = vs.length ∧ (∀ (i : Nat) (x : SV), vs[i]? = some x → ∃ u, us[i]? = some u ∧ VRel rd g u x) ∧ (execOp a.eval o).run P w = .ok (.enter f us) w := by
  unfold calleeOf at h
  split at h
  · rename_i fo xs ts ho
    split at h
    · rename_i fv vs' hfo hvs
      split at h
      · rename_i f' cs hfc
        cases h
        obtain ⟨hl, hget⟩ := argsS_spec _ _ hvs
        obtain ⟨caps, h1, hcap1, hcap2⟩ := funOf_rel (hv.op fo _ (by simp [ho, Op.operands, Call.operands]) hfo) hfc
        have hxs : xs.size = vs'.length := by rw [← hl]; simp
        refine ⟨xs.map a.eval ++ caps, by simp [hxs, hcap1], fun i x hx => ?_, ?_⟩
        · by_cases hi : i < vs'.length
          · rw [List.getElem?_append_left hi] at hx
            have hi2 : i < xs.toList.length := by rw [hl]; exact hi
            have := hget i xs.toList[i] x (List.getElem?_eq_getElem hi2) hx
            refine ⟨a.eval xs.toList[i], ?_, hv.op _ _ ?_ this⟩
            · simp only [Array.length_toList] at hi2
              rw [Array.getElem?_append_left (by simpa using hi2)]
              simp [hi2]
            · rw [ho]
              simp only [Op.operands, Call.operands, Array.toList_append]
              exact List.mem_append_right _ (List.getElem_mem _)
          · rw [List.getElem?_append_right (by omega), List.getElem?_map] at hx
            obtain ⟨y, hy, rfl⟩ := Option.map_eq_some_iff.1 hx
            obtain ⟨u, q1, q2⟩ := hcap2 _ y hy
            refine ⟨u, ?_, q2⟩
            rw [Array.getElem?_append_right (by simp; omega)]
            simpa [hxs] using q1
        · unfold hasBody at hb
          split at hb
          · rename_i fn hf
            simp only [Bool.and_eq_true, Bool.not_eq_true', Option.isSome_iff_ne_none] at hb
            have hbody : fn.body.isNone = false := by cases hq : fn.body <;> simp_all
            simp only [execOp, ho, resolve, h1, Deferred.ofValue, invoke, callFunc, program, hf, hb.1, hbody, Bool.false_eq_true, if_false, Sem.run_bind, Sem.run_pure, Sem.run, Result.andThen_ok, Array.empty_append]
          · cases hb
      · cases h
    · cases h
  · cases h
end Go.Proofs.Ytohfnlkjdjmipaa
