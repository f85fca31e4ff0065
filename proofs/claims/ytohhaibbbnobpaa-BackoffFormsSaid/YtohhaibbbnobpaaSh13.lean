/-
  SHADOWS: slices written out; append to a slice behind which there is no room: a new row.
-/
import Derived.Test.YtohhaibbbnobpaaSh12
import Derived.Great.BuildSlice
namespace Go.Proofs.Ytohhaibbbnobpaa
open Go.RowKit

/-- the cells of memory, read as elements -/
def RowIs (rd : Rd) (s : Nat) (vals : List Value) (xs : List (List SC)) : Prop :=
  (∀ x ∈ xs, x.length = s) ∧ ∀ (i : Nat) (x : List SC) (j : Nat) (y : SC), xs[i]? = some x → x[j]? = some y → ∃ u, vals[i * s + j]? = some u ∧ IRel rd u y
theorem RowIs.append {rd : Rd} {s : Nat} {us vs : List Value} {xs ys : List (List SC)} (h : RowIs rd s us xs) (k : RowIs rd s vs ys) (hl : us.length = xs.length * s) : RowIs rd s (us ++ vs) (xs ++ ys) := by
  refine ⟨fun x hx => (List.mem_append.1 hx).elim (h.1 x) (k.1 x), fun i x j y hx hy => ?_⟩
  rw [List.getElem?_append] at hx
  split at hx
  · rename_i hi
    obtain ⟨u, h1, h2⟩ := h.2 i x j y hx hy
    refine ⟨u, ?_, h2⟩
    rw [List.getElem?_append_left (List.getElem?_eq_some_iff.1 h1).1]
    exact h1
  · rename_i hi
    obtain ⟨u, h1, h2⟩ := k.2 _ x j y hx hy
    refine ⟨u, ?_, h2⟩
    have e : i * s + j = us.length + ((i - xs.length) * s + j) := by
      rw [hl, Nat.sub_mul]
      have : xs.length * s ≤ i * s := Nat.mul_le_mul_right _ (by omega)
      omega
    rw [e, List.getElem?_append_right (by omega)]
    rw [Nat.add_sub_cancel_left]
    exact h1
theorem RowIs.mono {rd rd' : Rd} (hle : rd.le rd') {s : Nat} {us : List Value} {xs : List (List SC)} (h : RowIs rd s us xs) : RowIs rd' s us xs :=
  ⟨h.1, fun i x j y hx hy => let ⟨u, h1, h2⟩ := h.2 i x j y hx hy; ⟨u, h1, h2.mono hle⟩⟩

theorem row_is {rd : Rd} {s b n c : Nat} {vals : List Value} {xs : List (List SC)} (h : RowIs rd s vals xs) (hn : xs.length = n) (hc : n ≤ c) (hm : c ≤ maxLen) (hr : ∀ k v, vals[k]? = some v → k < n * s → rd b k = some v) : IRel rd (.slice (some ⟨b, 0, none⟩) n c) (.slc s 0 xs) := by
  refine .slc b 0 n c s xs (fun i j => (vals[i * s + j]?).getD undef) hn hc hm h.1 (fun i x j y hx hy => ?_) (fun i x j y hx hy => ?_)
  · obtain ⟨u, h1, h2⟩ := h.2 i x j y hx hy
    have hi := (List.getElem?_eq_some_iff.1 hx).1
    have hl := h.1 x (List.mem_of_getElem? hx)
    have hj := (List.getElem?_eq_some_iff.1 hy).1
    have hlt : i * s + j < n * s := by
      have : (i + 1) * s ≤ n * s := Nat.mul_le_mul_right _ (by omega)
      rw [Nat.add_mul] at this
      omega
    rw [h1, Nat.zero_add]
    exact hr _ _ h1 hlt
  · obtain ⟨u, h1, h2⟩ := h.2 i x j y hx hy
    rw [h1]
    exact h2

def exactOf (sz : Nat) : SV → Option (List (List SC))
  | .c (.lit (.slice none 0 0)) => some []
  | .c (.slc s 1 xs) => if s = sz then some xs else none
  | _ => none
def rowOf (sz : Nat) : SV → Option (List (List SC))
  | .c (.lit (.slice none 0 0)) => some []
  | .c (.slc s _ xs) => if s = sz then some xs else none
  | _ => none
theorem rowOf_rel {rd : Rd} {g : Env} {u : Value} {v : SV} {sz : Nat} {xs : List (List SC)} (h : VRel rd g u v) (hx : rowOf sz v = some xs) : IRel rd u (.slc sz 0 xs) := by
  unfold rowOf at hx
  split at hx
  · cases hx
    have := rel_lit h
    subst this
    exact .nil _ _ _ (by decide)
  · split at hx
    · rename_i hs; subst hs; cases hx; exact h.1
    · cases hx
  · cases hx
theorem exactOf_rel {rd : Rd} {g : Env} {u : Value} {v : SV} {sz : Nat} {xs : List (List SC)} (h : VRel rd g u v) (hx : exactOf sz v = some xs) : IRel rd u (.slc sz 0 xs) ∧ (u = .slice none 0 0 ∨ ∃ a, u = .slice (some a) xs.length xs.length) := by
  unfold exactOf at hx
  split at hx
  · cases hx
    have := rel_lit h
    subst this
    exact ⟨.nil _ _ _ (by decide), .inl rfl⟩
  · split at hx
    · rename_i hs; subst hs; cases hx; exact ⟨h.1, h.2⟩
    · cases hx
  · cases hx

/-- where the cells of a slice lie -/
theorem src_row {rd : Rd} {w : World} (hrd : ∀ b o v, rd b o = some v → w.cell? ⟨b, o, none⟩ = some v) {u : Value} {s : Nat} {xs : List (List SC)} (h : IRel rd u (.slc s 0 xs)) :
    ∃ a c vals, u = .slice a xs.length c ∧ xs.length ≤ c ∧ c ≤ maxLen ∧ RowIs rd s vals xs ∧ vals.length = xs.length * s ∧ (xs.length = 0 ∨ ∃ ad, a = some ad ∧ ∀ j v, vals[j]? = some v → w.cell? (ad.add j) = some v) ∨ (∃ a c, u = .slice a 0 c ∧ xs = [] ∧ c ≤ maxLen) := by
  generalize hsc : SC.slc s 0 xs = y at h
  cases h with
  | lit v => cases hsc
  | nil s' a c hm => cases hsc; exact ⟨a, c, [], .inr ⟨a, c, rfl, rfl, hm⟩⟩
  | slc b o n c s' xs' f hn hc hm hs hr hu =>
    cases hsc
    obtain ⟨vals, h1, h2, h3, h4, h5⟩ := row_cells hrd (.slc b o n c s xs f hn hc hm hs hr hu)
    subst hn
    exact ⟨some ⟨b, o, none⟩, c, vals, .inl ⟨rfl, hc, hm, ⟨h4, h5⟩, h1, .inr ⟨_, rfl, h2⟩⟩⟩
  | ref b o cs f hr hu => cases hsc

theorem run_append_zero {P : Program} {w : World} (t ty e : TypeId) (i : TypeInfo) (ht : P.underlying t = some (.slice e)) (hi : P.info? e = some i) (base a : Option Addr) (n cap c : Nat) (hn : n ≤ cap) :
    (Builtin.append_ #[t, t] ty #[.slice base n cap, .slice a 0 c]).run P w = .ok (.slice base n cap) w := by
  cases a <;> cases base <;> simp [Builtin.append_, run_underlying ht, sizeOf, typeInfo, hi, Builtin.lenOf, Builtin.firstCells, loadCells, loadCellsFrom, storeCells, hn]

theorem oneCell_imm {rd : Rd} {u : Value} {y : SC} (h : IRel rd u y) (h1 : y.one = true) : u.oneCell' = true := one_cell (g := ⟨fun _ => (0, 0), fun _ => undef⟩) h.c h1

theorem grow_append {α : Type} {P : Program} {o : Oper} {s : St} {t e : TypeId} {x y : Operand} {f : α → List SC} (sz by_ : Nat) (l1 l2 : List α) (ho : o.op = .call { callee := .builtin .append, args := #[x, y], argTypes := #[t, t] }) (hx : (opd s x).bind (exactOf sz) = some (l1.map f)) (hy : (opd s y).bind (rowOf sz) = some (l2.map f))
    (hu : P.underlying t = some (.slice e)) (hi' : (P.info? e).map (fun i => (i.zero.map (·.cells.size), i.size, i.bytes)) = some (some sz, sz, by_)) (hs0 : decide (0 < sz) = true) (hb : (l1.length + l2.length) * by_ ≤ 140737488355328) (hm : l1.length + l2.length ≤ 140737488355328) : GrowOp P o s (.c (.slc sz 0 ((l1 ++ l2).map f))) := by
  intro g rd a w hview
  obtain ⟨vx, hx1, hx2⟩ := Option.bind_eq_some_iff.1 hx
  obtain ⟨vy, hy1, hy2⟩ := Option.bind_eq_some_iff.1 hy
  obtain ⟨rx, hex⟩ := exactOf_rel (hview.op x _ (by simp [ho, Op.operands, Call.operands]) hx1) hx2
  have ry := rowOf_rel (hview.op y _ (by simp [ho, Op.operands, Call.operands]) hy1) hy2
  obtain ⟨i, hi, hq⟩ := Option.map_eq_some_iff.1 hi'
  simp only [Prod.mk.injEq] at hq
  obtain ⟨hz, hsize, hbytes⟩ := hq
  obtain ⟨z, hz, hzc⟩ := Option.map_eq_some_iff.1 hz
  have hs0' := of_decide_eq_true hs0
  have hmax : l1.length + l2.length ≤ maxLen := by unfold maxLen; omega
  unfold mSafe
  simp only [execOp, ho, resolve, invoke, builtin, Sem.run_bind, Sem.run_pure, Result.andThen_ok, List.map_toArray, List.map_cons, List.map_nil]
  generalize hvx : a.eval x = ux at *
  generalize hvy : a.eval y = uy at *
  have ely : (l2.map f).length = l2.length := by simp
  have elx : (l1.map f).length = l1.length := by simp
  -- nothing appended: the slice itself
  have zero : l2 = [] → ∀ c, (∃ ad, uy = .slice ad 0 c) → mUpon P (fun u w' => ∀ rd', rd.le rd' → Sees w rd' w' → VRel rd' g u (.c (.slc sz 0 ((l1 ++ l2).map f)))) w (((Builtin.append_ #[t, t] o.type #[ux, uy]).run P w).andThen fun v w' => .ok (.value v) w') := by
    rintro rfl c ⟨ad, rfl⟩
    obtain ⟨base, n, cap, rfl, hn⟩ : ∃ base n cap, ux = .slice base n cap ∧ n ≤ cap := by
      rcases hex with h | ⟨ad', h⟩
      · exact ⟨none, 0, 0, h, Nat.le_refl _⟩
      · exact ⟨some ad', _, _, h, Nat.le_refl _⟩
    rw [run_append_zero t o.type e i hu hi base ad n cap c hn]
    refine ⟨Ext.refl w, fun rd' hle _ => ?_⟩
    rw [List.append_nil]
    exact ⟨rx.mono hle, trivial⟩
  have fresh : ∀ (need cap : Nat) (vals : List Value) (rest : Array Value), RowIs rd sz vals ((l1 ++ l2).map f) → vals.length = need * sz → need = l1.length + l2.length → need ≤ cap → cap ≤ maxLen →
      mUpon P (fun u w' => ∀ rd', rd.le rd' → Sees w rd' w' → VRel rd' g u (.c (.slc sz 0 ((l1 ++ l2).map f)))) w (.ok (.value (.slice (some ⟨w.heap.size, 0, none⟩) need cap)) (w.drew.alloc (.cells (vals.toArray ++ rest) e))) := by
    intro need cap vals rest hrow hlv hneed hc hcm
    refine ⟨(Ext.drew w).trans (Ext.alloc _ _), fun rd' hle hsees => ⟨?_, trivial⟩⟩
    refine row_is (hrow.mono hle) (by simp [hneed]) hc hcm (fun k v hv _ => hsees w.heap.size k v (Nat.le_refl _) ?_)
    refine (World.cell?_alloc_at (w := w.drew) (vals.toArray ++ rest) e w.heap.size k rfl).trans ?_
    rw [Array.getElem?_append_left (by have := (List.getElem?_eq_some_iff.1 hv).1; simpa using this)]
    simpa using hv
  obtain ⟨ay, cy, valsy, hsrc⟩ := src_row hview.reads ry
  rcases hsrc with ⟨hy3, hy4, hy5, hrow, hlv, hwhere⟩ | ⟨ad, c, hy3, hnil, _⟩
  rotate_left
  · exact zero (by simpa using hnil) c ⟨ad, hy3⟩
  by_cases hl2 : l2 = []
  · subst hl2
    exact zero rfl cy ⟨ay, by simpa using hy3⟩
  have hpos : 0 < l2.length := List.length_pos_iff.2 hl2
  rcases hwhere with hw | ⟨ad, had, hcells⟩
  · rw [ely] at hw; omega
  subst had
  rw [ely] at hy3 hlv
  subst hy3
  rcases hex with hnone | ⟨adx, hsome⟩
  · subst hnone
    have hl1 : l1 = [] := by
      generalize hsc : SC.slc sz 0 (l1.map f) = q at rx
      cases rx with
      | lit => cases hsc
      | nil s' a' c' hm' => injection hsc with _ _ h3; simpa using h3
    subst hl1
    have hr := run_append_nil (P := P) w t o.type e i z hu hi hz ad l2.length cy valsy (by rw [hsize]; exact hlv) hcells hpos (by omega) (by rw [hbytes]; simp only [List.length_nil, Nat.zero_add] at hb; omega)
    rw [hr]
    have hge := grownCap_ge w l2.length 0 e
    have hcm := grownCap_le_maxLen w l2.length 0 e (by simp only [List.length_nil, Nat.zero_add] at hmax; exact hmax)
    exact fresh l2.length _ valsy _ (by simpa using hrow) hlv (by simp) hge hcm
  · rw [elx] at hsome
    subst hsome
    obtain ⟨ax, cx, valsx, hsx⟩ := src_row hview.reads rx
    have hrx : ∃ valsx, RowIs rd sz valsx (l1.map f) ∧ valsx.length = l1.length * sz ∧ ∀ j v, valsx[j]? = some v → w.cell? (adx.add j) = some v := by
      rcases hsx with ⟨h3, _, _, hrow', hlv', hwhere'⟩ | ⟨ad', c', h3, hnil', _⟩
      · rw [elx] at h3 hlv' hwhere'
        injection h3 with h4
        rcases hwhere' with h0 | ⟨ad', had', hcells'⟩
        · have : l1 = [] := List.eq_nil_of_length_eq_zero h0
          subst this
          exact ⟨[], ⟨by simp, by simp⟩, by simp, by simp⟩
        · rw [had'] at h4
          injection h4 with h5
          subst h5
          exact ⟨valsx, hrow', hlv', hcells'⟩
      · have : l1 = [] := by simpa using hnil'
        subst this
        exact ⟨[], ⟨by simp, by simp⟩, by simp, by simp⟩
    obtain ⟨valsx, hrow', hlv', hcells'⟩ := hrx
    have hr := run_append_grow (P := P) w t o.type e i z hu hi hz adx l1.length l1.length valsx (by rw [hsize]; exact hlv') hcells' ad l2.length cy valsy (by rw [hsize]; exact hlv) hcells (by omega) (by omega) (growslice_fits (by omega) (by rw [hbytes]; exact hb))
    rw [hr]
    have hge := grownCap_ge w (l1.length + l2.length) l1.length e
    have hcm := grownCap_le_maxLen w (l1.length + l2.length) l1.length e hmax
    have := fresh (l1.length + l2.length) (grownCap w (l1.length + l2.length) l1.length e) (valsx ++ valsy) (Builtin.zeroCells z.cells (grownCap w (l1.length + l2.length) l1.length e - (l1.length + l2.length)))
      (by rw [List.map_append]; exact hrow'.append hrow (by rw [elx]; exact hlv')) (by rw [List.length_append, hlv', hlv, Nat.add_mul]) rfl hge hcm
    simpa using this

/-! ### []T{..} -/
def chunks (s : Nat) : Nat → List SC → List (List SC)
  | 0, _ => []
  | n + 1, cs => cs.take s :: chunks s n (cs.drop s)
def SC.imm : SC → Option SC
  | .lit v => some (.lit v)
  | .slc s _ xs => some (.slc s 0 xs)
  | .ref cs => some (.ref cs)
  | _ => none
theorem imm_rel {rd : Rd} {g : Env} {u : Value} {x y : SC} (h : CRel rd g u x) (hy : x.imm = some y) : IRel rd u y := by
  cases x <;> simp only [SC.imm, reduceCtorEq] at hy
  case lit => cases hy; exact h
  case slc => cases hy; exact h.1
  case ref => cases hy; exact h
def immL : List SC → Option (List SC)
  | [] => some []
  | x :: xs => match x.imm, immL xs with
    | some y, some ys => some (y :: ys)
    | _, _ => none
theorem immL_get : ∀ (xs ys : List SC), immL xs = some ys → xs.length = ys.length ∧ ∀ (j : Nat) (y : SC), ys[j]? = some y → ∃ x, xs[j]? = some x ∧ x.imm = some y
  | [], ys, h => by cases h; exact ⟨rfl, by simp⟩
  | x :: xs, ys, h => by
    simp only [immL] at h
    split at h
    · rename_i y' ys' h1 h2
      cases h
      obtain ⟨h3, h4⟩ := immL_get xs ys' h2
      refine ⟨by simp [h3], fun j y hy => ?_⟩
      cases j with
      | zero => cases hy; exact ⟨x, rfl, h1⟩
      | succ j => exact h4 j y hy
    · cases h
theorem chunks_length (s : Nat) : ∀ (n : Nat) (cs : List SC), (chunks s n cs).length = n
  | 0, _ => rfl
  | n + 1, cs => by simp [chunks, chunks_length s n]
theorem chunks_get (s : Nat) : ∀ (n : Nat) (cs : List SC) (i : Nat) (x : List SC), n * s ≤ cs.length → (chunks s n cs)[i]? = some x → x.length = s ∧ ∀ (j : Nat) (y : SC), x[j]? = some y → cs[i * s + j]? = some y
  | 0, cs, i, x, _, h => by simp [chunks] at h
  | n + 1, cs, i, x, hl, h => by
    rw [Nat.add_mul] at hl
    cases i with
    | zero =>
      simp only [chunks, List.getElem?_cons_zero, Option.some.injEq] at h
      subst h
      refine ⟨by simp; omega, fun j y hy => ?_⟩
      rw [List.getElem?_take] at hy
      split at hy
      · simpa using hy
      · cases hy
    | succ i =>
      simp only [chunks, List.getElem?_cons_succ] at h
      obtain ⟨h1, h2⟩ := chunks_get s n (cs.drop s) i x (by simp; omega) h
      refine ⟨h1, fun j y hy => ?_⟩
      have := h2 j y hy
      rw [List.getElem?_drop] at this
      rw [show (i + 1) * s + j = s + (i * s + j) by rw [Nat.add_mul]; omega]
      exact this
/-- the elements of a slice that is written out -/
def buildL (P : Program) (s : St) (e : TypeId) (len : Nat) (ks : List Nat) (parts : List (Nat × Operand)) : Option (List (List SC)) := match P.info? e, partsS s parts with
  | some ie, some ps => match ie.zero with
    | some z => match fillS (fun i => some (i * ie.size, ie.size)) (((Array.range (len * ie.size)).map (z.cells[· % z.cells.size]!)).toList.map SC.lit) ps with
      | some cs => match immL cs with
        | some cs' => some ((chunks ie.size len cs').map (castL ks))
        | none => none
      | none => none
    | none => none
  | _, _ => none
theorem cast1_imm {rd : Rd} {u : Value} {x : SC} (k : Nat) (h : IRel rd u x) : IRel rd u (cast1 k x) := by
  unfold cast1
  split
  · exact h
  · split
    · cases h; exact .nil _ _ _ (by decide)
    · cases h with
      | nil _ a c hm => exact .nil _ a c hm
      | slc b o n c _ _ u hn hc hm hs hr hu => exact .slc b o n c _ _ u hn hc hm hs hr hu
    · exact h
theorem grow_buildSlice {P : Program} {o : Oper} {s : St} {t e : TypeId} {len : Nat} {parts : Array (Nat × Operand)} (sz : Nat) (ks : List Nat) (xs : List (List SC)) (ho : o.op = .buildSlice t len parts) (hu : P.underlying t = some (.slice e)) (hsz : (P.info? e).map (·.size) = some sz) (hz' : ((P.info? e).bind (·.zero)).isSome = true) (hpos : decide (0 < len * sz ∧ len * sz ≤ 16777216) = true)
    (h : buildL P s e len ks parts.toList = some xs) : GrowOp P o s (.c (.slc sz 1 xs)) := by
  intro g rd a w hview
  obtain ⟨ie, hie, hsize⟩ := Option.map_eq_some_iff.1 hsz
  have hpos' := of_decide_eq_true hpos
  unfold buildL at h
  rw [hie] at h
  split at h
  · rename_i ie' ps hie' hps
    cases hie'
    split at h
    · rename_i z hz
      split at h
      · rename_i cs hcs
        split at h
        · rename_i cs' hcs'
          cases h
          obtain ⟨l1, l2⟩ := parts_rel hview hps (fun i p hp => by rw [ho]; simp only [Op.operands]; exact parts_mem hp)
          obtain ⟨r, hr1, hr2⟩ := fill_rel _ ps _ _ cs l1 l2 (lits_rel rd g _) hcs
          have hrun := run_buildSlice (P := P) w t e len _ r ie z hu hie hz (by rw [hsize]; omega) (by rw [hsize]; omega) hr1
          unfold mSafe
          simp only [execOp, ho, Sem.run_bind, hrun, Result.andThen_ok, Sem.run_pure]
          refine ⟨Ext.alloc _ _, fun rd' hle hsees => ?_⟩
          obtain ⟨h5, h6⟩ := immL_get cs cs' hcs'
          have hrs : r.size = len * sz := by
            have hfl : ∀ (ps : List (Nat × Value)) (c c' : Array Value), Instr.fill (fun i => some (i * ie.size, ie.size)) c ps = some c' → c'.size = c.size := by
              intro ps
              induction ps with
              | nil => intro c c' hc; cases hc; rfl
              | cons p ps ih =>
                intro c c' hc
                obtain ⟨j, v⟩ := p
                simp only [Instr.fill] at hc
                split at hc
                · cases hc
                · have := ih _ _ hc
                  rw [this]
                  have e' : Array.foldl (fun cs (x : Value × Nat) => match x with | (c, j') => cs.setIfInBounds (j * ie.size + j') c) c v.cells.zipIdx = (v.cells.toList.zipIdx 0).foldl (fun cs (p : Value × Nat) => cs.setIfInBounds (j * ie.size + p.2) p.1) c := by
                    rw [← Array.foldl_toList, Array.toList_zipIdx]
                  have e2 : Array.foldl (fun cs (x : Value × Nat) => cs.setIfInBounds (j * ie.size + x.2) x.1) c v.cells.zipIdx = (v.cells.toList.zipIdx 0).foldl (fun cs (p : Value × Nat) => cs.setIfInBounds (j * ie.size + p.2) p.1) c := e'
                  first
                    | rw [e']
                    | rw [e2]
                  exact (foldl_set (j * ie.size) v.cells.toList 0 c).1
            rw [hfl _ _ _ hr1, hsize]
            simp
          have hcl : cs'.length = len * sz := by rw [← h5, ← hr2.1, hrs]
          have hrow : RowIs rd' sz r.toList ((chunks ie.size len cs').map (castL ks)) := by
            rw [hsize]
            refine ⟨fun x hx => ?_, fun i x j y hx hy => ?_⟩
            · obtain ⟨x0, hx0, rfl⟩ := List.mem_map.1 hx
              obtain ⟨i, hi⟩ := List.getElem?_of_mem hx0
              rw [castL_length]
              exact (chunks_get sz len cs' i x0 (by omega) hi).1
            · rw [List.getElem?_map] at hx
              obtain ⟨x0, hx0, rfl⟩ := Option.map_eq_some_iff.1 hx
              obtain ⟨k, y0, hy0, rfl⟩ := castL_get ks x0 j y hy
              have h7 := (chunks_get sz len cs' i x0 (by omega) hx0).2 j y0 hy0
              obtain ⟨y1, h8, h9⟩ := h6 _ y0 h7
              obtain ⟨u, h10, h11⟩ := hr2.2 _ y1 h8
              exact ⟨u, by simpa using h10, cast1_imm k ((imm_rel h11 h9).mono hle)⟩
          have hlen : ((chunks ie.size len cs').map (castL ks)).length = len := by rw [List.length_map, chunks_length]
          refine ⟨row_is hrow hlen (Nat.le_refl _) (by unfold maxLen; have : len ≤ len * sz := Nat.le_mul_of_pos_right _ (Nat.pos_of_ne_zero (fun h0 => by rw [h0] at hpos'; simp at hpos')); omega) (fun k v hv _ => hsees w.heap.size k v (Nat.le_refl _) ?_), .inr ⟨_, by rw [hlen]⟩⟩
          rw [World.cell?_alloc_at _ _ _ _ rfl]
          simpa using hv
        · cases h
      · cases h
    · cases h
  · cases h
end Go.Proofs.Ytohhaibbbnobpaa
