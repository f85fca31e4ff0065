/-
  SHADOWS: == and != of structs and arrays.
-/
import Derived.Test.YtohhaibbbnobpaaSh9
import Derived.Laws.StructEq
import Derived.ChangeKeysEq
namespace Go.Proofs.Ytohhaibbbnobpaa
open Go.RowKit

def eqF (P : Program) (rec : TypeId → List SC → List SC → Option Bool) : List Field → List SC → List SC → Option Bool
  | [], _, _ => some true
  | f :: fs, cs, ds => if f.name = "_" then none else match P.info? f.type with
    | none => none
    | some i => if i.size ≤ (cs.drop f.offset).length ∧ i.size ≤ (ds.drop f.offset).length ∧ 0 < i.size ∧ (aggT P f.type = false → i.size = 1) then
        match rec f.type ((cs.drop f.offset).take i.size) ((ds.drop f.offset).take i.size), eqF P rec fs cs ds with
        | some a, some b => some (a && b)
        | _, _ => none
      else none
def eqI (P : Program) (rec : TypeId → List SC → List SC → Option Bool) (e : TypeId) (c : Nat) : List Nat → List SC → List SC → Option Bool
  | [], _, _ => some true
  | j :: js, cs, ds => if c ≤ (cs.drop (j * c)).length ∧ c ≤ (ds.drop (j * c)).length ∧ 0 < c ∧ (aggT P e = false → c = 1) then
      match rec e ((cs.drop (j * c)).take c) ((ds.drop (j * c)).take c), eqI P rec e c js cs ds with
      | some a, some b => some (a && b)
      | _, _ => none
    else none
/-- equality of values that hold numbers and bools alone, by their type -/
def eqT (P : Program) : Nat → TypeId → List SC → List SC → Option Bool
  | 0, _, _, _ => none
  | d + 1, t, cs, ds => match P.underlying t with
    | some .bool => match cs, ds with
      | .lit (.bool a) :: _, .lit (.bool b) :: _ => some (a == b)
      | _, _ => none
    | some (.int _) => match cs, ds with
      | .lit (.int k a) :: _, .lit (.int k' b) :: _ => if k = k' then some (a == b) else none
      | _, _ => none
    | some (.struct fs) => if P.stoodInHeld t then none else eqF P (eqT P d) fs.toList cs ds
    | some (.array n e) => match P.info? e with
      | some i => eqI P (eqT P d) e i.size (List.range n) cs ds
      | none => none
    | _ => none

/-- a value of a type, with these cells -/
def Formed (P : Program) (rd : Rd) (g : Env) (t : TypeId) (x : Value) (cs : List SC) : Prop :=
  if aggT P t then ∃ xs, x = .agg xs ∧ CsRel rd g xs cs else ∃ c, cs = [c] ∧ CRel rd g x c

theorem run_part_sh {P : Program} {w : World} {rd : Rd} {g : Env} {t : TypeId} {d : TypeDesc} {i : TypeInfo} {xs : Array Value} {cs : List SC} {off : Nat} (hd : P.underlying t = some d) (hi : P.info? t = some i) (h1 : aggT P t = false → i.size = 1) (hsz : i.size ≤ (cs.drop off).length) (h0 : 0 < i.size) (h : CsRel rd g xs cs) :
    ∃ a, (part t xs off).run P w = .ok a w ∧ Formed P rd g t a ((cs.drop off).take i.size) := by
  simp only [List.length_drop] at hsz
  unfold Formed
  by_cases hagg : aggT P t = true
  · have hisagg : (isAgg t).run P w = .ok true w := by
      unfold aggT at hagg
      rw [hd] at hagg
      cases d <;> simp only [Bool.false_eq_true] at hagg <;> simp [isAgg, run_underlying hd]
    refine ⟨.agg (xs.extract off (off + i.size)), by simp [part, hisagg, sizeOf, typeInfo, hi], ?_⟩
    rw [if_pos hagg]
    refine ⟨_, rfl, by have := h.1; simp; omega, fun j y hy => ?_⟩
    rw [List.getElem?_take] at hy
    split at hy
    · rename_i hj
      rw [List.getElem?_drop] at hy
      obtain ⟨u, h2, h3⟩ := h.2 _ y hy
      refine ⟨u, ?_, h3⟩
      have := h.1
      rw [Array.getElem?_extract, if_pos (by omega)]
      exact h2
    · cases hy
  · have hagg' : aggT P t = false := by simpa using hagg
    have hisagg : (isAgg t).run P w = .ok false w := by
      unfold aggT at hagg
      rw [hd] at hagg
      cases d <;> simp only [not_true_eq_false] at hagg <;> simp [isAgg, run_underlying hd]
    have hs := h1 hagg'
    obtain ⟨u, h2, h3⟩ := h.2 off cs[off] (List.getElem?_eq_getElem (by omega))
    refine ⟨u, by simp [part, hisagg, h2], ?_⟩
    rw [if_neg hagg, hs]
    refine ⟨cs[off], ?_, h3⟩
    rw [List.drop_eq_getElem_cons (by omega)]
    rfl

theorem eqT_run {P : Program} {rd : Rd} {g : Env} : ∀ (d : Nat) (t : TypeId) (x y : Value) (cs ds : List SC) (r : Bool) (dd : Nat) (w : World), d ≤ dd → Formed P rd g t x cs → Formed P rd g t y ds → eqT P d t cs ds = some r → (Op.equalIn dd t x y).run P w = .ok r w
  | 0, _, _, _, _, _, _, _, _, _, _, _, h => by cases h
  | d + 1, t, x, y, cs, ds, r, 0, w, hdd, hx, hy, h => by omega
  | d + 1, t, x, y, cs, ds, r, dd + 1, w, hdd, hx, hy, h => by
    unfold eqT at h
    split at h
    · rename_i hu
      have hagg : aggT P t = false := by simp [aggT, hu]
      unfold Formed at hx hy
      rw [if_neg (by simp [hagg])] at hx hy
      obtain ⟨c, rfl, hx⟩ := hx
      obtain ⟨c', rfl, hy⟩ := hy
      split at h
      · rename_i h1 h2
        cases h1; cases h2; cases h
        cases hx; cases hy
        exact run_equalIn_bool w dd t _ _ hu
      · cases h
    · rename_i k0 hu
      have hagg : aggT P t = false := by simp [aggT, hu]
      unfold Formed at hx hy
      rw [if_neg (by simp [hagg])] at hx hy
      obtain ⟨c, rfl, hx⟩ := hx
      obtain ⟨c', rfl, hy⟩ := hy
      split at h
      · rename_i h1 h2
        split at h
        · rename_i hk
          cases h1; cases h2; cases h
          subst hk
          cases hx; cases hy
          exact run_equalIn_int w dd t _ k0 _ _ hu
        · cases h
      · cases h
    · rename_i fs hu
      have hagg : aggT P t = true := by simp [aggT, hu]
      unfold Formed at hx hy
      rw [if_pos hagg] at hx hy
      obtain ⟨xs, rfl, hx⟩ := hx
      obtain ⟨ys, rfl, hy⟩ := hy
      split at h
      · cases h
      · rename_i hst
        have hf : P.fieldsOf t = fs := by simp [Program.fieldsOf, hu]
        rw [run_equalIn_struct w dd t xs ys (by rw [hf]; exact hu) (by simpa using hst), hf]
        clear hu hf
        generalize fs.toList = l at h
        induction l generalizing r with
        | nil => cases h; simp [Op.eqFields]
        | cons f l ih =>
          simp only [eqF] at h
          split at h
          · cases h
          · rename_i hn
            split at h
            · cases h
            · rename_i i hi
              split at h
              · rename_i hc
                split at h
                · rename_i a b ha hb
                  cases h
                  have hd' : ∃ dsc, P.underlying f.type = some dsc := by
                    cases hu : P.underlying f.type with
                    | some dsc => exact ⟨dsc, rfl⟩
                    | none =>
                      exfalso
                      cases d with
                      | zero => cases ha
                      | succ d => simp [eqT, hu] at ha
                  obtain ⟨dsc, hdsc⟩ := hd'
                  obtain ⟨u1, p1, f1⟩ := run_part_sh (w := w) hdsc hi hc.2.2.2 hc.1 hc.2.2.1 hx
                  obtain ⟨u2, p2, f2⟩ := run_part_sh (w := w) hdsc hi hc.2.2.2 hc.2.1 hc.2.2.1 hy
                  have e1 := eqT_run d f.type u1 u2 _ _ a dd w (by omega) f1 f2 ha
                  have e2 := ih b hb
                  simp only [Op.eqFields, ne_eq, hn, not_false_eq_true, if_true, Sem.run_bind, p1, p2, e1, Result.andThen_ok]
                  cases a
                  · simp
                  · simpa using e2
                · cases h
              · cases h
    · rename_i n e hu
      have hagg : aggT P t = true := by simp [aggT, hu]
      unfold Formed at hx hy
      rw [if_pos hagg] at hx hy
      obtain ⟨xs, rfl, hx⟩ := hx
      obtain ⟨ys, rfl, hy⟩ := hy
      split at h
      · rename_i i hi
        rw [run_equalIn_array w dd xs ys hu hi]
        have hco : P.cellsOf e = i.size := by simp [Program.cellsOf, hi]
        rw [hco]
        clear hu
        generalize List.range n = l at h
        induction l generalizing r with
        | nil => cases h; simp [Op.eqItems]
        | cons j l ih =>
          simp only [eqI] at h
          split at h
          · rename_i hc
            split at h
            · rename_i a b ha hb
              cases h
              have hd' : ∃ dsc, P.underlying e = some dsc := by
                cases hu : P.underlying e with
                | some dsc => exact ⟨dsc, rfl⟩
                | none =>
                  exfalso
                  cases d with
                  | zero => cases ha
                  | succ d => simp [eqT, hu] at ha
              obtain ⟨dsc, hdsc⟩ := hd'
              obtain ⟨u1, p1, f1⟩ := run_part_sh (w := w) hdsc hi hc.2.2.2 hc.1 hc.2.2.1 hx
              obtain ⟨u2, p2, f2⟩ := run_part_sh (w := w) hdsc hi hc.2.2.2 hc.2.1 hc.2.2.1 hy
              have e1 := eqT_run d e u1 u2 _ _ a dd w (by omega) f1 f2 ha
              have e2 := ih b hb
              simp only [Op.eqItems, Sem.run_bind, p1, p2, e1, Result.andThen_ok]
              cases a
              · simp
              · simpa using e2
            · cases h
          · cases h
      · cases h
    · cases h

theorem grow_aggEq {P : Program} {o : Oper} {s : St} {op : BinOp} {t t' : TypeId} {x y : Operand} (cs ds : List SC) (r : Bool) (ho : o.op = .binOp op t x y t') (hop : (op == .eql) = true) (hx : opd s x = some (.agg cs)) (hy : opd s y = some (.agg ds)) (hg : P.eqGuardType P.depth t = false) (hagg : aggT P t = true)
    (h : eqT P 40 t cs ds = some r) : GrowOp P o s (.c (.lit (.bool r))) := by
  refine PureOp.grow fun g rd a w hview => ?_
  have h1 := hview.op _ _ (by simp [ho, Op.operands]) hx
  have h2 := hview.op _ _ (by simp [ho, Op.operands]) hy
  obtain ⟨xs, hx1, hx2⟩ := h1
  obtain ⟨ys, hy1, hy2⟩ := h2
  have hop' : op = .eql := by cases op <;> first | rfl | (exact absurd hop (by decide))
  subst hop'
  have he := eqT_run (rd := rd) (g := g) 40 t (.agg xs) (.agg ys) cs ds r 10000 w (by decide) (by unfold Formed; rw [if_pos hagg]; exact ⟨xs, rfl, hx2⟩) (by unfold Formed; rw [if_pos hagg]; exact ⟨ys, rfl, hy2⟩) h
  refine ⟨.bool r, ?_, lit_rel _ _ _⟩
  simp only [execOp, ho, hx1, hy1, Sem.run_bind, run_eqGuard_agg w .eql t x y xs ys hg, Result.andThen_ok, run_eql_struct, he, Sem.run_pure]
theorem grow_aggNe {P : Program} {o : Oper} {s : St} {op : BinOp} {t t' : TypeId} {x y : Operand} (cs ds : List SC) (r : Bool) (ho : o.op = .binOp op t x y t') (hop : (op == .neq) = true) (hx : opd s x = some (.agg cs)) (hy : opd s y = some (.agg ds)) (hg : P.eqGuardType P.depth t = false) (hagg : aggT P t = true)
    (h : eqT P 40 t cs ds = some r) : GrowOp P o s (.c (.lit (.bool (!r)))) := by
  refine PureOp.grow fun g rd a w hview => ?_
  have h1 := hview.op _ _ (by simp [ho, Op.operands]) hx
  have h2 := hview.op _ _ (by simp [ho, Op.operands]) hy
  obtain ⟨xs, hx1, hx2⟩ := h1
  obtain ⟨ys, hy1, hy2⟩ := h2
  have hop' : op = .neq := by cases op <;> first | rfl | (exact absurd hop (by decide))
  subst hop'
  have he := eqT_run (rd := rd) (g := g) 40 t (.agg xs) (.agg ys) cs ds r 10000 w (by decide) (by unfold Formed; rw [if_pos hagg]; exact ⟨xs, rfl, hx2⟩) (by unfold Formed; rw [if_pos hagg]; exact ⟨ys, rfl, hy2⟩) h
  refine ⟨.bool (!r), ?_, lit_rel _ _ _⟩
  simp only [execOp, ho, hx1, hy1, Sem.run_bind, run_eqGuard_agg w .neq t x y xs ys hg, Result.andThen_ok, run_neq_struct, he, Sem.run_pure]
end Go.Proofs.Ytohhaibbbnobpaa
