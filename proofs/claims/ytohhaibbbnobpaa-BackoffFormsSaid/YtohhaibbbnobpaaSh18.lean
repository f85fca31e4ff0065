/-
  Shadows: laws with what the plain functions of cc.py name (subO, appO), max.
-/
import Derived.Test.YtohhaibbbnobpaaSh17
namespace Go.Proofs.Ytohhaibbbnobpaa
open Go.RowKit

def subO {α : Type} (l : List α) (a b : Int) : Option (List α) := if 0 ≤ a ∧ a ≤ b ∧ b ≤ l.length then some ((l.take b.toNat).drop a.toNat) else none
theorem grow_sliceO {α : Type} {P : Program} {o : Oper} {s : St} {t e : TypeId} {x : Operand} {lo hi : Option Operand} {f : α → List SC} (sz tag : Nat) (l : List α) (vlo vhi : Option (IntKind × Int)) (a b : Int) {l' : List α} (h : subO l a b = some l') (ho : o.op = .slice t x lo hi none) (hx : opd s x = some (.c (.slc sz tag (l.map f))))
    (hlo : lo.map (opd s) = vlo.map fun p => some (int p.1 p.2)) (hhi : hi.map (opd s) = vhi.map fun p => some (int p.1 p.2)) (ha : a = (vlo.map (·.2)).getD 0) (hb : b = (vhi.map (·.2)).getD (l.length : Int))
    (hu : P.underlying t = some (.slice e)) (hsz : (P.info? e).map (·.size) = some sz) : GrowOp P o s (.c (.slc sz 0 (l'.map f))) := by
  unfold subO at h
  split at h
  · rename_i hc
    cases h
    exact grow_slice sz tag l vlo vhi a b ho hx hlo hhi ha hb hu hsz hc.1 hc.2.1 hc.2.2
  · cases h
def appO {α : Type} (by_ : Nat) (l1 l2 : List α) : Option (List α) := if (l1.length + l2.length) * by_ ≤ 140737488355328 ∧ l1.length + l2.length ≤ 140737488355328 then some (l1 ++ l2) else none
theorem grow_appendO {α : Type} {P : Program} {o : Oper} {s : St} {t e : TypeId} {x y : Operand} {f : α → List SC} (sz by_ : Nat) (l1 l2 : List α) {l' : List α} (h : appO by_ l1 l2 = some l') (ho : o.op = .call { callee := .builtin .append, args := #[x, y], argTypes := #[t, t] }) (hx : (opd s x).bind (exactOf sz) = some (l1.map f)) (hy : (opd s y).bind (rowOf sz) = some (l2.map f))
    (hu : P.underlying t = some (.slice e)) (hi' : (P.info? e).map (fun i => (i.zero.map (·.cells.size), i.size, i.bytes)) = some (some sz, sz, by_)) (hs0 : decide (0 < sz) = true) : GrowOp P o s (.c (.slc sz 0 (l'.map f))) := by
  unfold appO at h
  split at h
  · rename_i hc
    cases h
    exact grow_append sz by_ l1 l2 ho hx hy hu hi' hs0 hc.1 hc.2
  · cases h
theorem TL_appendO {α : Type} {P : Program} {K : Ctx} {n : Nat} {ops : Array Oper} {l : List Oper} {o : Oper} {s : St} {Q : Exit → St → Prop} {t e : TypeId} {x y : Operand} {f : α → List SC} (tok sz by_ : Nat) (l1 l2 : List α) {l' : List α} (hl' : appO by_ l1 l2 = some l') (ho : o.op = .call { callee := .builtin .append, args := #[x, y], argTypes := #[t, t] }) (hgd : guardOf ops o s = some true) (hd : dstOk n o = true)
    (hx : opd s x = some (.c (.slc sz (tok + 2) (l1.map f)))) (htok : look s.hp.toks tok = some (e, sz, l1.map f)) (hy : (opd s y).bind (rowOf sz) = some (l2.map f)) (h1 : (l2.map f).all (·.all SC.one) = true)
    (hu : P.underlying t = some (.slice e)) (hi' : (P.info? e).map (fun i => (i.zero.map (·.cells.size), i.size, i.bytes)) = some (some sz, sz, by_)) (hs0 : decide (0 < sz) = true)
    (h : TL P K n ops l ((s.setTok tok (e, sz, l'.map f)).put o.dst (.c (.slc sz (tok + 2) (l'.map f)))) Q) : TL P K n ops (o :: l) s Q := by
  unfold appO at hl'
  split at hl'
  · rename_i hc
    cases hl'
    exact TL_append tok sz by_ l1 l2 ho hgd hd hx htok hy h1 hu hi' hs0 hc.1 hc.2 h
  · cases hl'
theorem pure_max {P : Program} {o : Oper} {s : St} {ts : Array TypeId} {x y : Operand} {k : IntKind} (m n : Int) (ho : o.op = .call { callee := .builtin .max, args := #[x, y], argTypes := ts }) (hx : opd s x = some (int k m)) (hy : opd s y = some (int k n)) : PureOp P o s (int k (if m < n then n else m)) := by
  intro g rd a w hview
  have h1 := rel_lit (hview.op _ _ (by simp [ho, Op.operands, Call.operands]) hx)
  have h2 := rel_lit (hview.op _ _ (by simp [ho, Op.operands, Call.operands]) hy)
  exact ⟨_, by simp [execOp, ho, resolve, invoke, builtin, Builtin.max_, Builtin.max2, h1, h2], lit_rel _ _ _⟩

/-- an array's cell at a computed place, read -/
theorem arr_get (k : IntKind) (n : Nat) (l : List Int) (i : Nat) (h : i < n) : (arrS k n l)[i]? = some (.lit (.int k (l.getD i 0))) := by
  unfold arrS
  simp [h]
theorem drop_take_one {α : Type} {l : List α} {i : Nat} {x : α} (h : l[i]? = some x) : (l.drop i).take 1 = [x] := by
  obtain ⟨hi, rfl⟩ := List.getElem?_eq_some_iff.1 h
  rw [List.drop_eq_getElem_cons hi]
  rfl
def setA (n : Nat) (l : List Int) (i : Nat) (v : Int) : List Int := (List.range n).map fun j => if j = i then v else l.getD j 0
theorem setA_get (n : Nat) (l : List Int) (i : Nat) (v : Int) (j : Nat) (h : j < n) : (setA n l i v).getD j 0 = if j = i then v else l.getD j 0 := by
  unfold setA
  rw [List.getD_eq_getElem?_getD]
  simp [h]
theorem all_one {α : Type} {f : α → List SC} (hf : ∀ x, (f x).all SC.one = true) (l : List α) : (l.map f).all (·.all SC.one) = true := by
  simp only [List.all_map, List.all_eq_true]
  exact fun x _ => hf x
end Go.Proofs.Ytohhaibbbnobpaa
