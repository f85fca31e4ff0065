/-
  SHADOWS, second make: what an operation sees; the operations that only compute or read, reckoned by the kernel.
-/
import Derived.Test.YtohfnlkjdjmipaaV1
import Derived.Laws.Cells
import Derived.Laws.Entries
import Derived.Laws.Small
import Derived.DeepKeys
import Derived.Laws.Tables
import Derived.Great.BuildSlice
import Derived.Laws.StructEq
import Derived.ChangeKeysEq
namespace Go.Proofs.Ytohfnlkjdjmipaa
open Go.RowKit

structure View (g : Env) (rd : Rd) (a : Act) (w : World) (s : St) : Prop where
  tmps : ∀ t v, t < 2000000 → look s.tmps t = some v → ∃ u, a.tmps[t]? = some u ∧ VRel rd g u v
  reads : ∀ b o v, rd b o = some v → w.cell? ⟨b, o, none⟩ = some v
  holds : ∀ d r, look s.hp d = some r → Holds rd g w d r
theorem RG.view {K : Ctx} {g : Env} {n : Nat} {a : Act} {w : World} {s : St} (h : RG K g n a w s) : View g (rdOf K g s.hp w) a w s := ⟨fun t v ht hv => let ⟨u, h1, h2⟩ := h.tmps t v hv; ⟨u, by rw [slotAt, if_pos ht] at h1; exact h1, h2⟩, rdOf_le _ _ h.hg.keep, h.hg.holds⟩

/-! ### operands -/
def constSV : Value → Option SV
  | .agg vs => some (.agg (vs.toList.map SC.lit))
  | .tuple _ => none
  | v => some (.c (.lit v))
def opd (s : St) : Operand → Option SV
  | .tmp t => if t < 2000000 then look s.tmps t else none
  | .const v => constSV v
  | .func f => some (.c (.lit (.func (.func f) #[] #[])))
  | .global _ => none
theorem constSV_rel {rd : Rd} {g : Env} {v : Value} {x : SV} (h : constSV v = some x) : VRel rd g v x := by
  unfold constSV at h
  split at h
  · cases h
    refine ⟨_, rfl, by simp, fun j y hy => ?_⟩
    rw [List.getElem?_map] at hy
    obtain ⟨u, hu, rfl⟩ := Option.map_eq_some_iff.1 hy
    exact ⟨u, by simpa using hu, .lit u⟩
  · cases h
  · cases h; exact IRel.lit _
theorem View.opd {g : Env} {rd : Rd} {a : Act} {w : World} {s : St} (h : View g rd a w s) {x : Operand} {v : SV} (hx : opd s x = some v) : VRel rd g (a.eval x) v := by
  cases x with
  | tmp t =>
    simp only [Go.Proofs.Ytohfnlkjdjmipaa.opd] at hx
    split at hx
    rotate_left
    · cases hx
    rename_i ht
    obtain ⟨u, h1, h2⟩ := h.tmps t v ht hx
    simp only [Act.eval, Array.getD_eq_getD_getElem?, h1, Option.getD_some]
    exact h2
  | const v => exact constSV_rel hx
  | func f => simp only [Go.Proofs.Ytohfnlkjdjmipaa.opd] at hx; cases hx; exact .lit _
  | global g => simp [Go.Proofs.Ytohfnlkjdjmipaa.opd] at hx

/-- what one operation sees -/
structure OView (g : Env) (rd : Rd) (a : Act) (w : World) (s : St) (o : Oper) : Prop where
  op : ∀ x v, x ∈ o.op.operands.toList → opd s x = some v → VRel rd g (a.eval x) v
  reads : ∀ b o v, rd b o = some v → w.cell? ⟨b, o, none⟩ = some v
  holds : ∀ d r, look s.hp d = some r → Holds rd g w d r
theorem View.o {g : Env} {rd : Rd} {a : Act} {w : World} {s : St} (h : View g rd a w s) (o : Oper) : OView g rd a w s o := ⟨fun _ _ _ hx => h.opd hx, h.reads, h.holds⟩
theorem OView.box {g : Env} {rd : Rd} {a : Act} {w : World} {s : St} {o : Oper} (h : OView g rd a w s o) (d : Nat) (cs : List SC) (hl : s.lookB d = some cs) (j : Nat) (y : SC) (hy : cs[j]? = some y) : ∃ u, w.cell? ⟨(g.pos d).1, (g.pos d).2 + j, none⟩ = some u ∧ CRel rd g u y :=
  let ⟨u, h1, _, h3⟩ := h.holds d _ (lookB_some hl) j y hy; ⟨u, h1, h3⟩
def PureOp (P : Program) (o : Oper) (s : St) (v : SV) : Prop :=
  ∀ g rd a w, OView g rd a w s o → ∃ u, (execOp a.eval o).run P w = .ok (.value u) w ∧ VRel rd g u v

theorem addr_add (b o n : Nat) : (⟨b, o, none⟩ : Addr).add n = ⟨b, o + n, none⟩ := by
  unfold Addr.add
  split
  · rename_i h; subst h; rfl
  · rfl

def int (k : IntKind) (n : Int) : SV := .c (.lit (.int k n))
def bool (b : Bool) : SV := .c (.lit (.bool b))

theorem rel_lit {rd : Rd} {g : Env} {u v : Value} (h : VRel rd g u (.c (.lit v))) : u = v := by
  simp only [VRel, CRel, CRel0] at h
  cases h
  rfl
theorem lit_rel (rd : Rd) (g : Env) (v : Value) : VRel rd g v (.c (.lit v)) := IRel.lit v

/-! ### moving -/
theorem pure_move {P : Program} {o : Oper} {s : St} {v : SV} {x : Operand} (ho : o.op = .move x ∨ o.op = .assign x) (hx : opd s x = some v) : PureOp P o s v := by
  intro g rd a w hv
  rcases ho with ho | ho <;> exact ⟨a.eval x, by simp [execOp, ho], hv.op _ _ (by simp [ho, Op.operands]) hx⟩
theorem pure_pick {P : Program} {o : Oper} {s : St} {v : SV} {c x y : Operand} (b : Bool) (ho : o.op = .pick c x y) (hc : opd s c = some (bool b)) (hx : opd s (if b then x else y) = some v) : PureOp P o s v := by
  intro g rd a w hv
  have h1 := rel_lit (hv.op _ _ (by simp [ho, Op.operands]) hc)
  refine ⟨a.eval (if b then x else y), ?_, hv.op _ _ (by cases b <;> simp [ho, Op.operands]) hx⟩
  simp only [execOp, ho, h1, asBool]
  cases b <;> simp

/-! ### numbers -/
def iand (k : IntKind) (x y : Int) : Int := k.wrap ((BitVec.ofInt k.bits x &&& BitVec.ofInt k.bits y).toNat : Int)
def ior (k : IntKind) (x y : Int) : Int := k.wrap ((BitVec.ofInt k.bits x ||| BitVec.ofInt k.bits y).toNat : Int)
def ixor (k : IntKind) (x y : Int) : Int := k.wrap ((BitVec.ofInt k.bits x ^^^ BitVec.ofInt k.bits y).toNat : Int)
def iandNot (k : IntKind) (x y : Int) : Int := k.wrap ((BitVec.ofInt k.bits x &&& ~~~ BitVec.ofInt k.bits y).toNat : Int)
def ishl (k : IntKind) (x y : Int) : Int := k.wrap (x * 2 ^ min y.toNat k.bits)
def ishr (k : IntKind) (x y : Int) : Int := x.fdiv (2 ^ min y.toNat k.bits)
def iquo (k : IntKind) (x y : Int) : Int := k.wrap (x.tdiv y)

def intBin (op : BinOp) (k : IntKind) (x y : Int) : Option SV := match op with
  | .add => some (int k (k.wrap (x + y)))
  | .sub => some (int k (k.wrap (x - y)))
  | .mul => some (int k (k.wrap (x * y)))
  | .and => some (int k (iand k x y))
  | .or => some (int k (ior k x y))
  | .xor => some (int k (ixor k x y))
  | .andNot => some (int k (iandNot k x y))
  | .eql => some (bool (x == y))
  | .neq => some (bool (x != y))
  | .lss => some (bool (decide (x < y)))
  | .leq => some (bool (decide (x ≤ y)))
  | .gtr => some (bool (decide (x > y)))
  | .geq => some (bool (decide (x ≥ y)))
  | _ => none

theorem eqGuard_int {P : Program} {w : World} (op : BinOp) (t : TypeId) (x y : Operand) (k k' : IntKind) (a b : Int) : (eqGuard op t x y (.int k a) (.int k' b)).run P w = .ok () w := by
  unfold eqGuard
  split <;> simp

theorem pure_int {P : Program} {o : Oper} {s : St} {v : SV} {op : BinOp} {t t' : TypeId} {x y : Operand} {k : IntKind} (m n : Int) (ho : o.op = .binOp op t x y t') (hx : opd s x = some (int k m)) (hy : opd s y = some (int k n)) (hv : intBin op k m n = some v) : PureOp P o s v := by
  intro g rd a w hview
  have h1 := rel_lit (hview.op _ _ (by simp [ho, Op.operands]) hx)
  have h2 := rel_lit (hview.op _ _ (by simp [ho, Op.operands]) hy)
  cases op <;> simp only [intBin, reduceCtorEq] at hv
  all_goals
    obtain rfl := Option.some.inj hv
    refine ⟨_, ?_, lit_rel _ _ _⟩
    simp [execOp, ho, h1, h2, eqGuard_int, Go.binOp, Op.intArith, Op.intBits, Op.intCmp, iand, ior, ixor, iandNot]

def intBinC (op : BinOp) (k : IntKind) (x y : Int) : Option (SV × Prop) := match op with
  | .quo => some (int k (iquo k x y), y ≠ 0)
  | .rem => some (int k (x.tmod y), y ≠ 0)
  | .shl => some (int k (ishl k x y), 0 ≤ y)
  | .shr => some (int k (ishr k x y), 0 ≤ y)
  | _ => none
theorem pure_intC {P : Program} {o : Oper} {s : St} {v : SV} {p : Prop} {op : BinOp} {t t' : TypeId} {x y : Operand} {k k' : IntKind} (m n : Int) (hk : op = .shl ∨ op = .shr ∨ k' = k) (ho : o.op = .binOp op t x y t') (hx : opd s x = some (int k m)) (hy : opd s y = some (int k' n)) (hv : intBinC op k m n = some (v, p)) (hp : p) : PureOp P o s v := by
  intro g rd a w hview
  have h1 := rel_lit (hview.op _ _ (by simp [ho, Op.operands]) hx)
  have h2 := rel_lit (hview.op _ _ (by simp [ho, Op.operands]) hy)
  cases op <;> simp only [intBinC, reduceCtorEq] at hv
  all_goals
    obtain ⟨rfl, rfl⟩ := Prod.mk.inj (Option.some.inj hv)
    refine ⟨_, ?_, lit_rel _ _ _⟩
  case quo => obtain rfl : k' = k := by simpa using hk
              simp [execOp, ho, h1, h2, eqGuard_int, Go.binOp, Op.intDiv, iquo, hp]
  case rem => obtain rfl : k' = k := by simpa using hk
              simp [execOp, ho, h1, h2, eqGuard_int, Go.binOp, Op.intDiv, hp]
  case shl => simp [execOp, ho, h1, h2, eqGuard_int, Go.binOp, Op.shift, ishl, Int.not_lt.2 hp]
  case shr => simp [execOp, ho, h1, h2, eqGuard_int, Go.binOp, Op.shift, ishr, Int.not_lt.2 hp]

/-- == and != of bools -/
theorem pure_boolEq {P : Program} {o : Oper} {s : St} {op : BinOp} {t t' : TypeId} {x y : Operand} (m n r : Bool) (ho : o.op = .binOp op t x y t') (hx : opd s x = some (bool m)) (hy : opd s y = some (bool n)) (hu : P.underlying t = some .bool)
    (hr : (op = .eql ∧ r = (m == n)) ∨ (op = .neq ∧ r = !(m == n))) : PureOp P o s (bool r) := by
  intro g rd a w hview
  have h1 := rel_lit (hview.op _ _ (by simp [ho, Op.operands]) hx)
  have h2 := rel_lit (hview.op _ _ (by simp [ho, Op.operands]) hy)
  refine ⟨_, ?_, lit_rel _ _ _⟩
  rcases hr with ⟨rfl, rfl⟩ | ⟨rfl, rfl⟩ <;>
  simp [execOp, ho, h1, h2, eqGuard, Go.binOp, run_equal_bool w t m n hu]

def unSV (op : UnOp) : SV → Option SV
  | .c (.lit (.bool b)) => match op with
    | .not => some (bool !b)
    | _ => none
  | .c (.lit (.int k n)) => match op with
    | .neg => some (int k (k.wrap (0 - n)))
    | .xor => some (int k (ixor k (if k.signed then -1 else k.max) n))
    | _ => none
  | _ => none
theorem pure_un {P : Program} {o : Oper} {s : St} {v x' : SV} {op : UnOp} {t : TypeId} {x : Operand} (ho : o.op = .unOp op t x) (hx : opd s x = some x') (hv : unSV op x' = some v) : PureOp P o s v := by
  intro g rd a w hview
  have h1 := hview.op _ _ (by simp [ho, Op.operands]) hx
  unfold unSV at hv
  split at hv
  · have h2 := rel_lit h1
    split at hv <;> cases hv
    exact ⟨_, by simp [execOp, ho, h2, Op.unary], lit_rel _ _ _⟩
  · have h2 := rel_lit h1
    split at hv <;> cases hv
    · exact ⟨_, by simp [execOp, ho, h2, Op.unary, Op.intArith], lit_rel _ _ _⟩
    · exact ⟨_, by simp [execOp, ho, h2, Op.unary, Op.intBits, ixor], lit_rel _ _ _⟩
  · cases hv

theorem pure_conv {P : Program} {o : Oper} {s : St} {t t' : TypeId} {x : Operand} {k : IntKind} (k' : IntKind) (n : Int) (ho : o.op = .convert t t' x) (hx : opd s x = some (int k n)) (h0 : P.underlying t = some (.int k)) (hu : P.underlying t' = some (.int k')) : PureOp P o s (int k' (k'.wrap n)) := by
  intro g rd a w hview
  have h1 := rel_lit (hview.op _ _ (by simp [ho, Op.operands]) hx)
  exact ⟨_, by simp [execOp, ho, h1, convert, run_underlying hu, run_underlying h0, Conv.intToInt], lit_rel _ _ _⟩

/-! ### memory that is read -/
def aggT (P : Program) (t : TypeId) : Bool := match P.underlying t with
  | some (.struct _) => true
  | some (.array _ _) => true
  | _ => false
/-- cells as a value of a type -/
def wrapT (P : Program) (t : TypeId) (cs : List SC) : Option SV := match P.underlying t, P.info? t with
  | some _, some i => if aggT P t then (if i.size ≤ cs.length then some (.agg (cs.take i.size)) else none) else match cs with
    | x :: _ => some (.c x)
    | [] => none
  | _, _ => none
def cellsAt (s : St) : SV → Option (List SC)
  | .c (.box d off) => match s.lookB d with
    | some cs => some (cs.drop off)
    | none => none
  | .c (.ref cs) => some cs
  | _ => none

theorem OView.cellsAt {g : Env} {rd : Rd} {a : Act} {w : World} {s : St} {o : Oper} (h : OView g rd a w s o) {u : Value} {v : SV} {cs : List SC} (hv : VRel rd g u v) (hc : cellsAt s v = some cs) :
    ∃ b o, u = .pointer (some ⟨b, o, none⟩) ∧ ∀ j y, cs[j]? = some y → ∃ z, w.cell? ⟨b, o + j, none⟩ = some z ∧ CRel rd g z y := by
  unfold Go.Proofs.Ytohfnlkjdjmipaa.cellsAt at hc
  split at hc
  · rename_i d off
    split at hc
    · rename_i cs' hl
      cases hc
      simp only [VRel, CRel, CRel0] at hv
      refine ⟨_, _, hv, fun j y hy => ?_⟩
      rw [List.getElem?_drop] at hy
      obtain ⟨z, h1, h2⟩ := h.box d _ hl _ y hy
      exact ⟨z, by rw [← Nat.add_assoc] at h1; exact h1, h2⟩
    · cases hc
  · cases hc
    simp only [VRel, CRel, CRel0] at hv
    cases hv with
    | ref b o _ f hr hu =>
      exact ⟨b, o, rfl, fun j y hy => ⟨f j, h.reads _ _ _ (hr j y hy), (hu j y hy).c⟩⟩
  · cases hc

theorem run_loadVar_sh {P : Program} {w : World} {g : Env} {rd : Rd} {t : TypeId} {cs : List SC} {v : SV} {b o : Nat} (hw : wrapT P t cs = some v) (h : ∀ j y, cs[j]? = some y → ∃ z, w.cell? ⟨b, o + j, none⟩ = some z ∧ CRel rd g z y) :
    ∃ u, (loadVar t ⟨b, o, none⟩).run P w = .ok u w ∧ VRel rd g u v := by
  unfold wrapT at hw
  split at hw
  · rename_i d i hd hi
    split at hw
    · rename_i hagg
      split at hw
      · rename_i hsz
        cases hw
        have hz : ∃ f : Nat → Value, ∀ j, j < i.size → w.cell? ⟨b, o + j, none⟩ = some (f j) ∧ ∀ y, cs[j]? = some y → CRel rd g (f j) y := by
          refine ⟨fun j => if hj : j < i.size then Classical.choose (h j cs[j] (List.getElem?_eq_getElem (by omega))) else undef, fun j hj => ?_⟩
          have hc := Classical.choose_spec (h j cs[j] (List.getElem?_eq_getElem (by omega)))
          simp only [hj, dif_pos]
          refine ⟨hc.1, fun y hy => ?_⟩
          rw [List.getElem?_eq_getElem (by omega : j < cs.length)] at hy
          cases hy
          exact hc.2
        obtain ⟨f, hf⟩ := hz
        have hl := run_loadCells (P := P) (w := w) ⟨b, o, none⟩ i.size f (fun j hj => by rw [addr_add]; exact (hf j hj).1)
        have hisagg : (isAgg t).run P w = .ok true w := by
          unfold aggT at hagg
          rw [hd] at hagg
          cases d <;> simp only [Bool.false_eq_true] at hagg <;> simp [isAgg, run_underlying hd]
        refine ⟨_, by simp [loadVar, hisagg, sizeOf, typeInfo, hi, hl]; rfl, _, rfl, ?_⟩
        refine ⟨by simp; omega, fun j y hy => ?_⟩
        rw [List.getElem?_take] at hy
        split at hy
        · rename_i hj
          exact ⟨f j, by simp [hj], (hf j hj).2 y hy⟩
        · cases hy
      · cases hw
    · rename_i hagg
      split at hw
      · rename_i x rest
        cases hw
        obtain ⟨z, h1, h2⟩ := h 0 x rfl
        have hisagg : (isAgg t).run P w = .ok false w := by
          unfold aggT at hagg
          rw [hd] at hagg
          cases d <;> simp only [not_true_eq_false] at hagg <;> simp [isAgg, run_underlying hd]
        refine ⟨z, ?_, h2⟩
        simp only [Nat.add_zero] at h1
        simp [loadVar, hisagg, load, Sem.run, h1]
      · cases hw
  · cases hw

theorem pure_load {P : Program} {o : Oper} {s : St} {v p : SV} {t : TypeId} {x : Operand} {cs : List SC} (ho : o.op = .load t x) (hx : opd s x = some p) (hc : cellsAt s p = some cs) (hv : wrapT P t cs = some v) : PureOp P o s v := by
  intro g rd a w hview
  obtain ⟨b, off, h1, h2⟩ := hview.cellsAt (hview.op _ _ (by simp [ho, Op.operands]) hx) hc
  obtain ⟨u, h3, h4⟩ := run_loadVar_sh (P := P) hv h2
  exact ⟨u, by simp [execOp, ho, h1, Instr.loadAt, Instr.sureAddr, h3], h4⟩

/-- a pointer moved on by some cells -/
def shift (n : Nat) : SV → Option SV
  | .c (.box d off) => some (.c (.box d (off + n)))
  | .c (.ref cs) => some (.c (.ref (cs.drop n)))
  | .c (.elt d s i off) => some (.c (.elt d s i (off + n)))
  | _ => none
theorem rel_shift {rd : Rd} {g : Env} {u : Value} {p v : SV} {n : Nat} (h : VRel rd g u p) (hs : shift n p = some v) : ∃ b o, u = .pointer (some ⟨b, o, none⟩) ∧ VRel rd g (.pointer (some ⟨b, o + n, none⟩)) v := by
  unfold shift at hs
  split at hs
  · cases hs
    simp only [VRel, CRel, CRel0] at h ⊢
    exact ⟨_, _, h, by rw [Nat.add_assoc]⟩
  · cases hs
    simp only [VRel, CRel, CRel0] at h ⊢
    cases h with
    | ref b o cs f hr hu =>
      refine ⟨b, o, rfl, .ref b (o + n) _ (fun j => f (n + j)) (fun j y hy => ?_) (fun j y hy => ?_)⟩
      · rw [List.getElem?_drop] at hy
        rw [Nat.add_assoc]
        exact hr _ y hy
      · rw [List.getElem?_drop] at hy
        exact hu _ y hy
  · cases hs
    obtain ⟨b, N, c, h1, rfl⟩ := h
    exact ⟨b, _, rfl, b, N, c, h1, by rw [Nat.add_assoc]⟩
  · cases hs

def fieldOf (P : Program) (t : TypeId) (k : Nat) : Option Nat := match P.underlying t with
  | some (.struct fs) => match fs[k]? with
    | some f => match P.info? f.type with
      | some i => if i.size = 0 then none else some f.offset
      | none => none
    | none => none
  | _ => none
theorem pure_fieldAddr {P : Program} {o : Oper} {s : St} {v p : SV} {t : TypeId} {x : Operand} {k n : Nat} (ho : o.op = .fieldAddr t x k) (hx : opd s x = some p) (hf : fieldOf P t k = some n) (hv : shift n p = some v) : PureOp P o s v := by
  intro g rd a w hview
  obtain ⟨b, off, h1, h2⟩ := rel_shift (hview.op _ _ (by simp [ho, Op.operands]) hx) hv
  unfold fieldOf at hf
  split at hf
  · rename_i fs hu
    split at hf
    · rename_i f hk
      split at hf
      · rename_i i hi
        split at hf
        · cases hf
        · rename_i hz
          cases hf
          refine ⟨_, ?_, h2⟩
          simp [execOp, ho, h1, Instr.fieldAt, run_underlying hu, hk, Instr.sureAddr, fieldPlace, sizeOf, typeInfo, hi, hz, addr_add]
      · cases hf
    · cases hf
  · cases hf

/-- &a[i], a an array's address -/
theorem pure_indexArr {P : Program} {o : Oper} {s : St} {v p : SV} {t e : TypeId} {x y : Operand} {k : IntKind} (m sz : Nat) (i : Int) (n : Nat) (ho : o.op = .indexAddr t x y) (hx : opd s x = some p) (hy : opd s y = some (int k i)) (hu : P.underlying t = some (.array m e)) (hi : (P.info? e).map (·.size) = some sz)
    (h0 : 0 ≤ i) (hm : i < m) (hn : n = i.toNat * sz) (hv : shift n p = some v) : PureOp P o s v := by
  intro g rd a w hview
  have h1 := rel_lit (hview.op _ _ (by simp [ho, Op.operands]) hy)
  obtain ⟨b, off, h2, h3⟩ := rel_shift (hview.op _ _ (by simp [ho, Op.operands]) hx) hv
  obtain ⟨j, hj, rfl⟩ := Option.map_eq_some_iff.1 hi
  subst hn
  refine ⟨_, ?_, h3⟩
  simp [execOp, ho, h1, h2, Instr.indexAt, asIntOf, run_underlying hu, Instr.sureAddr, h0, hm, sizeOf, typeInfo, hj, addr_add]

/-- &l[i], l a slice -/
theorem pure_indexSlc {P : Program} {o : Oper} {s : St} {t e : TypeId} {x y : Operand} {k : IntKind} (tag sz N : Nat) (xs : List (List SC)) (i : Int) (c : List SC) (ho : o.op = .indexAddr t x y) (hx : opd s x = some (.c (.slc sz tag N xs))) (hy : opd s y = some (int k i)) (hu : P.underlying t = some (.slice e)) (hi : (P.info? e).map (·.size) = some sz)
    (h0 : 0 ≤ i) (hc : xs[i.toNat]? = some c) : PureOp P o s (.c (.ref c)) := by
  intro g rd a w hview
  have h1 := rel_lit (hview.op _ _ (by simp [ho, Op.operands]) hy)
  have h2 := hview.op _ _ (by simp [ho, Op.operands]) hx
  obtain ⟨j, hj, hsz⟩ := Option.map_eq_some_iff.1 hi
  simp only [VRel, CRel, CRel0] at h2
  have hlt := (List.getElem?_eq_some_iff.1 hc).1
  generalize hv : a.eval x = v at *
  obtain ⟨h2, _⟩ := h2
  cases h2 with
  | nil => simp at hlt
  | slc b off n c' s xs f hn hnc hm hs hr hu' =>
    refine ⟨_, ?_, .ref b (off + i.toNat * sz) c (fun j => f i.toNat j) (fun j y hy => hr _ _ _ _ hc hy) (fun j y hy => hu' _ _ _ _ hc hy)⟩
    have : i < (N : Int) := by omega
    simp [execOp, ho, h1, hv, Instr.indexAt, asIntOf, run_underlying hu, h0, this, sizeOf, typeInfo, hj, addr_add, hsz]

theorem pure_nilCheck {P : Program} {o : Oper} {s : St} {v : SV} {x : Operand} (ho : o.op = .nilCheck x) (hx : opd s x = some v) (hp : (cellsAt s v).isSome = true) : PureOp P o s v := by
  intro g rd a w hview
  have h1 := hview.op _ _ (by simp [ho, Op.operands]) hx
  obtain ⟨cs, hcs⟩ := Option.isSome_iff_exists.1 hp
  obtain ⟨b, off, h2, _⟩ := hview.cellsAt h1 hcs
  exact ⟨_, by simp [execOp, ho, h2], h2 ▸ h1⟩

theorem pure_lenSlc {P : Program} {o : Oper} {s : St} {t : TypeId} {x : Operand} {e : TypeId} (sz tag N : Nat) (xs : List (List SC)) (ho : o.op = .call { callee := .builtin .len, args := #[x], argTypes := #[t] }) (hx : opd s x = some (.c (.slc sz tag N xs))) (hu : P.underlying t = some (.slice e)) : PureOp P o s (int .i64 N) := by
  intro g rd a w hview
  have h2 := hview.op _ _ (by simp [ho, Op.operands, Call.operands]) hx
  simp only [VRel, CRel, CRel0] at h2
  generalize hv : a.eval x = v at *
  obtain ⟨h2, _⟩ := h2
  cases h2 with
  | nil => exact ⟨_, by simp [execOp, ho, resolve, invoke, builtin, Builtin.len_, run_underlying hu, hv, goInt], lit_rel _ _ _⟩
  | slc b off n c' s xs f hn hnc hm hs hr hu' =>
    subst hn
    exact ⟨_, by simp [execOp, ho, resolve, invoke, builtin, Builtin.len_, run_underlying hu, hv, goInt], lit_rel _ _ _⟩

theorem pure_lenAny {P : Program} {o : Oper} {s : St} {t : TypeId} {x : Operand} {e : TypeId} {v : SV} (N : Nat) (ho : o.op = .call { callee := .builtin .len, args := #[x], argTypes := #[t] }) (_hx : opd s x = some v) (hu : P.underlying t = some (.slice e)) (hv : ∀ g rd a w, OView g rd a w s o → ∃ A c, a.eval x = .slice A N c) : PureOp P o s (int .i64 N) := by
  intro g rd a w hview
  obtain ⟨A, c, hv⟩ := hv g rd a w hview
  exact ⟨_, by simp [execOp, ho, resolve, invoke, builtin, Builtin.len_, run_underlying hu, hv, goInt], lit_rel _ _ _⟩
theorem pure_max {P : Program} {o : Oper} {s : St} {ts : Array TypeId} {x y : Operand} {k : IntKind} (m n : Int) (ho : o.op = .call { callee := .builtin .max, args := #[x, y], argTypes := ts }) (hx : opd s x = some (int k m)) (hy : opd s y = some (int k n)) : PureOp P o s (int k (if m < n then n else m)) := by
  intro g rd a w hview
  have h1 := rel_lit (hview.op _ _ (by simp [ho, Op.operands, Call.operands]) hx)
  have h2 := rel_lit (hview.op _ _ (by simp [ho, Op.operands, Call.operands]) hy)
  exact ⟨_, by simp [execOp, ho, resolve, invoke, builtin, Builtin.max_, Builtin.max2, h1, h2], lit_rel _ _ _⟩

theorem pure_min {P : Program} {o : Oper} {s : St} {ts : Array TypeId} {x y : Operand} {k : IntKind} (m n : Int) (ho : o.op = .call { callee := .builtin .min, args := #[x, y], argTypes := ts }) (hx : opd s x = some (int k m)) (hy : opd s y = some (int k n)) : PureOp P o s (int k (if n < m then n else m)) := by
  intro g rd a w hview
  have h1 := rel_lit (hview.op _ _ (by simp [ho, Op.operands, Call.operands]) hx)
  have h2 := rel_lit (hview.op _ _ (by simp [ho, Op.operands, Call.operands]) hy)
  exact ⟨_, by simp [execOp, ho, resolve, invoke, builtin, Builtin.min_, Builtin.min2, h1, h2], lit_rel _ _ _⟩

theorem pure_extract {P : Program} {o : Oper} {s : St} {x : Operand} {k : Nat} {v : SV} (vs : List (Bool × List SC)) (y : Bool × List SC) (ho : o.op = .extract x k) (hx : opd s x = some (.tup vs)) (hk : vs[k]? = some y) (hv : v = if y.1 then .agg y.2 else match y.2 with | z :: _ => .c z | [] => .agg []) : PureOp P o s v := by
  intro g rd a w hview
  have h2 := hview.op _ _ (by simp [ho, Op.operands]) hx
  simp only [VRel] at h2
  obtain ⟨us, h3, h4, h5⟩ := h2
  obtain ⟨u, h6, h7⟩ := h5 k y hk
  refine ⟨u, by simp [execOp, ho, h3, Instr.extract, h6], ?_⟩
  subst hv
  unfold FRel at h7
  split
  · rename_i hy; rw [if_pos hy] at h7; exact h7
  · rename_i hy; rw [if_neg hy] at h7
    obtain ⟨z, h8, h9⟩ := h7
    rw [h8]
    exact h9
def cellsOf : SV → Option (List SC)
  | .c (.lit (.agg _)) => none
  | .c .any => none
  | .c x => some [x]
  | .agg cs => some cs
  | .tup _ => none
theorem rel_cells {rd : Rd} {g : Env} {u : Value} {v : SV} {cs : List SC} (h : VRel rd g u v) (hc : cellsOf v = some cs) : CsRel rd g u.cells cs := by
  unfold cellsOf at hc
  split at hc
  · cases hc
  · cases hc
  · rename_i x hx hx'
    cases hc
    have : u.cells = #[u] := by
      unfold Value.cells
      split
      · rename_i vs
        exfalso
        simp only [VRel] at h
        cases x <;> simp only [CRel, CRel0] at h
        case lit => cases h; exact hx _ rfl
        case slc => cases h.1
        case ref => cases h
        case box => cases h
        case own => obtain ⟨h1, a, n, c, h2⟩ := h; rw [h2] at h1; cases h1
        case row => obtain ⟨a, n, c, h1, h2, _⟩ := h; cases h2
        case win => obtain ⟨a, c, h1, _⟩ := h; cases h1
        case sub => obtain ⟨_, _, _, _, _, _, _, h1, _⟩ := h; cases h1
        case elt => obtain ⟨_, _, _, _, h1⟩ := h; cases h1
        case any => exact hx' rfl
        case clo => obtain ⟨a, h1, _⟩ := h; cases h1
      · rfl
    rw [this]
    refine ⟨rfl, fun j y hy => ?_⟩
    cases j with
    | zero => cases hy; exact ⟨u, rfl, h⟩
    | succ j => simp at hy
  · cases hc
    simp only [VRel] at h
    obtain ⟨vs, rfl, h2⟩ := h
    exact h2
  · cases hc

/-! ### structs and arrays that are built -/
def fillS (place : Nat → Option (Nat × Nat)) (cells : List SC) : List (Nat × SV) → Option (List SC)
  | [] => some cells
  | (i, v) :: rest => match place i with
    | none => none
    | some (off, size) => match cellsOf v with
      | none => none
      | some vs => if vs.length ≠ size || off + vs.length > cells.length then none else fillS place (cells.take off ++ vs ++ cells.drop (off + vs.length)) rest

theorem foldl_set (off : Nat) : ∀ (l : List Value) (i : Nat) (cells : Array Value), let r := (l.zipIdx i).foldl (fun cs (p : Value × Nat) => cs.setIfInBounds (off + p.2) p.1) cells
    r.size = cells.size ∧ ∀ k, r[k]? = if off + i ≤ k ∧ k < off + i + l.length ∧ k < cells.size then l[k - (off + i)]? else cells[k]?
  | [], i, cells => by
    simp only [List.zipIdx_nil, List.foldl_nil, List.length_nil, true_and]
    intro k
    rw [if_neg (by omega)]
  | x :: l, i, cells => by
    have ih := foldl_set off l (i + 1) (cells.setIfInBounds (off + i) x)
    simp only [List.zipIdx_cons, List.foldl_cons] at ih ⊢
    refine ⟨by simpa using ih.1, fun k => ?_⟩
    rw [ih.2 k]
    simp only [Array.size_setIfInBounds, List.length_cons, Array.getElem?_setIfInBounds]
    by_cases h1 : k = off + i
    · subst h1
      rw [if_neg (by omega), if_pos rfl]
      by_cases h2 : off + i < cells.size
      · rw [if_pos h2, if_pos (by omega)]; simp
      · rw [if_neg h2, if_neg (by omega)]
        rw [Array.getElem?_eq_none (by omega)]
    · rw [if_neg (Ne.symm h1)]
      by_cases h2 : off + (i + 1) ≤ k ∧ k < off + (i + 1) + l.length ∧ k < cells.size
      · rw [if_pos h2, if_pos (by omega)]
        rw [show k - (off + i) = (k - (off + (i + 1))) + 1 by omega, List.getElem?_cons_succ]
      · rw [if_neg h2, if_neg (by omega)]

theorem fill_rel {rd : Rd} {g : Env} {place : Nat → Option (Nat × Nat)} : ∀ (ps : List (Nat × Value)) (qs : List (Nat × SV)) (cells : Array Value) (cs ds : List SC), ps.length = qs.length →
    (∀ (i : Nat) (p : Nat × Value) (q : Nat × SV), ps[i]? = some p → qs[i]? = some q → p.1 = q.1 ∧ VRel rd g p.2 q.2) → CsRel rd g cells cs → fillS place cs qs = some ds → ∃ r, Instr.fill place cells ps = some r ∧ CsRel rd g r ds
  | [], [], cells, cs, ds, _, _, hc, h => by
    cases h
    exact ⟨cells, rfl, hc⟩
  | (i, v) :: ps, (j, x) :: qs, cells, cs, ds, hl, hr, hc, h => by
    obtain ⟨rfl, hv⟩ := hr 0 _ _ rfl rfl
    simp only [fillS] at h
    simp only [Instr.fill]
    split at h
    · cases h
    · rename_i off size hp
      split at h
      · cases h
      · rename_i vs hvs
        split at h
        · cases h
        · rename_i hb
          simp only [Bool.or_eq_true, decide_eq_true_eq, not_or, Decidable.not_not, Nat.not_lt] at hb
          have hcv := rel_cells hv hvs
          simp only [hp]
          rw [if_neg (by simp only [Bool.or_eq_true, decide_eq_true_eq, not_or, Decidable.not_not, Nat.not_lt, hcv.1, hc.1]; exact hb)]
          have hf := foldl_set off v.cells.toList 0 cells
          simp only at hf
          have e : v.cells.zipIdx.foldl (fun cs x => cs.setIfInBounds (off + x.2) x.1) cells = (v.cells.toList.zipIdx 0).foldl (fun cs (p : Value × Nat) => cs.setIfInBounds (off + p.2) p.1) cells := by
            rw [← Array.foldl_toList, Array.toList_zipIdx]
          have e' : Array.foldl (fun cs (x : Value × Nat) => match x with | (c, j) => cs.setIfInBounds (off + j) c) cells v.cells.zipIdx = (v.cells.toList.zipIdx 0).foldl (fun cs (p : Value × Nat) => cs.setIfInBounds (off + p.2) p.1) cells := e
          rw [e']
          generalize (v.cells.toList.zipIdx 0).foldl (fun cs (p : Value × Nat) => cs.setIfInBounds (off + p.2) p.1) cells = r at hf ⊢
          refine fill_rel ps qs r _ ds (by simpa using hl) (fun k p q h1 h2 => hr (k + 1) p q h1 h2) ?_ h
          obtain ⟨f1, f2⟩ := hf
          have hlv : v.cells.toList.length = vs.length := by simpa using hcv.1
          refine ⟨by simp [f1, hc.1]; omega, fun k y hy => ?_⟩
          rw [f2 k, hlv, hc.1]
          simp only [Nat.add_zero]
          rw [List.append_assoc, List.getElem?_append] at hy
          simp only [List.length_take, Nat.min_eq_left (by omega : off ≤ cs.length)] at hy
          by_cases h1 : k < off
          · rw [if_pos h1, List.getElem?_take, if_pos h1] at hy
            rw [if_neg (by omega)]
            exact hc.2 k y hy
          · rw [if_neg h1, List.getElem?_append] at hy
            by_cases h2 : k - off < vs.length
            · rw [if_pos h2] at hy
              rw [if_pos (by omega)]
              obtain ⟨u, h3, h4⟩ := hcv.2 _ y hy
              exact ⟨u, by simpa using h3, h4⟩
            · rw [if_neg h2, List.getElem?_drop] at hy
              rw [if_neg (by omega)]
              rw [show off + vs.length + (k - off - vs.length) = k by omega] at hy
              exact hc.2 k y hy
  | [], _ :: _, _, _, _, hl, _, _, _ => by simp at hl
  | _ :: _, [], _, _, _, hl, _, _, _ => by simp at hl

def partsS (s : St) : List (Nat × Operand) → Option (List (Nat × SV))
  | [] => some []
  | (i, x) :: l => match opd s x, partsS s l with
    | some v, some r => some ((i, v) :: r)
    | _, _ => none
theorem partsS_spec {s : St} : ∀ (l : List (Nat × Operand)) (r : List (Nat × SV)), partsS s l = some r → l.length = r.length ∧ ∀ (i : Nat) (p : Nat × Operand) (q : Nat × SV), l[i]? = some p → r[i]? = some q → p.1 = q.1 ∧ opd s p.2 = some q.2
  | [], r, h => by cases h; exact ⟨rfl, fun i p q h1 => by simp at h1⟩
  | (i, x) :: l, r, h => by
    simp only [partsS] at h
    split at h
    · rename_i v r' hv hr
      cases h
      obtain ⟨h1, h2⟩ := partsS_spec l r' hr
      refine ⟨by simp [h1], fun k p q hp hq => ?_⟩
      cases k with
      | zero => cases hp; cases hq; exact ⟨rfl, hv⟩
      | succ k => exact h2 k p q hp hq
    · cases h

/-- where the parts of a struct or an array lie; its zero -/
def placeOf (P : Program) (t : TypeId) : Option ((Nat → Option (Nat × Nat)) × List SC) :=
  match P.info? t, P.underlying t with
  | some it, some (.array _ e) => match it.zero, P.info? e with
    | some z, some ie => some (fun i => some (i * ie.size, ie.size), z.cells.toList.map SC.lit)
    | _, _ => none
  | some it, some (.struct fields) => match it.zero, fields.toList.mapM (fun f => (P.info? f.type).map fun i => (f.offset, i.size)) with
    | some z, some places => some ((places.toArray[·]?), z.cells.toList.map SC.lit)
    | _, _ => none
  | _, _ => none
def buildS (P : Program) (s : St) (t : TypeId) (parts : List (Nat × Operand)) : Option SV := match placeOf P t, partsS s parts with
  | some (pl, z), some ps => match fillS pl z ps with
    | some cs => some (.agg cs)
    | none => none
  | _, _ => none
theorem lits_rel (rd : Rd) (g : Env) (vs : Array Value) : CsRel rd g vs (vs.toList.map SC.lit) := by
  refine ⟨by simp, fun j y hy => ?_⟩
  rw [List.getElem?_map] at hy
  obtain ⟨u, hu, rfl⟩ := Option.map_eq_some_iff.1 hy
  exact ⟨u, by simpa using hu, .lit u⟩
theorem parts_mem {parts : Array (Nat × Operand)} {i : Nat} {p : Nat × Operand} (h : parts.toList[i]? = some p) : p.2 ∈ (parts.toList.map (·.2)).toArray.toList := by
  simp only [List.mem_map]
  exact ⟨p, List.mem_of_getElem? h, rfl⟩
theorem parts_rel {g : Env} {rd : Rd} {a : Act} {w : World} {s : St} {o : Oper} (hv : OView g rd a w s o) {parts : Array (Nat × Operand)} {ps : List (Nat × SV)} (hps : partsS s parts.toList = some ps) (hm : ∀ (i : Nat) (p : Nat × Operand), parts.toList[i]? = some p → p.2 ∈ o.op.operands.toList) :
    ((parts.map fun (i, x) => (i, a.eval x)).toList).length = ps.length ∧ ∀ (i : Nat) (p : Nat × Value) (q : Nat × SV), ((parts.map fun (i, x) => (i, a.eval x)).toList)[i]? = some p → ps[i]? = some q → p.1 = q.1 ∧ VRel rd g p.2 q.2 := by
  obtain ⟨h1, h2⟩ := partsS_spec _ _ hps
  refine ⟨by simpa using h1, fun i p q hp hq => ?_⟩
  rw [Array.toList_map, List.getElem?_map] at hp
  obtain ⟨p0, hp0, rfl⟩ := Option.map_eq_some_iff.1 hp
  obtain ⟨h3, h4⟩ := h2 i p0 q hp0 hq
  exact ⟨h3, hv.op _ _ (hm i p0 hp0) h4⟩
theorem pure_build {P : Program} {o : Oper} {s : St} {v : SV} {t : TypeId} {parts : Array (Nat × Operand)} (ho : o.op = .build t parts) (hv : buildS P s t parts.toList = some v) : PureOp P o s v := by
  intro g rd a w hview
  unfold buildS at hv
  split at hv
  · rename_i pl z ps hpl hps
    split at hv
    · rename_i cs hcs
      cases hv
      obtain ⟨l1, l2⟩ := parts_rel hview hps (fun i p hp => by rw [ho]; simp only [Op.operands]; exact parts_mem hp)
      have key : ∀ zv : Array Value, zv.toList.map SC.lit = z → ∃ r, Instr.fill pl zv (parts.map fun (i, x) => (i, a.eval x)).toList = some r ∧ CsRel rd g r cs := fun zv hz => by
        subst hz
        exact fill_rel _ ps zv _ cs l1 l2 (lits_rel rd g zv) hcs
      have hb : ∃ r, P.built t (parts.map fun (i, x) => (i, a.eval x)).toList = some r ∧ CsRel rd g r cs := by
        unfold placeOf at hpl
        unfold Program.built
        cases hit : P.info? t with
        | none => simp [hit] at hpl
        | some it =>
          cases hu : P.underlying t with
          | none => simp [hit, hu] at hpl
          | some d =>
            cases d <;> simp only [hit, hu, reduceCtorEq] at hpl ⊢
            case array n e =>
              cases hz : it.zero with
              | none => simp [hz] at hpl
              | some zv =>
                cases hie : P.info? e with
                | none => simp [hz, hie] at hpl
                | some ie =>
                  simp only [hz, hie, Option.some.injEq, Prod.mk.injEq] at hpl ⊢
                  obtain ⟨rfl, h2⟩ := hpl
                  exact key _ h2
            case struct fs =>
              cases hz : it.zero with
              | none => simp [hz] at hpl
              | some zv =>
                cases hie : fs.toList.mapM (fun f => (P.info? f.type).map fun i => (f.offset, i.size)) with
                | none => simp [hz, hie] at hpl
                | some places =>
                  simp only [hz, hie, Option.some.injEq, Prod.mk.injEq] at hpl ⊢
                  obtain ⟨rfl, h2⟩ := hpl
                  exact key _ h2
      obtain ⟨r, hb1, hb2⟩ := hb
      exact ⟨.agg r, by simp [execOp, ho, run_build w t _ _ hb1], r, rfl, hb2⟩
    · cases hv
  · cases hv
def eqF (P : Program) (rec : TypeId → List SC → List SC → Option Bool) : List Field → List SC → List SC → Option Bool
  | [], _, _ => some true
  | f :: fs, cs, ds => if f.name = "_" then none else match P.info? f.type with
    | none => none
    | some i => if i.size ≤ (cs.drop f.offset).length ∧ i.size ≤ (ds.drop f.offset).length ∧ 0 < i.size ∧ (aggT P f.type = false → i.size = 1) then
        match rec f.type ((cs.drop f.offset).take i.size) ((ds.drop f.offset).take i.size), eqF P rec fs cs ds with
        | some a, some b => some (a && b)
        | _, _ => none
      else none
def eqI (P : Program) (rec : TypeId → List SC → List SC → Option Bool) (e : TypeId) (c : Nat) : List Nat → List SC → List SC → Option Bool
  | [], _, _ => some true
  | j :: js, cs, ds => if c ≤ (cs.drop (j * c)).length ∧ c ≤ (ds.drop (j * c)).length ∧ 0 < c ∧ (aggT P e = false → c = 1) then
      match rec e ((cs.drop (j * c)).take c) ((ds.drop (j * c)).take c), eqI P rec e c js cs ds with
      | some a, some b => some (a && b)
      | _, _ => none
    else none
/-- equality of values that hold numbers and bools alone, by their type -/
def eqT (P : Program) : Nat → TypeId → List SC → List SC → Option Bool
  | 0, _, _, _ => none
  | d + 1, t, cs, ds => match P.underlying t with
    | some .bool => match cs, ds with
      | .lit (.bool a) :: _, .lit (.bool b) :: _ => some (a == b)
      | _, _ => none
    | some (.int _) => match cs, ds with
      | .lit (.int k a) :: _, .lit (.int k' b) :: _ => if k = k' then some (a == b) else none
      | _, _ => none
    | some (.struct fs) => if P.stoodInHeld t then none else eqF P (eqT P d) fs.toList cs ds
    | some (.array n e) => match P.info? e with
      | some i => eqI P (eqT P d) e i.size (List.range n) cs ds
      | none => none
    | _ => none

/-- a value of a type, with these cells -/
def Formed (P : Program) (rd : Rd) (g : Env) (t : TypeId) (x : Value) (cs : List SC) : Prop :=
  if aggT P t then ∃ xs, x = .agg xs ∧ CsRel rd g xs cs else ∃ c, cs = [c] ∧ CRel rd g x c

theorem run_part_sh {P : Program} {w : World} {rd : Rd} {g : Env} {t : TypeId} {d : TypeDesc} {i : TypeInfo} {xs : Array Value} {cs : List SC} {off : Nat} (hd : P.underlying t = some d) (hi : P.info? t = some i) (h1 : aggT P t = false → i.size = 1) (hsz : i.size ≤ (cs.drop off).length) (h0 : 0 < i.size) (h : CsRel rd g xs cs) :
    ∃ a, (part t xs off).run P w = .ok a w ∧ Formed P rd g t a ((cs.drop off).take i.size) := by
  simp only [List.length_drop] at hsz
  unfold Formed
  by_cases hagg : aggT P t = true
  · have hisagg : (isAgg t).run P w = .ok true w := by
      unfold aggT at hagg
      rw [hd] at hagg
      cases d <;> simp only [Bool.false_eq_true] at hagg <;> simp [isAgg, run_underlying hd]
    refine ⟨.agg (xs.extract off (off + i.size)), by simp [part, hisagg, sizeOf, typeInfo, hi], ?_⟩
    rw [if_pos hagg]
    refine ⟨_, rfl, by have := h.1; simp; omega, fun j y hy => ?_⟩
    rw [List.getElem?_take] at hy
    split at hy
    · rename_i hj
      rw [List.getElem?_drop] at hy
      obtain ⟨u, h2, h3⟩ := h.2 _ y hy
      refine ⟨u, ?_, h3⟩
      have := h.1
      rw [Array.getElem?_extract, if_pos (by omega)]
      exact h2
    · cases hy
  · have hagg' : aggT P t = false := by simpa using hagg
    have hisagg : (isAgg t).run P w = .ok false w := by
      unfold aggT at hagg
      rw [hd] at hagg
      cases d <;> simp only [not_true_eq_false] at hagg <;> simp [isAgg, run_underlying hd]
    have hs := h1 hagg'
    obtain ⟨u, h2, h3⟩ := h.2 off cs[off] (List.getElem?_eq_getElem (by omega))
    refine ⟨u, by simp [part, hisagg, h2], ?_⟩
    rw [if_neg hagg, hs]
    refine ⟨cs[off], ?_, h3⟩
    rw [List.drop_eq_getElem_cons (by omega)]
    rfl

theorem eqT_run {P : Program} {rd : Rd} {g : Env} : ∀ (d : Nat) (t : TypeId) (x y : Value) (cs ds : List SC) (r : Bool) (dd : Nat) (w : World), d ≤ dd → Formed P rd g t x cs → Formed P rd g t y ds → eqT P d t cs ds = some r → (Op.equalIn dd t x y).run P w = .ok r w
  | 0, _, _, _, _, _, _, _, _, _, _, _, h => by cases h
  | d + 1, t, x, y, cs, ds, r, 0, w, hdd, hx, hy, h => by omega
  | d + 1, t, x, y, cs, ds, r, dd + 1, w, hdd, hx, hy, h => by
    unfold eqT at h
    split at h
    · rename_i hu
      have hagg : aggT P t = false := by simp [aggT, hu]
      unfold Formed at hx hy
      rw [if_neg (by simp [hagg])] at hx hy
      obtain ⟨c, rfl, hx⟩ := hx
      obtain ⟨c', rfl, hy⟩ := hy
      split at h
      · rename_i h1 h2
        cases h1; cases h2; cases h
        cases hx; cases hy
        exact run_equalIn_bool w dd t _ _ hu
      · cases h
    · rename_i k0 hu
      have hagg : aggT P t = false := by simp [aggT, hu]
      unfold Formed at hx hy
      rw [if_neg (by simp [hagg])] at hx hy
      obtain ⟨c, rfl, hx⟩ := hx
      obtain ⟨c', rfl, hy⟩ := hy
      split at h
      · rename_i h1 h2
        split at h
        · rename_i hk
          cases h1; cases h2; cases h
          subst hk
          cases hx; cases hy
          exact run_equalIn_int w dd t _ k0 _ _ hu
        · cases h
      · cases h
    · rename_i fs hu
      have hagg : aggT P t = true := by simp [aggT, hu]
      unfold Formed at hx hy
      rw [if_pos hagg] at hx hy
      obtain ⟨xs, rfl, hx⟩ := hx
      obtain ⟨ys, rfl, hy⟩ := hy
      split at h
      · cases h
      · rename_i hst
        have hf : P.fieldsOf t = fs := by simp [Program.fieldsOf, hu]
        rw [run_equalIn_struct w dd t xs ys (by rw [hf]; exact hu) (by simpa using hst), hf]
        clear hu hf
        generalize fs.toList = l at h
        induction l generalizing r with
        | nil => cases h; simp [Op.eqFields]
        | cons f l ih =>
          simp only [eqF] at h
          split at h
          · cases h
          · rename_i hn
            split at h
            · cases h
            · rename_i i hi
              split at h
              · rename_i hc
                split at h
                · rename_i a b ha hb
                  cases h
                  have hd' : ∃ dsc, P.underlying f.type = some dsc := by
                    cases hu : P.underlying f.type with
                    | some dsc => exact ⟨dsc, rfl⟩
                    | none =>
                      exfalso
                      cases d with
                      | zero => cases ha
                      | succ d => simp [eqT, hu] at ha
                  obtain ⟨dsc, hdsc⟩ := hd'
                  obtain ⟨u1, p1, f1⟩ := run_part_sh (w := w) hdsc hi hc.2.2.2 hc.1 hc.2.2.1 hx
                  obtain ⟨u2, p2, f2⟩ := run_part_sh (w := w) hdsc hi hc.2.2.2 hc.2.1 hc.2.2.1 hy
                  have e1 := eqT_run d f.type u1 u2 _ _ a dd w (by omega) f1 f2 ha
                  have e2 := ih b hb
                  simp only [Op.eqFields, ne_eq, hn, not_false_eq_true, if_true, Sem.run_bind, p1, p2, e1, Result.andThen_ok]
                  cases a
                  · simp
                  · simpa using e2
                · cases h
              · cases h
    · rename_i n e hu
      have hagg : aggT P t = true := by simp [aggT, hu]
      unfold Formed at hx hy
      rw [if_pos hagg] at hx hy
      obtain ⟨xs, rfl, hx⟩ := hx
      obtain ⟨ys, rfl, hy⟩ := hy
      split at h
      · rename_i i hi
        rw [run_equalIn_array w dd xs ys hu hi]
        have hco : P.cellsOf e = i.size := by simp [Program.cellsOf, hi]
        rw [hco]
        clear hu
        generalize List.range n = l at h
        induction l generalizing r with
        | nil => cases h; simp [Op.eqItems]
        | cons j l ih =>
          simp only [eqI] at h
          split at h
          · rename_i hc
            split at h
            · rename_i a b ha hb
              cases h
              have hd' : ∃ dsc, P.underlying e = some dsc := by
                cases hu : P.underlying e with
                | some dsc => exact ⟨dsc, rfl⟩
                | none =>
                  exfalso
                  cases d with
                  | zero => cases ha
                  | succ d => simp [eqT, hu] at ha
              obtain ⟨dsc, hdsc⟩ := hd'
              obtain ⟨u1, p1, f1⟩ := run_part_sh (w := w) hdsc hi hc.2.2.2 hc.1 hc.2.2.1 hx
              obtain ⟨u2, p2, f2⟩ := run_part_sh (w := w) hdsc hi hc.2.2.2 hc.2.1 hc.2.2.1 hy
              have e1 := eqT_run d e u1 u2 _ _ a dd w (by omega) f1 f2 ha
              have e2 := ih b hb
              simp only [Op.eqItems, Sem.run_bind, p1, p2, e1, Result.andThen_ok]
              cases a
              · simp
              · simpa using e2
            · cases h
          · cases h
      · cases h
    · cases h

theorem pure_agg {P : Program} {o : Oper} {s : St} {op : BinOp} {t t' : TypeId} {x y : Operand} {v : SV} (cs ds : List SC) (r : Bool) (ho : o.op = .binOp op t x y t') (hx : opd s x = some (.agg cs)) (hy : opd s y = some (.agg ds)) (hg : P.eqGuardType P.depth t = false) (hagg : aggT P t = true)
    (h : eqT P 40 t cs ds = some r) (hv : (op = .eql ∧ v = bool r) ∨ (op = .neq ∧ v = bool !r)) : PureOp P o s v := by
  intro g rd a w hview
  have h1 := hview.op _ _ (by simp [ho, Op.operands]) hx
  have h2 := hview.op _ _ (by simp [ho, Op.operands]) hy
  obtain ⟨xs, hx1, hx2⟩ := h1
  obtain ⟨ys, hy1, hy2⟩ := h2
  have he := eqT_run (rd := rd) (g := g) 40 t (.agg xs) (.agg ys) cs ds r 10000 w (by decide) (by unfold Formed; rw [if_pos hagg]; exact ⟨xs, rfl, hx2⟩) (by unfold Formed; rw [if_pos hagg]; exact ⟨ys, rfl, hy2⟩) h
  rcases hv with ⟨rfl, rfl⟩ | ⟨rfl, rfl⟩
  · refine ⟨.bool r, ?_, lit_rel _ _ _⟩
    simp only [execOp, ho, hx1, hy1, Sem.run_bind, run_eqGuard_agg w .eql t x y xs ys hg, Result.andThen_ok, run_eql_struct, he, Sem.run_pure]
  · refine ⟨.bool (!r), ?_, lit_rel _ _ _⟩
    simp only [execOp, ho, hx1, hy1, Sem.run_bind, run_eqGuard_agg w .neq t x y xs ys hg, Result.andThen_ok, run_neq_struct, he, Sem.run_pure]
def binS (P : Program) (op : BinOp) (t : TypeId) : SV → SV → Option SV
  | .c (.lit (.int k m)), .c (.lit (.int k' n)) => match op with
    | .shl => if decide (0 ≤ n) then some (int k (ishl k m n)) else none
    | .shr => if decide (0 ≤ n) then some (int k (ishr k m n)) else none
    | .quo => if k' = k then (if decide (n ≠ 0) then some (int k (iquo k m n)) else none) else none
    | .rem => if k' = k then (if decide (n ≠ 0) then some (int k (m.tmod n)) else none) else none
    | op => if k' = k then intBin op k m n else none
  | .c (.lit (.bool m)), .c (.lit (.bool n)) => match P.underlying t with
    | some .bool => match op with
      | .eql => some (bool (m == n))
      | .neq => some (bool !(m == n))
      | _ => none
    | _ => none
  | .agg cs, .agg ds => if aggT P t && !(P.eqGuardType P.depth t) then match eqT P 40 t cs ds with
      | some r => match op with
        | .eql => some (bool r)
        | .neq => some (bool !r)
        | _ => none
      | none => none
    else none
  | _, _ => none
theorem binS_ok {P : Program} {o : Oper} {s : St} {v a b : SV} {op : BinOp} {t t' : TypeId} {x y : Operand} (ho : o.op = .binOp op t x y t') (hx : opd s x = some a) (hy : opd s y = some b) (h : binS P op t a b = some v) : PureOp P o s v := by
  unfold binS at h
  split at h
  · rename_i k m k' n
    split at h
    · split at h
      · rename_i hn; cases h
        exact pure_intC m n (.inl rfl) ho hx hy rfl (of_decide_eq_true hn)
      · cases h
    · split at h
      · rename_i hn; cases h
        exact pure_intC m n (.inr (.inl rfl)) ho hx hy rfl (of_decide_eq_true hn)
      · cases h
    · split at h
      · rename_i hk
        split at h
        · rename_i hn; cases h
          exact pure_intC m n (.inr (.inr hk)) ho hx hy rfl (of_decide_eq_true hn)
        · cases h
      · cases h
    · split at h
      · rename_i hk
        split at h
        · rename_i hn; cases h
          exact pure_intC m n (.inr (.inr hk)) ho hx hy rfl (of_decide_eq_true hn)
        · cases h
      · cases h
    · split at h
      · rename_i hk
        subst hk
        exact pure_int m n ho hx hy h
      · cases h
  · rename_i m n
    split at h
    · rename_i hu
      split at h
      · cases h; exact pure_boolEq m n _ ho hx hy hu (.inl ⟨rfl, rfl⟩)
      · cases h; exact pure_boolEq m n _ ho hx hy hu (.inr ⟨rfl, rfl⟩)
      · cases h
    · cases h
  · rename_i cs ds
    split at h
    · rename_i hc
      simp only [Bool.and_eq_true, Bool.not_eq_true'] at hc
      split at h
      · rename_i r hr
        split at h
        · cases h; exact pure_agg cs ds r ho hx hy hc.2 hc.1 hr (.inl ⟨rfl, rfl⟩)
        · cases h; exact pure_agg cs ds r ho hx hy hc.2 hc.1 hr (.inr ⟨rfl, rfl⟩)
        · cases h
      · cases h
    · cases h
  · cases h

/-- the length of a slice -/
def lenS (s : St) : SV → Option Nat
  | .c (.slc _ _ N _) => some N
  | .c (.lit (.slice none 0 0)) => some 0
  | .c (.own d) => match look s.hp d with
    | some (.row _ _ n _) => some n
    | _ => none
  | .c (.row _ n) => some n
  | .c (.win _ _ n) => some n
  | .c (.sub _ _ _ n) => some n
  | _ => none
theorem lenS_rel {s : St} {v : SV} {N : Nat} (h : lenS s v = some N) {g : Env} {rd : Rd} {a : Act} {w : World} {o : Oper} (hv : OView g rd a w s o) {u : Value} (hu : VRel rd g u v) : ∃ A c, u = .slice A N c := by
  unfold lenS at h
  split at h
  · cases h
    obtain ⟨h1, _⟩ := hu
    cases h1 with
    | nil => exact ⟨_, _, rfl⟩
    | slc => exact ⟨_, _, rfl⟩
  · cases h
    exact ⟨_, _, rel_lit hu⟩
  · rename_i d
    split at h
    · rename_i e sz n xs hl
      cases h
      obtain ⟨rfl, _⟩ := hu
      obtain ⟨us, h1, _⟩ := hv.holds d _ hl
      rcases h1.2 with ⟨h2, h3⟩ | ⟨gb, cap, cur, h2, _⟩
      · rw [h2, h3]; exact ⟨_, _, rfl⟩
      · exact ⟨_, _, h2⟩
    · cases h
  · cases h
    obtain ⟨A, N', c, _, h2, _⟩ := hu
    exact ⟨_, _, h2⟩
  · cases h
    obtain ⟨A, c, h2, _⟩ := hu
    exact ⟨_, _, h2⟩
  · cases h
    obtain ⟨_, _, _, _, _, _, _, h2, _⟩ := hu
    exact ⟨_, _, h2⟩
  · cases h
def callS (P : Program) (s : St) (c : Call) : Option SV := match c.callee with
  | .builtin .len => match c.args.toList, c.argTypes.toList with
    | [x], [t] => match opd s x, P.underlying t with
      | some v, some (.slice _) => match lenS s v with
        | some N => some (int .i64 N)
        | none => none
      | _, _ => none
    | _, _ => none
  | .builtin .min => match c.args.toList with
    | [x, y] => match opd s x, opd s y with
      | some (.c (.lit (.int k m))), some (.c (.lit (.int k' n))) => if k' = k then some (int k (if n < m then n else m)) else none
      | _, _ => none
    | _ => none
  | .builtin .max => match c.args.toList with
    | [x, y] => match opd s x, opd s y with
      | some (.c (.lit (.int k m))), some (.c (.lit (.int k' n))) => if k' = k then some (int k (if m < n then n else m)) else none
      | _, _ => none
    | _ => none
  | _ => none
theorem callS_ok {P : Program} {o : Oper} {s : St} {v : SV} {c : Call} (ho : o.op = .call c) (h : callS P s c = some v) : PureOp P o s v := by
  obtain ⟨callee, args, ts⟩ := c
  unfold callS at h
  simp only at h
  split at h
  · split at h
    · rename_i x t ha ht
      have ha' : args = #[x] := by rw [← Array.toArray_toList (xs := args), ha]
      have ht' : ts = #[t] := by rw [← Array.toArray_toList (xs := ts), ht]
      subst ha' ht'
      split at h
      · rename_i v' e hx hu
        split at h
        · rename_i N hN
          cases h
          exact pure_lenAny N ho hx hu (fun g rd a w hv => lenS_rel hN hv (hv.op _ _ (by simp [ho, Op.operands, Call.operands]) hx))
        · cases h
      · cases h
    · cases h
  · split at h
    · rename_i x y ha
      have ha' : args = #[x, y] := by rw [← Array.toArray_toList (xs := args), ha]
      subst ha'
      split at h
      · rename_i k m k' n hx hy
        split at h
        · rename_i hk; subst hk; cases h; exact pure_min m n ho hx hy
        · cases h
      · cases h
    · cases h
  · split at h
    · rename_i x y ha
      have ha' : args = #[x, y] := by rw [← Array.toArray_toList (xs := args), ha]
      subst ha'
      split at h
      · rename_i k m k' n hx hy
        split at h
        · rename_i hk; subst hk; cases h; exact pure_max m n ho hx hy
        · cases h
      · cases h
    · cases h
  · cases h
theorem part_rel {P : Program} {w : World} {rd : Rd} {g : Env} {t : TypeId} {cs : List SC} {vs : Array Value} {off : Nat} {v : SV} (hw : wrapT P t (cs.drop off) = some v) (h : CsRel rd g vs cs) : ∃ u, (part t vs off).run P w = .ok u w ∧ VRel rd g u v := by
  unfold wrapT at hw
  split at hw
  rotate_left
  · cases hw
  rename_i d i hd hi
  split at hw
  · rename_i hagg
    split at hw
    · rename_i hsz
      cases hw
      have hia : (isAgg t).run P w = .ok true w := by
        unfold aggT at hagg
        rw [hd] at hagg
        cases d <;> simp_all [isAgg, run_underlying hd]
      refine ⟨.agg (vs.extract off (off + i.size)), by simp [part, hia, sizeOf, typeInfo, hi], _, rfl, ?_, fun j y hy => ?_⟩
      · rw [List.length_take, Array.size_extract, h.1]
        rw [List.length_drop] at hsz ⊢
        omega
      · rw [List.getElem?_take] at hy
        split at hy
        · rename_i hj
          rw [List.getElem?_drop] at hy
          obtain ⟨u, h1, h2⟩ := h.2 _ y hy
          refine ⟨u, ?_, h2⟩
          rw [Array.getElem?_extract, if_pos]
          · exact h1
          · rw [List.length_drop] at hsz
            have := h.1
            omega
        · cases hy
    · cases hw
  · rename_i hagg
    split at hw
    · rename_i x rest hc
      cases hw
      have hia : (isAgg t).run P w = .ok false w := by
        unfold aggT at hagg
        rw [hd] at hagg
        cases d <;> simp_all [isAgg, run_underlying hd]
      have hx : cs[off]? = some x := by
        have := congrArg (fun l : List SC => l[0]?) hc
        simpa [List.getElem?_drop] using this
      obtain ⟨u, h1, h2⟩ := h.2 off x hx
      exact ⟨u, by simp [part, hia, h1], h2⟩
    · cases hw
theorem pure_field {P : Program} {o : Oper} {s : St} {v : SV} {t : TypeId} {x : Operand} {k : Nat} {cs : List SC} {fs : Array Field} {f : Field} (ho : o.op = .field t x k) (hx : opd s x = some (.agg cs)) (hu : P.underlying t = some (.struct fs)) (hf : fs[k]? = some f) (h : wrapT P f.type (cs.drop f.offset) = some v) : PureOp P o s v := by
  intro g rd A w hview
  obtain ⟨vs, h1, h2⟩ := hview.op x _ (by simp [ho, Op.operands]) hx
  obtain ⟨u, h3, h4⟩ := part_rel (w := w) h h2
  exact ⟨u, by simp [execOp, ho, h1, Instr.field, run_underlying hu, hf, asAgg, h3], h4⟩
def sop (P : Program) (s : St) : Op → Option SV
  | .move x => opd s x
  | .assign x => opd s x
  | .pick c x y => match opd s c with
    | some (.c (.lit (.bool true))) => opd s x
    | some (.c (.lit (.bool false))) => opd s y
    | _ => none
  | .binOp op t x y _ => match opd s x, opd s y with
    | some a, some b => binS P op t a b
    | _, _ => none
  | .unOp op _ x => match opd s x with
    | some a => unSV op a
    | none => none
  | .convert t t' x => match opd s x, P.underlying t, P.underlying t' with
    | some (.c (.lit (.int k n))), some (.int k0), some (.int k') => if k0 = k then some (int k' (k'.wrap n)) else none
    | _, _, _ => none
  | .load t x => match opd s x with
    | some p => match cellsAt s p with
      | some cs => wrapT P t cs
      | none => none
    | none => none
  | .fieldAddr t x k => match opd s x, fieldOf P t k with
    | some p, some n => shift n p
    | _, _ => none
  | .indexAddr t x y => match opd s x, opd s y, P.underlying t with
    | some p, some (.c (.lit (.int _ i))), some (.array m e) => match P.info? e with
      | some ie => if decide (0 ≤ i ∧ i < m) then shift (i.toNat * ie.size) p else none
      | none => none
    | _, _, _ => none
  | .nilCheck x => match opd s x with
    | some v => if (cellsAt s v).isSome then some v else none
    | none => none
  | .call c => callS P s c
  | .extract x k => match opd s x with
    | some (.tup vs) => match vs[k]? with
      | some (true, cs) => some (.agg cs)
      | some (false, z :: _) => some (.c z)
      | _ => none
    | _ => none
  | .build t parts => buildS P s t parts.toList
  | .field t x k => match opd s x, P.underlying t with
    | some (.agg cs), some (.struct fs) => match fs[k]? with
      | some f => wrapT P f.type (cs.drop f.offset)
      | none => none
    | _, _ => none
  | _ => none

theorem sop_ok {P : Program} {o : Oper} {s : St} {v : SV} (h : sop P s o.op = some v) : PureOp P o s v := by
  unfold sop at h
  split at h
  · rename_i x ho; exact pure_move (.inl ho) h
  · rename_i x ho; exact pure_move (.inr ho) h
  · rename_i c x y ho
    split at h
    · rename_i hc; exact pure_pick true ho hc h
    · rename_i hc; exact pure_pick false ho hc h
    · cases h
  · rename_i op t x y t' ho
    split at h
    · rename_i a b hx hy; exact binS_ok ho hx hy h
    · cases h
  · rename_i op t x ho
    split at h
    · rename_i a hx; exact pure_un ho hx h
    · cases h
  · rename_i t t' x ho
    split at h
    · rename_i k n k0 k' hx h1 h2
      split at h
      · rename_i hk; subst hk; cases h; exact pure_conv k' n ho hx h1 h2
      · cases h
    · cases h
  · rename_i t x ho
    split at h
    · rename_i p hx
      split at h
      · rename_i cs hcs; exact pure_load ho hx hcs h
      · cases h
    · cases h
  · rename_i t x k ho
    split at h
    · rename_i p n hx hn; exact pure_fieldAddr ho hx hn h
    · cases h
  · rename_i t x y ho
    split at h
    · rename_i p k i m e hx hy hu
      split at h
      · rename_i ie hie
        split at h
        · rename_i hi
          have hi' := of_decide_eq_true hi
          exact pure_indexArr m ie.size i _ ho hx hy hu (by rw [hie]; rfl) hi'.1 hi'.2 rfl h
        · cases h
      · cases h
    · cases h
  · rename_i x ho
    split at h
    · rename_i u hx
      split at h
      · rename_i hc; cases h; exact pure_nilCheck ho hx hc
      · cases h
    · cases h
  · rename_i c ho; exact callS_ok ho h
  · rename_i x k ho
    split at h
    · rename_i vs hx
      split at h
      · rename_i cs hk; cases h; exact pure_extract vs _ ho hx hk (by simp)
      · rename_i z zs hk; cases h; exact pure_extract vs _ ho hx hk (by simp)
      · cases h
    · cases h
  · rename_i t parts ho; exact pure_build ho h
  · rename_i t x k ho
    split at h
    · rename_i cs fs hx hu
      split at h
      · rename_i f hf; exact pure_field ho hx hu hf h
      · cases h
    · cases h
  · cases h

end Go.Proofs.Ytohfnlkjdjmipaa
