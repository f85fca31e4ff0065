/-
  SHADOWS: the operations that only compute or read.
-/
import Derived.Test.YtohhaibbbnobpaaSh1
import Derived.Laws.Cells
import Derived.Laws.Entries
import Derived.Laws.Small
import Derived.DeepKeys
namespace Go.Proofs.Ytohhaibbbnobpaa
open Go.RowKit

/-- what one operation sees -/
structure OView (g : Env) (rd : Rd) (a : Act) (w : World) (s : St) (o : Oper) : Prop where
  op : ∀ x v, x ∈ o.op.operands.toList → opd s x = some v → VRel rd g (a.eval x) v
  reads : ∀ b o v, rd b o = some v → w.cell? ⟨b, o, none⟩ = some v
  box : ∀ d cs, look s.hp.boxes d = some cs → ∀ j y, cs[j]? = some y → ∃ u, w.cell? ⟨(g.pos d).1, (g.pos d).2 + j, none⟩ = some u ∧ CRel rd g u y
theorem View.o {g : Env} {rd : Rd} {a : Act} {w : World} {s : St} (h : View g rd a w s) (o : Oper) : OView g rd a w s o := ⟨fun _ _ _ hx => h.opd hx, h.reads, h.box⟩
def PureOp (P : Program) (o : Oper) (s : St) (v : SV) : Prop :=
  ∀ g rd a w, OView g rd a w s o → ∃ u, (execOp a.eval o).run P w = .ok (.value u) w ∧ VRel rd g u v

theorem addr_add (b o n : Nat) : (⟨b, o, none⟩ : Addr).add n = ⟨b, o + n, none⟩ := by
  unfold Addr.add
  split
  · rename_i h; subst h; rfl
  · rfl

def int (k : IntKind) (n : Int) : SV := .c (.lit (.int k n))
def bool (b : Bool) : SV := .c (.lit (.bool b))

theorem rel_lit {rd : Rd} {g : Env} {u v : Value} (h : VRel rd g u (.c (.lit v))) : u = v := by
  simp only [VRel, CRel] at h
  cases h
  rfl
theorem lit_rel (rd : Rd) (g : Env) (v : Value) : VRel rd g v (.c (.lit v)) := IRel.lit v

/-! ### moving -/
theorem pure_move {P : Program} {o : Oper} {s : St} {v : SV} {x : Operand} (ho : o.op = .move x ∨ o.op = .assign x) (hx : opd s x = some v) : PureOp P o s v := by
  intro g rd a w hv
  rcases ho with ho | ho <;> exact ⟨a.eval x, by simp [execOp, ho], hv.op _ _ (by simp [ho, Op.operands]) hx⟩
theorem pure_pick {P : Program} {o : Oper} {s : St} {v : SV} {c x y : Operand} (b : Bool) (ho : o.op = .pick c x y) (hc : opd s c = some (bool b)) (hx : opd s (if b then x else y) = some v) : PureOp P o s v := by
  intro g rd a w hv
  have h1 := rel_lit (hv.op _ _ (by simp [ho, Op.operands]) hc)
  refine ⟨a.eval (if b then x else y), ?_, hv.op _ _ (by cases b <;> simp [ho, Op.operands]) hx⟩
  simp only [execOp, ho, h1, asBool]
  cases b <;> simp

/-! ### numbers -/
def iand (k : IntKind) (x y : Int) : Int := k.wrap ((BitVec.ofInt k.bits x &&& BitVec.ofInt k.bits y).toNat : Int)
def ior (k : IntKind) (x y : Int) : Int := k.wrap ((BitVec.ofInt k.bits x ||| BitVec.ofInt k.bits y).toNat : Int)
def ixor (k : IntKind) (x y : Int) : Int := k.wrap ((BitVec.ofInt k.bits x ^^^ BitVec.ofInt k.bits y).toNat : Int)
def iandNot (k : IntKind) (x y : Int) : Int := k.wrap ((BitVec.ofInt k.bits x &&& ~~~ BitVec.ofInt k.bits y).toNat : Int)
def ishl (k : IntKind) (x y : Int) : Int := k.wrap (x * 2 ^ min y.toNat k.bits)
def ishr (k : IntKind) (x y : Int) : Int := x.fdiv (2 ^ min y.toNat k.bits)
def iquo (k : IntKind) (x y : Int) : Int := k.wrap (x.tdiv y)

def intBin (op : BinOp) (k : IntKind) (x y : Int) : Option SV := match op with
  | .add => some (int k (k.wrap (x + y)))
  | .sub => some (int k (k.wrap (x - y)))
  | .mul => some (int k (k.wrap (x * y)))
  | .and => some (int k (iand k x y))
  | .or => some (int k (ior k x y))
  | .xor => some (int k (ixor k x y))
  | .andNot => some (int k (iandNot k x y))
  | .eql => some (bool (x == y))
  | .neq => some (bool (x != y))
  | .lss => some (bool (decide (x < y)))
  | .leq => some (bool (decide (x ≤ y)))
  | .gtr => some (bool (decide (x > y)))
  | .geq => some (bool (decide (x ≥ y)))
  | _ => none

theorem eqGuard_int {P : Program} {w : World} (op : BinOp) (t : TypeId) (x y : Operand) (k k' : IntKind) (a b : Int) : (eqGuard op t x y (.int k a) (.int k' b)).run P w = .ok () w := by
  unfold eqGuard
  split <;> simp

theorem pure_int {P : Program} {o : Oper} {s : St} {v : SV} {op : BinOp} {t t' : TypeId} {x y : Operand} {k : IntKind} (m n : Int) (ho : o.op = .binOp op t x y t') (hx : opd s x = some (int k m)) (hy : opd s y = some (int k n)) (hv : intBin op k m n = some v) : PureOp P o s v := by
  intro g rd a w hview
  have h1 := rel_lit (hview.op _ _ (by simp [ho, Op.operands, Call.operands]) hx)
  have h2 := rel_lit (hview.op _ _ (by simp [ho, Op.operands, Call.operands]) hy)
  cases op <;> simp only [intBin, reduceCtorEq] at hv
  all_goals
    obtain rfl := Option.some.inj hv
    refine ⟨_, ?_, lit_rel _ _ _⟩
    simp [execOp, ho, h1, h2, eqGuard_int, Go.binOp, Op.intArith, Op.intBits, Op.intCmp, iand, ior, ixor, iandNot]

def intBinC (op : BinOp) (k : IntKind) (x y : Int) : Option (SV × Prop) := match op with
  | .quo => some (int k (iquo k x y), y ≠ 0)
  | .rem => some (int k (x.tmod y), y ≠ 0)
  | .shl => some (int k (ishl k x y), 0 ≤ y)
  | .shr => some (int k (ishr k x y), 0 ≤ y)
  | _ => none
theorem pure_intC {P : Program} {o : Oper} {s : St} {v : SV} {p : Prop} {op : BinOp} {t t' : TypeId} {x y : Operand} {k k' : IntKind} (m n : Int) (hk : op = .shl ∨ op = .shr ∨ k' = k) (ho : o.op = .binOp op t x y t') (hx : opd s x = some (int k m)) (hy : opd s y = some (int k' n)) (hv : intBinC op k m n = some (v, p)) (hp : p) : PureOp P o s v := by
  intro g rd a w hview
  have h1 := rel_lit (hview.op _ _ (by simp [ho, Op.operands, Call.operands]) hx)
  have h2 := rel_lit (hview.op _ _ (by simp [ho, Op.operands, Call.operands]) hy)
  cases op <;> simp only [intBinC, reduceCtorEq] at hv
  all_goals
    obtain ⟨rfl, rfl⟩ := Prod.mk.inj (Option.some.inj hv)
    refine ⟨_, ?_, lit_rel _ _ _⟩
  case quo => obtain rfl : k' = k := by simpa using hk
              simp [execOp, ho, h1, h2, eqGuard_int, Go.binOp, Op.intDiv, iquo, hp]
  case rem => obtain rfl : k' = k := by simpa using hk
              simp [execOp, ho, h1, h2, eqGuard_int, Go.binOp, Op.intDiv, hp]
  case shl => simp [execOp, ho, h1, h2, eqGuard_int, Go.binOp, Op.shift, ishl, Int.not_lt.2 hp]
  case shr => simp [execOp, ho, h1, h2, eqGuard_int, Go.binOp, Op.shift, ishr, Int.not_lt.2 hp]

/-- == and != of bools -/
theorem pure_boolEq {P : Program} {o : Oper} {s : St} {op : BinOp} {t t' : TypeId} {x y : Operand} (m n r : Bool) (ho : o.op = .binOp op t x y t') (hx : opd s x = some (bool m)) (hy : opd s y = some (bool n)) (hu : P.underlying t = some .bool)
    (hr : (op = .eql ∧ r = (m == n)) ∨ (op = .neq ∧ r = !(m == n))) : PureOp P o s (bool r) := by
  intro g rd a w hview
  have h1 := rel_lit (hview.op _ _ (by simp [ho, Op.operands, Call.operands]) hx)
  have h2 := rel_lit (hview.op _ _ (by simp [ho, Op.operands, Call.operands]) hy)
  refine ⟨_, ?_, lit_rel _ _ _⟩
  rcases hr with ⟨rfl, rfl⟩ | ⟨rfl, rfl⟩ <;>
  simp [execOp, ho, h1, h2, eqGuard, Go.binOp, run_equal_bool w t m n hu]

def unSV (op : UnOp) : SV → Option SV
  | .c (.lit (.bool b)) => match op with
    | .not => some (bool !b)
    | _ => none
  | .c (.lit (.int k n)) => match op with
    | .neg => some (int k (k.wrap (0 - n)))
    | .xor => some (int k (ixor k (if k.signed then -1 else k.max) n))
    | _ => none
  | _ => none
theorem pure_un {P : Program} {o : Oper} {s : St} {v x' : SV} {op : UnOp} {t : TypeId} {x : Operand} (ho : o.op = .unOp op t x) (hx : opd s x = some x') (hv : unSV op x' = some v) : PureOp P o s v := by
  intro g rd a w hview
  have h1 := hview.op _ _ (by simp [ho, Op.operands, Call.operands]) hx
  unfold unSV at hv
  split at hv
  · have h2 := rel_lit h1
    split at hv <;> cases hv
    exact ⟨_, by simp [execOp, ho, h2, Op.unary], lit_rel _ _ _⟩
  · have h2 := rel_lit h1
    split at hv <;> cases hv
    · exact ⟨_, by simp [execOp, ho, h2, Op.unary, Op.intArith], lit_rel _ _ _⟩
    · exact ⟨_, by simp [execOp, ho, h2, Op.unary, Op.intBits, ixor], lit_rel _ _ _⟩
  · cases hv

theorem pure_conv {P : Program} {o : Oper} {s : St} {t t' : TypeId} {x : Operand} {k : IntKind} (k' : IntKind) (n : Int) (ho : o.op = .convert t t' x) (hx : opd s x = some (int k n)) (h0 : P.underlying t = some (.int k)) (hu : P.underlying t' = some (.int k')) : PureOp P o s (int k' (k'.wrap n)) := by
  intro g rd a w hview
  have h1 := rel_lit (hview.op _ _ (by simp [ho, Op.operands, Call.operands]) hx)
  exact ⟨_, by simp [execOp, ho, h1, convert, run_underlying hu, run_underlying h0, Conv.intToInt], lit_rel _ _ _⟩

/-! ### memory that is read -/
def aggT (P : Program) (t : TypeId) : Bool := match P.underlying t with
  | some (.struct _) => true
  | some (.array _ _) => true
  | _ => false
/-- cells as a value of a type -/
def wrapT (P : Program) (t : TypeId) (cs : List SC) : Option SV := match P.underlying t, P.info? t with
  | some _, some i => if aggT P t then (if i.size ≤ cs.length then some (.agg (cs.take i.size)) else none) else match cs with
    | x :: _ => some (.c x)
    | [] => none
  | _, _ => none
def cellsAt (s : St) : SV → Option (List SC)
  | .c (.box d off) => match look s.hp.boxes d with
    | some cs => some (cs.drop off)
    | none => none
  | .c (.ref cs) => some cs
  | _ => none

theorem OView.cellsAt {g : Env} {rd : Rd} {a : Act} {w : World} {s : St} {o : Oper} (h : OView g rd a w s o) {u : Value} {v : SV} {cs : List SC} (hv : VRel rd g u v) (hc : cellsAt s v = some cs) :
    ∃ b o, u = .pointer (some ⟨b, o, none⟩) ∧ ∀ j y, cs[j]? = some y → ∃ z, w.cell? ⟨b, o + j, none⟩ = some z ∧ CRel rd g z y := by
  unfold Go.Proofs.Ytohhaibbbnobpaa.cellsAt at hc
  split at hc
  · rename_i d off
    split at hc
    · rename_i cs' hl
      cases hc
      simp only [VRel, CRel] at hv
      refine ⟨_, _, hv, fun j y hy => ?_⟩
      rw [List.getElem?_drop] at hy
      obtain ⟨z, h1, h2⟩ := h.box d _ hl _ y hy
      exact ⟨z, by rw [← Nat.add_assoc] at h1; exact h1, h2⟩
    · cases hc
  · cases hc
    simp only [VRel, CRel] at hv
    cases hv with
    | ref b o _ f hr hu =>
      exact ⟨b, o, rfl, fun j y hy => ⟨f j, h.reads _ _ _ (hr j y hy), (hu j y hy).c⟩⟩
  · cases hc

theorem run_loadVar_sh {P : Program} {w : World} {g : Env} {rd : Rd} {t : TypeId} {cs : List SC} {v : SV} {b o : Nat} (hw : wrapT P t cs = some v) (h : ∀ j y, cs[j]? = some y → ∃ z, w.cell? ⟨b, o + j, none⟩ = some z ∧ CRel rd g z y) :
    ∃ u, (loadVar t ⟨b, o, none⟩).run P w = .ok u w ∧ VRel rd g u v := by
  unfold wrapT at hw
  split at hw
  · rename_i d i hd hi
    split at hw
    · rename_i hagg
      split at hw
      · rename_i hsz
        cases hw
        have hz : ∃ f : Nat → Value, ∀ j, j < i.size → w.cell? ⟨b, o + j, none⟩ = some (f j) ∧ ∀ y, cs[j]? = some y → CRel rd g (f j) y := by
          refine ⟨fun j => if hj : j < i.size then Classical.choose (h j cs[j] (List.getElem?_eq_getElem (by omega))) else undef, fun j hj => ?_⟩
          have hc := Classical.choose_spec (h j cs[j] (List.getElem?_eq_getElem (by omega)))
          simp only [hj, dif_pos]
          refine ⟨hc.1, fun y hy => ?_⟩
          rw [List.getElem?_eq_getElem (by omega : j < cs.length)] at hy
          cases hy
          exact hc.2
        obtain ⟨f, hf⟩ := hz
        have hl := run_loadCells (P := P) (w := w) ⟨b, o, none⟩ i.size f (fun j hj => by rw [addr_add]; exact (hf j hj).1)
        have hisagg : (isAgg t).run P w = .ok true w := by
          unfold aggT at hagg
          rw [hd] at hagg
          cases d <;> simp only [Bool.false_eq_true] at hagg <;> simp [isAgg, run_underlying hd]
        refine ⟨_, by simp [loadVar, hisagg, sizeOf, typeInfo, hi, hl]; rfl, _, rfl, ?_⟩
        refine ⟨by simp; omega, fun j y hy => ?_⟩
        rw [List.getElem?_take] at hy
        split at hy
        · rename_i hj
          exact ⟨f j, by simp [hj], (hf j hj).2 y hy⟩
        · cases hy
      · cases hw
    · rename_i hagg
      split at hw
      · rename_i x rest
        cases hw
        obtain ⟨z, h1, h2⟩ := h 0 x rfl
        have hisagg : (isAgg t).run P w = .ok false w := by
          unfold aggT at hagg
          rw [hd] at hagg
          cases d <;> simp only [not_true_eq_false] at hagg <;> simp [isAgg, run_underlying hd]
        refine ⟨z, ?_, h2⟩
        simp only [Nat.add_zero] at h1
        simp [loadVar, hisagg, load, Sem.run, h1]
      · cases hw
  · cases hw

theorem pure_load {P : Program} {o : Oper} {s : St} {v p : SV} {t : TypeId} {x : Operand} {cs : List SC} (ho : o.op = .load t x) (hx : opd s x = some p) (hc : cellsAt s p = some cs) (hv : wrapT P t cs = some v) : PureOp P o s v := by
  intro g rd a w hview
  obtain ⟨b, off, h1, h2⟩ := hview.cellsAt (hview.op _ _ (by simp [ho, Op.operands, Call.operands]) hx) hc
  obtain ⟨u, h3, h4⟩ := run_loadVar_sh (P := P) hv h2
  exact ⟨u, by simp [execOp, ho, h1, Instr.loadAt, Instr.sureAddr, h3], h4⟩

/-- a pointer moved on by some cells -/
def shift (n : Nat) : SV → Option SV
  | .c (.box d off) => some (.c (.box d (off + n)))
  | .c (.ref cs) => some (.c (.ref (cs.drop n)))
  | _ => none
theorem rel_shift {rd : Rd} {g : Env} {u : Value} {p v : SV} {n : Nat} (h : VRel rd g u p) (hs : shift n p = some v) : ∃ b o, u = .pointer (some ⟨b, o, none⟩) ∧ VRel rd g (.pointer (some ⟨b, o + n, none⟩)) v := by
  unfold shift at hs
  split at hs
  · cases hs
    simp only [VRel, CRel] at h ⊢
    exact ⟨_, _, h, by rw [Nat.add_assoc]⟩
  · cases hs
    simp only [VRel, CRel] at h ⊢
    cases h with
    | ref b o cs f hr hu =>
      refine ⟨b, o, rfl, .ref b (o + n) _ (fun j => f (n + j)) (fun j y hy => ?_) (fun j y hy => ?_)⟩
      · rw [List.getElem?_drop] at hy
        rw [Nat.add_assoc]
        exact hr _ y hy
      · rw [List.getElem?_drop] at hy
        exact hu _ y hy
  · cases hs

def fieldOf (P : Program) (t : TypeId) (k : Nat) : Option Nat := match P.underlying t with
  | some (.struct fs) => match fs[k]? with
    | some f => match P.info? f.type with
      | some i => if i.size = 0 then none else some f.offset
      | none => none
    | none => none
  | _ => none
theorem pure_fieldAddr {P : Program} {o : Oper} {s : St} {v p : SV} {t : TypeId} {x : Operand} {k n : Nat} (ho : o.op = .fieldAddr t x k) (hx : opd s x = some p) (hf : fieldOf P t k = some n) (hv : shift n p = some v) : PureOp P o s v := by
  intro g rd a w hview
  obtain ⟨b, off, h1, h2⟩ := rel_shift (hview.op _ _ (by simp [ho, Op.operands, Call.operands]) hx) hv
  unfold fieldOf at hf
  split at hf
  · rename_i fs hu
    split at hf
    · rename_i f hk
      split at hf
      · rename_i i hi
        split at hf
        · cases hf
        · rename_i hz
          cases hf
          refine ⟨_, ?_, h2⟩
          simp [execOp, ho, h1, Instr.fieldAt, run_underlying hu, hk, Instr.sureAddr, fieldPlace, sizeOf, typeInfo, hi, hz, addr_add]
      · cases hf
    · cases hf
  · cases hf

/-- &a[i], a an array's address -/
theorem pure_indexArr {P : Program} {o : Oper} {s : St} {v p : SV} {t e : TypeId} {x y : Operand} {k : IntKind} (m sz : Nat) (i : Int) (n : Nat) (ho : o.op = .indexAddr t x y) (hx : opd s x = some p) (hy : opd s y = some (int k i)) (hu : P.underlying t = some (.array m e)) (hi : (P.info? e).map (·.size) = some sz)
    (h0 : 0 ≤ i) (hm : i < m) (hn : n = i.toNat * sz) (hv : shift n p = some v) : PureOp P o s v := by
  intro g rd a w hview
  have h1 := rel_lit (hview.op _ _ (by simp [ho, Op.operands, Call.operands]) hy)
  obtain ⟨b, off, h2, h3⟩ := rel_shift (hview.op _ _ (by simp [ho, Op.operands, Call.operands]) hx) hv
  obtain ⟨j, hj, rfl⟩ := Option.map_eq_some_iff.1 hi
  subst hn
  refine ⟨_, ?_, h3⟩
  simp [execOp, ho, h1, h2, Instr.indexAt, asIntOf, run_underlying hu, Instr.sureAddr, h0, hm, sizeOf, typeInfo, hj, addr_add]

/-- &l[i], l a slice -/
theorem pure_indexSlc {P : Program} {o : Oper} {s : St} {t e : TypeId} {x y : Operand} {k : IntKind} (tag sz : Nat) (xs : List (List SC)) (i : Int) (c : List SC) (ho : o.op = .indexAddr t x y) (hx : opd s x = some (.c (.slc sz tag xs))) (hy : opd s y = some (int k i)) (hu : P.underlying t = some (.slice e)) (hi : (P.info? e).map (·.size) = some sz)
    (h0 : 0 ≤ i) (hc : xs[i.toNat]? = some c) : PureOp P o s (.c (.ref c)) := by
  intro g rd a w hview
  have h1 := rel_lit (hview.op _ _ (by simp [ho, Op.operands, Call.operands]) hy)
  have h2 := hview.op _ _ (by simp [ho, Op.operands, Call.operands]) hx
  obtain ⟨j, hj, hsz⟩ := Option.map_eq_some_iff.1 hi
  simp only [VRel, CRel] at h2
  have hlt := (List.getElem?_eq_some_iff.1 hc).1
  generalize hv : a.eval x = v at *
  obtain ⟨h2, _⟩ := h2
  cases h2 with
  | nil => simp at hlt
  | slc b off n c' s xs f hn hnc hm hs hr hu' =>
    refine ⟨_, ?_, .ref b (off + i.toNat * sz) c (fun j => f i.toNat j) (fun j y hy => hr _ _ _ _ hc hy) (fun j y hy => hu' _ _ _ _ hc hy)⟩
    have : i < (n : Int) := by omega
    simp [execOp, ho, h1, hv, Instr.indexAt, asIntOf, run_underlying hu, h0, this, sizeOf, typeInfo, hj, addr_add, hsz]

theorem pure_nilCheck {P : Program} {o : Oper} {s : St} {v : SV} {x : Operand} (ho : o.op = .nilCheck x) (hx : opd s x = some v) (hp : (cellsAt s v).isSome = true) : PureOp P o s v := by
  intro g rd a w hview
  have h1 := hview.op _ _ (by simp [ho, Op.operands, Call.operands]) hx
  obtain ⟨cs, hcs⟩ := Option.isSome_iff_exists.1 hp
  obtain ⟨b, off, h2, _⟩ := hview.cellsAt h1 hcs
  exact ⟨_, by simp [execOp, ho, h2], h2 ▸ h1⟩

theorem pure_lenSlc {P : Program} {o : Oper} {s : St} {t : TypeId} {x : Operand} {e : TypeId} (sz tag : Nat) (xs : List (List SC)) (ho : o.op = .call { callee := .builtin .len, args := #[x], argTypes := #[t] }) (hx : opd s x = some (.c (.slc sz tag xs))) (hu : P.underlying t = some (.slice e)) : PureOp P o s (int .i64 xs.length) := by
  intro g rd a w hview
  have h2 := hview.op _ _ (by simp [ho, Op.operands, Call.operands]) hx
  simp only [VRel, CRel] at h2
  generalize hv : a.eval x = v at *
  obtain ⟨h2, _⟩ := h2
  cases h2 with
  | nil => exact ⟨_, by simp [execOp, ho, resolve, invoke, builtin, Builtin.len_, run_underlying hu, hv, goInt], lit_rel _ _ _⟩
  | slc b off n c' s xs f hn hnc hm hs hr hu' =>
    subst hn
    exact ⟨_, by simp [execOp, ho, resolve, invoke, builtin, Builtin.len_, run_underlying hu, hv, goInt], lit_rel _ _ _⟩

theorem pure_min {P : Program} {o : Oper} {s : St} {ts : Array TypeId} {x y : Operand} {k : IntKind} (m n : Int) (ho : o.op = .call { callee := .builtin .min, args := #[x, y], argTypes := ts }) (hx : opd s x = some (int k m)) (hy : opd s y = some (int k n)) : PureOp P o s (int k (if n < m then n else m)) := by
  intro g rd a w hview
  have h1 := rel_lit (hview.op _ _ (by simp [ho, Op.operands, Call.operands]) hx)
  have h2 := rel_lit (hview.op _ _ (by simp [ho, Op.operands, Call.operands]) hy)
  exact ⟨_, by simp [execOp, ho, resolve, invoke, builtin, Builtin.min_, Builtin.min2, h1, h2], lit_rel _ _ _⟩

theorem pure_extract {P : Program} {o : Oper} {s : St} {x : Operand} {k : Nat} {v : SV} (vs : List (Bool × List SC)) (y : Bool × List SC) (ho : o.op = .extract x k) (hx : opd s x = some (.tup vs)) (hk : vs[k]? = some y) (hv : v = if y.1 then .agg y.2 else match y.2 with | z :: _ => .c z | [] => .agg []) : PureOp P o s v := by
  intro g rd a w hview
  have h2 := hview.op _ _ (by simp [ho, Op.operands, Call.operands]) hx
  simp only [VRel] at h2
  obtain ⟨us, h3, h4, h5⟩ := h2
  obtain ⟨u, h6, h7⟩ := h5 k y hk
  refine ⟨u, by simp [execOp, ho, h3, Instr.extract, h6], ?_⟩
  subst hv
  unfold FRel at h7
  split
  · rename_i hy; rw [if_pos hy] at h7; exact h7
  · rename_i hy; rw [if_neg hy] at h7
    obtain ⟨z, h8, h9⟩ := h7
    rw [h8]
    exact h9
end Go.Proofs.Ytohhaibbbnobpaa
