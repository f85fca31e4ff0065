/-
  SHADOWS: the operations of a statement, reckoned by the kernel.
-/
import Derived.Test.YtohhaibbbnobpaaSh7
namespace Go.Proofs.Ytohhaibbbnobpaa
open Go.RowKit

def binS (P : Program) (op : BinOp) (t : TypeId) : SV → SV → Option SV
  | .c (.lit (.int k m)), .c (.lit (.int k' n)) => match op with
    | .shl => if decide (0 ≤ n) then some (int k (ishl k m n)) else none
    | .shr => if decide (0 ≤ n) then some (int k (ishr k m n)) else none
    | .quo => if k' = k then (if decide (n ≠ 0) then some (int k (iquo k m n)) else none) else none
    | .rem => if k' = k then (if decide (n ≠ 0) then some (int k (m.tmod n)) else none) else none
    | op => if k' = k then intBin op k m n else none
  | .c (.lit (.bool m)), .c (.lit (.bool n)) => match P.underlying t with
    | some .bool => match op with
      | .eql => some (bool (m == n))
      | .neq => some (bool !(m == n))
      | _ => none
    | _ => none
  | _, _ => none
theorem binS_ok {P : Program} {o : Oper} {s : St} {v a b : SV} {op : BinOp} {t t' : TypeId} {x y : Operand} (ho : o.op = .binOp op t x y t') (hx : opd s x = some a) (hy : opd s y = some b) (h : binS P op t a b = some v) : PureOp P o s v := by
  unfold binS at h
  split at h
  · rename_i k m k' n
    split at h
    · split at h
      · rename_i hn; cases h
        exact pure_intC m n (.inl rfl) ho hx hy rfl (of_decide_eq_true hn)
      · cases h
    · split at h
      · rename_i hn; cases h
        exact pure_intC m n (.inr (.inl rfl)) ho hx hy rfl (of_decide_eq_true hn)
      · cases h
    · split at h
      · rename_i hk
        split at h
        · rename_i hn; cases h
          exact pure_intC m n (.inr (.inr hk)) ho hx hy rfl (of_decide_eq_true hn)
        · cases h
      · cases h
    · split at h
      · rename_i hk
        split at h
        · rename_i hn; cases h
          exact pure_intC m n (.inr (.inr hk)) ho hx hy rfl (of_decide_eq_true hn)
        · cases h
      · cases h
    · split at h
      · rename_i hk
        subst hk
        exact pure_int m n ho hx hy h
      · cases h
  · rename_i m n
    split at h
    · rename_i hu
      split at h
      · cases h; exact pure_boolEq m n _ ho hx hy hu (.inl ⟨rfl, rfl⟩)
      · cases h; exact pure_boolEq m n _ ho hx hy hu (.inr ⟨rfl, rfl⟩)
      · cases h
    · cases h
  · cases h

def callS (P : Program) (s : St) (c : Call) : Option SV := match c.callee with
  | .builtin .len => match c.args.toList, c.argTypes.toList with
    | [x], [t] => match opd s x, P.underlying t with
      | some (.c (.slc _ _ xs)), some (.slice _) => some (int .i64 xs.length)
      | _, _ => none
    | _, _ => none
  | .builtin .min => match c.args.toList with
    | [x, y] => match opd s x, opd s y with
      | some (.c (.lit (.int k m))), some (.c (.lit (.int k' n))) => if k' = k then some (int k (if n < m then n else m)) else none
      | _, _ => none
    | _ => none
  | _ => none
theorem callS_ok {P : Program} {o : Oper} {s : St} {v : SV} {c : Call} (ho : o.op = .call c) (h : callS P s c = some v) : PureOp P o s v := by
  obtain ⟨callee, args, ts⟩ := c
  unfold callS at h
  simp only at h
  split at h
  · split at h
    · rename_i x t ha ht
      have ha' : args = #[x] := by rw [← Array.toArray_toList (xs := args), ha]
      have ht' : ts = #[t] := by rw [← Array.toArray_toList (xs := ts), ht]
      subst ha' ht'
      split at h
      · rename_i sz tag xs e hx hu; cases h; exact pure_lenSlc sz tag xs ho hx hu
      · cases h
    · cases h
  · split at h
    · rename_i x y ha
      have ha' : args = #[x, y] := by rw [← Array.toArray_toList (xs := args), ha]
      subst ha'
      split at h
      · rename_i k m k' n hx hy
        split at h
        · rename_i hk; subst hk; cases h; exact pure_min m n ho hx hy
        · cases h
      · cases h
    · cases h
  · cases h
def sop (P : Program) (s : St) : Op → Option SV
  | .move x => opd s x
  | .assign x => opd s x
  | .pick c x y => match opd s c with
    | some (.c (.lit (.bool true))) => opd s x
    | some (.c (.lit (.bool false))) => opd s y
    | _ => none
  | .binOp op t x y _ => match opd s x, opd s y with
    | some a, some b => binS P op t a b
    | _, _ => none
  | .unOp op _ x => match opd s x with
    | some a => unSV op a
    | none => none
  | .convert t t' x => match opd s x, P.underlying t, P.underlying t' with
    | some (.c (.lit (.int k n))), some (.int k0), some (.int k') => if k0 = k then some (int k' (k'.wrap n)) else none
    | _, _, _ => none
  | .load t x => match opd s x with
    | some p => match cellsAt s p with
      | some cs => wrapT P t cs
      | none => none
    | none => none
  | .fieldAddr t x k => match opd s x, fieldOf P t k with
    | some p, some n => shift n p
    | _, _ => none
  | .indexAddr t x y => match opd s x, opd s y, P.underlying t with
    | some p, some (.c (.lit (.int _ i))), some (.array m e) => match P.info? e with
      | some ie => if decide (0 ≤ i ∧ i < m) then shift (i.toNat * ie.size) p else none
      | none => none
    | _, _, _ => none
  | .nilCheck x => match opd s x with
    | some v => if (cellsAt s v).isSome then some v else none
    | none => none
  | .call c => callS P s c
  | .extract x k => match opd s x with
    | some (.tup vs) => match vs[k]? with
      | some (true, cs) => some (.agg cs)
      | some (false, z :: _) => some (.c z)
      | _ => none
    | _ => none
  | .build t parts => buildS P s t parts.toList
  | _ => none

theorem sop_ok {P : Program} {o : Oper} {s : St} {v : SV} (h : sop P s o.op = some v) : PureOp P o s v := by
  unfold sop at h
  split at h
  · rename_i x ho; exact pure_move (.inl ho) h
  · rename_i x ho; exact pure_move (.inr ho) h
  · rename_i c x y ho
    split at h
    · rename_i hc; exact pure_pick true ho hc h
    · rename_i hc; exact pure_pick false ho hc h
    · cases h
  · rename_i op t x y t' ho
    split at h
    · rename_i a b hx hy; exact binS_ok ho hx hy h
    · cases h
  · rename_i op t x ho
    split at h
    · rename_i a hx; exact pure_un ho hx h
    · cases h
  · rename_i t t' x ho
    split at h
    · rename_i k n k0 k' hx h1 h2
      split at h
      · rename_i hk; subst hk; cases h; exact pure_conv k' n ho hx h1 h2
      · cases h
    · cases h
  · rename_i t x ho
    split at h
    · rename_i p hx
      split at h
      · rename_i cs hcs; exact pure_load ho hx hcs h
      · cases h
    · cases h
  · rename_i t x k ho
    split at h
    · rename_i p n hx hn; exact pure_fieldAddr ho hx hn h
    · cases h
  · rename_i t x y ho
    split at h
    · rename_i p k i m e hx hy hu
      split at h
      · rename_i ie hie
        split at h
        · rename_i hi
          have hi' := of_decide_eq_true hi
          exact pure_indexArr m ie.size i _ ho hx hy hu (by rw [hie]; rfl) hi'.1 hi'.2 rfl h
        · cases h
      · cases h
    · cases h
  · rename_i x ho
    split at h
    · rename_i u hx
      split at h
      · rename_i hc; cases h; exact pure_nilCheck ho hx hc
      · cases h
    · cases h
  · rename_i c ho; exact callS_ok ho h
  · rename_i x k ho
    split at h
    · rename_i vs hx
      split at h
      · rename_i cs hk; cases h; exact pure_extract vs _ ho hx hk (by simp)
      · rename_i z zs hk; cases h; exact pure_extract vs _ ho hx hk (by simp)
      · cases h
    · cases h
  · rename_i t parts ho; exact pure_build ho h
  · cases h

def stepS (P : Program) (n : Nat) (ops : Array Oper) (o : Oper) (s : St) : Option St := match guardOf ops o s with
  | some false => if dstOk n o then some (s.put o.dst (.tup [])) else none
  | some true => match o.op with
    | .box _ x => match o.dst, opd s x with
      | some d, some v => match cellsOf v with
        | some cs => if decide (d < n) && decide (d < 1000000) && s.freshB d && cs.all (SC.all d) then some (s.newBox d cs) else none
        | none => none
      | _, _ => none
    | .alloc t => match o.dst, (P.info? t).bind (·.zero) with
      | some d, some z => if decide (d < n) && decide (d < 1000000) && s.freshB d then some (s.newBox d (z.cells.toList.map SC.lit)) else none
      | _, _ => none
    | .store t p x => match o.dst, opd s p, opd s x with
      | none, some (.c (.box d off)), some v => match cellsOf v, look s.hp.boxes d, P.info? t with
        | some ds, some cs, some i => if decide (i.size = ds.length) && ds.all SC.one && decide (off + ds.length ≤ cs.length) then some (s.setBox d (over cs off ds)) else none
        | _, _, _ => none
      | _, _, _ => none
    | _ => match sop P s o.op with
      | some v => if dstOk n o then some (s.put o.dst v) else none
      | none => none
  | none => none
theorem stepS_ok {P : Program} {K : Ctx} {n : Nat} {ops : Array Oper} {o : Oper} {l : List Oper} {s s' : St} {Q : Exit → St → Prop} (h : stepS P n ops o s = some s') (ht : TL P K n ops l s' Q) : TL P K n ops (o :: l) s Q := by
  unfold stepS at h
  split at h
  · rename_i hg
    split at h
    · rename_i hd; cases h; exact TL_skip hg hd ht
    · cases h
  · rename_i hg
    split at h
    · rename_i t x ho
      split at h
      · rename_i d v hd hx
        split at h
        · rename_i cs hcs
          split at h
          · rename_i hc
            simp only [Bool.and_eq_true] at hc
            cases h
            exact TL_box d ho hd hg hc.1.1.1 hc.1.1.2 hx hcs hc.1.2 hc.2 ht
          · cases h
        · cases h
      · cases h
    · rename_i t ho
      split at h
      · rename_i d z hd hz
        split at h
        · rename_i hc
          simp only [Bool.and_eq_true] at hc
          cases h
          exact TL_alloc d _ ho hd hg hc.1.1 hc.1.2 hz rfl hc.2 ht
        · cases h
      · cases h
    · rename_i t p x ho
      split at h
      · rename_i d off v hd hp hx
        split at h
        · rename_i ds cs i hds hcs hi
          split at h
          · rename_i hc
            simp only [Bool.and_eq_true] at hc
            cases h
            exact TL_store d off cs ds ho hd hg hp hx hds hcs (by rw [hi]; simpa using hc.1.1) hc.1.2 hc.2 ht
          · cases h
        · cases h
      · cases h
    · split at h
      · rename_i v hv
        split at h
        · rename_i hd; cases h; exact TL_pure v hg hd (sop_ok hv) ht
        · cases h
      · cases h
  · cases h
def runs (P : Program) (n : Nat) (ops : Array Oper) : List Oper → St → Option St
  | [], s => some s
  | o :: l, s => match stepS P n ops o s with
    | some s' => runs P n ops l s'
    | none => none
theorem runs_ok {P : Program} {K : Ctx} {n : Nat} {ops : Array Oper} {Q : Exit → St → Prop} {l2 : List Oper} {s' : St} (ht : TL P K n ops l2 s' Q) : ∀ (l1 : List Oper) (s : St), runs P n ops l1 s = some s' → TL P K n ops (l1 ++ l2) s Q
  | [], s, h => by cases h; exact ht
  | o :: l, s, h => by
    simp only [runs] at h
    split at h
    · rename_i s1 h1
      exact stepS_ok h1 (runs_ok ht l s1 h)
    · cases h
theorem TL_runs {P : Program} {K : Ctx} {n : Nat} {ops : Array Oper} {Q : Exit → St → Prop} {l : List Oper} {s : St} (k : Nat) (s' : St) (h : runs P n ops (l.take k) s = some s') (ht : TL P K n ops (l.drop k) s' Q) : TL P K n ops l s Q := by
  have := runs_ok ht (l.take k) s h
  rwa [List.take_append_drop] at this
/-- the whole statement at once -/
theorem T_runs {P : Program} {K : Ctx} {n : Nat} {Q : Exit → St → Prop} {l : List Oper} {s : St} {id : Nat} (s' : St) (h : runs P n l.toArray l s = some s') (ht : Q .normal s') : T P K n (.region id l.toArray false) s Q := by
  refine T_region ?_
  have := runs_ok (P := P) (K := K) (n := n) (ops := l.toArray) (l2 := []) (TL_nil ht) l s h
  rwa [List.append_nil] at this

/-! ### the head of a drawn statement -/
def HeadX (P : Program) (n : Nat) (ops : Array Oper) (l : List Oper) (s s' : St) : Prop := ∃ vs, Head P n ops l s vs s'
theorem HeadX_nil {P : Program} {n : Nat} {ops : Array Oper} {s : St} : HeadX P n ops [] s s := ⟨[], .nil s⟩
theorem HeadX_op {P : Program} {n : Nat} {ops : Array Oper} {o : Oper} {l : List Oper} {s s' : St} (v : SV) (hg : guardOf ops o s = some true) (hd : dstOk n o = true) (hp : GrowOp P o s v) (h : HeadX P n ops l (s.put o.dst v) s') : HeadX P n ops (o :: l) s s' :=
  let ⟨vs, h⟩ := h; ⟨v :: vs, .op v hg hd hp h⟩
def stepH (P : Program) (n : Nat) (ops : Array Oper) (o : Oper) (s : St) : Option St := match guardOf ops o s with
  | some false => if dstOk n o then some (s.put o.dst (.tup [])) else none
  | some true => match sop P s o.op with
    | some v => if dstOk n o then some (s.put o.dst v) else none
    | none => none
  | none => none
def runsH (P : Program) (n : Nat) (ops : Array Oper) : List Oper → St → Option St
  | [], s => some s
  | o :: l, s => match stepH P n ops o s with
    | some s' => runsH P n ops l s'
    | none => none
theorem runsH_ok {P : Program} {n : Nat} {ops : Array Oper} {l2 : List Oper} {s' s'' : St} (ht : HeadX P n ops l2 s' s'') : ∀ (l1 : List Oper) (s : St), runsH P n ops l1 s = some s' → HeadX P n ops (l1 ++ l2) s s''
  | [], s, h => by cases h; exact ht
  | o :: l, s, h => by
    simp only [runsH] at h
    split at h
    · rename_i s1 h1
      obtain ⟨vs, ih⟩ := runsH_ok ht l s1 h
      unfold stepH at h1
      split at h1
      · rename_i hg
        split at h1
        · rename_i hd; cases h1; exact ⟨_, .skip hg hd ih⟩
        · cases h1
      · rename_i hg
        split at h1
        · rename_i v hv
          split at h1
          · rename_i hd; cases h1; exact ⟨_, .op v hg hd (sop_ok hv).grow ih⟩
          · cases h1
        · cases h1
      · cases h1
    · cases h
theorem HeadX_runs {P : Program} {n : Nat} {ops : Array Oper} {l : List Oper} {s s'' : St} (k : Nat) (s' : St) (h : runsH P n ops (l.take k) s = some s') (ht : HeadX P n ops (l.drop k) s' s'') : HeadX P n ops l s s'' := by
  have := runsH_ok ht (l.take k) s h
  rwa [List.take_append_drop] at this
theorem T_drawX {P : Program} {K : Ctx} {n : Nat} {Q : Exit → St → Prop} {s : St} {l : List Oper} {id : Nat} (k : Nat) (s' : St) (hm : P.follows .mixedOrders = true) (hB : Region.lexTailB .any l.toArray k = true) (hd : HeadX P n l.toArray (l.take k) s s') (ht : TL P K n l.toArray (l.drop k) s' Q) : T P K n (.region id l.toArray true) s Q :=
  let ⟨vs, h⟩ := hd; T_draw k vs s' hm hB h ht
theorem T_drawAllX {P : Program} {K : Ctx} {n : Nat} {Q : Exit → St → Prop} {s : St} {l : List Oper} {id : Nat} (s' : St) (hm : P.follows .mixedOrders = true) (hB : Region.lexB .any l.toArray = true) (hd : HeadX P n l.toArray l s s') (ht : Q .normal s') : T P K n (.region id l.toArray true) s Q :=
  let ⟨vs, h⟩ := hd; T_drawAll vs s' hm hB h ht

/-! ### ways -/
section
variable {P : Program} {K : Ctx} {n : Nat} {Q : Exit → St → Prop} {s : St} {c x y : Code} {id i : Nat} {next : St → Prop}
theorem T_condT {co : Operand} (hc : opd s co = some (.c (.lit (.bool true)))) (h : T P K n x s Q) : T P K n (.cond co x y) s Q := T_cond true hc h
theorem T_condF {co : Operand} (hc : opd s co = some (.c (.lit (.bool false)))) (h : T P K n y s Q) : T P K n (.cond co x y) s Q := T_cond false hc h
theorem thenQ_normal (h : next s) : thenQ next Q .normal s := h
theorem thenQ_ret (h : Q .ret s) : thenQ next Q .ret s := h
theorem thenQ_exit (h : Q (.exit i) s) : thenQ next Q (.exit i) s := h
theorem blockQ_normal (h : Q .normal s) : blockQ id Q .normal s := h
theorem blockQ_ret (h : Q .ret s) : blockQ id Q .ret s := h
theorem blockQ_exit (h : Q .normal s) : blockQ id Q (.exit id) s := by simp only [blockQ, if_true]; exact h
theorem blockQ_other (hi : (i == id) = false) (h : Q (.exit i) s) : blockQ id Q (.exit i) s := by
  simp only [blockQ]
  rw [if_neg (by simpa using hi)]
  exact h
/-- a test that is open: both ways -/
theorem T_bool {ρ : Type} {A B : Option ρ} {r : ρ} (S : Bool → St) (b : Bool) (h : (bif b then A else B) = some r) (ht : A = some r → T P K n c (S true) Q) (hf : B = some r → T P K n c (S false) Q) : T P K n c (S b) Q := by
  cases b
  · exact hf h
  · exact ht h
end

/-! ### loops -/
section
variable {σ ρ : Type}
def iterO (step : σ → Option (σ ⊕ ρ)) : Nat → σ → Option ρ
  | 0, _ => none
  | n + 1, s => match step s with
    | some (.inl s') => iterO step n s'
    | some (.inr r) => some r
    | none => none
theorem iterO_mono {step : σ → Option (σ ⊕ ρ)} : ∀ {n m : Nat} {s : σ} {r : ρ}, iterO step n s = some r → n ≤ m → iterO step m s = some r
  | 0, _, _, _, h, _ => by cases h
  | n + 1, 0, _, _, _, hm => by omega
  | n + 1, m + 1, s, r, h, hm => by
    simp only [iterO] at h ⊢
    split at h
    · exact iterO_mono h (by omega)
    · exact h
    · cases h
open Classical in
noncomputable def loopO (step : σ → Option (σ ⊕ ρ)) (s : σ) : Option ρ := if h : ∃ r n, iterO step n s = some r then some (Classical.choose h) else none
theorem loopO_of {step : σ → Option (σ ⊕ ρ)} {s : σ} {r : ρ} {n : Nat} (h : iterO step n s = some r) : loopO step s = some r := by
  have hx : ∃ r n, iterO step n s = some r := ⟨r, n, h⟩
  unfold loopO
  rw [dif_pos hx]
  obtain ⟨m, hm⟩ := Classical.choose_spec hx
  congr 1
  have h1 := iterO_mono hm (Nat.le_max_left m n)
  have h2 := iterO_mono h (Nat.le_max_right m n)
  rw [h1] at h2
  exact Option.some.inj h2
theorem loopO_some {step : σ → Option (σ ⊕ ρ)} {s : σ} {r : ρ} (h : loopO step s = some r) : ∃ n, iterO step n s = some r := by
  unfold loopO at h
  split at h
  · rename_i hx
    cases h
    exact Classical.choose_spec hx
  · cases h
theorem loopO_eq (step : σ → Option (σ ⊕ ρ)) (s : σ) : loopO step s = match step s with
    | some (.inl s') => loopO step s'
    | some (.inr r) => some r
    | none => none := by
  cases hs : step s with
  | none =>
    cases hl : loopO step s with
    | none => rfl
    | some r =>
      obtain ⟨n, hn⟩ := loopO_some hl
      cases n with
      | zero => cases hn
      | succ n => simp [iterO, hs] at hn
  | some x =>
    cases x with
    | inr r => exact loopO_of (n := 1) (by simp [iterO, hs])
    | inl s' =>
      simp only
      cases hl : loopO step s' with
      | some r =>
        obtain ⟨n, hn⟩ := loopO_some hl
        exact loopO_of (n := n + 1) (by simp [iterO, hs, hn])
      | none =>
        cases hl2 : loopO step s with
        | none => rfl
        | some r =>
          obtain ⟨n, hn⟩ := loopO_some hl2
          cases n with
          | zero => cases hn
          | succ n =>
            simp only [iterO, hs] at hn
            rw [loopO_of hn] at hl
            cases hl

def bodyQ (I : σ → St) (QX : ρ → Exit → St → Prop) (x : σ ⊕ ρ) : Exit → St → Prop
  | .normal, st => ∃ s', x = .inl s' ∧ st = I s'
  | e, st => ∃ y, x = .inr y ∧ QX y e st
theorem T_loopO {P : Program} {K : Ctx} {n : Nat} {c : Code} {Q : Exit → St → Prop} (step : σ → Option (σ ⊕ ρ)) (I : σ → St) (QX : ρ → Exit → St → Prop) (s0 : σ) (r : ρ) (hr : loopO step s0 = some r)
    (hbody : ∀ s x, step s = some x → T P K n c (I s) (bodyQ I QX x)) (hQ : ∀ e st, QX r e st → Q e st) : T P K n (.loop c) (I s0) Q := by
  obtain ⟨m, hm⟩ := loopO_some hr
  refine T_loop (ι := Nat × σ) (fun p => I p.2) (fun p => p.1) (fun p => iterO step p.1 p.2 = some r) (m, s0) hm ?_
  rintro ⟨k, s⟩ hk
  cases k with
  | zero => cases hk
  | succ k =>
    simp only [iterO] at hk
    cases hs : step s with
    | none => rw [hs] at hk; cases hk
    | some x =>
      rw [hs] at hk
      refine T_mono (hbody s x hs) fun e st hq => ?_
      cases x with
      | inl s' =>
        simp only at hk
        cases e <;> simp only [bodyQ, reduceCtorEq, false_and, exists_false, Sum.inl.injEq] at hq
        obtain ⟨s1, rfl, rfl⟩ := hq
        exact ⟨(k, s'), hk, rfl, Nat.lt_succ_self k⟩
      | inr y =>
        simp only [Option.some.injEq] at hk
        subst hk
        cases e <;> simp only [bodyQ, reduceCtorEq, false_and, exists_false, Sum.inr.injEq] at hq
        all_goals
          obtain ⟨y', rfl, hq⟩ := hq
          exact hQ _ _ hq
end
end Go.Proofs.Ytohhaibbbnobpaa
