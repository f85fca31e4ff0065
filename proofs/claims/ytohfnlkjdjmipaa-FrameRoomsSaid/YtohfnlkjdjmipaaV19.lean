/-
  SHADOWS, second make: arrays as slices and at computed places; the rules for both machines.
-/
import Derived.Test.YtohfnlkjdjmipaaV18
namespace Go.Proofs.Ytohfnlkjdjmipaa
open Go.RowKit

section
variable {P : Program} {o : Oper} {s : St} {α : Type}
/-! ### a[lo:hi], a an array of cells -/
def winArgs (P : Program) (s : St) (o : Oper) : Option (Nat × Nat × Nat × Int × Int) := match o.op with
  | .slice t x lo hi none => match opd s x, P.underlying t with
    | some (.c (.box d off)), some (.array n e) => match s.lookB d with
      | some cs => match P.info? e, bnd s 0 lo, bnd s n hi with
        | some ie, some (_, a), some (_, b) => if ie.size = 1 ∧ off + n ≤ cs.length then some (d, off, n, a, b) else none
        | _, _, _ => none
      | none => none
    | _, _ => none
  | _ => none
theorem grow_win {d off n : Nat} {a b : Int} (h : winArgs P s o = some (d, off, n, a, b)) (hc : decide (0 ≤ a ∧ a ≤ b ∧ b ≤ (n : Int)) = true) (hn : decide (n ≤ 140737488355328) = true) : GrowOp P o s (.c (.win d (off + a.toNat) (b.toNat - a.toNat))) := by
  unfold winArgs at h
  split at h
  rotate_left
  · cases h
  rename_i t xo lo hi ho
  split at h
  rotate_left
  · cases h
  rename_i d1 off1 n1 e1 hx hu
  split at h
  rotate_left
  · cases h
  rename_i cs hl
  split at h
  rotate_left
  · cases h
  rename_i ie vlo a1 vhi b1 hie hlo hhi
  split at h
  rotate_left
  · cases h
  rename_i hq
  cases h
  obtain ⟨hsz, hlen⟩ := hq
  obtain ⟨c0, c1, c2⟩ := of_decide_eq_true hc
  have hn' := of_decide_eq_true hn
  refine PureOp.grow fun g rd A w hview => ?_
  have hv := hview.op xo _ (by simp [ho, Op.operands]) hx
  simp only [VRel, CRel, CRel0] at hv
  obtain ⟨q1, q2⟩ := bnd_spec hlo
  obtain ⟨q3, q4⟩ := bnd_spec hhi
  have hk := run_bounds (P := P) (A := A) hview (lo := lo) (hi := hi) (fun y hy => by subst hy; simp [ho, Op.operands]) (fun y hy => by subst hy; cases lo <;> simp [ho, Op.operands]) false (len := n) (cap := n) q1 q3 q2 q4 c0 c1 c2 (Nat.le_refl _)
  refine ⟨_, by
    simp only [execOp, ho, Option.map_none, Instr.sliceAt, Instr.sureAddr, run_underlying hu, hv, hk, sizeOf, typeInfo, program, hie, Sem.run_bind, Sem.run_pure, Sem.run, Result.andThen_ok, hsz]
    rfl, ?_⟩
  refine ⟨_, _, rfl, by omega, by unfold maxLen; omega, ?_⟩
  by_cases hz : b.toNat - a.toNat = 0
  · exact .inl hz
  · right
    rw [if_neg (by omega)]
    simp only [addr_add, Nat.mul_one, Nat.add_assoc]

/-! ### arrays of numbers at computed places -/
def idxAArgs (P : Program) (s : St) (o : Oper) : Option (Nat × Nat × Nat × Int) := match o.op with
  | .indexAddr t x y => match opd s x, opd s y, P.underlying t with
    | some (.c (.box d off)), some (.c (.lit (.int _ i))), some (.array n e) => match P.info? e with
      | some ie => if ie.size = 1 then some (d, off, n, i) else none
      | none => none
    | _, _, _ => none
  | _ => none
theorem grow_idxA {d off n : Nat} {i : Int} (h : idxAArgs P s o = some (d, off, n, i)) (hc : decide (0 ≤ i ∧ i < (n : Int)) = true) : GrowOp P o s (.c (.box d (off + i.toNat))) := by
  unfold idxAArgs at h
  split at h
  rotate_left
  · cases h
  rename_i t xo yo ho
  split at h
  rotate_left
  · cases h
  rename_i d1 off1 k1 i1 n1 e1 hx hy hu
  split at h
  rotate_left
  · cases h
  rename_i ie hie
  split at h
  rotate_left
  · cases h
  rename_i hsz
  cases h
  obtain ⟨c0, c1⟩ := of_decide_eq_true hc
  exact PureOp.grow (pure_indexArr (s := s) n 1 i i.toNat ho hx hy hu (by rw [hie, Option.map_some, hsz]) c0 c1 (by rw [Nat.mul_one]) rfl)
/-- the numbers of an array -/
theorem arrS_get {k : IntKind} {n : Nat} {l : List Int} {i : Nat} (h : i < n) : (arrS k n l)[i]? = some (.lit (.int k (l.getD i 0))) := by
  simp [arrS, List.getElem?_map, List.getElem?_range h]
def ldAArgs (P : Program) (k : IntKind) (off n : Nat) (s : St) (o : Oper) : Option (Nat × List SC) := match o.op with
  | .load t p => match opd s p, P.underlying t with
    | some (.c (.box d off')), some (.int k') => match s.lookB d, P.info? t with
      | some cs, some it => if k' = k ∧ it.size = 1 ∧ aggT P t = false then some (off', (cs.drop off).take n) else none
      | _, _ => none
    | _, _ => none
  | _ => none
theorem grow_ldA {k : IntKind} {off n : Nat} {i : Int} {l : List Int} (hc : decide (0 ≤ i ∧ i < (n : Int)) = true) (h : ldAArgs P k off n s o = some (off + i.toNat, arrS k n l)) : GrowOp P o s (int k (l.getD i.toNat 0)) := by
  unfold ldAArgs at h
  split at h
  rotate_left
  · cases h
  rename_i t po ho
  split at h
  rotate_left
  · cases h
  rename_i d off' k' hp hu
  split at h
  rotate_left
  · cases h
  rename_i cs it hl hit
  split at h
  rotate_left
  · cases h
  rename_i hq
  obtain ⟨rfl, hsz, hagg⟩ := hq
  injection h with h
  injection h with h1 h2
  subst h1
  obtain ⟨c0, c1⟩ := of_decide_eq_true hc
  have hin : i.toNat < n := by omega
  have hget : cs[off + i.toNat]? = some (.lit (.int k' (l.getD i.toNat 0))) := by
    have := arrS_get (k := k') (n := n) (l := l) hin
    rw [← h2, List.getElem?_take, if_pos hin, List.getElem?_drop] at this
    exact this
  have hdrop : cs.drop (off + i.toNat) = .lit (.int k' (l.getD i.toNat 0)) :: cs.drop (off + i.toNat + 1) := by
    have hlt := (List.getElem?_eq_some_iff.1 hget).1
    rw [List.drop_eq_getElem_cons hlt]
    congr 1
    exact (List.getElem?_eq_some_iff.1 hget).2
  refine PureOp.grow (pure_load (cs := cs.drop (off + i.toNat)) ho hp (by simp [cellsAt, hl]) ?_)
  simp only [wrapT, hu, hit, hagg, hdrop]
  rfl
def setA (n : Nat) (l : List Int) (i : Nat) (v : Int) : List Int := (List.range n).map fun j => if j = i then v else l.getD j 0
theorem setA_arr {k : IntKind} {n : Nat} {l : List Int} {i : Nat} {v : Int} : arrS k n (setA n l i v) = (arrS k n l).set i (.lit (.int k v)) := by
  apply List.ext_getElem?
  intro j
  by_cases hj : j < n
  · rw [arrS_get hj, List.getElem?_set]
    by_cases hij : i = j
    · subst hij
      rw [if_pos rfl, if_pos (by simpa [arrS] using hj)]
      simp [setA, List.getD, List.getElem?_map, List.getElem?_range hj]
    · rw [if_neg hij, arrS_get hj]
      simp [setA, List.getD, List.getElem?_map, List.getElem?_range hj, Ne.symm hij]
  · rw [List.getElem?_eq_none (by simp [arrS]; omega), List.getElem?_eq_none (by simp [arrS]; omega)]
def stAArgs (P : Program) (k : IntKind) (off n : Nat) (s : St) (o : Oper) : Option (Nat × Nat × List SC × List SC × List SC × Int) := match o.op with
  | .store t p x => match opd s p, opd s x, P.info? t, o.dst with
    | some (.c (.box d off')), some (.c (.lit (.int k' v))), some it, none => match s.lookB d with
      | some cs => if k' = k ∧ it.size = 1 then some (d, off', cs.take off, (cs.drop off).take n, cs.drop (off + n), v) else none
      | none => none
    | _, _, _, _ => none
  | _ => none
theorem S_stA {K : Ctx} {m : Nat} {ops : Array Oper} {k : IntKind} {d off n : Nat} {i v : Int} {l : List Int} {pre post : List SC} (hc : decide (0 ≤ i ∧ i < (n : Int)) = true) (hpre : decide (pre.length = off) = true) (h : stAArgs P k off n s o = some (d, off + i.toNat, pre, arrS k n l, post, v)) (hgd : guardOf ops o s = some true) :
    Stp P K m ops o s ((s.setR d (.box (pre ++ arrS k n (setA n l i.toNat v) ++ post))).put o.dst (.tup [])) := by
  unfold stAArgs at h
  split at h
  rotate_left
  · cases h
  rename_i t po xo ho
  split at h
  rotate_left
  · cases h
  rename_i d1 off' k' v' it hp hx hit hdst
  split at h
  rotate_left
  · cases h
  rename_i cs hl
  split at h
  rotate_left
  · cases h
  rename_i hq
  obtain ⟨rfl, hsz⟩ := hq
  injection h with h
  simp only [Prod.mk.injEq] at h
  obtain ⟨rfl, rfl, h3, h4, h5, rfl⟩ := h
  obtain ⟨c0, c1⟩ := of_decide_eq_true hc
  have hin : i.toNat < n := by omega
  have hpl := of_decide_eq_true hpre
  have hal : (arrS k' n l).length = n := by simp [arrS]
  have hcs : cs = pre ++ arrS k' n l ++ post := by
    rw [← h3, ← h4, ← h5]
    rw [List.append_assoc, ← List.drop_drop, List.take_append_drop, List.take_append_drop]
  have hov : over cs (off + i.toNat) [.lit (.int k' v')] = pre ++ arrS k' n (setA n l i.toNat v') ++ post := by
    rw [setA_arr, hcs]
    unfold over
    simp only [List.length_singleton]
    apply List.ext_getElem?
    intro q
    have e1 := over_get (cs := pre ++ arrS k' n l ++ post) (ds := [.lit (.int k' v')]) (off := off + i.toNat) (by simp [hal, hpl]; omega) q
    unfold over at e1
    simp only [List.length_singleton] at e1
    rw [e1]
    simp only [List.getElem?_append, List.length_append, List.length_set, hal, hpl, List.getElem?_set]
    by_cases h1 : q < off
    · simp [h1, show q < off + n by omega]
      omega
    · by_cases h2 : q < off + n
      · by_cases h6 : q = off + i.toNat
        · subst h6
          simp [hin, h1]
        · have : ¬ (off + i.toNat ≤ q ∧ q < off + i.toNat + 1) := by omega
          have h7 : ¬ (i.toNat = q - off) := by omega
          simp [h1, h2, this, h7]
      · have : ¬ (off + i.toNat ≤ q ∧ q < off + i.toNat + 1) := by omega
        simp [h2, this]
  have := S_store (P := P) (K := K) (n := m) (ops := ops) (s := s) d1 (off + i.toNat) cs [.lit (.int k' v')] ho hdst hgd hp hx rfl hl (by rw [hit]; simp [hsz]) rfl (by rw [hcs]; simp [hal, hpl]; omega)
  rw [hov] at this
  rw [hdst]
  exact this
end

/-! ### monotone -/
section
variable {P : Program} {n : Nat} {ops : Array Oper} {o : Oper} {need : St} {α : Type}
theorem Sub.srcS {s s' : St} (h : Sub s s') {sz : Nat} {v : SV} {q : List (List SC) × Cut} (k : srcS s sz v = some q) : Go.Proofs.Ytohfnlkjdjmipaa.srcS s' sz v = some q := by
  unfold Go.Proofs.Ytohfnlkjdjmipaa.srcS at k ⊢
  split at k <;> (try exact k)
  all_goals (
    split at k
    · rename_i hl
      first
        | rw [h.h _ _ hl]
        | rw [h.lookB hl]
      exact k
    · cases k)
theorem Sub.bindSrc {s s' : St} (h : Sub s s') {sz : Nat} {x : Operand} {q : List (List SC) × Cut} (k : (Go.Proofs.Ytohfnlkjdjmipaa.opd s x).bind (Go.Proofs.Ytohfnlkjdjmipaa.srcS s sz) = some q) : (Go.Proofs.Ytohfnlkjdjmipaa.opd s' x).bind (Go.Proofs.Ytohfnlkjdjmipaa.srcS s' sz) = some q := by
  obtain ⟨v, h1, h2⟩ := Option.bind_eq_some_iff.1 k
  rw [h.opd h1]
  exact h.srcS h2
theorem Sub.appT {s s' : St} (h : Sub s s') {q : Nat × Nat × Nat × Nat × Nat × Nat × List (List SC) × List (List SC) × Cut} (k : appTArgs P s o = some q) : appTArgs P s' o = some q := by
  unfold appTArgs at k ⊢
  split at k
  rotate_left
  · cases k
  split at k
  rotate_left
  · cases k
  rename_i x y t t' hxs hts
  try rw [hxs, hts]
  try simp only
  split at k
  rotate_left
  · cases k
  rename_i e hu
  try rw [hu]
  try simp only
  split at k
  rotate_left
  · cases k
  rename_i ie hie
  try rw [hie]
  try simp only
  split at k
  rotate_left
  · cases k
  rename_i sz d N a b c hx hy
  rw [h.opd hx, h.bindSrc hy]
  try simp only
  split at k
  rotate_left
  · cases k
  rename_i e' sz' N' hl
  rw [h.h _ _ hl]
  exact k
theorem Sub.stA {s s' : St} (h : Sub s s') {k : IntKind} {off m : Nat} {q : Nat × Nat × List SC × List SC × List SC × Int} (kk : stAArgs P k off m s o = some q) : stAArgs P k off m s' o = some q := by
  unfold stAArgs at kk ⊢
  split at kk
  rotate_left
  · cases kk
  split at kk
  rotate_left
  · cases kk
  rename_i d off' k' v it hp hx hit hdst
  rw [h.opd hp, h.opd hx, hit, hdst]
  try simp only
  split at kk
  rotate_left
  · cases kk
  rename_i cs hl
  rw [h.lookB hl]
  exact kk
theorem vd_stA {k : IntKind} {d off m : Nat} {i v : Int} {l : List Int} {pre post : List SC} (hc : decide (0 ≤ i ∧ i < (m : Int)) = true) (hpre : decide (pre.length = off) = true) (h : stAArgs P k off m need o = some (d, off + i.toNat, pre, arrS k m l, post, v)) (hg : guardOf ops o need = some true) :
    VD P n ops o ⟨need, o.dst, .tup [], some (d, .box (pre ++ arrS k m (setA m l i.toNat v) ++ post)), false⟩ :=
  fun _K _s hs _ => S_stA hc hpre (hs.stA h) (hs.guard hg)
theorem vd_upd {d : Nat} {r0 r : Res} {v : SV} (hp : UpdOp P o need d r0 r v) (hg : guardOf ops o need = some true) (hd : dstOk n o = true) : VD P n ops o ⟨need, o.dst, v, some (d, r), false⟩ :=
  fun _K _s hs _ => S_upd (hs.upd hp) (hs.guard hg) hd
theorem vd_ownT {e sz : Nat} {xs : List (List SC)} (d : Nat) (hp : OwnOp P o need e sz xs) (hg : guardOf ops o need = some true) (hdst : o.dst = some d) (hd : d < n) (hd6 : d < 1000000) : VD P n ops o ⟨need, some d, .c (.slc sz (d + 2) xs.length xs), some (d, .spare e sz xs.length), true⟩ :=
  fun _K _s hs hn => S_ownT d (hs.own hp) (hs.guard hg) hdst hd hd6 (hn rfl)
theorem vd_ownR {e sz : Nat} {xs : List (List SC)} (d : Nat) (hp : OwnOp P o need e sz xs) (hg : guardOf ops o need = some true) (hdst : o.dst = some d) (hd : d < n) (hd6 : d < 1000000) : VD P n ops o ⟨need, some d, .c (.own d), some (d, .row e sz xs.length xs), true⟩ :=
  fun _K _s hs hn => S_ownR d (hs.own hp) (hs.guard hg) hdst hd hd6 (hn rfl)
theorem vd_appT {d e sz by_ N : Nat} (f : α → List SC) (hone : ∀ x, (f x).all SC.one = true) {l1 l2 l' : List α} {c : Cut} (he : appO by_ l1 (c.app l2) = some l') (h : appTArgs P need o = some (d, e, sz, by_, N, N, l1.map f, l2.map f, c)) (hg : guardOf ops o need = some true) (hd : dstOk n o = true) :
    VD P n ops o ⟨need, o.dst, .c (.slc sz (d + 2) l'.length (l'.map f)), some (d, .spare e sz l'.length), false⟩ :=
  fun _K _s hs _ => S_appT f hone he (hs.appT h) (hs.guard hg) hd
end

/-! ### the rules -/
section
variable {P : Program} {K : Ctx} {n : Nat} {Q : Exit → St → Prop} {C : Cfg} {D : Dr} {α : Type}
theorem TS_upd {d : Nat} {r0 r : Res} {v : SV} (hp : ∀ os o, C.op = some (os, o) → UpdOp P o C.st d r0 r v) (hg : C.go1 n = true) (k : TS P K n (C.next ((C.st.setR d r).put C.dst v)) Q) : TS P K n C Q := by
  obtain ⟨os, o, ho, h1, h2, h3⟩ := go1_spec hg
  rw [h3] at k
  exact TS_stp ho (S_upd (hp os o ho) h1 h2) k
theorem TD_upd {d : Nat} {r0 r : Res} {v : SV} (hp : ∀ os o, D.op = some (os, o) → UpdOp P o D.need d r0 r v) (hg : D.go1 n = true) (k : TD P K n (D.push ⟨D.need, D.dst, v, some (d, r), false⟩) Q) : TD P K n D Q := by
  obtain ⟨os, o, ho, h1, h2, h3⟩ := go1D_spec hg
  rw [h3] at k
  exact push_ok ho (vd_upd (hp os o ho) h1 h2) rfl k
theorem TS_stA {k : IntKind} {d : Nat} (off m : Nat) {i v : Int} (l : List Int) {pre post : List SC} (hc : decide (0 ≤ i ∧ i < (m : Int)) = true) (hpre : decide (pre.length = off) = true) (h : C.with1 (stAArgs P k off m) = some (d, off + i.toNat, pre, arrS k m l, post, v)) (hg : C.go1 n = true)
    (kk : TS P K n (C.next ((C.st.setR d (.box (pre ++ arrS k m (setA m l i.toNat v) ++ post))).put C.dst (.tup []))) Q) : TS P K n C Q := by
  obtain ⟨os, o, ho, h1, h2, h3⟩ := go1_spec hg
  rw [h3] at kk
  exact TS_stp ho (S_stA hc hpre (with1_op h ho) h1) kk
theorem TD_stA {k : IntKind} {d : Nat} (off m : Nat) {i v : Int} (l : List Int) {pre post : List SC} (hc : decide (0 ≤ i ∧ i < (m : Int)) = true) (hpre : decide (pre.length = off) = true) (h : D.with1 (stAArgs P k off m) = some (d, off + i.toNat, pre, arrS k m l, post, v)) (hg : D.go1 n = true)
    (kk : TD P K n (D.push ⟨D.need, D.dst, .tup [], some (d, .box (pre ++ arrS k m (setA m l i.toNat v) ++ post)), false⟩) Q) : TD P K n D Q := by
  obtain ⟨os, o, ho, h1, h2, h3⟩ := go1D_spec hg
  rw [h3] at kk
  exact push_ok ho (vd_stA hc hpre (with1D_op h ho) h1) rfl kk
theorem TS_appR {d e sz by_ N m : Nat} (f : α → List SC) (hone : ∀ x, (f x).all SC.one = true) {l1 l2 l' : List α} {c : Cut} (he : appO by_ (l1.take m) (c.app l2) = some l') (h : C.with1 (appRArgs P) = some (d, e, sz, by_, N, l1.map f, m, l2.map f, c)) (hg : C.go1 n = true)
    (k : TS P K n (C.next (((C.st.mapC (SC.kill d)).setR d (.row e sz l'.length (l'.map f))).put C.dst (.c (.own d)))) Q) : TS P K n C Q := by
  obtain ⟨os, o, ho, h1, h2, h3⟩ := go1_spec hg
  rw [h3] at k
  exact TS_stp ho (S_appR f hone he (with1_op h ho) h1 h2) k
def Dr.okNew (n d : Nat) (D : Dr) : Bool := D.go1 n && (match D.dst with | some t => t == d | none => false) && decide (d < 1000000)
theorem okNewD_spec {d : Nat} (h : D.okNew n d = true) : ∃ os o, D.op = some (os, o) ∧ guardOf os o D.need = some true ∧ o.dst = some d ∧ d < n ∧ d < 1000000 := by
  simp only [Dr.okNew, Bool.and_eq_true, decide_eq_true_eq] at h
  obtain ⟨⟨h1, h2⟩, h3⟩ := h
  obtain ⟨os, o, ho, k1, k2, k3⟩ := go1D_spec h1
  rw [k3] at h2
  have hd : o.dst = some d := by
    cases hq : o.dst with
    | none => rw [hq] at h2; cases h2
    | some t => rw [hq] at h2; simp at h2; rw [h2]
  exact ⟨os, o, ho, k1, hd, dstOk_spec k2 d hd, h3⟩
theorem TD_ownT {e sz : Nat} {xs : List (List SC)} (d : Nat) (hp : ∀ os o, D.op = some (os, o) → OwnOp P o D.need e sz xs) (hg : D.okNew n d = true) (k : TD P K n (D.push ⟨D.need, some d, .c (.slc sz (d + 2) xs.length xs), some (d, .spare e sz xs.length), true⟩) Q) : TD P K n D Q := by
  obtain ⟨os, o, ho, h1, h2, h3, h4⟩ := okNewD_spec hg
  exact push_ok ho (vd_ownT d (hp os o ho) h1 h2 h3 h4) rfl k
theorem TD_ownR {e sz : Nat} {xs : List (List SC)} (d : Nat) (hp : ∀ os o, D.op = some (os, o) → OwnOp P o D.need e sz xs) (hg : D.okNew n d = true) (k : TD P K n (D.push ⟨D.need, some d, .c (.own d), some (d, .row e sz xs.length xs), true⟩) Q) : TD P K n D Q := by
  obtain ⟨os, o, ho, h1, h2, h3, h4⟩ := okNewD_spec hg
  exact push_ok ho (vd_ownR d (hp os o ho) h1 h2 h3 h4) rfl k
theorem TD_appT {d e sz by_ N : Nat} (f : α → List SC) (hone : ∀ x, (f x).all SC.one = true) {l1 l2 l' : List α} {c : Cut} (he : appO by_ l1 (c.app l2) = some l') (h : D.with1 (appTArgs P) = some (d, e, sz, by_, N, N, l1.map f, l2.map f, c)) (hg : D.go1 n = true)
    (k : TD P K n (D.push ⟨D.need, D.dst, .c (.slc sz (d + 2) l'.length (l'.map f)), some (d, .spare e sz l'.length), false⟩) Q) : TD P K n D Q := by
  obtain ⟨os, o, ho, h1, h2, h3⟩ := go1D_spec hg
  rw [h3] at k
  exact push_ok ho (vd_appT f hone he (with1D_op h ho) h1 h2) rfl k
theorem TS_idxR (d sz a : Nat) (f : α → List SC) (c : Cut) {l : List α} {i : Int} {x : α} (hx : idx (c.app l) i = some x) (h : C.with1 (idxRArgs P) = some (d, sz, l.map f, c, a, i)) (hg : C.go1 n = true) (kk : TS P K n (C.ret (.c (.elt d sz (a + i.toNat) 0))) Q) : TS P K n C Q :=
  TS_val _ hg (fun _os _o ho => grow_idxR hx (with1_op h ho)) kk
theorem TD_idxR (d sz a : Nat) (f : α → List SC) (c : Cut) {l : List α} {i : Int} {x : α} (hx : idx (c.app l) i = some x) (h : D.with1 (idxRArgs P) = some (d, sz, l.map f, c, a, i)) (hg : D.go1 n = true) (kk : TD P K n (D.ret (.c (.elt d sz (a + i.toNat) 0))) Q) : TD P K n D Q :=
  TD_val _ hg (fun _os _o ho => grow_idxR hx (with1D_op h ho)) kk
theorem TS_ldE (t : TypeId) (i off : Nat) (f : α → List SC) {l : List α} {x : α} {v : SV} (hx : l[i]? = some x) (hv : wrapT P t ((f x).drop off) = some v) (h : C.with1 (ldEArgs P) = some (t, l.map f, i, off)) (hg : C.go1 n = true) (kk : TS P K n (C.ret (v)) Q) : TS P K n C Q :=
  TS_val _ hg (fun _os _o ho => grow_ldE hx (with1_op h ho) hv) kk
theorem TD_ldE (t : TypeId) (i off : Nat) (f : α → List SC) {l : List α} {x : α} {v : SV} (hx : l[i]? = some x) (hv : wrapT P t ((f x).drop off) = some v) (h : D.with1 (ldEArgs P) = some (t, l.map f, i, off)) (hg : D.go1 n = true) (kk : TD P K n (D.ret (v)) Q) : TD P K n D Q :=
  TD_val _ hg (fun _os _o ho => grow_ldE hx (with1D_op h ho) hv) kk
theorem TS_slRow (d sz N : Nat) {a b : Int} (hc : decide (0 ≤ a ∧ a ≤ b ∧ b ≤ (N : Int)) = true) (ha : a = 0) (h : C.with1 (slRArgs P) = some (d, sz, N, a, b)) (hg : C.go1 n = true) (kk : TS P K n (C.ret (.c (.row d b.toNat))) Q) : TS P K n C Q :=
  TS_val _ hg (fun _os _o ho => grow_slRow (with1_op h ho) hc ha) kk
theorem TD_slRow (d sz N : Nat) {a b : Int} (hc : decide (0 ≤ a ∧ a ≤ b ∧ b ≤ (N : Int)) = true) (ha : a = 0) (h : D.with1 (slRArgs P) = some (d, sz, N, a, b)) (hg : D.go1 n = true) (kk : TD P K n (D.ret (.c (.row d b.toNat))) Q) : TD P K n D Q :=
  TD_val _ hg (fun _os _o ho => grow_slRow (with1D_op h ho) hc ha) kk
theorem TS_slSub (d sz N : Nat) {a b : Int} (hc : decide (0 ≤ a ∧ a ≤ b ∧ b ≤ (N : Int)) = true) (h : C.with1 (slRArgs P) = some (d, sz, N, a, b)) (hg : C.go1 n = true) (kk : TS P K n (C.ret (.c (.sub d sz a.toNat (b.toNat - a.toNat)))) Q) : TS P K n C Q :=
  TS_val _ hg (fun _os _o ho => grow_slSub (with1_op h ho) hc) kk
theorem TD_slSub (d sz N : Nat) {a b : Int} (hc : decide (0 ≤ a ∧ a ≤ b ∧ b ≤ (N : Int)) = true) (h : D.with1 (slRArgs P) = some (d, sz, N, a, b)) (hg : D.go1 n = true) (kk : TD P K n (D.ret (.c (.sub d sz a.toNat (b.toNat - a.toNat)))) Q) : TD P K n D Q :=
  TD_val _ hg (fun _os _o ho => grow_slSub (with1D_op h ho) hc) kk
theorem TS_cmp (f : FuncId) (l1 l2 : List Int) (c1 c2 : Cut) (hx : Ext1 P f Extern.BytealgCompare.compare) (h : C.with1 (cmpArgs) = some (f, l1.map (ecI .u8), c1, l2.map (ecI .u8), c2)) (hg : C.go1 n = true) (kk : TS P K n (C.ret (int .i64 (cmpB (c1.app l1) (c2.app l2)))) Q) : TS P K n C Q :=
  TS_val _ hg (fun _os _o ho => grow_cmp hx (with1_op h ho)) kk
theorem TD_cmp (f : FuncId) (l1 l2 : List Int) (c1 c2 : Cut) (hx : Ext1 P f Extern.BytealgCompare.compare) (h : D.with1 (cmpArgs) = some (f, l1.map (ecI .u8), c1, l2.map (ecI .u8), c2)) (hg : D.go1 n = true) (kk : TD P K n (D.ret (int .i64 (cmpB (c1.app l1) (c2.app l2)))) Q) : TD P K n D Q :=
  TD_val _ hg (fun _os _o ho => grow_cmp hx (with1D_op h ho)) kk
theorem TS_win (d off m : Nat) {a b : Int} (hc : decide (0 ≤ a ∧ a ≤ b ∧ b ≤ (m : Int)) = true) (hn : decide (m ≤ 140737488355328) = true) (h : C.with1 (winArgs P) = some (d, off, m, a, b)) (hg : C.go1 n = true) (kk : TS P K n (C.ret (.c (.win d (off + a.toNat) (b.toNat - a.toNat)))) Q) : TS P K n C Q :=
  TS_val _ hg (fun _os _o ho => grow_win (with1_op h ho) hc hn) kk
theorem TD_win (d off m : Nat) {a b : Int} (hc : decide (0 ≤ a ∧ a ≤ b ∧ b ≤ (m : Int)) = true) (hn : decide (m ≤ 140737488355328) = true) (h : D.with1 (winArgs P) = some (d, off, m, a, b)) (hg : D.go1 n = true) (kk : TD P K n (D.ret (.c (.win d (off + a.toNat) (b.toNat - a.toNat)))) Q) : TD P K n D Q :=
  TD_val _ hg (fun _os _o ho => grow_win (with1D_op h ho) hc hn) kk
theorem TS_idxA (d off m : Nat) {i : Int} (hc : decide (0 ≤ i ∧ i < (m : Int)) = true) (h : C.with1 (idxAArgs P) = some (d, off, m, i)) (hg : C.go1 n = true) (kk : TS P K n (C.ret (.c (.box d (off + i.toNat)))) Q) : TS P K n C Q :=
  TS_val _ hg (fun _os _o ho => grow_idxA (with1_op h ho) hc) kk
theorem TD_idxA (d off m : Nat) {i : Int} (hc : decide (0 ≤ i ∧ i < (m : Int)) = true) (h : D.with1 (idxAArgs P) = some (d, off, m, i)) (hg : D.go1 n = true) (kk : TD P K n (D.ret (.c (.box d (off + i.toNat)))) Q) : TD P K n D Q :=
  TD_val _ hg (fun _os _o ho => grow_idxA (with1D_op h ho) hc) kk
theorem TS_ldA (k : IntKind) (off m : Nat) {i : Int} (l : List Int) (hc : decide (0 ≤ i ∧ i < (m : Int)) = true) (h : C.with1 (ldAArgs P k off m) = some (off + i.toNat, arrS k m l)) (hg : C.go1 n = true) (kk : TS P K n (C.ret (int k (l.getD i.toNat 0))) Q) : TS P K n C Q :=
  TS_val _ hg (fun _os _o ho => grow_ldA hc (with1_op h ho)) kk
theorem TD_ldA (k : IntKind) (off m : Nat) {i : Int} (l : List Int) (hc : decide (0 ≤ i ∧ i < (m : Int)) = true) (h : D.with1 (ldAArgs P k off m) = some (off + i.toNat, arrS k m l)) (hg : D.go1 n = true) (kk : TD P K n (D.ret (int k (l.getD i.toNat 0))) Q) : TD P K n D Q :=
  TD_val _ hg (fun _os _o ho => grow_ldA hc (with1D_op h ho)) kk
theorem TS_stE (d e sz N i off : Nat) (f : α → List SC) {l : List α} {x : α} (x' : α) {ds : List SC} (hx : l[i]? = some x) (hx' : over (f x) off ds = f x') (hlen : (decide (off + ds.length ≤ (f x).length) && ds.all SC.one) = true) (h : C.with1 (stEArgs P) = some (d, e, sz, N, l.map f, i, off, ds)) (hg : C.go1 n = true) (kk : TS P K n (C.next ((C.st.setR d (.row e sz (l.set i x').length ((l.set i x').map f))).put C.dst (.tup []))) Q) : TS P K n C Q :=
  TS_upd (fun _os _o ho => upd_stE hx (with1_op h ho) hx' hlen) hg kk
theorem TD_stE (d e sz N i off : Nat) (f : α → List SC) {l : List α} {x : α} (x' : α) {ds : List SC} (hx : l[i]? = some x) (hx' : over (f x) off ds = f x') (hlen : (decide (off + ds.length ≤ (f x).length) && ds.all SC.one) = true) (h : D.with1 (stEArgs P) = some (d, e, sz, N, l.map f, i, off, ds)) (hg : D.go1 n = true) (kk : TD P K n (D.push ⟨D.need, D.dst, .tup [], some (d, .row e sz (l.set i x').length ((l.set i x').map f)), false⟩) Q) : TD P K n D Q :=
  TD_upd (fun _os _o ho => upd_stE hx (with1D_op h ho) hx' hlen) hg kk
theorem TS_cpR (d e sz N a : Nat) (f : α → List SC) (hone : ∀ x, (f x).all SC.one = true) {l l2 : List α} (c c' : Cut) (h : C.with1 (cpArgs P) = some (d, e, sz, N, l.map f, c, a, l2.map f, c')) (hg : C.go1 n = true) (kk : TS P K n (C.next ((C.st.setR d (.row e sz (cpL l a (c.app l).length (c'.app l2)).length ((cpL l a (c.app l).length (c'.app l2)).map f))).put C.dst (int .i64 (min (c'.app l2).length (c.app l).length : Nat)))) Q) : TS P K n C Q :=
  TS_upd (fun _os _o ho => upd_cpR hone (with1_op h ho)) hg kk
theorem TD_cpR (d e sz N a : Nat) (f : α → List SC) (hone : ∀ x, (f x).all SC.one = true) {l l2 : List α} (c c' : Cut) (h : D.with1 (cpArgs P) = some (d, e, sz, N, l.map f, c, a, l2.map f, c')) (hg : D.go1 n = true) (kk : TD P K n (D.push ⟨D.need, D.dst, int .i64 (min (c'.app l2).length (c.app l).length : Nat), some (d, .row e sz (cpL l a (c.app l).length (c'.app l2)).length ((cpL l a (c.app l).length (c'.app l2)).map f)), false⟩) Q) : TD P K n D Q :=
  TD_upd (fun _os _o ho => upd_cpR hone (with1D_op h ho)) hg kk
theorem TS_appNT (d : Nat) (e sz : Nat) {by_ : Nat} (f : α → List SC) (hone : ∀ x, (f x).all SC.one = true) {l2 l' : List α} (c : Cut) (he : appO by_ ([] : List α) (c.app l2) = some l') (h : C.with1 (appNArgs P) = some (e, sz, by_, l2.map f, c)) (hg : C.okNew n d = true) (kk : TS P K n (C.next ((C.st.setR d (.spare e sz (l'.length))).put (some d) (.c (.slc sz (d + 2) (l'.length) (l'.map f))))) Q) : TS P K n C Q := by
  refine TS_ownT (e := e) (sz := sz) (xs := l'.map f) d (fun os o ho => own_appN f hone he (with1_op h ho)) hg ?_
  rw [List.length_map]
  exact kk
theorem TD_appNT (d : Nat) (e sz : Nat) {by_ : Nat} (f : α → List SC) (hone : ∀ x, (f x).all SC.one = true) {l2 l' : List α} (c : Cut) (he : appO by_ ([] : List α) (c.app l2) = some l') (h : D.with1 (appNArgs P) = some (e, sz, by_, l2.map f, c)) (hg : D.okNew n d = true) (kk : TD P K n (D.push ⟨D.need, some d, .c (.slc sz (d + 2) (l'.length) (l'.map f)), some (d, .spare e sz (l'.length)), true⟩) Q) : TD P K n D Q := by
  refine TD_ownT (e := e) (sz := sz) (xs := l'.map f) d (fun os o ho => own_appN f hone he (with1D_op h ho)) hg ?_
  rw [List.length_map]
  exact kk
theorem TS_appNR (d : Nat) (e sz : Nat) {by_ : Nat} (f : α → List SC) (hone : ∀ x, (f x).all SC.one = true) {l2 l' : List α} (c : Cut) (he : appO by_ ([] : List α) (c.app l2) = some l') (h : C.with1 (appNArgs P) = some (e, sz, by_, l2.map f, c)) (hg : C.okNew n d = true) (kk : TS P K n (C.next ((C.st.setR d (.row e sz (l'.length) (l'.map f))).put (some d) (.c (.own d)))) Q) : TS P K n C Q := by
  refine TS_ownR (e := e) (sz := sz) (xs := l'.map f) d (fun os o ho => own_appN f hone he (with1_op h ho)) hg ?_
  rw [List.length_map]
  exact kk
theorem TD_appNR (d : Nat) (e sz : Nat) {by_ : Nat} (f : α → List SC) (hone : ∀ x, (f x).all SC.one = true) {l2 l' : List α} (c : Cut) (he : appO by_ ([] : List α) (c.app l2) = some l') (h : D.with1 (appNArgs P) = some (e, sz, by_, l2.map f, c)) (hg : D.okNew n d = true) (kk : TD P K n (D.push ⟨D.need, some d, .c (.own d), some (d, .row e sz (l'.length) (l'.map f)), true⟩) Q) : TD P K n D Q := by
  refine TD_ownR (e := e) (sz := sz) (xs := l'.map f) d (fun os o ho => own_appN f hone he (with1D_op h ho)) hg ?_
  rw [List.length_map]
  exact kk
theorem TS_litNT (d : Nat) (e sz : Nat) (f : α → List SC) (ks : List Nat) (l : List α) (h : C.with1 (litRArgs P ks) = some (e, sz, l.map f)) (hg : C.okNew n d = true) (kk : TS P K n (C.next ((C.st.setR d (.spare e sz (l.length))).put (some d) (.c (.slc sz (d + 2) (l.length) (l.map f))))) Q) : TS P K n C Q := by
  refine TS_ownT (e := e) (sz := sz) (xs := l.map f) d (fun os o ho => own_litS (with1_op h ho)) hg ?_
  rw [List.length_map]
  exact kk
theorem TD_litNT (d : Nat) (e sz : Nat) (f : α → List SC) (ks : List Nat) (l : List α) (h : D.with1 (litRArgs P ks) = some (e, sz, l.map f)) (hg : D.okNew n d = true) (kk : TD P K n (D.push ⟨D.need, some d, .c (.slc sz (d + 2) (l.length) (l.map f)), some (d, .spare e sz (l.length)), true⟩) Q) : TD P K n D Q := by
  refine TD_ownT (e := e) (sz := sz) (xs := l.map f) d (fun os o ho => own_litS (with1D_op h ho)) hg ?_
  rw [List.length_map]
  exact kk
theorem TS_litNR (d : Nat) (e sz : Nat) (f : α → List SC) (ks : List Nat) (l : List α) (h : C.with1 (litRArgs P ks) = some (e, sz, l.map f)) (hg : C.okNew n d = true) (kk : TS P K n (C.next ((C.st.setR d (.row e sz (l.length) (l.map f))).put (some d) (.c (.own d)))) Q) : TS P K n C Q := by
  refine TS_ownR (e := e) (sz := sz) (xs := l.map f) d (fun os o ho => own_litS (with1_op h ho)) hg ?_
  rw [List.length_map]
  exact kk
theorem TD_litNR (d : Nat) (e sz : Nat) (f : α → List SC) (ks : List Nat) (l : List α) (h : D.with1 (litRArgs P ks) = some (e, sz, l.map f)) (hg : D.okNew n d = true) (kk : TD P K n (D.push ⟨D.need, some d, .c (.own d), some (d, .row e sz (l.length) (l.map f)), true⟩) Q) : TD P K n D Q := by
  refine TD_ownR (e := e) (sz := sz) (xs := l.map f) d (fun os o ho => own_litS (with1D_op h ho)) hg ?_
  rw [List.length_map]
  exact kk
theorem TS_makeT (d : Nat) (e sz : Nat) {by_ : Nat} (f : α → List SC) (z0 : α) (ks : List Nat) {cs : List SC} {l c : Int} {m : Nat} (he : mkO by_ l c = some m) (hf : castL ks cs = f z0) (h : C.with1 (makeArgs P) = some (e, sz, by_, cs, l, c)) (hg : C.okNew n d = true) (kk : TS P K n (C.next ((C.st.setR d (.spare e sz ((List.replicate m z0).length))).put (some d) (.c (.slc sz (d + 2) ((List.replicate m z0).length) ((List.replicate m z0).map f))))) Q) : TS P K n C Q := by
  refine TS_ownT (e := e) (sz := sz) (xs := (List.replicate m z0).map f) d (fun os o ho => own_make f z0 ks he (with1_op h ho) hf) hg ?_
  rw [List.length_map]
  exact kk
theorem TD_makeT (d : Nat) (e sz : Nat) {by_ : Nat} (f : α → List SC) (z0 : α) (ks : List Nat) {cs : List SC} {l c : Int} {m : Nat} (he : mkO by_ l c = some m) (hf : castL ks cs = f z0) (h : D.with1 (makeArgs P) = some (e, sz, by_, cs, l, c)) (hg : D.okNew n d = true) (kk : TD P K n (D.push ⟨D.need, some d, .c (.slc sz (d + 2) ((List.replicate m z0).length) ((List.replicate m z0).map f)), some (d, .spare e sz ((List.replicate m z0).length)), true⟩) Q) : TD P K n D Q := by
  refine TD_ownT (e := e) (sz := sz) (xs := (List.replicate m z0).map f) d (fun os o ho => own_make f z0 ks he (with1D_op h ho) hf) hg ?_
  rw [List.length_map]
  exact kk
theorem TS_makeR (d : Nat) (e sz : Nat) {by_ : Nat} (f : α → List SC) (z0 : α) (ks : List Nat) {cs : List SC} {l c : Int} {m : Nat} (he : mkO by_ l c = some m) (hf : castL ks cs = f z0) (h : C.with1 (makeArgs P) = some (e, sz, by_, cs, l, c)) (hg : C.okNew n d = true) (kk : TS P K n (C.next ((C.st.setR d (.row e sz ((List.replicate m z0).length) ((List.replicate m z0).map f))).put (some d) (.c (.own d)))) Q) : TS P K n C Q := by
  refine TS_ownR (e := e) (sz := sz) (xs := (List.replicate m z0).map f) d (fun os o ho => own_make f z0 ks he (with1_op h ho) hf) hg ?_
  rw [List.length_map]
  exact kk
theorem TD_makeR (d : Nat) (e sz : Nat) {by_ : Nat} (f : α → List SC) (z0 : α) (ks : List Nat) {cs : List SC} {l c : Int} {m : Nat} (he : mkO by_ l c = some m) (hf : castL ks cs = f z0) (h : D.with1 (makeArgs P) = some (e, sz, by_, cs, l, c)) (hg : D.okNew n d = true) (kk : TD P K n (D.push ⟨D.need, some d, .c (.own d), some (d, .row e sz ((List.replicate m z0).length) ((List.replicate m z0).map f)), true⟩) Q) : TD P K n D Q := by
  refine TD_ownR (e := e) (sz := sz) (xs := (List.replicate m z0).map f) d (fun os o ho => own_make f z0 ks he (with1D_op h ho) hf) hg ?_
  rw [List.length_map]
  exact kk
def Cfg.calleeF (C : Cfg) (kss : List (List Nat)) : Option (FuncId × List SV) := match C.op with
  | some (_, o) => match calleeOf C.st o with
    | some (f, vs) => (frzL C.st kss vs).map fun A => (f, A)
    | none => none
  | none => none
def Dr.calleeF (D : Dr) (kss : List (List Nat)) : Option (FuncId × List SV) := match D.op with
  | some (_, o) => match calleeOf D.need o with
    | some (f, vs) => (frzL D.need kss vs).map fun A => (f, A)
    | none => none
  | none => none
theorem TS_callF {f : FuncId} {A : List SV} {r : SV} (kss : List (List Nat)) (hp : Con P f A [] r []) (hc : C.calleeF kss = some (f, A)) (hg : (C.go1 n && hasBody P f && r.every SC.isLit) = true) (k : TS P K n (C.ret r) Q) : TS P K n C Q := by
  simp only [Bool.and_eq_true] at hg
  refine TS_val r hg.1.1 (fun os o ho => ?_) k
  unfold Cfg.calleeF at hc
  rw [ho] at hc
  simp only at hc
  split at hc
  · rename_i f' vs h1
    obtain ⟨A', h2, h3⟩ := Option.map_eq_some_iff.1 hc
    cases h3
    exact grow_conF kss h1 hg.1.2 h2 hg.2 hp
  · cases hc
theorem TD_callF {f : FuncId} {A : List SV} {r : SV} (kss : List (List Nat)) (hp : Con P f A [] r []) (hc : D.calleeF kss = some (f, A)) (hg : (D.go1 n && hasBody P f && r.every SC.isLit) = true) (k : TD P K n (D.ret r) Q) : TD P K n D Q := by
  simp only [Bool.and_eq_true] at hg
  refine TD_val r hg.1.1 (fun os o ho => ?_) k
  unfold Dr.calleeF at hc
  rw [ho] at hc
  simp only at hc
  split at hc
  · rename_i f' vs h1
    obtain ⟨A', h2, h3⟩ := Option.map_eq_some_iff.1 hc
    cases h3
    exact grow_conF kss h1 hg.1.2 h2 hg.2 hp
  · cases hc
end
end Go.Proofs.Ytohfnlkjdjmipaa
