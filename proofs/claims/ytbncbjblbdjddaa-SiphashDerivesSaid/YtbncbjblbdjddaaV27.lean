/-
  SHADOWS: strings; copy into a part of an array.
-/
import Derived.Test.YtbncbjblbdjddaaV26
import Derived.Laws.BytesArg
import Derived.Laws.IdiomStrings
namespace Go.Proofs.Ytbncbjblbdjddaa
open Go.RowKit

def bs8 (l : List UInt8) : ByteArray := ⟨l.toArray⟩
def i8L (l : List UInt8) : List Int := l.map fun b => (b.toNat : Int)
theorem bs8_size (l : List UInt8) : (bs8 l).size = l.length := by simp [bs8, ByteArray.size]
theorem bs8_data (l : List UInt8) : (bs8 l).data = l.toArray := rfl
section
variable {P : Program} {o : Oper} {s : St} {α : Type}
/-! ### a string as a row -/
def s2bArgs (P : Program) (s : St) (o : Oper) : Option (Nat × ByteArray) := match o.op with
  | .convert t t' x => match P.underlying t, P.underlying t', opd s x with
    | some .string, some (.slice e), some (.c (.lit (.string b))) => match P.underlying e, P.info? e with
      | some (.int .u8), some ie => if ie.size = 1 then some (e, b) else none
      | _, _ => none
    | _, _, _ => none
  | _ => none
theorem own_s2b {e : Nat} {l : List UInt8} (hl : decide (l.length ≤ maxLen) = true) (h : s2bArgs P s o = some (e, bs8 l)) : OwnOpM P o s e 1 ((i8L l).map (ecI .u8)) := by
  have hl := of_decide_eq_true hl
  unfold s2bArgs at h
  split at h
  rotate_left
  · cases h
  rename_i t t' x ho
  split at h
  rotate_left
  · cases h
  rename_i e1 b hu hu' hx
  split at h
  rotate_left
  · cases h
  rename_i ie he hie
  split at h
  rotate_left
  · cases h
  rename_i hsz
  cases h
  intro g rd a w hview
  have hv := rel_lit (hview.op x _ (by simp [ho, Op.operands]) hx)
  have hr := run_bytes_of_string (P := P) w t t' e (bs8 l) hu hu' he
  have hcs : (bytesRow (bs8 l) (grownCap w (bs8 l).size 0 e)).size = grownCap w (bs8 l).size 0 e := by
    have := grownCap_ge w (bs8 l).size 0 e
    unfold bytesRow
    rw [Array.size_append, Array.size_map, Array.size_replicate, bs8_data, List.size_toArray]
    rw [bs8_size] at *
    omega
  have hsub : (bytesRow (bs8 l) (grownCap w (bs8 l).size 0 e)).toList.take l.length = l.map (fun b => Value.int .u8 (b.toNat : Int)) := by
    unfold bytesRow
    rw [Array.toList_append, Array.toList_map, bs8_data]
    simp
  have hge := grownCap_ge w (bs8 l).size 0 e
  have hle := grownCap_le_maxLen w (bs8 l).size 0 e (by rw [bs8_size]; exact hl)
  generalize hC : bytesRow (bs8 l) (grownCap w (bs8 l).size 0 e) = C at *
  generalize grownCap w (bs8 l).size 0 e = cap at *
  rw [bs8_size] at *
  refine ⟨.slice (some ⟨w.heap.size, 0, none⟩) l.length cap, w.drew.alloc (.cells C e (C.size, C.size + 1)), l.map (fun b => Value.int .u8 (b.toNat : Int)), ?_, (Ext.drew w).trans (Ext.alloc _ _), ?_, ?_, ?_⟩
  · simp only [execOp, ho, hv, hr, Sem.run_bind, Sem.run_pure, Result.andThen_ok]
  · simp only [i8L, List.length_map]
    refine ⟨by simp, .inr ⟨w.heap.size, cap, C, _, rfl, heap_alloc_new w.drew _, fun j hj q => by simp only at q; omega, hge, hle, ?_, ?_⟩⟩
    · rw [hcs, Nat.mul_one]
    · rw [Nat.mul_one]; exact hsub
  · intro b hb
    simp only [Value.ownBlock, Option.some.injEq] at hb
    omega
  · refine ⟨fun x hx => ?_, fun i x j y hx hy => ?_⟩
    · obtain ⟨n, _, rfl⟩ := List.mem_map.1 hx
      rfl
    · rw [List.getElem?_map, i8L, List.getElem?_map] at hx
      cases hb : l[i]? with
      | none => rw [hb] at hx; cases hx
      | some b =>
        rw [hb] at hx
        simp only [Option.map_some, Option.some.injEq] at hx
        subst hx
        cases j with
        | zero =>
          simp only [ecI, List.getElem?_cons_zero, Option.some.injEq] at hy
          subst hy
          exact ⟨_, by rw [Nat.mul_one, Nat.add_zero, List.getElem?_map, hb]; rfl, .lit _⟩
        | succ j => simp [ecI] at hy
/-! ### a row as a string -/
def b2sArgs (P : Program) (s : St) (o : Oper) : Option (List (List SC) × Cut) := match o.op with
  | .convert t t' x => match P.underlying t, P.underlying t', (opd s x).bind (srcS s 1) with
    | some (.slice e), some .string, some q => match P.underlying e with
      | some (.int .u8) => some q
      | _ => none
    | _, _, _ => none
  | _ => none
theorem grow_b2s {l : List Int} {c : Cut} (h : b2sArgs P s o = some (l.map (ecI .u8), c)) : GrowOp P o s (.c (.lit (.string (bs8 (u8L (c.app l)))))) := by
  unfold b2sArgs at h
  split at h
  rotate_left
  · cases h
  rename_i t t' x ho
  split at h
  rotate_left
  · cases h
  rename_i e q hu hu' hx
  split at h
  rotate_left
  · cases h
  rename_i he
  cases h
  obtain ⟨vx, hx1, hx2⟩ := Option.bind_eq_some_iff.1 hx
  refine PureOp.grow fun g rd a w hview => ?_
  have hsrc := srcS_rel hx2 hview (hview.op x _ (by simp [ho, Op.operands]) hx1)
  rw [Cut.map] at hsrc
  generalize hau : a.eval x = u at *
  refine ⟨.string (bs8 (u8L (c.app l))), ?_, .lit _⟩
  obtain ⟨ad, cp, vals, hu1, h1, h2, h3, h4, h5, h6⟩ := hsrc
  rw [List.length_map] at hu1 h1
  generalize hll : c.app l = l' at *
  have hconv : (convert t t' u).run P w = .ok (.string (bs8 (u8L l'))) w := by
    subst hu1
    rw [run_convert_bytes_string w t t' e ad l'.length cp hu he hu']
    cases ad with
    | none =>
      rcases h3 with h3 | ⟨ad, q, _⟩
      · have := List.map_eq_nil_iff.1 h3
        subst this
        simp [Conv.bytesToString, bs8, u8L]
        rfl
      · cases q
    | some ad =>
      have hl := run_loadCells_list (P := P) w ad (l'.map (Value.int .u8)) (fun j v hj => by
        rw [List.getElem?_map] at hj
        cases hn : l'[j]? with
        | none => rw [hn] at hj; cases hj
        | some n =>
          rw [hn] at hj
          cases hj
          rcases h3 with h3 | ⟨ad', q, h3⟩
          · rw [List.map_eq_nil_iff.1 h3] at hn; cases hn
          · cases q
            obtain ⟨v, q1, q2⟩ := h2.2 j _ 0 (.lit (.int .u8 n)) (by rw [List.getElem?_map, hn]; rfl) rfl
            rw [Nat.mul_one, Nat.add_zero] at q1
            rw [h3 _ _ q1]
            cases q2
            rfl)
      rw [List.length_map] at hl
      rw [run_bytesToString w ad l'.length cp l' hl, foldl_push_bytes]
      have he0 : ByteArray.empty.data = #[] := rfl
      rw [he0]
      simp [bs8, u8L]
  simp only [execOp, ho, hau, hconv, Sem.run_bind, Sem.run_pure, Result.andThen_ok]
/-! ### strings compared -/
def strOp (op : BinOp) (x y : List UInt8) : Option Bool := match op with
  | .eql => some (x == y)
  | .neq => some (!(x == y))
  | .lss => some (Go.Op.bytesLess x y)
  | .leq => some (Go.Op.bytesLess x y || x == y)
  | .gtr => some (!(Go.Op.bytesLess x y || x == y))
  | .geq => some (!Go.Op.bytesLess x y)
  | _ => none
def strArgs (s : St) (o : Oper) : Option (BinOp × ByteArray × ByteArray) := match o.op with
  | .binOp op _ x y _ => match opd s x, opd s y with
    | some (.c (.lit (.string a))), some (.c (.lit (.string b))) => some (op, a, b)
    | _, _ => none
  | _ => none
theorem bs8_toList (l : List UInt8) : (bs8 l).toList = l := by
  have key : ∀ (l : List UInt8) (n i : Nat) (r : List UInt8), l.length - i = n → ByteArray.toList.loop (bs8 l) i r = r.reverse ++ l.drop i := by
    intro l n
    induction n with
    | zero =>
      intro i r h
      rw [ByteArray.toList.loop]
      rw [if_neg (by rw [bs8_size]; omega), List.drop_eq_nil_of_le (by omega), List.append_nil]
    | succ n ih =>
      intro i r h
      rw [ByteArray.toList.loop]
      rw [if_pos (by rw [bs8_size]; omega), ih (i + 1) _ (by omega)]
      have hi : i < l.length := by omega
      rw [List.drop_eq_getElem_cons hi]
      have : (bs8 l).get! i = l[i] := by
        simp [bs8, ByteArray.get!, hi]
      rw [this]
      simp
  unfold ByteArray.toList
  rw [key l l.length 0 [] (by omega)]
  simp
theorem grow_str {op : BinOp} {a b : List UInt8} {r : Bool} (hr : strOp op a b = some r) (h : strArgs s o = some (op, bs8 a, bs8 b)) : GrowOp P o s (bool r) := by
  unfold strArgs at h
  split at h
  rotate_left
  · cases h
  rename_i op1 t x y t' ho
  split at h
  rotate_left
  · cases h
  rename_i a1 b1 hx hy
  cases h
  refine PureOp.grow fun g rd A w hview => ?_
  have h1 := rel_lit (hview.op x _ (by simp [ho, Op.operands]) hx)
  have h2 := rel_lit (hview.op y _ (by simp [ho, Op.operands]) hy)
  refine ⟨.bool r, ?_, .lit _⟩
  cases op <;> simp only [strOp, Option.some.injEq, reduceCtorEq] at hr <;> subst hr <;> simp [execOp, ho, h1, h2, eqGuard, binOp, Go.Op.stringOp, bs8_toList]
/-! ### the length of a string -/
def slenArgs (P : Program) (s : St) (o : Oper) : Option ByteArray := match o.op with
  | .call { callee := .builtin .len, args := xs, argTypes := ts } => match xs.toList, ts.toList with
    | [x], [t] => match P.underlying t, opd s x with
      | some .string, some (.c (.lit (.string b))) => some b
      | _, _ => none
    | _, _ => none
  | _ => none
theorem grow_slen {a : List UInt8} (h : slenArgs P s o = some (bs8 a)) : GrowOp P o s (int .i64 a.length) := by
  unfold slenArgs at h
  split at h
  rotate_left
  · cases h
  rename_i xs ts ho
  split at h
  rotate_left
  · cases h
  rename_i x t hxs hts
  have hxs' : xs = #[x] := by rw [← Array.toArray_toList (xs := xs), hxs]
  have hts' : ts = #[t] := by rw [← Array.toArray_toList (xs := ts), hts]
  subst hxs'
  subst hts'
  split at h
  rotate_left
  · cases h
  rename_i b hu hx
  cases h
  refine PureOp.grow fun g rd A w hview => ?_
  have h1 := rel_lit (hview.op x _ (by simp [ho, Op.operands, Call.operands]) hx)
  refine ⟨.int .i64 a.length, ?_, .lit _⟩
  simp [execOp, ho, resolve, invoke, builtin, h1, Builtin.len_, run_underlying hu, goInt, bs8_size]
/-! ### copy into a part of an array -/
def cpA (m : Nat) (l l2 : List Int) : List Int := (List.range m).map fun i => if i < l2.length then l2.getD i 0 else l.getD i 0
def cpWArgs (P : Program) (off m : Nat) (s : St) (o : Oper) : Option (Nat × List SC × List SC × List SC × List (List SC) × Cut) := match o.op with
  | .call { callee := .builtin .copy, args := xs, argTypes := ts } => match xs.toList, ts.toList with
    | [x, y], [t, _] => match P.underlying t with
      | some (.slice e') => match P.info? e' with
        | some ie => match opd s x, (opd s y).bind (srcS s 1) with
          | some (.c (.win d off' m')), some (ys, c') => match s.lookB d with
            | some cs => if ie.size = 1 ∧ off' = off ∧ m' = m ∧ off + m ≤ cs.length then some (d, cs.take off, (cs.drop off).take m, cs.drop (off + m), ys, c') else none
            | none => none
          | _, _ => none
        | none => none
      | _ => none
    | _, _ => none
  | _ => none
theorem arrS_getI (k : IntKind) (m : Nat) (l : List Int) (i : Nat) : (arrS k m l)[i]? = if i < m then some (.lit (.int k (l.getD i 0))) else none := by
  unfold arrS
  rw [List.getElem?_map]
  by_cases h : i < m
  · rw [if_pos h, List.getElem?_range h]; rfl
  · rw [if_neg h, List.getElem?_eq_none (by simpa using h)]; rfl
theorem arrS_len (k : IntKind) (m : Nat) (l : List Int) : (arrS k m l).length = m := by simp [arrS]
theorem cpA_get (m : Nat) (l l2 : List Int) (i : Nat) (h : i < m) : (cpA m l l2).getD i 0 = if i < l2.length then l2.getD i 0 else l.getD i 0 := by
  unfold cpA
  rw [List.getD_eq_getElem?_getD, List.getElem?_map, List.getElem?_range h]
  rfl
theorem mid_get {pre A A' post : List SC} (hl : A.length = A'.length) (j : Nat) (h : ∀ i, pre.length + i = j → i < A.length → A[i]? = A'[i]?) : (pre ++ A ++ post)[j]? = (pre ++ A' ++ post)[j]? := by
  simp only [List.append_assoc, List.getElem?_append]
  by_cases h1 : j < pre.length
  · simp only [if_pos h1]
  · simp only [if_neg h1, ← hl]
    by_cases h2 : j - pre.length < A.length
    · simp only [if_pos h2]; exact h _ (by omega) h2
    · simp only [if_neg h2]
theorem upd_cpW {d off m : Nat} {k : IntKind} {l l2 : List Int} {pre post : List SC} {c' : Cut} (hpre : decide (pre.length = off) = true) (h : cpWArgs P off m s o = some (d, pre, arrS k m l, post, l2.map (ecI k), c')) :
    UpdOp P o s d (.box (pre ++ arrS k m l ++ post)) (.box (pre ++ arrS k m (cpA m l (c'.app l2)) ++ post)) (int .i64 (min (c'.app l2).length m : Nat)) := by
  have hpl := of_decide_eq_true hpre
  unfold cpWArgs at h
  split at h
  rotate_left
  · cases h
  rename_i xs ts ho
  split at h
  rotate_left
  · cases h
  rename_i x y t t' hxs hts
  have hxs' : xs = #[x, y] := by rw [← Array.toArray_toList (xs := xs), hxs]
  have hts' : ts = #[t, t'] := by rw [← Array.toArray_toList (xs := ts), hts]
  subst hxs'
  subst hts'
  split at h
  rotate_left
  · cases h
  rename_i e1 hu
  split at h
  rotate_left
  · cases h
  rename_i ie hie
  split at h
  rotate_left
  · cases h
  rename_i d1 off1 m1 ys c1 hx hy
  split at h
  rotate_left
  · cases h
  rename_i cs hl
  split at h
  rotate_left
  · cases h
  rename_i hq
  obtain ⟨hsz, rfl, rfl, hlen⟩ := hq
  injection h with h
  simp only [Prod.mk.injEq] at h
  obtain ⟨rfl, h3, h4, h5, rfl, rfl⟩ := h
  have hcs : cs = pre ++ arrS k m1 l ++ post := by
    rw [← h3, ← h4, ← h5]
    rw [List.append_assoc, ← List.drop_drop, List.take_append_drop, List.take_append_drop]
  have hl' := lookB_some hl
  rw [hcs] at hl'
  refine ⟨hl', rfl, fun g b o' hf => ?_, fun g rd A w hview => ?_⟩
  · simp only [Foot, List.length_append, arrS_len] at hf ⊢
    exact hf
  obtain ⟨vy, hy1, hy2⟩ := Option.bind_eq_some_iff.1 hy
  have hvx := hview.op x _ (by simp [ho, Op.operands, Call.operands]) hx
  obtain ⟨ax, cx, hax, hc1, hc2, hc3⟩ := hvx
  obtain ⟨ay, cy, vals, v1, v2, v3, v4, _⟩ := srcS_rel hy2 hview (hview.op y _ (by simp [ho, Op.operands, Call.operands]) hy1)
  rw [Cut.map] at v1 v2 v3 v4
  rw [List.length_map] at v1 v2
  have hold : Holds rd g w d1 (.box (pre ++ arrS k m1 l ++ post)) := hview.holds d1 _ hl'
  simp only [execOp, ho, resolve, invoke, builtin, Sem.run_bind, Sem.run_pure, Result.andThen_ok, List.map_toArray, List.map_cons, List.map_nil, hax, v1]
  generalize hl2 : c1.app l2 = l2' at *
  generalize hk : min l2'.length m1 = kk at *
  have hk' : Nat.min l2'.length m1 = kk := hk
  by_cases hk0 : kk = 0
  · rw [run_copy_zero t t' o.type _ ie hu hie _ _ _ _ _ _ (by rw [hk', hk0])]
    simp only [Result.andThen_ok]
    refine ⟨_, _, rfl, Keep.refl _ _, .inr ⟨_, rfl, fun rd' _ => ?_⟩, fun rd' hle => ?_⟩
    · rw [hk0]; exact .lit _
    · have : arrS k m1 (cpA m1 l l2') = arrS k m1 l := by
        apply List.ext_getElem?
        intro q
        rw [arrS_getI, arrS_getI]
        by_cases hq : q < m1
        · rw [if_pos hq, if_pos hq, cpA_get _ _ _ _ hq, if_neg (by omega)]
        · rw [if_neg hq, if_neg hq]
      rw [this]
      exact Holds.mono hle hold
  · have hm0 : 0 < m1 := by omega
    have hl20 : 0 < l2'.length := by omega
    rcases hc3 with hc3 | hc3
    · omega
    rcases v4 with v4 | ⟨ad, v4, v5⟩
    · have := List.map_eq_nil_iff.1 v4
      rw [this] at hl20
      simp at hl20
    subst hc3
    subst v4
    have hkl : kk ≤ l2'.length := by omega
    have hkd : kk ≤ m1 := by omega
    have hvl : (vals.take kk).length = kk := by rw [List.length_take, v2]; omega
    have hval : ∀ i, i < kk → vals[i]? = some (.int k (l2'.getD i 0)) := by
      intro i hi
      have hi2 : i < l2'.length := by omega
      obtain ⟨u, q1, q2⟩ := v3.2 i _ 0 (.lit (.int k l2'[i])) (by rw [List.getElem?_map, List.getElem?_eq_getElem hi2]; rfl) rfl
      rw [Nat.mul_one, Nat.add_zero] at q1
      cases q2
      rw [q1, List.getD_eq_getElem?_getD, List.getElem?_eq_getElem hi2]
      rfl
    have hsrc : ∀ j v, (vals.take kk)[j]? = some v → w.cell? (ad.add j) = some v := by
      intro j v hj
      rw [List.getElem?_take] at hj
      split at hj
      · exact v5 j v hj
      · cases hj
    have hthere : ∀ j, j < kk → ∃ u, w.cell? ⟨(g.pos d1).1, (g.pos d1).2 + off1 + j, none⟩ = some u ∧ w.frozen? ⟨(g.pos d1).1, (g.pos d1).2 + off1 + j, none⟩ = false := by
      intro j hj
      obtain ⟨u, q1, q2, _⟩ := hold (off1 + j) (.lit (.int k (l.getD j 0))) (by
        rw [List.append_assoc, List.getElem?_append_right (by omega), List.getElem?_append_left (by rw [arrS_len]; omega), arrS_getI, show off1 + j - pre.length = j by omega, if_pos (by omega)])
      rw [← Nat.add_assoc] at q1 q2
      exact ⟨u, q1, q2⟩
    have hst := run_storeCells_cells (P := P) (g.pos d1).1 ((g.pos d1).2 + off1) (vals.take kk) 0 w
      (fun j hj => by obtain ⟨u, q1, _⟩ := hthere j (by omega); rw [Nat.add_zero, q1]; rfl)
      (fun j hj => by obtain ⟨u, _, q2⟩ := hthere j (by omega); rw [Nat.add_zero]; exact q2)
      (fun v hv => by
        obtain ⟨j, hj, rfl⟩ := List.getElem_of_mem hv
        have := hval j (by omega)
        have h2 : (vals.take kk)[j]? = some (.int k (l2'.getD j 0)) := by rw [List.getElem?_take, if_pos (by omega)]; exact this
        rw [List.getElem?_eq_getElem hj] at h2
        rw [Option.some.inj h2]
        rfl)
    simp only [Nat.add_zero] at hst
    have hfc := run_firstCells_some (P := P) w 1 kk ad l2'.length cy (vals.take kk) (by rw [hvl, Nat.mul_one]) hsrc
    have hrun : (Builtin.copy_ #[t, t'] o.type #[.slice (some ⟨(g.pos d1).1, (g.pos d1).2 + off1, none⟩) m1 cx, .slice (some ad) l2'.length cy]).run P w = .ok (goInt kk) (w.setCells (g.pos d1).1 ((g.pos d1).2 + off1) (vals.take kk)) := by
      simp [Builtin.copy_, run_underlying hu, Builtin.lenOf, sizeOf, typeInfo, hie, hsz, hk', hfc, hst]
    rw [hrun]
    simp only [Result.andThen_ok]
    have hkeep := Keep.setCells (g.pos d1).1 (vals.take kk) ((g.pos d1).2 + off1) w
    rw [hvl] at hkeep
    refine ⟨_, _, rfl, hkeep.weak (fun b o' q => ?_), .inr ⟨_, rfl, fun rd' _ => .lit _⟩, fun rd' hle => ?_⟩
    · obtain ⟨q1, q2, q3⟩ := q
      simp only [Foot, List.length_append, arrS_len]
      exact ⟨q1, by omega, by omega⟩
    · intro j y hj
      by_cases hin : off1 ≤ j ∧ j < off1 + kk
      · rw [List.append_assoc, List.getElem?_append_right (by omega), List.getElem?_append_left (by rw [arrS_len]; omega), arrS_getI, if_pos (by omega), cpA_get _ _ _ _ (by omega), if_pos (by omega)] at hj
        cases hj
        have hc := World.cell?_setCells_in (g.pos d1).1 (vals.take kk) ((g.pos d1).2 + off1) w (fun i hi => by obtain ⟨u, q1, _⟩ := hthere i (by omega); rw [q1]; rfl) (j - off1) (by omega)
        rw [show (g.pos d1).2 + off1 + (j - off1) = (g.pos d1).2 + j by omega] at hc
        obtain ⟨u, q1, q2⟩ := hthere (j - off1) (by omega)
        rw [show (g.pos d1).2 + off1 + (j - off1) = (g.pos d1).2 + j by omega] at q1 q2
        refine ⟨_, hc, by rw [hkeep.frozen (World.block_lt_of_cell? w _ q1)]; exact q2, ?_⟩
        have h2 : (vals.take kk)[j - off1]? = some (.int k (l2'.getD (j - off1) 0)) := by rw [List.getElem?_take, if_pos (by omega)]; exact hval _ (by omega)
        rw [List.getElem?_eq_getElem (by omega)] at h2
        rw [Option.some.inj h2, hpl]
        exact .lit _
      · have hj2 : (pre ++ arrS k m1 l ++ post)[j]? = some y := by
          rw [← hj]
          refine mid_get (by rw [arrS_len, arrS_len]) j (fun i hi hi2 => ?_)
          rw [arrS_len] at hi2
          rw [arrS_getI, if_pos hi2, arrS_getI, if_pos hi2, cpA_get _ _ _ _ hi2, if_neg (by omega)]
        obtain ⟨u, q1, q2, q3⟩ := hold j y hj2
        exact ⟨u, hkeep.cell q1 (fun q => hin ⟨by omega, by omega⟩), by rw [hkeep.frozen (World.block_lt_of_cell? w _ q1)]; exact q2, q3.mono hle⟩
end
/-! ### the rules -/
section
variable {P : Program} {K : Ctx} {n : Nat} {Q : Exit → St → Prop} {C : Cfg} {D : Dr} {α : Type} {ops : Array Oper} {o : Oper} {need : St}
theorem TS_ownM {e sz : Nat} {xs : List (List SC)} (d : Nat) (hp : ∀ os o, C.op = some (os, o) → OwnOpM P o C.st e sz xs) (hg : C.okNew n d = true) (k : TS P K n (C.next ((C.st.setR d (.spare e sz xs.length)).put (some d) (.c (.slc sz (d + 2) xs.length xs)))) Q) : TS P K n C Q := by
  obtain ⟨os, o, ho, h1, h2, h3, h4, h5⟩ := okNew_spec hg
  exact TS_stp ho (S_ownM d (hp os o ho) h1 h2 h3 h4 h5) k
theorem vd_ownM {e sz : Nat} {xs : List (List SC)} (d : Nat) (hp : OwnOpM P o need e sz xs) (hg : guardOf ops o need = some true) (hdst : o.dst = some d) (hd : d < n) (hd6 : d < 1000000) : VD P n ops o ⟨need, some d, .c (.slc sz (d + 2) xs.length xs), some (d, .spare e sz xs.length), true⟩ :=
  fun _K _s hs hn => S_ownM d (hs.ownM hp) (hs.guard hg) hdst hd hd6 (hn rfl)
theorem TD_ownM {e sz : Nat} {xs : List (List SC)} (d : Nat) (hp : ∀ os o, D.op = some (os, o) → OwnOpM P o D.need e sz xs) (hg : D.okNew n d = true) (k : TD P K n (D.push ⟨D.need, some d, .c (.slc sz (d + 2) xs.length xs), some (d, .spare e sz xs.length), true⟩) Q) : TD P K n D Q := by
  obtain ⟨os, o, ho, h1, h2, h3, h4⟩ := okNewD_spec hg
  exact push_ok ho (vd_ownM d (hp os o ho) h1 h2 h3 h4) rfl k
theorem i8L_len (l : List UInt8) (f : Int → List SC) : ((i8L l).map f).length = (i8L l).length := List.length_map _
theorem TS_s2bT (d e sz : Nat) (l : List UInt8) (hl : decide (l.length ≤ maxLen) = true) (hs : sz = 1) (h : C.with1 (s2bArgs P) = some (e, bs8 l)) (hg : C.okNew n d = true) (kk : TS P K n (C.next ((C.st.setR d (.spare e sz (i8L l).length)).put (some d) (.c (.slc sz (d + 2) (i8L l).length ((i8L l).map (ecI .u8)))))) Q) : TS P K n C Q := by
  subst hs
  refine TS_ownM (e := e) (sz := 1) (xs := (i8L l).map (ecI .u8)) d (fun os o ho => own_s2b hl (with1_op h ho)) hg ?_
  rw [i8L_len]
  exact kk
theorem TD_s2bT (d e sz : Nat) (l : List UInt8) (hl : decide (l.length ≤ maxLen) = true) (hs : sz = 1) (h : D.with1 (s2bArgs P) = some (e, bs8 l)) (hg : D.okNew n d = true) (kk : TD P K n (D.push ⟨D.need, some d, .c (.slc sz (d + 2) (i8L l).length ((i8L l).map (ecI .u8))), some (d, .spare e sz (i8L l).length), true⟩) Q) : TD P K n D Q := by
  subst hs
  refine TD_ownM (e := e) (sz := 1) (xs := (i8L l).map (ecI .u8)) d (fun os o ho => own_s2b hl (with1D_op h ho)) hg ?_
  rw [i8L_len]
  exact kk
theorem TS_b2s (l : List Int) (c : Cut) (h : C.with1 (b2sArgs P) = some (l.map (ecI .u8), c)) (hg : C.go1 n = true) (kk : TS P K n (C.ret (.c (.lit (.string (bs8 (u8L (c.app l))))))) Q) : TS P K n C Q :=
  TS_val _ hg (fun _os _o ho => grow_b2s (with1_op h ho)) kk
theorem TD_b2s (l : List Int) (c : Cut) (h : D.with1 (b2sArgs P) = some (l.map (ecI .u8), c)) (hg : D.go1 n = true) (kk : TD P K n (D.ret (.c (.lit (.string (bs8 (u8L (c.app l))))))) Q) : TD P K n D Q :=
  TD_val _ hg (fun _os _o ho => grow_b2s (with1D_op h ho)) kk
theorem TS_str (op : BinOp) (a b : List UInt8) {r : Bool} (hr : strOp op a b = some r) (h : C.with1 strArgs = some (op, bs8 a, bs8 b)) (hg : C.go1 n = true) (kk : TS P K n (C.ret (bool r)) Q) : TS P K n C Q :=
  TS_val _ hg (fun _os _o ho => grow_str hr (with1_op h ho)) kk
theorem TD_str (op : BinOp) (a b : List UInt8) {r : Bool} (hr : strOp op a b = some r) (h : D.with1 strArgs = some (op, bs8 a, bs8 b)) (hg : D.go1 n = true) (kk : TD P K n (D.ret (bool r)) Q) : TD P K n D Q :=
  TD_val _ hg (fun _os _o ho => grow_str hr (with1D_op h ho)) kk
theorem TS_slen (a : List UInt8) (h : C.with1 (slenArgs P) = some (bs8 a)) (hg : C.go1 n = true) (kk : TS P K n (C.ret (int .i64 a.length)) Q) : TS P K n C Q :=
  TS_val _ hg (fun _os _o ho => grow_slen (with1_op h ho)) kk
theorem TD_slen (a : List UInt8) (h : D.with1 (slenArgs P) = some (bs8 a)) (hg : D.go1 n = true) (kk : TD P K n (D.ret (int .i64 a.length)) Q) : TD P K n D Q :=
  TD_val _ hg (fun _os _o ho => grow_slen (with1D_op h ho)) kk
theorem TS_cpW {k : IntKind} (d off m : Nat) (l l2 : List Int) (c' : Cut) {pre post : List SC} (hpre : decide (pre.length = off) = true) (h : C.with1 (cpWArgs P off m) = some (d, pre, arrS k m l, post, l2.map (ecI k), c')) (hg : C.go1 n = true)
    (kk : TS P K n (C.next ((C.st.setR d (.box (pre ++ arrS k m (cpA m l (c'.app l2)) ++ post))).put C.dst (int .i64 (min (c'.app l2).length m : Nat)))) Q) : TS P K n C Q :=
  TS_upd (fun _os _o ho => upd_cpW hpre (with1_op h ho)) hg kk
theorem TD_cpW {k : IntKind} (d off m : Nat) (l l2 : List Int) (c' : Cut) {pre post : List SC} (hpre : decide (pre.length = off) = true) (h : D.with1 (cpWArgs P off m) = some (d, pre, arrS k m l, post, l2.map (ecI k), c')) (hg : D.go1 n = true)
    (kk : TD P K n (D.push ⟨D.need, D.dst, int .i64 (min (c'.app l2).length m : Nat), some (d, .box (pre ++ arrS k m (cpA m l (c'.app l2)) ++ post)), false⟩) Q) : TD P K n D Q :=
  TD_upd (fun _os _o ho => upd_cpW hpre (with1D_op h ho)) hg kk
end
end Go.Proofs.Ytbncbjblbdjddaa
