/-
  SHADOWS, second make: slices that are read, parts of slices, slices written out, append to a slice behind which there is no room.
-/
import Derived.Test.YtohfnlkjdjmipaaV7
import Derived.Laws.Append
namespace Go.Proofs.Ytohfnlkjdjmipaa
open Go.RowKit

def arrS (k : IntKind) (n : Nat) (l : List Int) : List SC := (List.range n).map fun i => .lit (.int k (l.getD i 0))
def ecI (k : IntKind) (n : Int) : List SC := [.lit (.int k n)]
def ecB (b : Bool) : List SC := [.lit (.bool b)]
def ecS {α : Type} (s : Nat) (f : α → List SC) (l : List α) : List SC := [.slc s 0 l.length (l.map f)]
def idx {α : Type} (l : List α) (i : Int) : Option α := if 0 ≤ i then l[i.toNat]? else none
theorem idx_spec {α : Type} {l : List α} {i : Int} {d : α} (h : idx l i = some d) : 0 ≤ i ∧ l[i.toNat]? = some d := by
  unfold idx at h
  split at h
  · exact ⟨‹_›, h⟩
  · cases h
theorem map_get {α β : Type} {f : α → β} {l : List α} {n : Nat} {d : α} (h : l[n]? = some d) : (l.map f)[n]? = some (f d) := by
  rw [List.getElem?_map, h]; rfl
theorem bindO {α β : Type} {x : Option α} {f : α → Option β} {r : β} (h : x.bind f = some r) : ∃ v, x = some v ∧ f v = some r := Option.bind_eq_some_iff.1 h
theorem condO {α : Type} {b : Bool} {x y : Option α} {r : α} (h : (bif b then x else y) = some r) : (b = true ∧ x = some r) ∨ (b = false ∧ y = some r) := by
  cases b
  · exact .inr ⟨rfl, h⟩
  · exact .inl ⟨rfl, h⟩
theorem chkO {α : Type} {b : Bool} {x : Option α} {r : α} (h : (bif b then x else none) = some r) : b = true ∧ x = some r := by
  cases b
  · cases h
  · exact ⟨rfl, h⟩
theorem notT {e : Bool} (h : e = false) : (!e) = true := by rw [h]; rfl
theorem notF {e : Bool} (h : e = true) : (!e) = false := by rw [h]; rfl
def arrEq (n : Nat) (a b : List Int) : Bool := (List.range n).foldr (fun i r => (a.getD i 0 == b.getD i 0) && r) true
def eS {α : Type} (s : Nat) (f : α → List SC) (l : List α) : SC := .slc s 0 l.length (l.map f)
theorem irel_n {rd : Rd} {u : Value} {s N : Nat} {xs : List (List SC)} (h : IRel rd u (.slc s 0 N xs)) : N = xs.length := by
  cases h with
  | nil => rfl
  | slc b o n c s' xs' f hn => exact hn.symm
theorem irel_len {rd : Rd} {u : Value} {s N : Nat} {xs : List (List SC)} (h : IRel rd u (.slc s 0 N xs)) : IRel rd u (.slc s 0 xs.length xs) := by
  rw [← irel_n h]; exact h
/-! ### l[lo:hi] -/
def boundI (d : Int) : Option SV → Option Int
  | none => some d
  | some (.c (.lit (.int _ n))) => some n
  | _ => none
theorem run_bound {P : Program} {w : World} (k : IntKind) (n : Int) (y : Nat) (c : BoundsCode) (h0 : 0 ≤ n) (h1 : n ≤ y) : (Instr.sliceBound (.int k n) y c).run P w = .ok n.toNat w := by
  simp [Instr.sliceBound, asIntOf, h0, h1]
theorem grow_slice {α : Type} {P : Program} {o : Oper} {s : St} {t e : TypeId} {x : Operand} {lo hi : Option Operand} {f : α → List SC} (sz tag N : Nat) (l : List α) (vlo vhi : Option (IntKind × Int)) (a b : Int) (ho : o.op = .slice t x lo hi none) (hx : opd s x = some (.c (.slc sz tag N (l.map f))))
    (hlo : lo.map (opd s) = vlo.map fun p => some (int p.1 p.2)) (hhi : hi.map (opd s) = vhi.map fun p => some (int p.1 p.2)) (ha : a = (vlo.map (·.2)).getD 0) (hb : b = (vhi.map (·.2)).getD (N : Int))
    (hu : P.underlying t = some (.slice e)) (hsz : (P.info? e).map (·.size) = some sz) (h0 : 0 ≤ a) (h1 : a ≤ b) (h2 : b ≤ l.length) : GrowOp P o s (.c (.slc sz 0 ((l.take b.toNat).drop a.toNat).length (((l.take b.toNat).drop a.toNat).map f))) := by
  refine PureOp.grow fun g rd A w hview => ?_
  have hv := hview.op x _ (by simp [ho, Op.operands]) hx
  simp only [VRel, CRel, CRel0] at hv
  have hN : N = l.length := (irel_n hv.1).trans (by simp)
  subst hN
  obtain ⟨i, hi', hsize⟩ := Option.map_eq_some_iff.1 hsz
  have key : ∀ (len cap : Nat), len = l.length → len ≤ cap → (Instr.sliceBounds true len cap (lo.map A.eval) (hi.map A.eval) (none : Option Value)).run P w = .ok (a.toNat, b.toNat, cap) w := by
    intro len cap hlen hcap
    have hb' : (match hi.map A.eval with | some v => Instr.sliceBound v cap .sliceAcap | none => pure len : Sem Nat).run P w = .ok b.toNat w := by
      cases hi with
      | none =>
        cases vhi with
        | none => simp at hb; subst hb; simp [hlen]
        | some p => simp at hhi
      | some y =>
        cases vhi with
        | none => simp at hhi
        | some p =>
          simp only [Option.map_some, Option.some.injEq, Option.getD_some] at hhi hb
          have := rel_lit (hview.op y _ (by simp [ho, Op.operands]) hhi)
          simp only [Option.map_some, this]
          rw [← hb]
          exact run_bound _ _ _ _ (by omega) (by omega)
    have ha' : (match lo.map A.eval with | some v => Instr.sliceBound v b.toNat .sliceB | none => pure 0 : Sem Nat).run P w = .ok a.toNat w := by
      cases lo with
      | none =>
        cases vlo with
        | none => simp at ha; subst ha; simp
        | some p => simp at hlo
      | some y =>
        cases vlo with
        | none => simp at hlo
        | some p =>
          simp only [Option.map_some, Option.some.injEq, Option.getD_some] at hlo ha
          have := rel_lit (hview.op y _ (by simp [ho, Op.operands]) hlo)
          simp only [Option.map_some, this]
          rw [← ha]
          exact run_bound _ _ _ _ (by omega) (by omega)
    unfold Instr.sliceBounds
    cases hi with
    | none =>
      cases lo with
      | none => simp at ha' hb' ⊢; exact ⟨ha', hb'⟩
      | some y => simp only [Option.map_none, Option.map_some, Sem.run_bind, Sem.run_pure, Result.andThen_ok, Option.isSome_none, Bool.false_eq_true, if_false] at ha' hb' ⊢; cases hb'; rw [ha']; simp
    | some z =>
      cases lo with
      | none => simp only [Option.map_none, Option.map_some, Sem.run_bind, Sem.run_pure, Result.andThen_ok, if_true] at ha' hb' ⊢; rw [hb']; simp at ha' ⊢; exact ha'
      | some y => simp only [Option.map_some, Sem.run_bind, Sem.run_pure, Result.andThen_ok, Option.isSome_none, Bool.false_eq_true, if_false, if_true] at ha' hb' ⊢; rw [hb']; simp only [Result.andThen_ok]; rw [ha']; simp
  generalize hev : A.eval x = v at *
  obtain ⟨hv, _⟩ := hv
  generalize hxs : l.map f = xs at hv
  generalize hLL : l.length = LL at hv
  cases hv with
  | nil _ a0 c0 hm =>
    have hl0 : l = [] := by simpa using hxs
    subst hl0
    have hb0 : b.toNat = 0 := by simp at h2; omega
    have ha0 : a.toNat = 0 := by simp at h2; omega
    have hk := key 0 c0 rfl (Nat.zero_le _)
    refine ⟨_, by simp only [execOp, ho, Option.map_none, Instr.sliceAt, Instr.slice, run_underlying hu, hev, hk, sizeOf, typeInfo, program, hi', Sem.run_bind, Sem.run_pure, Sem.run, Result.andThen_ok]; rfl, ?_⟩
    rw [ha0, hb0]
    simp only [VRel, CRel, CRel0, List.take_nil, List.drop_nil, List.map_nil]
    exact ⟨.nil _ _ _ (by omega), trivial⟩
  | slc bb oo n c s' xs' u hn hc hm hs hr hu' =>
    have hk := key LL c hLL.symm hc
    refine ⟨_, by simp only [execOp, ho, Option.map_none, Instr.sliceAt, Instr.slice, run_underlying hu, hev, hk, sizeOf, typeInfo, program, hi', Sem.run_bind, Sem.run_pure, Sem.run, Result.andThen_ok]; rfl, ?_⟩
    simp only [VRel, CRel, CRel0]
    refine ⟨?_, trivial⟩
    by_cases hcl : c = a.toNat
    · rw [if_pos hcl]
      have hbl : b.toNat = a.toNat := by omega
      have : (l.take b.toNat).drop a.toNat = [] := by rw [hbl]; simp
      rw [this, hbl, Nat.sub_self]
      exact .nil _ _ _ (by omega)
    · rw [if_neg hcl]
      simp only [Option.map_some, addr_add, hsize]
      have hlen : ((l.take b.toNat).drop a.toNat).length = b.toNat - a.toNat := by simp; omega
      have get : ∀ (i : Nat) (z : List SC), (((l.take b.toNat).drop a.toNat).map f)[i]? = some z → xs[a.toNat + i]? = some z := by
        intro i z hz
        rw [← hxs, List.getElem?_map]
        rw [List.getElem?_map, List.getElem?_drop, List.getElem?_take] at hz
        split at hz
        · exact hz
        · cases hz
      rw [hlen]
      refine .slc bb (oo + a.toNat * sz) (b.toNat - a.toNat) (c - a.toNat) sz _ (fun i j => u (a.toNat + i) j) (by rw [List.length_map]; exact hlen) (by omega) (by omega) ?_ ?_ ?_
      · intro z hz
        obtain ⟨i, hi2⟩ := List.getElem?_of_mem hz
        exact hs z (List.mem_of_getElem? (get i z hi2))
      · intro i z j y hz hy
        have := hr _ _ _ _ (get i z hz) hy
        rw [show oo + a.toNat * sz + i * sz + j = oo + (a.toNat + i) * sz + j by rw [Nat.add_mul]; omega]
        exact this
      · intro i z j y hz hy
        exact hu' _ _ _ _ (get i z hz) hy

/-! ### the cells of a row -/
/-- the cells of a slice's elements, one behind the other, as they lie in memory -/
theorem row_cells {rd : Rd} {w : World} (hrd : ∀ b o v, rd b o = some v → w.cell? ⟨b, o, none⟩ = some v) {b o n c s N : Nat} {xs : List (List SC)} (h : IRel rd (.slice (some ⟨b, o, none⟩) n c) (.slc s 0 N xs)) :
    ∃ news : List Value, news.length = n * s ∧ (∀ j v, news[j]? = some v → w.cell? ((⟨b, o, none⟩ : Addr).add j) = some v) ∧ xs.length = n ∧ (∀ x ∈ xs, x.length = s) ∧
      ∀ i x j y, xs[i]? = some x → x[j]? = some y → ∃ u, news[i * s + j]? = some u ∧ IRel rd u y := by
  cases h with
  | nil =>
    exact ⟨[], by simp, by simp, rfl, by simp, by simp⟩
  | slc _ _ _ _ _ _ u hn hc hm hs hr hu =>
    refine ⟨(List.range (n * s)).map fun j => u (j / s) (j % s), by simp, ?_, hn, hs, ?_⟩
    · intro j v hv
      obtain ⟨k, hk, rfl⟩ := Option.map_eq_some_iff.1 ((List.getElem?_map ..).symm.trans hv)
      obtain ⟨hj, rfl⟩ := List.getElem?_eq_some_iff.1 hk
      simp only [List.length_range] at hj
      simp only [List.getElem_range]
      have hs0 : 0 < s := Nat.pos_of_ne_zero (fun h => by subst h; simp at hj)
      have h1 : j / s < n := Nat.div_lt_of_lt_mul (by rw [Nat.mul_comm]; exact hj)
      have h2 := Nat.mod_lt j hs0
      have hx := List.getElem?_eq_getElem (l := xs) (by omega : j / s < xs.length)
      have hl := hs _ (List.getElem_mem (by omega : j / s < xs.length))
      have := hr _ _ (j % s) _ hx (List.getElem?_eq_getElem (by omega))
      rw [show o + j / s * s + j % s = o + j by have := Nat.div_add_mod j s; rw [Nat.mul_comm] at this; omega] at this
      rw [addr_add]
      exact hrd _ _ _ this
    · intro i x j y hx hy
      have hi := (List.getElem?_eq_some_iff.1 hx).1
      have hl := hs x (List.mem_of_getElem? hx)
      have hj := (List.getElem?_eq_some_iff.1 hy).1
      have hlt : i * s + j < n * s := by
        have : (i + 1) * s ≤ n * s := Nat.mul_le_mul_right _ (by omega)
        rw [Nat.add_mul] at this
        omega
      refine ⟨u i j, ?_, hu _ _ _ _ hx hy⟩
      rw [List.getElem?_map, List.getElem?_eq_getElem (by simpa using hlt)]
      simp only [List.getElem_range, Option.map_some]
      have e1 : (i * s + j) / s = i := by rw [Nat.mul_comm, Nat.mul_add_div (by omega), Nat.div_eq_of_lt (by omega)]; omega
      have e2 : (i * s + j) % s = j := by rw [Nat.mul_comm, Nat.mul_add_mod, Nat.mod_eq_of_lt (by omega)]
      rw [e1, e2]
theorem RowIs.append {rd : Rd} {s : Nat} {us vs : List Value} {xs ys : List (List SC)} (h : RowIs rd s us xs) (k : RowIs rd s vs ys) (hl : us.length = xs.length * s) : RowIs rd s (us ++ vs) (xs ++ ys) := by
  refine ⟨fun x hx => (List.mem_append.1 hx).elim (h.1 x) (k.1 x), fun i x j y hx hy => ?_⟩
  rw [List.getElem?_append] at hx
  split at hx
  · rename_i hi
    obtain ⟨u, h1, h2⟩ := h.2 i x j y hx hy
    refine ⟨u, ?_, h2⟩
    rw [List.getElem?_append_left (List.getElem?_eq_some_iff.1 h1).1]
    exact h1
  · rename_i hi
    obtain ⟨u, h1, h2⟩ := k.2 _ x j y hx hy
    refine ⟨u, ?_, h2⟩
    have e : i * s + j = us.length + ((i - xs.length) * s + j) := by
      rw [hl, Nat.sub_mul]
      have : xs.length * s ≤ i * s := Nat.mul_le_mul_right _ (by omega)
      omega
    rw [e, List.getElem?_append_right (by omega)]
    rw [Nat.add_sub_cancel_left]
    exact h1
theorem row_is {rd : Rd} {s b n c : Nat} {vals : List Value} {xs : List (List SC)} (h : RowIs rd s vals xs) (hn : xs.length = n) (hc : n ≤ c) (hm : c ≤ maxLen) (hr : ∀ k v, vals[k]? = some v → k < n * s → rd b k = some v) : IRel rd (.slice (some ⟨b, 0, none⟩) n c) (.slc s 0 n xs) := by
  refine .slc b 0 n c s xs (fun i j => (vals[i * s + j]?).getD undef) hn hc hm h.1 (fun i x j y hx hy => ?_) (fun i x j y hx hy => ?_)
  · obtain ⟨u, h1, h2⟩ := h.2 i x j y hx hy
    have hi := (List.getElem?_eq_some_iff.1 hx).1
    have hl := h.1 x (List.mem_of_getElem? hx)
    have hj := (List.getElem?_eq_some_iff.1 hy).1
    have hlt : i * s + j < n * s := by
      have : (i + 1) * s ≤ n * s := Nat.mul_le_mul_right _ (by omega)
      rw [Nat.add_mul] at this
      omega
    rw [h1, Nat.zero_add]
    exact hr _ _ h1 hlt
  · obtain ⟨u, h1, h2⟩ := h.2 i x j y hx hy
    rw [h1]
    exact h2

def exactOf (sz : Nat) : SV → Option (List (List SC))
  | .c (.lit (.slice none 0 0)) => some []
  | .c (.slc s 1 _ xs) => if s = sz then some xs else none
  | _ => none
def rowOf (sz : Nat) : SV → Option (List (List SC))
  | .c (.lit (.slice none 0 0)) => some []
  | .c (.slc s _ _ xs) => if s = sz then some xs else none
  | _ => none
theorem rowOf_rel {rd : Rd} {g : Env} {u : Value} {v : SV} {sz : Nat} {xs : List (List SC)} (h : VRel rd g u v) (hx : rowOf sz v = some xs) : IRel rd u (.slc sz 0 xs.length xs) := by
  unfold rowOf at hx
  split at hx
  · cases hx
    have := rel_lit h
    subst this
    exact .nil _ _ _ (by decide)
  · split at hx
    · rename_i hs; subst hs; cases hx; exact irel_len h.1
    · cases hx
  · cases hx
theorem exactOf_rel {rd : Rd} {g : Env} {u : Value} {v : SV} {sz : Nat} {xs : List (List SC)} (h : VRel rd g u v) (hx : exactOf sz v = some xs) : IRel rd u (.slc sz 0 xs.length xs) ∧ (u = .slice none 0 0 ∨ ∃ a, u = .slice (some a) xs.length xs.length) := by
  unfold exactOf at hx
  split at hx
  · cases hx
    have := rel_lit h
    subst this
    exact ⟨.nil _ _ _ (by decide), .inl rfl⟩
  · split at hx
    · rename_i hs; subst hs; cases hx; exact ⟨irel_len h.1, by have h2 := h.2; rw [irel_n h.1] at h2; exact h2⟩
    · cases hx
  · cases hx

/-- where the cells of a slice lie -/
theorem src_row {rd : Rd} {w : World} (hrd : ∀ b o v, rd b o = some v → w.cell? ⟨b, o, none⟩ = some v) {u : Value} {s : Nat} {N : Nat} {xs : List (List SC)} (h : IRel rd u (.slc s 0 N xs)) :
    ∃ a c vals, u = .slice a xs.length c ∧ xs.length ≤ c ∧ c ≤ maxLen ∧ RowIs rd s vals xs ∧ vals.length = xs.length * s ∧ (xs.length = 0 ∨ ∃ ad, a = some ad ∧ ∀ j v, vals[j]? = some v → w.cell? (ad.add j) = some v) ∨ (∃ a c, u = .slice a 0 c ∧ xs = [] ∧ c ≤ maxLen) := by
  generalize hsc : SC.slc s 0 N xs = y at h
  cases h with
  | lit v => cases hsc
  | nil s' a c hm => cases hsc; exact ⟨a, c, [], .inr ⟨a, c, rfl, rfl, hm⟩⟩
  | slc b o n c s' xs' f hn hc hm hs hr hu =>
    cases hsc
    obtain ⟨vals, h1, h2, h3, h4, h5⟩ := row_cells hrd (.slc b o _ c s xs f hn hc hm hs hr hu)
    subst hn
    exact ⟨some ⟨b, o, none⟩, c, vals, .inl ⟨rfl, hc, hm, ⟨h4, h5⟩, h1, .inr ⟨_, rfl, h2⟩⟩⟩
  | ref b o cs f hr hu => cases hsc

theorem run_append_zero {P : Program} {w : World} (t ty e : TypeId) (i : TypeInfo) (ht : P.underlying t = some (.slice e)) (hi : P.info? e = some i) (base a : Option Addr) (n cap c : Nat) (hn : n ≤ cap) :
    (Builtin.append_ #[t, t] ty #[.slice base n cap, .slice a 0 c]).run P w = .ok (.slice base n cap) w := by
  cases a <;> cases base <;> simp [Builtin.append_, run_underlying ht, sizeOf, typeInfo, hi, Builtin.lenOf, Builtin.firstCells, loadCells, loadCellsFrom, storeCells, hn]

theorem oneCell_imm {rd : Rd} {u : Value} {y : SC} (h : IRel rd u y) (h1 : y.one = true) : u.oneCell' = true := one_cell (g := ⟨fun _ => (0, 0), fun _ => (undef, undef)⟩) h.c h1

theorem grow_append {α : Type} {P : Program} {o : Oper} {s : St} {t e : TypeId} {x y : Operand} {f : α → List SC} (sz by_ : Nat) (l1 l2 : List α) (ho : o.op = .call { callee := .builtin .append, args := #[x, y], argTypes := #[t, t] }) (hx : (opd s x).bind (exactOf sz) = some (l1.map f)) (hy : (opd s y).bind (rowOf sz) = some (l2.map f))
    (hu : P.underlying t = some (.slice e)) (hi' : (P.info? e).map (fun i => (i.zero.map (·.cells.size), i.size, i.bytes)) = some (some sz, sz, by_)) (hs0 : decide (0 < sz) = true) (hb : (l1.length + l2.length) * by_ ≤ 140737488355328) (hm : l1.length + l2.length ≤ 140737488355328) : GrowOp P o s (.c (.slc sz 0 (l1 ++ l2).length ((l1 ++ l2).map f))) := by
  intro g rd a w hview
  obtain ⟨vx, hx1, hx2⟩ := Option.bind_eq_some_iff.1 hx
  obtain ⟨vy, hy1, hy2⟩ := Option.bind_eq_some_iff.1 hy
  obtain ⟨rx, hex⟩ := exactOf_rel (hview.op x _ (by simp [ho, Op.operands, Call.operands]) hx1) hx2
  have ry := rowOf_rel (hview.op y _ (by simp [ho, Op.operands, Call.operands]) hy1) hy2
  obtain ⟨i, hi, hq⟩ := Option.map_eq_some_iff.1 hi'
  simp only [Prod.mk.injEq] at hq
  obtain ⟨hz, hsize, hbytes⟩ := hq
  obtain ⟨z, hz, hzc⟩ := Option.map_eq_some_iff.1 hz
  have hs0' := of_decide_eq_true hs0
  have hmax : l1.length + l2.length ≤ maxLen := by unfold maxLen; omega
  unfold mSafe
  simp only [execOp, ho, resolve, invoke, builtin, Sem.run_bind, Sem.run_pure, Result.andThen_ok, List.map_toArray, List.map_cons, List.map_nil]
  generalize hvx : a.eval x = ux at *
  generalize hvy : a.eval y = uy at *
  have ely : (l2.map f).length = l2.length := by simp
  have elx : (l1.map f).length = l1.length := by simp
  -- nothing appended: the slice itself
  have zero : l2 = [] → ∀ c, (∃ ad, uy = .slice ad 0 c) → mUpon P (fun u w' => ∀ rd', rd.le rd' → Sees w rd' w' → VRel rd' g u (.c (.slc sz 0 (l1 ++ l2).length ((l1 ++ l2).map f)))) w (((Builtin.append_ #[t, t] o.type #[ux, uy]).run P w).andThen fun v w' => .ok (.value v) w') := by
    rintro rfl c ⟨ad, rfl⟩
    obtain ⟨base, n, cap, rfl, hn⟩ : ∃ base n cap, ux = .slice base n cap ∧ n ≤ cap := by
      rcases hex with h | ⟨ad', h⟩
      · exact ⟨none, 0, 0, h, Nat.le_refl _⟩
      · exact ⟨some ad', _, _, h, Nat.le_refl _⟩
    rw [run_append_zero t o.type e i hu hi base ad n cap c hn]
    refine ⟨Ext.refl w, fun rd' hle _ => ?_⟩
    rw [List.append_nil]
    exact ⟨by have := rx.mono hle; rw [elx] at this; exact this, trivial⟩
  have fresh : ∀ (need cap : Nat) (vals : List Value) (rest : Array Value), RowIs rd sz vals ((l1 ++ l2).map f) → vals.length = need * sz → need = l1.length + l2.length → need ≤ cap → cap ≤ maxLen →
      mUpon P (fun u w' => ∀ rd', rd.le rd' → Sees w rd' w' → VRel rd' g u (.c (.slc sz 0 (l1 ++ l2).length ((l1 ++ l2).map f)))) w (.ok (.value (.slice (some ⟨w.heap.size, 0, none⟩) need cap)) (w.drew.alloc (.cells (vals.toArray ++ rest) e))) := by
    intro need cap vals rest hrow hlv hneed hc hcm
    refine ⟨(Ext.drew w).trans (Ext.alloc _ _), fun rd' hle hsees => ⟨?_, trivial⟩⟩
    rw [show (l1 ++ l2).length = need by rw [List.length_append, hneed]]
    refine row_is (hrow.mono hle) (by simp [hneed]) hc hcm (fun k v hv _ => hsees w.heap.size k v (Nat.le_refl _) ?_)
    refine (World.cell?_alloc_at (w := w.drew) (vals.toArray ++ rest) e w.heap.size k rfl).trans ?_
    rw [Array.getElem?_append_left (by have := (List.getElem?_eq_some_iff.1 hv).1; simpa using this)]
    simpa using hv
  obtain ⟨ay, cy, valsy, hsrc⟩ := src_row hview.reads ry
  rcases hsrc with ⟨hy3, hy4, hy5, hrow, hlv, hwhere⟩ | ⟨ad, c, hy3, hnil, _⟩
  rotate_left
  · exact zero (by simpa using hnil) c ⟨ad, hy3⟩
  by_cases hl2 : l2 = []
  · subst hl2
    exact zero rfl cy ⟨ay, by simpa using hy3⟩
  have hpos : 0 < l2.length := List.length_pos_iff.2 hl2
  rcases hwhere with hw | ⟨ad, had, hcells⟩
  · rw [ely] at hw; omega
  subst had
  rw [ely] at hy3 hlv
  subst hy3
  rcases hex with hnone | ⟨adx, hsome⟩
  · subst hnone
    have hl1 : l1 = [] := by
      generalize hsc : SC.slc sz 0 (l1.map f).length (l1.map f) = q at rx
      cases rx with
      | lit => cases hsc
      | nil s' a' c' hm' => injection hsc with _ _ _ h3; simpa using h3
    subst hl1
    have hr := run_append_nil (P := P) w t o.type e i z hu hi hz ad l2.length cy valsy (by rw [hsize]; exact hlv) hcells hpos (by omega) (by rw [hbytes]; simp only [List.length_nil, Nat.zero_add] at hb; omega)
    rw [hr]
    have hge := grownCap_ge w l2.length 0 e
    have hcm := grownCap_le_maxLen w l2.length 0 e (by simp only [List.length_nil, Nat.zero_add] at hmax; exact hmax)
    exact fresh l2.length _ valsy _ (by simpa using hrow) hlv (by simp) hge hcm
  · rw [elx] at hsome
    subst hsome
    obtain ⟨ax, cx, valsx, hsx⟩ := src_row hview.reads rx
    have hrx : ∃ valsx, RowIs rd sz valsx (l1.map f) ∧ valsx.length = l1.length * sz ∧ ∀ j v, valsx[j]? = some v → w.cell? (adx.add j) = some v := by
      rcases hsx with ⟨h3, _, _, hrow', hlv', hwhere'⟩ | ⟨ad', c', h3, hnil', _⟩
      · rw [elx] at h3 hlv' hwhere'
        injection h3 with h4
        rcases hwhere' with h0 | ⟨ad', had', hcells'⟩
        · have : l1 = [] := List.eq_nil_of_length_eq_zero h0
          subst this
          exact ⟨[], ⟨by simp, by simp⟩, by simp, by simp⟩
        · rw [had'] at h4
          injection h4 with h5
          subst h5
          exact ⟨valsx, hrow', hlv', hcells'⟩
      · have : l1 = [] := by simpa using hnil'
        subst this
        exact ⟨[], ⟨by simp, by simp⟩, by simp, by simp⟩
    obtain ⟨valsx, hrow', hlv', hcells'⟩ := hrx
    have hr := run_append_grow (P := P) w t o.type e i z hu hi hz adx l1.length l1.length valsx (by rw [hsize]; exact hlv') hcells' ad l2.length cy valsy (by rw [hsize]; exact hlv) hcells (by omega) (by omega) (growslice_fits (by omega) (by rw [hbytes]; exact hb))
    rw [hr]
    have hge := grownCap_ge w (l1.length + l2.length) l1.length e
    have hcm := grownCap_le_maxLen w (l1.length + l2.length) l1.length e hmax
    have := fresh (l1.length + l2.length) (grownCap w (l1.length + l2.length) l1.length e) (valsx ++ valsy) (Builtin.zeroCells z.cells (grownCap w (l1.length + l2.length) l1.length e - (l1.length + l2.length)))
      (by rw [List.map_append]; exact hrow'.append hrow (by rw [elx]; exact hlv')) (by rw [List.length_append, hlv', hlv, Nat.add_mul]) rfl hge hcm
    simpa using this

/-! ### []T{..} -/
def chunks (s : Nat) : Nat → List SC → List (List SC)
  | 0, _ => []
  | n + 1, cs => cs.take s :: chunks s n (cs.drop s)
def SC.imm : SC → Option SC
  | .lit v => some (.lit v)
  | .slc s _ n xs => some (.slc s 0 n xs)
  | .ref cs => some (.ref cs)
  | _ => none
theorem imm_rel {rd : Rd} {g : Env} {u : Value} {x y : SC} (h : CRel rd g u x) (hy : x.imm = some y) : IRel rd u y := by
  cases x <;> simp only [SC.imm, reduceCtorEq] at hy
  case lit => cases hy; exact h
  case slc => cases hy; exact h.1
  case ref => cases hy; exact h
def immL : List SC → Option (List SC)
  | [] => some []
  | x :: xs => match x.imm, immL xs with
    | some y, some ys => some (y :: ys)
    | _, _ => none
theorem immL_get : ∀ (xs ys : List SC), immL xs = some ys → xs.length = ys.length ∧ ∀ (j : Nat) (y : SC), ys[j]? = some y → ∃ x, xs[j]? = some x ∧ x.imm = some y
  | [], ys, h => by cases h; exact ⟨rfl, by simp⟩
  | x :: xs, ys, h => by
    simp only [immL] at h
    split at h
    · rename_i y' ys' h1 h2
      cases h
      obtain ⟨h3, h4⟩ := immL_get xs ys' h2
      refine ⟨by simp [h3], fun j y hy => ?_⟩
      cases j with
      | zero => cases hy; exact ⟨x, rfl, h1⟩
      | succ j => exact h4 j y hy
    · cases h
theorem chunks_length (s : Nat) : ∀ (n : Nat) (cs : List SC), (chunks s n cs).length = n
  | 0, _ => rfl
  | n + 1, cs => by simp [chunks, chunks_length s n]
theorem chunks_get (s : Nat) : ∀ (n : Nat) (cs : List SC) (i : Nat) (x : List SC), n * s ≤ cs.length → (chunks s n cs)[i]? = some x → x.length = s ∧ ∀ (j : Nat) (y : SC), x[j]? = some y → cs[i * s + j]? = some y
  | 0, cs, i, x, _, h => by simp [chunks] at h
  | n + 1, cs, i, x, hl, h => by
    rw [Nat.add_mul] at hl
    cases i with
    | zero =>
      simp only [chunks, List.getElem?_cons_zero, Option.some.injEq] at h
      subst h
      refine ⟨by simp; omega, fun j y hy => ?_⟩
      rw [List.getElem?_take] at hy
      split at hy
      · simpa using hy
      · cases hy
    | succ i =>
      simp only [chunks, List.getElem?_cons_succ] at h
      obtain ⟨h1, h2⟩ := chunks_get s n (cs.drop s) i x (by simp; omega) h
      refine ⟨h1, fun j y hy => ?_⟩
      have := h2 j y hy
      rw [List.getElem?_drop] at this
      rw [show (i + 1) * s + j = s + (i * s + j) by rw [Nat.add_mul]; omega]
      exact this
/-- the elements of a slice that is written out -/
def buildL (P : Program) (s : St) (e : TypeId) (len : Nat) (ks : List Nat) (parts : List (Nat × Operand)) : Option (List (List SC)) := match P.info? e, partsS s parts with
  | some ie, some ps => match ie.zero with
    | some z => match fillS (fun i => some (i * ie.size, ie.size)) (((Array.range (len * ie.size)).map (z.cells[· % z.cells.size]!)).toList.map SC.lit) ps with
      | some cs => match immL cs with
        | some cs' => some ((chunks ie.size len cs').map (castL ks))
        | none => none
      | none => none
    | none => none
  | _, _ => none
theorem cast1_imm {rd : Rd} {u : Value} {x : SC} (k : Nat) (h : IRel rd u x) : IRel rd u (cast1 k x) := by
  unfold cast1
  split
  · exact h
  · split
    · cases h; exact .nil _ _ _ (by decide)
    · cases h with
      | nil _ a c hm => exact .nil _ a c hm
      | slc b o n c _ _ u hn hc hm hs hr hu => exact .slc b o _ c _ _ u hn hc hm hs hr hu
    · exact h
theorem grow_buildSlice {P : Program} {o : Oper} {s : St} {t e : TypeId} {len : Nat} {parts : Array (Nat × Operand)} (sz : Nat) (ks : List Nat) (xs : List (List SC)) (ho : o.op = .buildSlice t len parts) (hu : P.underlying t = some (.slice e)) (hsz : (P.info? e).map (·.size) = some sz) (_hz' : ((P.info? e).bind (·.zero)).isSome = true) (hpos : decide (0 < len * sz ∧ len * sz ≤ 16777216) = true)
    (h : buildL P s e len ks parts.toList = some xs) : GrowOp P o s (.c (.slc sz 1 len xs)) := by
  intro g rd a w hview
  obtain ⟨ie, hie, hsize⟩ := Option.map_eq_some_iff.1 hsz
  have hpos' := of_decide_eq_true hpos
  unfold buildL at h
  rw [hie] at h
  split at h
  · rename_i ie' ps hie' hps
    cases hie'
    split at h
    · rename_i z hz
      split at h
      · rename_i cs hcs
        split at h
        · rename_i cs' hcs'
          cases h
          obtain ⟨l1, l2⟩ := parts_rel hview hps (fun i p hp => by rw [ho]; simp only [Op.operands]; exact parts_mem hp)
          obtain ⟨r, hr1, hr2⟩ := fill_rel _ ps _ _ cs l1 l2 (lits_rel rd g _) hcs
          have hrun := run_buildSlice (P := P) w t e len _ r ie z hu hie hz (by rw [hsize]; omega) (by rw [hsize]; omega) hr1
          unfold mSafe
          simp only [execOp, ho, Sem.run_bind, hrun, Result.andThen_ok, Sem.run_pure]
          refine ⟨Ext.alloc _ _, fun rd' hle hsees => ?_⟩
          obtain ⟨h5, h6⟩ := immL_get cs cs' hcs'
          have hrs : r.size = len * sz := by
            have hfl : ∀ (ps : List (Nat × Value)) (c c' : Array Value), Instr.fill (fun i => some (i * ie.size, ie.size)) c ps = some c' → c'.size = c.size := by
              intro ps
              induction ps with
              | nil => intro c c' hc; cases hc; rfl
              | cons p ps ih =>
                intro c c' hc
                obtain ⟨j, v⟩ := p
                simp only [Instr.fill] at hc
                split at hc
                · cases hc
                · have := ih _ _ hc
                  rw [this]
                  have e' : Array.foldl (fun cs (x : Value × Nat) => match x with | (c, j') => cs.setIfInBounds (j * ie.size + j') c) c v.cells.zipIdx = (v.cells.toList.zipIdx 0).foldl (fun cs (p : Value × Nat) => cs.setIfInBounds (j * ie.size + p.2) p.1) c := by
                    rw [← Array.foldl_toList, Array.toList_zipIdx]
                  have e2 : Array.foldl (fun cs (x : Value × Nat) => cs.setIfInBounds (j * ie.size + x.2) x.1) c v.cells.zipIdx = (v.cells.toList.zipIdx 0).foldl (fun cs (p : Value × Nat) => cs.setIfInBounds (j * ie.size + p.2) p.1) c := e'
                  first
                    | rw [e']
                    | rw [e2]
                  exact (foldl_set (j * ie.size) v.cells.toList 0 c).1
            rw [hfl _ _ _ hr1, hsize]
            simp
          have hcl : cs'.length = len * sz := by rw [← h5, ← hr2.1, hrs]
          have hrow : RowIs rd' sz r.toList ((chunks ie.size len cs').map (castL ks)) := by
            rw [hsize]
            refine ⟨fun x hx => ?_, fun i x j y hx hy => ?_⟩
            · obtain ⟨x0, hx0, rfl⟩ := List.mem_map.1 hx
              obtain ⟨i, hi⟩ := List.getElem?_of_mem hx0
              rw [castL_length]
              exact (chunks_get sz len cs' i x0 (by omega) hi).1
            · rw [List.getElem?_map] at hx
              obtain ⟨x0, hx0, rfl⟩ := Option.map_eq_some_iff.1 hx
              obtain ⟨k, y0, hy0, rfl⟩ := castL_get ks x0 j y hy
              have h7 := (chunks_get sz len cs' i x0 (by omega) hx0).2 j y0 hy0
              obtain ⟨y1, h8, h9⟩ := h6 _ y0 h7
              obtain ⟨u, h10, h11⟩ := hr2.2 _ y1 h8
              exact ⟨u, by simpa using h10, cast1_imm k ((imm_rel h11 h9).mono hle)⟩
          have hlen : ((chunks ie.size len cs').map (castL ks)).length = len := by rw [List.length_map, chunks_length]
          refine ⟨row_is hrow hlen (Nat.le_refl _) (by unfold maxLen; have : len ≤ len * sz := Nat.le_mul_of_pos_right _ (Nat.pos_of_ne_zero (fun h0 => by rw [h0] at hpos'; simp at hpos')); omega) (fun k v hv _ => hsees w.heap.size k v (Nat.le_refl _) ?_), .inr ⟨_, rfl⟩⟩
          rw [World.cell?_alloc_at _ _ _ _ rfl]
          simpa using hv
        · cases h
      · cases h
    · cases h
  · cases h

/-! ### the rules -/
def subO {α : Type} (l : List α) (a b : Int) : Option (List α) := if 0 ≤ a ∧ a ≤ b ∧ b ≤ l.length then some ((l.take b.toNat).drop a.toNat) else none
def appO {α : Type} (by_ : Nat) (l1 l2 : List α) : Option (List α) := if (l1.length + l2.length) * by_ ≤ 140737488355328 ∧ l1.length + l2.length ≤ 140737488355328 then some (l1 ++ l2) else none
section
variable {P : Program} {K : Ctx} {n : Nat} {Q : Exit → St → Prop} {C : Cfg} {α : Type}
def idxArgs (P : Program) (s : St) (o : Oper) : Option (List (List SC) × Int) := match o.op with
  | .indexAddr t x y => match opd s x, opd s y, P.underlying t with
    | some (.c (.slc sz _ _ xs)), some (.c (.lit (.int _ i))), some (.slice e) => match P.info? e with
      | some ie => if ie.size = sz then some (xs, i) else none
      | none => none
    | _, _, _ => none
  | _ => none
theorem grow_idx {s : St} {o : Oper} {f : α → List SC} {l : List α} {i : Int} {e : α} (he : idx l i = some e) (h : idxArgs P s o = some (l.map f, i)) : GrowOp P o s (.c (.ref (f e))) := by
  unfold idxArgs at h
  split at h
  · rename_i t x y ho
    split at h
    · rename_i sz tag N xs k i' e' hx hy hu
      split at h
      · rename_i ie hie
        split at h
        · rename_i hs
          cases h
          obtain ⟨h0, h1⟩ := idx_spec he
          exact (pure_indexSlc tag sz N _ i (f e) ho hx hy hu (by rw [hie, ← hs]; rfl) h0 (map_get h1)).grow
        · cases h
      · cases h
    · cases h
  · cases h
def Cfg.with1 {β : Type} (C : Cfg) (f : St → Oper → Option β) : Option β := match C.op with
  | some (_, o) => f C.st o
  | none => none
theorem with1_op {β : Type} {f : St → Oper → Option β} {b : β} (h : C.with1 f = some b) {os : Array Oper} {o : Oper} (ho : C.op = some (os, o)) : f C.st o = some b := by
  unfold Cfg.with1 at h
  rw [ho] at h
  exact h
theorem TS_idx (f : α → List SC) {l : List α} {i : Int} {e : α} (he : idx l i = some e) (h : C.with1 (idxArgs P) = some (l.map f, i)) (hg : C.go1 n = true) (k : TS P K n (C.ret (.c (.ref (f e)))) Q) : TS P K n C Q :=
  TS_val _ hg (fun _ _ ho => grow_idx he (with1_op h ho)) k

def bnd (s : St) (d : Int) : Option Operand → Option (Option (IntKind × Int) × Int)
  | none => some (none, d)
  | some x => match opd s x with
    | some (.c (.lit (.int k i))) => some (some (k, i), i)
    | _ => none
def subArgs (P : Program) (s : St) (o : Oper) : Option (Nat × List (List SC) × Int × Int) := match o.op with
  | .slice t x lo hi none => match opd s x, P.underlying t with
    | some (.c (.slc sz _ N xs)), some (.slice e) => match P.info? e, bnd s 0 lo, bnd s N hi with
      | some ie, some (_, a), some (_, b) => if ie.size = sz then some (sz, xs, a, b) else none
      | _, _, _ => none
    | _, _ => none
  | _ => none
theorem bnd_spec {s : St} {d i : Int} {x : Option Operand} {v : Option (IntKind × Int)} (h : bnd s d x = some (v, i)) : x.map (opd s) = v.map (fun p => some (int p.1 p.2)) ∧ i = (v.map (·.2)).getD d := by
  unfold bnd at h
  split at h
  · cases h; exact ⟨rfl, rfl⟩
  · split at h
    · rename_i y k j hy; cases h; exact ⟨by simp [hy, int], rfl⟩
    · cases h
theorem grow_subS {s : St} {o : Oper} {f : α → List SC} {sz : Nat} {l l' : List α} {a b : Int} (he : subO l a b = some l') (h : subArgs P s o = some (sz, l.map f, a, b)) : GrowOp P o s (.c (.slc sz 0 l'.length (l'.map f))) := by
  unfold subO at he
  split at he
  · rename_i hab
    cases he
    unfold subArgs at h
    split at h
    · rename_i t x lo hi ho
      split at h
      · rename_i sz' tag N xs e' hx hu
        split at h
        · rename_i ie v1 a' v2 b' hie h1 h2
          split at h
          · rename_i hs
            cases h
            obtain ⟨q1, q2⟩ := bnd_spec h1
            obtain ⟨q3, q4⟩ := bnd_spec h2
            exact grow_slice sz tag N l v1 v2 a b ho hx q1 q3 q2 q4 hu (by rw [hie, ← hs]; rfl) hab.1 hab.2.1 hab.2.2
          · cases h
        · cases h
      · cases h
    · cases h
  · cases he
theorem TS_sub (f : α → List SC) (sz : Nat) {l l' : List α} {a b : Int} (he : subO l a b = some l') (h : C.with1 (subArgs P) = some (sz, l.map f, a, b)) (hg : C.go1 n = true) (k : TS P K n (C.ret (.c (.slc sz 0 l'.length (l'.map f)))) Q) : TS P K n C Q :=
  TS_val _ hg (fun _ _ ho => grow_subS he (with1_op h ho)) k

/-- append to nil, or to a slice without room -/
def appArgs (P : Program) (s : St) (o : Oper) : Option (Nat × Nat × List (List SC) × List (List SC)) := match o.op with
  | .call { callee := .builtin .append, args := xs, argTypes := ts } => match xs.toList, ts.toList with
    | [x, y], [t, t'] => match P.underlying t with
      | some (.slice e) => match P.info? e with
        | some ie => match (opd s x).bind (exactOf ie.size), (opd s y).bind (rowOf ie.size) with
          | some a, some b => if t = t' ∧ ie.zero.map (·.cells.size) = some ie.size ∧ 0 < ie.size then some (ie.size, ie.bytes, a, b) else none
          | _, _ => none
        | none => none
      | _ => none
    | _, _ => none
  | _ => none
theorem grow_appS {s : St} {o : Oper} {f : α → List SC} {sz by_ : Nat} {l1 l2 l' : List α} (he : appO by_ l1 l2 = some l') (h : appArgs P s o = some (sz, by_, l1.map f, l2.map f)) : GrowOp P o s (.c (.slc sz 0 l'.length (l'.map f))) := by
  unfold appO at he
  split at he
  · rename_i hab
    cases he
    unfold appArgs at h
    split at h
    · rename_i xs ts ho
      split at h
      · rename_i x y t t' hxs hts
        split at h
        · rename_i e hu
          split at h
          · rename_i ie hie
            split at h
            · rename_i a b hx hy
              split at h
              · rename_i hc
                cases h
                obtain ⟨rfl, hz, h0⟩ := hc
                have ha' : xs = #[x, y] := by rw [← Array.toArray_toList (xs := xs), hxs]
                have ht' : ts = #[t, t] := by rw [← Array.toArray_toList (xs := ts), hts]
                subst ha' ht'
                exact grow_append ie.size ie.bytes l1 l2 ho hx hy hu (by rw [hie]; simp [hz]) (by simpa using h0) hab.1 hab.2
              · cases h
            · cases h
          · cases h
        · cases h
      · cases h
    · cases h
  · cases he
theorem TS_app (f : α → List SC) (sz : Nat) {by_ : Nat} {l1 l2 l' : List α} (he : appO by_ l1 l2 = some l') (h : C.with1 (appArgs P) = some (sz, by_, l1.map f, l2.map f)) (hg : C.go1 n = true) (k : TS P K n (C.ret (.c (.slc sz 0 l'.length (l'.map f)))) Q) : TS P K n C Q :=
  TS_val _ hg (fun _ _ ho => grow_appS he (with1_op h ho)) k
/-- a slice written out -/
def litArgs (P : Program) (ks : List Nat) (s : St) (o : Oper) : Option (Nat × Nat × List (List SC)) := match o.op with
  | .buildSlice t len parts => match P.underlying t with
    | some (.slice e) => match P.info? e with
      | some ie => if decide (0 < len * ie.size ∧ len * ie.size ≤ 16777216) && ie.zero.isSome then match buildL P s e len ks parts.toList with
          | some xs => some (ie.size, len, xs)
          | none => none
        else none
      | none => none
    | _ => none
  | _ => none
theorem grow_litS {s : St} {o : Oper} {ks : List Nat} {sz len : Nat} {xs : List (List SC)} (h : litArgs P ks s o = some (sz, len, xs)) : GrowOp P o s (.c (.slc sz 1 len xs)) := by
  unfold litArgs at h
  split at h
  · rename_i t len' parts ho
    split at h
    · rename_i e hu
      split at h
      · rename_i ie hie
        split at h
        · rename_i hc
          simp only [Bool.and_eq_true] at hc
          split at h
          · rename_i xs' hx
            cases h
            exact grow_buildSlice ie.size ks xs ho hu (by rw [hie]; rfl) (by rw [hie]; exact hc.2) hc.1 hx
          · cases h
        · cases h
      · cases h
    · cases h
  · cases h
theorem TS_lit (f : α → List SC) (ks : List Nat) (sz : Nat) (l : List α) (h : C.with1 (litArgs P ks) = some (sz, l.length, l.map f)) (hg : C.go1 n = true) (k : TS P K n (C.ret (.c (.slc sz 1 l.length (l.map f)))) Q) : TS P K n C Q :=
  TS_val _ hg (fun _ _ ho => grow_litS (with1_op h ho)) k
end
end Go.Proofs.Ytohfnlkjdjmipaa
