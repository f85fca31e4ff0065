/-
  SHADOWS, second make: rows that are written in place; parts of rows.
-/
import Derived.Test.YtohfnlkjdjmipaaV14
namespace Go.Proofs.Ytohfnlkjdjmipaa
open Go.RowKit

theorem splice_get {α : Type} (us vals : List α) (p : Nat) (h : p + vals.length ≤ us.length) (q : Nat) : (us.take p ++ vals ++ us.drop (p + vals.length))[q]? = if p ≤ q ∧ q < p + vals.length then vals[q - p]? else us[q]? := by
  rw [List.append_assoc, List.getElem?_append]
  simp only [List.length_take, Nat.min_eq_left (by omega : p ≤ us.length)]
  by_cases h1 : q < p
  · rw [if_pos h1, List.getElem?_take, if_pos h1, if_neg (by omega)]
  · rw [if_neg h1, List.getElem?_append]
    by_cases h2 : q - p < vals.length
    · rw [if_pos h2, if_pos (by omega)]
    · rw [if_neg h2, List.getElem?_drop, if_neg (by omega)]
      congr 1
      omega

theorem own_write {w : World} {e sz n : Nat} {V : Value} {us : List Value} (hown : w.ownsRow 0 e sz V n us) {b : Nat} (hb : V.ownBlock = some b) (p : Nat) (vals : List Value) (hp : p + vals.length ≤ n * sz) :
    (w.setCells b p vals).ownsRow 0 e sz V n (us.take p ++ vals ++ us.drop (p + vals.length)) ∧ Keep w (fun b' _ => V.ownBlock = some b') (w.setCells b p vals) := by
  have hk := Keep.setCells b vals p w
  refine ⟨?_, hk.weak (fun b' o' h => by rw [h.1]; exact hb)⟩
  have hul : us.length = n * sz := hown.1
  refine ⟨by simp only [List.length_append, List.length_take, List.length_drop]; omega, .inr ?_⟩
  rcases hown.2 with ⟨rfl, _⟩ | ⟨gb, cap, cur, rfl, h1, h2, h3, h4, h5, h6⟩
  · cases hb
  simp only [Value.ownBlock, Option.some.injEq] at hb
  subst hb
  have hlt := (Array.getElem?_eq_some_iff.1 h2).1
  have hcur : ∀ k, k < n * sz → w.cell? ⟨gb, k, none⟩ = us[k]? := fun k hk' => by
    rw [← h6, List.getElem?_take, if_pos hk']
    simp only [World.cell?, h2]
    simp
  obtain ⟨c', hc1, hc2⟩ : ∃ c' : Array Value, (w.setCells gb p vals).heap[gb]? = some (.cells c' e (0, 0)) ∧ c'.size = cur.size := by
    rcases hk.block gb hlt with e' | ⟨c, c', e', f, q1, q2, q3, q4⟩
    · exact ⟨cur, by rw [e']; exact h2, rfl⟩
    · rw [h2] at q1
      cases q1
      exact ⟨c', q2, q3⟩
  have hle : n * sz ≤ cap * sz := Nat.mul_le_mul_right _ h3
  refine ⟨gb, cap, c', rfl, h1, hc1, h3, h4, by rw [hc2]; exact h5, ?_⟩
  apply List.ext_getElem?
  intro k
  rw [splice_get us vals p (by omega), List.getElem?_take]
  by_cases hkn : k < n * sz
  · rw [if_pos hkn]
    have hcell : (w.setCells gb p vals).cell? ⟨gb, k, none⟩ = c'.toList[k]? := by
      simp only [World.cell?, hc1]; simp
    rw [← hcell]
    split
    · rename_i hin
      have := World.cell?_setCells_in gb vals p w (fun j hj => by rw [hcur _ (by omega), List.getElem?_eq_getElem (by omega)]; rfl) (k - p) (by omega)
      rw [show p + (k - p) = k by omega] at this
      rw [this, List.getElem?_eq_getElem]
    · rename_i hin
      rw [List.getElem?_eq_getElem (by omega)]
      have h7 := hcur k hkn
      rw [List.getElem?_eq_getElem (by omega)] at h7
      exact hk.cell h7 (fun q => hin ⟨q.2.1, q.2.2⟩)
  · rw [if_neg hkn, if_neg (by omega), List.getElem?_eq_none (by omega)]

/-! ### an operation that writes one resource in place -/
def UpdOp (P : Program) (o : Oper) (s : St) (d : Nat) (r0 r : Res) (v : SV) : Prop :=
  look s.hp d = some r0 ∧ (r0.isBox = r.isBox) ∧ (∀ g b o, Foot g d r b o → Foot g d r0 b o) ∧ ∀ g rd a w, OView g rd a w s o →
    ∃ nx w', (execOp a.eval o).run P w = .ok nx w' ∧ Keep w (Foot g d r0) w' ∧ ((nx = .skip ∧ o.dst = none) ∨ ∃ u, nx = .value u ∧ ∀ rd', rd.le rd' → VRel rd' g u v) ∧ ∀ rd', rd.le rd' → Holds rd' g w' d r
section
variable {P : Program} {K : Ctx} {n : Nat} {ops : Array Oper} {o : Oper} {s : St} {d : Nat} {r0 r : Res} {v : SV}
theorem Sub.upd {s s' : St} (h : Sub s s') (hp : UpdOp P o s d r0 r v) : UpdOp P o s' d r0 r v :=
  ⟨h.h _ _ hp.1, hp.2.1, hp.2.2.1, fun g rd a w hv => hp.2.2.2 g rd a w ⟨fun x v hx hq => hv.op x v hx (h.opd hq), hv.reads, fun d r hd => hv.holds d r (h.h d r hd)⟩⟩
theorem S_upd (hp : UpdOp P o s d r0 r v) (hgd : guardOf ops o s = some true) (hd : dstOk n o = true) : Stp P K n ops o s ((s.setR d r).put o.dst v) := by
  refine Stp_mk hgd fun g a w rg K' Q hK => ?_
  obtain ⟨h1, h2, h3, h4⟩ := hp
  obtain ⟨nx, w', k1, k2, k3, k4⟩ := h4 _ _ _ _ (rg.view.o o)
  obtain ⟨r1, hle⟩ := rg.upd (r := r) (w' := w') h1 (h3 g) k2 (fun cs hq => by
    subst hq
    cases r0 with
    | box cs0 => exact ⟨cs0, rfl⟩
    | row _ _ _ _ => cases h2
    | spare _ _ _ => cases h2) (fun hq => by rw [h2]; exact hq) (fun hle => k4 _ hle)
  unfold Oper.wp
  rw [k1]
  rcases k3 with ⟨rfl, k5⟩ | ⟨u, rfl, k5⟩
  · simp only [Oper.upon]
    rw [k5] at hK ⊢
    exact hK _ _ ⟨_, r1⟩
  · simp only [Oper.upon]
    exact hK _ _ ⟨_, r1.put o.dst (dstOk_spec hd) (k5 _ hle)⟩
end

/-! ### pointers into rows -/
section
variable {P : Program} {o : Oper} {s : St} {α : Type}
def rowOfS (s : St) : SV → Option (Nat × Nat × Nat × Nat × List (List SC) × Cut × Nat)
  | .c (.own d) => match look s.hp d with
    | some (.row e sz N xs) => some (d, e, sz, N, xs, .whole, 0)
    | _ => none
  | .c (.row d m) => match look s.hp d with
    | some (.row e sz N xs) => some (d, e, sz, N, xs, .part 0 m, 0)
    | _ => none
  | .c (.sub d s1 a m) => match look s.hp d with
    | some (.row e sz N xs) => if s1 = sz then some (d, e, sz, N, xs, .part a m, a) else none
    | _ => none
  | _ => none
structure RowView (g : Env) (rd : Rd) (w : World) (u : Value) (d e sz N : Nat) (xs : List (List SC)) (c : Cut) (a : Nat) : Prop where
  own : ∃ us, w.ownsRow 0 e sz (g.tk d).1 N us ∧ xs.length = N ∧ RowIs rd sz us xs
  val : ∃ x cap, u = .slice x (c.app xs).length cap ∧ (c.app xs).length ≤ cap ∧ cap ≤ maxLen ∧ a + (c.app xs).length ≤ N ∧ ((c.app xs).length = 0 ∨ ∃ b, (g.tk d).1.ownBlock = some b ∧ x = some ⟨b, a * sz, none⟩)
  get : ∀ i, (c.app xs)[i]? = if i < (c.app xs).length then xs[a + i]? else none
theorem rowOfS_rel {v : SV} {d e sz N a : Nat} {xs : List (List SC)} {c : Cut} (h : rowOfS s v = some (d, e, sz, N, xs, c, a)) {g : Env} {rd : Rd} {ac : Act} {w : World} {o : Oper} (hv : OView g rd ac w s o) {u : Value} (hu : VRel rd g u v) : look s.hp d = some (.row e sz N xs) ∧ RowView g rd w u d e sz N xs c a := by
  unfold rowOfS at h
  split at h
  · split at h
    · rename_i d' e' sz' N' xs' hl
      cases h
      obtain ⟨us, h1, h2, h3⟩ := hv.holds _ _ hl
      obtain ⟨rfl, _⟩ := hu
      obtain ⟨b, c, h4, h5, h6, _, h7⟩ := tk_slice h1
      refine ⟨hl, ⟨us, h1, h2, h3⟩, ⟨b, c, by simp only [Cut.app]; rw [h2]; exact h4, by simp only [Cut.app]; omega, h6, by simp only [Cut.app]; omega, ?_⟩, fun i => ?_⟩
      · rcases h7 with h7 | ⟨bb, h7, h8⟩
        · left; simp only [Cut.app]; omega
        · exact .inr ⟨bb, h8, by rw [h7, Nat.zero_mul]⟩
      · simp only [Cut.app, Nat.zero_add]
        split
        · rfl
        · exact List.getElem?_eq_none (by omega)
    · cases h
  · rename_i d' m
    split at h
    · rename_i e' sz' N' xs' hl
      cases h
      obtain ⟨us, h1, h2, h3⟩ := hv.holds _ _ hl
      obtain ⟨a', N2, c', k1, rfl, k3⟩ := hu
      obtain ⟨b, c, h4, h5, h6, _, h7⟩ := tk_slice h1
      rw [h4] at k1
      cases k1
      have hlen : (Cut.app (.part 0 m) xs).length = m := by simp only [Cut.app, List.drop_zero, List.length_take]; omega
      refine ⟨hl, ⟨us, h1, h2, h3⟩, ⟨_, _, by rw [hlen], by rw [hlen]; omega, h6, by rw [hlen]; omega, ?_⟩, fun i => ?_⟩
      · rw [hlen]
        rcases h7 with h7 | ⟨bb, h7, h8⟩
        · left; omega
        · exact .inr ⟨bb, h8, by rw [h7, Nat.zero_mul]⟩
      · rw [hlen, Nat.zero_add]
        simp only [Cut.app, List.drop_zero, List.getElem?_take]
    · cases h
  · rename_i d' s1 a' m
    split at h
    · rename_i e' sz' N' xs' hl
      split at h
      · rename_i hs; subst hs
        cases h
        obtain ⟨us, h1, h2, h3⟩ := hv.holds _ _ hl
        obtain ⟨b, N2, c, x, c', k1, k2, rfl, k4, k5, k6⟩ := hu
        obtain ⟨b', c2, h4, h5, h6, _, h7⟩ := tk_slice h1
        rw [h4] at k1
        cases k1
        have hlen : (Cut.app (.part a m) xs).length = m := by simp only [Cut.app, List.length_take, List.length_drop]; omega
        refine ⟨hl, ⟨us, h1, h2, h3⟩, ⟨_, _, by rw [hlen], by rw [hlen]; omega, k5, by rw [hlen]; omega, ?_⟩, fun i => ?_⟩
        · rw [hlen]
          rcases k6 with k6 | ⟨blk, k6, k7⟩
          · left; omega
          · right
            rcases h7 with h7 | ⟨bb, h7, h8⟩
            · subst k6
              refine ⟨blk, by rw [h4]; rfl, k7⟩
            · rw [k6] at h7; cases h7
              exact ⟨_, h8, k7⟩
        · rw [hlen]
          simp only [Cut.app, List.getElem?_take, List.getElem?_drop]
      · cases h
    · cases h
  · cases h
/-- &l[i], l a row of its own -/
def idxRArgs (P : Program) (s : St) (o : Oper) : Option (Nat × Nat × List (List SC) × Cut × Nat × Int) := match o.op with
  | .indexAddr t x y => match (opd s x).bind (rowOfS s), opd s y, P.underlying t with
    | some (d, _, sz, _, xs, c, a), some (.c (.lit (.int _ i))), some (.slice e') => match P.info? e' with
      | some ie => if ie.size = sz then some (d, sz, xs, c, a, i) else none
      | none => none
    | _, _, _ => none
  | _ => none
theorem grow_idxR {d sz a : Nat} {f : α → List SC} {l : List α} {c : Cut} {i : Int} {x : α} (hx : idx (c.app l) i = some x) (h : idxRArgs P s o = some (d, sz, l.map f, c, a, i)) : GrowOp P o s (.c (.elt d sz (a + i.toNat) 0)) := by
  unfold idxRArgs at h
  split at h
  rotate_left
  · cases h
  rename_i t xo yo ho
  split at h
  rotate_left
  · cases h
  rename_i d1 e1 sz1 N1 xs1 c1 a1 k1 i1 e' hxx hy hu
  split at h
  rotate_left
  · cases h
  rename_i ie hie
  split at h
  rotate_left
  · cases h
  rename_i hsz
  cases h
  refine PureOp.grow fun g rd A w hview => ?_
  obtain ⟨v, hv1, hv2⟩ := Option.bind_eq_some_iff.1 hxx
  obtain ⟨hl, hr⟩ := rowOfS_rel hv2 hview (hview.op xo _ (by simp [ho, Op.operands]) hv1)
  have hyv := rel_lit (hview.op yo _ (by simp [ho, Op.operands]) hy)
  obtain ⟨h0, hi⟩ := idx_spec hx
  have hlt := (List.getElem?_eq_some_iff.1 hi).1
  obtain ⟨xa, cap, q1, q2, q3, q4, q5⟩ := hr.val
  rw [Cut.map, List.length_map] at q1 q2 q4 q5
  rcases q5 with q5 | ⟨b, q5, q6⟩
  · omega
  have hii : i < ((c.app l).length : Int) := by omega
  refine ⟨.pointer (some ⟨b, a * sz + i.toNat * sz, none⟩), ?_, ?_⟩
  · subst q6
    simp [execOp, ho, hyv, q1, Instr.indexAt, asIntOf, run_underlying hu, h0, hii, sizeOf, typeInfo, hie, addr_add, hsz]
  · obtain ⟨us, h1, _⟩ := hr.own
    obtain ⟨bb, cc, h4, _, _, _, h7⟩ := tk_slice h1
    rcases h7 with h7 | ⟨b2, h7, h8⟩
    · omega
    · rw [q5] at h8; cases h8
      exact ⟨b, N1, cc, by rw [h4, h7], by rw [Nat.add_zero, Nat.add_mul]⟩
/-- what lies behind such a pointer -/
def ldEArgs (_P : Program) (s : St) (o : Oper) : Option (TypeId × List (List SC) × Nat × Nat) := match o.op with
  | .load t p => match opd s p with
    | some (.c (.elt d sz i off)) => match look s.hp d with
      | some (.row _ sz' _ xs) => if sz' = sz then some (t, xs, i, off) else none
      | _ => none
    | _ => none
  | _ => none
theorem grow_ldE {t : TypeId} {i off : Nat} {f : α → List SC} {l : List α} {x : α} {v : SV} (hx : l[i]? = some x) (h : ldEArgs P s o = some (t, l.map f, i, off)) (hv : wrapT P t ((f x).drop off) = some v) : GrowOp P o s v := by
  unfold ldEArgs at h
  split at h
  rotate_left
  · cases h
  rename_i t' p ho
  split at h
  rotate_left
  · cases h
  rename_i d sz i' off' hp
  split at h
  rotate_left
  · cases h
  rename_i e sz' N xs hl
  split at h
  rotate_left
  · cases h
  rename_i hs
  subst hs
  cases h
  refine PureOp.grow fun g rd A w hview => ?_
  obtain ⟨b, N2, c, h1, h2⟩ := hview.op p _ (by simp [ho, Op.operands]) hp
  obtain ⟨us, h3, h4, h5⟩ := hview.holds d _ hl
  have hb : (g.tk d).1.ownBlock = some b := by rw [h1]; rfl
  have hxs : (l.map f)[i]? = some (f x) := by rw [List.getElem?_map, hx]; rfl
  have hcell : ∀ j y, ((f x).drop off)[j]? = some y → ∃ z, w.cell? ⟨b, i * sz' + off + j, none⟩ = some z ∧ CRel rd g z y := by
    intro j y hy
    rw [List.getElem?_drop] at hy
    obtain ⟨u, q1, q2⟩ := h5.2 i _ (off + j) y hxs hy
    have := h3.cells hb _ _ q1
    rw [addr_add, Nat.zero_add] at this
    exact ⟨u, by rw [Nat.add_assoc]; exact this, q2.c⟩
  obtain ⟨u, k1, k2⟩ := run_loadVar_sh (P := P) hv hcell
  exact ⟨u, by simp [execOp, ho, h2, Instr.loadAt, Instr.sureAddr, k1], k2⟩
/-- such a place is written -/
def stEArgs (P : Program) (s : St) (o : Oper) : Option (Nat × Nat × Nat × Nat × List (List SC) × Nat × Nat × List SC) := match o.op with
  | .store t p x => match opd s p, opd s x with
    | some (.c (.elt d sz i off)), some v => match look s.hp d, (cellsOf v).bind immL, P.info? t, o.dst with
      | some (.row e sz' N xs), some ds, some it, none => if sz' = sz ∧ it.size = ds.length then some (d, e, sz, N, xs, i, off, ds) else none
      | _, _, _, _ => none
    | _, _ => none
  | _ => none
theorem upd_stE {d e sz N i off : Nat} {f : α → List SC} {l : List α} {x x' : α} {ds : List SC} (hx : l[i]? = some x) (h : stEArgs P s o = some (d, e, sz, N, l.map f, i, off, ds)) (hx' : over (f x) off ds = f x') (hlen : (decide (off + ds.length ≤ (f x).length) && ds.all SC.one) = true) :
    UpdOp P o s d (.row e sz N (l.map f)) (.row e sz (l.set i x').length ((l.set i x').map f)) (.tup []) := by
  unfold stEArgs at h
  split at h
  rotate_left
  · cases h
  rename_i t p xo ho
  split at h
  rotate_left
  · cases h
  rename_i d1 sz1 i1 off1 v hp hxo
  split at h
  rotate_left
  · cases h
  rename_i e2 sz2 N2 xs2 ds2 it hl hds hit hdst
  split at h
  rotate_left
  · cases h
  rename_i hs
  obtain ⟨rfl, hsz⟩ := hs
  cases h
  simp only [Bool.and_eq_true, decide_eq_true_eq] at hlen
  obtain ⟨hlen, h1⟩ := hlen
  refine ⟨hl, rfl, fun _ _ _ hf => hf, fun g rd A w hview => ?_⟩
  obtain ⟨b, N2, c, k1, k2⟩ := hview.op p _ (by simp [ho, Op.operands]) hp
  obtain ⟨us, h3, h4, h5⟩ := hview.holds d _ hl
  have hb : (g.tk d).1.ownBlock = some b := by rw [k1]; rfl
  have hxs : (l.map f)[i]? = some (f x) := by rw [List.getElem?_map, hx]; rfl
  have hfl : (f x).length = sz := h5.1 _ (List.mem_of_getElem? hxs)
  have hiN : i < N := by have := (List.getElem?_eq_some_iff.1 hxs).1; omega
  have hbound : i * sz + off + ds.length ≤ N * sz := by
    have : (i + 1) * sz ≤ N * sz := Nat.mul_le_mul_right _ hiN
    rw [Nat.add_mul, Nat.one_mul] at this
    omega
  obtain ⟨cs, hcs1, hcs2⟩ := Option.bind_eq_some_iff.1 hds
  have hrc := rel_cells (hview.op xo _ (by simp [ho, Op.operands]) hxo) hcs1
  obtain ⟨i1, i2⟩ := immL_get _ _ hcs2
  have hvl : (A.eval xo).cells.toList.length = ds.length := by rw [Array.length_toList, hrc.1, i1]
  have hval : ∀ (j : Nat) (y : SC), ds[j]? = some y → ∃ u, (A.eval xo).cells.toList[j]? = some u ∧ IRel rd u y := by
    intro j y hy
    obtain ⟨x0, q1, q2⟩ := i2 j y hy
    obtain ⟨u, q3, q4⟩ := hrc.2 j x0 q1
    exact ⟨u, by simpa using q3, imm_rel q4 q2⟩
  have hul := h3.1
  have hcell : ∀ j, j < ds.length → ∃ u, w.cell? ⟨b, i * sz + off + j, none⟩ = some u := by
    intro j hj
    have := h3.cells hb (i * sz + off + j) _ (List.getElem?_eq_getElem (by omega))
    rw [addr_add, Nat.zero_add] at this
    exact ⟨_, this⟩
  have hst := run_storeCells_cells (P := P) b (i * sz + off) (A.eval xo).cells.toList 0 w
    (fun j hj => by obtain ⟨u, q⟩ := hcell j (by omega); rw [Nat.add_zero, q]; rfl)
    (fun j hj => by
      rcases h3.2 with ⟨q, _⟩ | ⟨gb, cap, cur, q1, _, q2, _⟩
      · rw [q] at hb; cases hb
      · rw [q1] at hb; cases hb
        simp [World.frozen?, q2])
    (fun u hu => by
      obtain ⟨j, hj, rfl⟩ := List.getElem_of_mem hu
      obtain ⟨u', q1, q2⟩ := hval j _ (List.getElem?_eq_getElem (by omega))
      rw [List.getElem?_eq_getElem hj] at q1
      cases q1
      exact oneCell_imm q2 (List.all_eq_true.1 h1 _ (List.getElem_mem _)))
  simp only [Nat.add_zero] at hst
  obtain ⟨o1, o2⟩ := own_write h3 hb (i * sz + off) (A.eval xo).cells.toList (by omega)
  refine ⟨.skip, _, ?_, o2, .inl ⟨rfl, hdst⟩, fun rd' hle => ⟨_, (by rw [show (l.set i x').length = N by rw [List.length_set]; simpa using h4]; exact o1), by simp, ?_⟩⟩
  · simp only [execOp, ho, k2, Instr.storeAt, Instr.sureAddr, storeVar, sizeOf, typeInfo, program, hit, Sem.run_bind, Sem.run_pure, Sem.run, Result.andThen_ok]
    rw [if_neg (by rw [← Array.length_toList, hvl, hsz]; simp)]
    simp only [Result.andThen_ok, hst]
  · refine ⟨fun y hy => ?_, fun i2 y j z hy hz => ?_⟩
    · obtain ⟨y0, hy0, rfl⟩ := List.mem_map.1 hy
      rcases List.mem_or_eq_of_mem_set hy0 with q | q
      · exact h5.1 _ (List.mem_map_of_mem q)
      · rw [q, ← hx', over_length hlen]; exact hfl
    · rw [List.getElem?_map, List.getElem?_set] at hy
      rw [splice_get _ _ _ (by omega), hvl]
      by_cases hii : i = i2
      · subst hii
        rw [if_pos rfl] at hy
        have hil := (List.getElem?_eq_some_iff.1 hx).1
        rw [if_pos hil] at hy
        simp only [Option.map_some, Option.some.injEq] at hy
        subst hy
        rw [← hx', over_get hlen] at hz
        by_cases hj : off ≤ j ∧ j < off + ds.length
        · rw [if_pos hj] at hz
          rw [if_pos (by omega)]
          obtain ⟨u, q1, q2⟩ := hval _ z hz
          exact ⟨u, by rw [← q1]; congr 1; omega, q2.mono hle⟩
        · rw [if_neg hj] at hz
          rw [if_neg (by omega)]
          obtain ⟨u, q1, q2⟩ := h5.2 i _ j z hxs hz
          exact ⟨u, q1, q2.mono hle⟩
      · rw [if_neg hii] at hy
        obtain ⟨y0, hy0, rfl⟩ := Option.map_eq_some_iff.1 hy
        have hys : (l.map f)[i2]? = some (f y0) := by rw [List.getElem?_map, hy0]; rfl
        have hyl := h5.1 _ (List.mem_of_getElem? hys)
        have hj : j < sz := by have := (List.getElem?_eq_some_iff.1 hz).1; omega
        obtain ⟨u, q1, q2⟩ := h5.2 i2 _ j z hys hz
        refine ⟨u, ?_, q2.mono hle⟩
        rw [if_neg]
        · exact q1
        · rintro ⟨q3, q4⟩
          rcases Nat.lt_or_gt_of_ne hii with q5 | q5
          · have : (i + 1) * sz ≤ i2 * sz := Nat.mul_le_mul_right _ q5
            rw [Nat.add_mul, Nat.one_mul] at this
            omega
          · have : (i2 + 1) * sz ≤ i * sz := Nat.mul_le_mul_right _ q5
            rw [Nat.add_mul, Nat.one_mul] at this
            omega
end
end Go.Proofs.Ytohfnlkjdjmipaa
