/-
  SHADOWS: variables made and written; the rules for the operations of a statement.
-/
import Derived.Test.YtohhaibbbnobpaaSh2
import Derived.Laws.IdiomCopy
import Derived.Laws.NewBlocks
namespace Go.Proofs.Ytohhaibbbnobpaa
open Go.RowKit

/-! ### the frame -/
theorem Alike1.refl (m : Nat → Prop) (o : Option Obj) : Alike1 m o o := .inl rfl
theorem Alike1.trans {m m' : Nat → Prop} {o1 o2 o3 : Option Obj} (h : Alike1 m o1 o2) (k : Alike1 m' o2 o3) (hm : ∀ j, m' j → m j) : Alike1 m o1 o3 := by
  rcases h with rfl | ⟨c, c', e, f, rfl, rfl, h3, h4⟩
  · rcases k with rfl | ⟨c, c', e, f, rfl, rfl, h3, h4⟩
    · exact .inl rfl
    · exact .inr ⟨c, c', e, f, rfl, rfl, h3, fun j hj => h4 j fun h => hj (hm j h)⟩
  · rcases k with rfl | ⟨d, d', e', f', h1, rfl, h5, h6⟩
    · exact .inr ⟨c, c', e, f, rfl, rfl, h3, h4⟩
    · cases h1
      exact .inr ⟨c, d', e, f, rfl, rfl, h5.trans h3, fun j hj => (h6 j fun h => hj (hm j h)).trans (h4 j hj)⟩
theorem Keep.refl (w : World) (may : Nat → Nat → Prop) : Keep w may w := ⟨rfl, rfl, rfl, Nat.le_refl _, fun _ _ => .inl rfl⟩
theorem Keep.trans {w0 w w' : World} {may may' : Nat → Nat → Prop} (h : Keep w0 may w) (k : Keep w may' w') (hm : ∀ b o, b < w0.heap.size → may' b o → may b o) : Keep w0 may w' :=
  ⟨k.os.trans h.os, k.tape.trans h.tape, k.output.trans h.output, Nat.le_trans h.size k.size, fun b hb => (h.block b hb).trans (k.block b (Nat.lt_of_lt_of_le hb h.size)) fun j => hm b j hb⟩
theorem Keep.of_ext {w w' : World} (h : Ext w w') : Keep w (fun _ _ => False) w' := by
  have hb := h.below
  exact ⟨hb.os, hb.tape, hb.output, hb.size, fun b hb' => .inl (hb.block b hb')⟩
theorem Keep.ext {w w' : World} (h : Keep w (fun _ _ => False) w') : Ext w w' := by
  refine Ext.of_below ⟨h.os, h.tape, h.output, h.size, fun b hb => ?_⟩
  rcases h.block b hb with e | ⟨c, c', e, f, h1, h2, h3, h4⟩
  · exact e
  · rw [h1, h2]
    congr 2
    exact Array.ext_getElem? (fun j => h4 j (by simp))
theorem Keep.frozen {w w' : World} {may : Nat → Nat → Prop} (h : Keep w may w') {b o : Nat} (hb : b < w.heap.size) : w'.frozen? ⟨b, o, none⟩ = w.frozen? ⟨b, o, none⟩ := by
  unfold World.frozen?
  simp only
  rcases h.block b hb with e | ⟨c, c', e, f, h1, h2, h3, h4⟩
  · rw [e]
  · rw [h1, h2]
theorem Keep.alloc (w : World) (o : Obj) (may : Nat → Nat → Prop) : Keep w may (w.alloc o) :=
  ⟨rfl, rfl, rfl, by simp, fun b hb => .inl (heap_alloc_old w o hb)⟩
theorem Keep.setCell (w : World) (b o : Nat) (v : Value) : Keep w (fun b' o' => b' = b ∧ o' = o) (w.setCell ⟨b, o, none⟩ v) := by
  refine ⟨rfl, rfl, rfl, by simp [World.setCell], fun b' hb' => ?_⟩
  by_cases hbb : b' = b
  · subst hbb
    simp only [World.setCell, Array.getElem?_modify, if_true]
    cases hx : w.heap[b']? with
    | none => exact .inl (by simp)
    | some x =>
      cases x with
      | cells c e f => exact .inr ⟨c, c.setIfInBounds o v, e, f, rfl, by simp, by simp, fun j hj => by simp at hj; simp [Array.getElem?_setIfInBounds, Ne.symm hj]⟩
      | _ => exact .inl (by simp)
  · refine .inl ?_
    simp only [World.setCell, Array.getElem?_modify]
    rw [if_neg (Ne.symm hbb)]
theorem Keep.setCells (b : Nat) : ∀ (vs : List Value) (o : Nat) (w : World), Keep w (fun b' o' => b' = b ∧ o ≤ o' ∧ o' < o + vs.length) (w.setCells b o vs)
  | [], _, w => Keep.refl _ _
  | v :: r, o, w => by
    have h1 := Keep.setCell w b o v
    have h2 := Keep.setCells b r (o + 1) (w.setCell ⟨b, o, none⟩ v)
    have h1' : Keep w (fun b' o' => b' = b ∧ o ≤ o' ∧ o' < o + (v :: r).length) (w.setCell ⟨b, o, none⟩ v) :=
      (Keep.refl w _).trans h1 (fun b' o' _ h => ⟨h.1, by simp only [List.length_cons]; omega⟩)
    exact h1'.trans h2 (fun b' o' _ h => ⟨h.1, by simp only [List.length_cons]; omega⟩)

/-! ### a slot is written -/
theorem look_put {s : St} {d : Tmp} {v : SV} {t : Nat} : look (s.put (some d) v).tmps t = if d = t then some v else look s.tmps t := by
  simp only [St.put, look_cons, look_drop1]
  by_cases h : d = t
  · simp [h]
  · simp [h, Ne.symm h]
theorem RG.put {K : Ctx} {g : Env} {n : Nat} {a : Act} {w : World} {s : St} (h : RG K g n a w s) (d : Option Tmp) (hd : ∀ t, d = some t → t < n) {u : Value} {v : SV} (hv : VRel (rdOf K g s.hp w) g u v) : RG K g n (a.put d u) w (s.put d v) := by
  cases d with
  | none => exact h
  | some d =>
    refine ⟨h.defers, by simp [Act.put, h.size], h.hg, fun t x hx => ?_⟩
    rw [look_put] at hx
    simp only [Act.put]
    by_cases ht : d = t
    · subst ht
      rw [if_pos rfl] at hx
      cases hx
      exact ⟨u, by simp [Array.getElem?_setIfInBounds, h.size, hd d rfl], hv⟩
    · rw [if_neg ht] at hx
      obtain ⟨z, h1, h2⟩ := h.tmps t x hx
      exact ⟨z, by simp [Array.getElem?_setIfInBounds, ht, h1], h2⟩

def dstOk (n : Nat) (o : Oper) : Bool := match o.dst with
  | some d => decide (d < n)
  | none => true
theorem dstOk_spec {n : Nat} {o : Oper} (h : dstOk n o = true) : ∀ t, o.dst = some t → t < n := by
  intro t ht
  simpa [dstOk, ht] using h

/-! ### guards -/
def guardOf (ops : Array Oper) (o : Oper) (s : St) : Option Bool := match o.guard with
  | none => some true
  | some (j, want) => match ops[j]? with
    | some oj => match oj.dst with
      | some t => match look s.tmps t with
        | some (.c (.lit (.bool b))) => some (b == want)
        | some (.tup []) => some false
        | _ => none
      | none => none
    | none => none
theorem guard_ok {ops : Array Oper} {o : Oper} {s : St} {b : Bool} {a : Act} (h : guardOf ops o s = some b) (ht : ∀ t v, look s.tmps t = some v → ∃ u rd g, a.tmps[t]? = some u ∧ VRel rd g u v) : Region.wanted o (yielded ops a.tmps) = b := by
  unfold guardOf at h
  unfold Region.wanted
  cases hg : o.guard with
  | none => rw [hg] at h; simpa using h
  | some p =>
    obtain ⟨j, want⟩ := p
    rw [hg] at h
    simp only at h ⊢
    split at h
    · rename_i oj hoj
      split at h
      · rename_i t hdst
        split at h
        · rename_i b' hl
          obtain ⟨u, rd, g, h1, h2⟩ := ht t _ hl
          have := rel_lit h2
          subst this
          simp only [yielded, hoj, Option.bind_some, hdst, h1]
          simpa using h
        · rename_i hl
          obtain ⟨u, rd, g, h1, h2⟩ := ht t _ hl
          simp only [VRel] at h2
          obtain ⟨vs, rfl, _⟩ := h2
          simp only [yielded, hoj, Option.bind_some, hdst, h1]
          simpa using h
        · cases h
      · cases h
    · cases h

/-! ### the rules -/
def TL (P : Program) (K : Ctx) (n : Nat) (ops : Array Oper) (l : List Oper) (s : St) (Q : Exit → St → Prop) : Prop := ∀ a w, R K n a w s → wpList P ops (Post K n Q) l a w

section
variable {P : Program} {K : Ctx} {n : Nat} {ops : Array Oper} {l : List Oper} {o : Oper} {s : St} {Q : Exit → St → Prop}
theorem TL_nil (h : Q .normal s) : TL P K n ops [] s Q := fun _ _ r => ⟨s, r, h⟩
theorem T_region {id : Nat} (h : TL P K n l.toArray l s Q) : T P K n (.region id l.toArray false) s Q := fun a w r => wp_region_lit (h a w r)

theorem TL_step (hgd : guardOf ops o s = some true) (h : ∀ g a w, RG K g n a w s → ∀ K' : Act → World → Prop, (∀ a w, wpList P ops (Post K n Q) l a w → K' a w) → o.wp P a w K' (Post K n Q)) : TL P K n ops (o :: l) s Q := by
  intro a w ⟨g, r⟩
  have hw := guard_ok (a := a) hgd (fun t v hv => let ⟨u, h1, h2⟩ := r.tmps t v hv; ⟨u, _, _, h1, h2⟩)
  refine wpList_step fun K' hK => ?_
  rw [if_pos hw]
  exact h g a w r K' hK
theorem TL_skip (hgd : guardOf ops o s = some false) (hd : dstOk n o = true) (h : TL P K n ops l (s.put o.dst (.tup [])) Q) : TL P K n ops (o :: l) s Q := by
  intro a w ⟨g, r⟩
  have hw := guard_ok (a := a) hgd (fun t v hv => let ⟨u, h1, h2⟩ := r.tmps t v hv; ⟨u, _, _, h1, h2⟩)
  refine wpList_step fun K' hK => ?_
  rw [if_neg (by rw [hw]; simp)]
  exact hK _ _ (h _ _ ⟨g, r.put o.dst (dstOk_spec hd) ⟨#[], rfl, rfl, fun j x hx => by simp at hx⟩⟩)
theorem TL_pure (v : SV) (hgd : guardOf ops o s = some true) (hd : dstOk n o = true) (hp : PureOp P o s v) (h : TL P K n ops l (s.put o.dst v) Q) : TL P K n ops (o :: l) s Q := by
  refine TL_step hgd fun g a w r K' hK => ?_
  obtain ⟨u, h1, h2⟩ := hp g _ a w (r.view.o o)
  unfold Oper.wp
  rw [h1]
  exact hK _ _ (h _ _ ⟨g, r.put o.dst (dstOk_spec hd) h2⟩)
end

/-! ### new variables -/
def cellsOf : SV → Option (List SC)
  | .c (.lit (.agg _)) => none
  | .c x => some [x]
  | .agg cs => some cs
  | .tup _ => none
theorem rel_cells {rd : Rd} {g : Env} {u : Value} {v : SV} {cs : List SC} (h : VRel rd g u v) (hc : cellsOf v = some cs) : CsRel rd g u.cells cs := by
  unfold cellsOf at hc
  split at hc
  · cases hc
  · rename_i x hx
    cases hc
    have : u.cells = #[u] := by
      unfold Value.cells
      split
      · rename_i vs
        exfalso
        simp only [VRel] at h
        cases x <;> simp only [CRel] at h
        case lit => cases h; exact hx _ rfl
        case slc => cases h.1
        case ref => cases h
        case box => cases h
        case bsl => cases h.1
      · rfl
    rw [this]
    refine ⟨rfl, fun j y hy => ?_⟩
    cases j with
    | zero => cases hy; exact ⟨u, rfl, h⟩
    | succ j => simp at hy
  · cases hc
    simp only [VRel] at h
    obtain ⟨vs, rfl, h2⟩ := h
    exact h2
  · cases hc

def St.freshB (s : St) (d : Nat) : Bool := (look s.hp.boxes d).isNone && s.tmps.all (fun p => p.1 == d || p.2.every (SC.all d)) && s.hp.boxes.all fun p => p.2.all (SC.all d)

theorem look_mem {α : Type} {l : List (Nat × α)} {t : Nat} {x : α} (h : look l t = some x) : (t, x) ∈ l := by
  induction l with
  | nil => simp [look] at h
  | cons p l ih =>
    obtain ⟨k, y⟩ := p
    rw [look_cons] at h
    split at h
    · rename_i hk; subst hk; cases h; simp
    · exact List.mem_cons_of_mem _ (ih h)

theorem rdOf_alloc {K : Ctx} {g : Env} {h : Hp} {w : World} {d : Nat} {cs : List SC} (o : Obj) (hsz : K.w0.heap.size ≤ w.heap.size) :
    (rdOf K g h w).le (rdOf K (g.setPos d (w.heap.size, 0)) { h with boxes := (d, cs) :: h.boxes } (w.alloc o)) := by
  intro b o' v hv
  unfold rdOf at *
  split at hv
  · cases hv
  · rename_i hx
    have nex : b < w.heap.size → ¬ Ex (g.setPos d (w.heap.size, 0)) { h with boxes := (d, cs) :: h.boxes } b o' := by
      intro hlt k
      apply hx
      rcases k with ⟨e, cs', h1, h2, h3, h4⟩ | ⟨t, e, sz, xs, a, c, h1, h2⟩
      · rw [look_cons] at h1
        by_cases he : d = e
        · subst he
          exfalso
          simp only [Env.setPos, if_true] at h2
          omega
        · rw [if_neg he] at h1
          simp only [Env.setPos, Ne.symm he, if_false] at h2 h3 h4
          exact .inl ⟨e, cs', h1, h2, h3, h4⟩
      · exact .inr ⟨t, e, sz, xs, a, c, h1, h2⟩
    split at hv
    · rename_i hb
      rw [if_neg (nex (by omega)), if_pos hb]
      exact hv
    · rename_i hb
      have hlt := World.block_lt_of_cell? w _ hv
      rw [if_neg (nex hlt), if_neg hb, World.cell?_alloc_past _ _ _ hlt]
      exact hv

theorem RG.newBoxL {K : Ctx} {g : Env} {n : Nat} {a : Act} {w : World} {s : St} (h : RG K g n a w s) {d : Nat} (hd : d < n) (hd6 : d < 1000000) (hf1 : look s.hp.boxes d = none) (hf2 : ∀ t v, look s.tmps t = some v → t ≠ d → v.every (SC.all d) = true) (hf3 : ∀ e cs, look s.hp.boxes e = some cs → cs.all (SC.all d) = true) {vs : Array Value} {cs : List SC} (e : TypeId) (hv : CsRel (rdOf K g s.hp w) g vs cs) (hall : cs.all (SC.all d) = true) :
    RG K (g.setPos d (w.heap.size, 0)) n (a.put (some d) (.pointer (some ⟨w.heap.size, 0, none⟩))) (w.alloc (.cells vs e)) { tmps := (d, .c (.box d 0)) :: drop1 s.tmps d, hp := { s.hp with boxes := (d, cs) :: s.hp.boxes } } := by
  have hle := rdOf_alloc (K := K) (g := g) (h := s.hp) (d := d) (w := w) (cs := cs) (.cells vs e) h.hg.keep.size
  have hcr : ∀ u x, x.all d = true → CRel (rdOf K g s.hp w) g u x → CRel (rdOf K (g.setPos d (w.heap.size, 0)) { s.hp with boxes := (d, cs) :: s.hp.boxes } (w.alloc (.cells vs e))) (g.setPos d (w.heap.size, 0)) u x :=
    fun u x hx k => (k.setPos hx).mono hle
  refine ⟨h.defers, by simp [Act.put, h.size], ?_, ?_⟩
  · refine ⟨h.hg.keep.trans (Keep.alloc w _ (fun _ _ => False)) (fun _ _ _ k => k.elim), ?_, ?_, ?_, ?_, ?_, ?_, fun e he => by rw [← h.hg.fix e he]; simp only [Env.setPos]; rw [if_neg (by omega)]⟩
    · intro d' cs' hl j y hy
      rw [look_cons] at hl
      by_cases he : d = d'
      · subst he
        rw [if_pos rfl] at hl
        cases hl
        obtain ⟨u, h1, h2⟩ := hv.2 j y hy
        refine ⟨u, ?_, ?_, hcr u y (List.all_eq_true.1 hall y (List.mem_of_getElem? hy)) h2⟩
        · simp only [Env.setPos, if_true, Nat.zero_add]
          rw [World.cell?_alloc_at _ _ _ _ rfl]
          exact h1
        · simp only [Env.setPos, if_true, World.frozen?, heap_alloc_new]
          simp
      · rw [if_neg he] at hl
        obtain ⟨u, h1, h2, h3⟩ := h.hg.box d' cs' hl j y hy
        have hlt := World.block_lt_of_cell? w _ h1
        simp only [Env.setPos, Ne.symm he, if_false]
        refine ⟨u, ?_, ?_, hcr u y (List.all_eq_true.1 (hf3 _ _ hl) y (List.mem_of_getElem? hy)) h3⟩
        · rw [World.cell?_alloc_past _ _ _ hlt]; exact h1
        · rw [← h2]
          exact World.frozen?_of_block (heap_alloc_old w _ hlt)
    · intro d' cs' hl j hj hb
      rw [look_cons] at hl
      by_cases he : d = d'
      · subst he
        simp only [Env.setPos, if_true] at hb
        have := h.hg.keep.size
        omega
      · rw [if_neg he] at hl
        simp only [Env.setPos, Ne.symm he, if_false] at hb ⊢
        exact h.hg.may d' cs' hl j hj hb
    · intro d1 d2 cs1 cs2 hne h1 h2 j j' hj hj' hb
      rw [look_cons] at h1 h2
      have blk : ∀ d' cs', look s.hp.boxes d' = some cs' → ∀ j, j < cs'.length → (g.pos d').1 < w.heap.size := fun d' cs' hl j hj => by
        obtain ⟨u, k1, _⟩ := h.hg.box d' cs' hl j cs'[j] (List.getElem?_eq_getElem hj)
        exact World.block_lt_of_cell? w _ k1
      by_cases e1 : d = d1
      · subst e1
        rw [if_neg hne] at h2
        simp only [Env.setPos, if_true, Ne.symm hne, if_false] at hb ⊢
        have := blk d2 cs2 h2 j' hj'
        omega
      · rw [if_neg e1] at h1
        by_cases e2 : d = d2
        · subst e2
          simp only [Env.setPos, if_true, hne, if_false] at hb ⊢
          have := blk d1 cs1 h1 j hj
          omega
        · rw [if_neg e2] at h2
          simp only [Env.setPos, Ne.symm e1, Ne.symm e2, if_false] at hb ⊢
          exact h.hg.dis d1 d2 cs1 cs2 hne h1 h2 j j' hj hj' hb
    · intro t e' sz xs ht
      obtain ⟨us, hu⟩ := h.hg.tok t e' sz xs ht
      exact ⟨us, hu.alloc _⟩
    · exact h.hg.tdis
    · intro t x d' cs' ht hl hpos
      rw [look_cons] at hl
      by_cases he : d = d'
      · subst he
        simp only [Env.setPos, if_true]
        intro hk
        obtain ⟨e', sz, xs⟩ := x
        obtain ⟨us, hu⟩ := h.hg.tok t e' sz xs ht
        have := (hu.lt _ hk).2
        omega
      · rw [if_neg he] at hl
        simp only [Env.setPos, Ne.symm he, if_false]
        exact h.hg.tbox t x d' cs' ht hl hpos
  · intro t v hl
    rw [look_cons, look_drop1] at hl
    simp only [Act.put]
    by_cases ht : d = t
    · subst ht
      rw [if_pos rfl] at hl
      cases hl
      exact ⟨_, by simp [Array.getElem?_setIfInBounds, h.size, hd]; rfl, by simp [VRel, CRel, Env.setPos]⟩
    · rw [if_neg ht, if_neg (Ne.symm ht)] at hl
      obtain ⟨u, h1, h2⟩ := h.tmps t v hl
      exact ⟨u, by simp [Array.getElem?_setIfInBounds, ht, h1], VRel.imp hcr h2 (hf2 t v hl (Ne.symm ht))⟩

theorem freshB_spec {s : St} {d : Nat} (hf : s.freshB d = true) : look s.hp.boxes d = none ∧ (∀ t v, look s.tmps t = some v → t ≠ d → v.every (SC.all d) = true) ∧ ∀ e cs, look s.hp.boxes e = some cs → cs.all (SC.all d) = true := by
  simp only [St.freshB, Bool.and_eq_true, Option.isNone_iff_eq_none] at hf
  obtain ⟨⟨hf1, hf2⟩, hf3⟩ := hf
  refine ⟨hf1, fun t v hl ht => ?_, fun e cs hl => List.all_eq_true.1 hf3 _ (look_mem hl)⟩
  have := List.all_eq_true.1 hf2 _ (look_mem hl)
  simpa [ht] using this
theorem RG.newBox {K : Ctx} {g : Env} {n : Nat} {a : Act} {w : World} {s : St} (h : RG K g n a w s) {d : Nat} (hd : d < n) (hd6 : d < 1000000) (hf : s.freshB d = true) {vs : Array Value} {cs : List SC} (e : TypeId) (hv : CsRel (rdOf K g s.hp w) g vs cs) (hall : cs.all (SC.all d) = true) :
    RG K (g.setPos d (w.heap.size, 0)) n (a.put (some d) (.pointer (some ⟨w.heap.size, 0, none⟩))) (w.alloc (.cells vs e)) { tmps := (d, .c (.box d 0)) :: drop1 s.tmps d, hp := { s.hp with boxes := (d, cs) :: s.hp.boxes } } :=
  h.newBoxL hd hd6 (freshB_spec hf).1 (freshB_spec hf).2.1 (freshB_spec hf).2.2 e hv hall

section
variable {P : Program} {K : Ctx} {n : Nat} {ops : Array Oper} {l : List Oper} {o : Oper} {s : St} {Q : Exit → St → Prop}
def St.newBox (s : St) (d : Nat) (cs : List SC) : St := { tmps := (d, .c (.box d 0)) :: drop1 s.tmps d, hp := { s.hp with boxes := (d, cs) :: s.hp.boxes } }
theorem TL_box {t : TypeId} {x : Operand} {v : SV} {cs : List SC} (d : Nat) (ho : o.op = .box t x) (hdst : o.dst = some d) (hgd : guardOf ops o s = some true) (hd : decide (d < n) = true) (hd6 : decide (d < 1000000) = true) (hx : opd s x = some v) (hc : cellsOf v = some cs) (hf : s.freshB d = true) (hall : cs.all (SC.all d) = true)
    (h : TL P K n ops l (s.newBox d cs) Q) : TL P K n ops (o :: l) s Q := by
  refine TL_step hgd fun g a w r K' hK => ?_
  have h1 := rel_cells (r.view.opd hx) hc
  have h2 := r.newBox (of_decide_eq_true hd) (of_decide_eq_true hd6) hf t h1 hall
  unfold Oper.wp
  simp only [execOp, ho, Instr.box, newVar, newRow, newObj, Sem.run_bind, Sem.run_pure, Sem.run, Result.andThen_ok, Oper.upon, hdst]
  exact hK _ _ (h _ _ ⟨_, h2⟩)
theorem TL_alloc {t : TypeId} {z : Value} (d : Nat) (cs : List SC) (ho : o.op = .alloc t) (hdst : o.dst = some d) (hgd : guardOf ops o s = some true) (hd : decide (d < n) = true) (hd6 : decide (d < 1000000) = true) (hz : (P.info? t).bind (·.zero) = some z) (hc : z.cells.toList.map SC.lit = cs) (hf : s.freshB d = true)
    (h : TL P K n ops l (s.newBox d cs) Q) : TL P K n ops (o :: l) s Q := by
  refine TL_step hgd fun g a w r K' hK => ?_
  obtain ⟨i, hi, hz⟩ := Option.bind_eq_some_iff.1 hz
  have h1 : CsRel (rdOf K g s.hp w) g z.cells cs := by
    subst hc
    refine ⟨by simp, fun j y hy => ?_⟩
    rw [List.getElem?_map] at hy
    obtain ⟨u, hu, rfl⟩ := Option.map_eq_some_iff.1 hy
    exact ⟨u, by simpa using hu, .lit u⟩
  have h2 := r.newBox (of_decide_eq_true hd) (of_decide_eq_true hd6) hf t h1 (by subst hc; simp [SC.all])
  unfold Oper.wp
  simp only [execOp, ho, Instr.alloc, zeroValue, typeInfo, program, hi, hz, newVar, newRow, newObj, Sem.run_bind, Sem.run_pure, Sem.run, Result.andThen_ok, Oper.upon, hdst]
  exact hK _ _ (h _ _ ⟨_, h2⟩)
end
end Go.Proofs.Ytohhaibbbnobpaa
