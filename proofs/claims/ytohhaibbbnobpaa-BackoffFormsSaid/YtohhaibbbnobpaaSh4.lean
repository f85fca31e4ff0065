/-
  SHADOWS: operations that make memory and change none; contracts of functions that only compute; calls.
-/
import Derived.Test.YtohhaibbbnobpaaSh3
import Derived.Laws.Tables
import Derived.Great.BuildSlice
namespace Go.Proofs.Ytohhaibbbnobpaa
open Go.RowKit

/-! ### memory grows -/
theorem rdOf_ext {K : Ctx} {g : Env} {h : Hp} {w w' : World} (he : Ext w w') : (rdOf K g h w).le (rdOf K g h w') := by
  intro b o v hv
  unfold rdOf at *
  split at hv
  · cases hv
  · rename_i hx
    rw [if_neg hx]
    split at hv
    · rename_i hb; rw [if_pos hb]; exact hv
    · rename_i hb
      rw [if_neg hb]
      exact (Keep.of_ext he).cell hv (by simp)
theorem HG.ext {K : Ctx} {g : Env} {h : Hp} {w w' : World} (k : HG K g w h) (he : Ext w w') : HG K g w' h where
  keep := k.keep.trans (Keep.of_ext he) (fun _ _ _ x => x.elim)
  box := fun d cs hd j y hy => let ⟨u, h1, h2, h3⟩ := k.box d cs hd j y hy; ⟨u, (Keep.of_ext he).cell h1 (by simp), by rw [(Keep.of_ext he).frozen (World.block_lt_of_cell? w _ h1)]; exact h2, h3.mono (rdOf_ext he)⟩
  may := k.may
  dis := k.dis
  tok := fun t e s xs ht => by
    obtain ⟨us, hu⟩ := k.tok t e s xs ht
    have hb := he.below
    exact ⟨us, hu.kept (row := none) ⟨hb.os, hb.tape, hb.output, hb.size, fun j hj _ => hb.block j hj⟩ (by cases (g.tk t).ownBlock <;> simp)⟩
  tdis := k.tdis
  tbox := k.tbox
  fix := k.fix
theorem RG.ext {K : Ctx} {g : Env} {n : Nat} {a : Act} {w w' : World} {s : St} (h : RG K g n a w s) (he : Ext w w') : RG K g n a w' s :=
  ⟨h.defers, h.size, h.hg.ext he, fun t v hv => let ⟨u, h1, h2⟩ := h.tmps t v hv; ⟨u, h1, h2.mono (rdOf_ext he)⟩⟩

/-- a reader that sees all new memory -/
def Sees (w : World) (rd : Rd) (w' : World) : Prop := ∀ b o u, w.heap.size ≤ b → w'.cell? ⟨b, o, none⟩ = some u → rd b o = some u
theorem HG.sees {K : Ctx} {g : Env} {h : Hp} {w w' : World} (k : HG K g w h) : Sees w (rdOf K g h w') w' := by
  intro b o u hb hc
  unfold rdOf
  rw [if_neg, if_neg]
  · exact hc
  · have := k.keep.size; omega
  · rintro (⟨d, cs, h1, h2, h3, h4⟩ | ⟨t, e, s, xs, a, c, h1, h2, h3, h4⟩)
    · obtain ⟨u, k1, _⟩ := k.box d cs h1 (o - (g.pos d).2) cs[o - (g.pos d).2] (List.getElem?_eq_getElem (by omega))
      have := World.block_lt_of_cell? w _ k1
      simp only at this
      omega
    · obtain ⟨us, hu⟩ := k.tok t e s xs h1
      have := (hu.lt a.block (by rw [h2]; rfl)).2
      omega

def GrowOp (P : Program) (o : Oper) (s : St) (v : SV) : Prop :=
  ∀ g rd a w, OView g rd a w s o → mSafe P (fun u w' => ∀ rd', rd.le rd' → Sees w rd' w' → VRel rd' g u v) o a w
theorem PureOp.grow {P : Program} {o : Oper} {s : St} {v : SV} (h : PureOp P o s v) : GrowOp P o s v := by
  intro g rd a w hv
  obtain ⟨u, h1, h2⟩ := h g rd a w hv
  unfold mSafe
  rw [h1]
  exact ⟨Ext.refl w, fun rd' hle _ => h2.mono hle⟩
theorem TL_grow {P : Program} {K : Ctx} {n : Nat} {ops : Array Oper} {l : List Oper} {o : Oper} {s : St} {Q : Exit → St → Prop} (v : SV) (hgd : guardOf ops o s = some true) (hd : dstOk n o = true) (hp : GrowOp P o s v) (h : TL P K n ops l (s.put o.dst v) Q) : TL P K n ops (o :: l) s Q := by
  refine TL_step hgd fun g a w r K' hK => ?_
  refine (hp g _ a w (r.view.o o)).wp fun u w' he hu => ?_
  exact hK _ _ (h _ _ ⟨g, (r.ext he).put o.dst (dstOk_spec hd) (hu _ (rdOf_ext he) r.hg.sees)⟩)

/-! ### structs and arrays that are built -/
def fillS (place : Nat → Option (Nat × Nat)) (cells : List SC) : List (Nat × SV) → Option (List SC)
  | [] => some cells
  | (i, v) :: rest => match place i with
    | none => none
    | some (off, size) => match cellsOf v with
      | none => none
      | some vs => if vs.length ≠ size || off + vs.length > cells.length then none else fillS place (cells.take off ++ vs ++ cells.drop (off + vs.length)) rest

theorem foldl_set (off : Nat) : ∀ (l : List Value) (i : Nat) (cells : Array Value), let r := (l.zipIdx i).foldl (fun cs (p : Value × Nat) => cs.setIfInBounds (off + p.2) p.1) cells
    r.size = cells.size ∧ ∀ k, r[k]? = if off + i ≤ k ∧ k < off + i + l.length ∧ k < cells.size then l[k - (off + i)]? else cells[k]?
  | [], i, cells => by
    simp only [List.zipIdx_nil, List.foldl_nil, List.length_nil, true_and]
    intro k
    rw [if_neg (by omega)]
  | x :: l, i, cells => by
    have ih := foldl_set off l (i + 1) (cells.setIfInBounds (off + i) x)
    simp only [List.zipIdx_cons, List.foldl_cons] at ih ⊢
    refine ⟨by simpa using ih.1, fun k => ?_⟩
    rw [ih.2 k]
    simp only [Array.size_setIfInBounds, List.length_cons, Array.getElem?_setIfInBounds]
    by_cases h1 : k = off + i
    · subst h1
      rw [if_neg (by omega), if_pos rfl]
      by_cases h2 : off + i < cells.size
      · rw [if_pos h2, if_pos (by omega)]; simp
      · rw [if_neg h2, if_neg (by omega)]
        rw [Array.getElem?_eq_none (by omega)]
    · rw [if_neg (Ne.symm h1)]
      by_cases h2 : off + (i + 1) ≤ k ∧ k < off + (i + 1) + l.length ∧ k < cells.size
      · rw [if_pos h2, if_pos (by omega)]
        rw [show k - (off + i) = (k - (off + (i + 1))) + 1 by omega, List.getElem?_cons_succ]
      · rw [if_neg h2, if_neg (by omega)]

theorem fill_rel {rd : Rd} {g : Env} {place : Nat → Option (Nat × Nat)} : ∀ (ps : List (Nat × Value)) (qs : List (Nat × SV)) (cells : Array Value) (cs ds : List SC), ps.length = qs.length →
    (∀ (i : Nat) (p : Nat × Value) (q : Nat × SV), ps[i]? = some p → qs[i]? = some q → p.1 = q.1 ∧ VRel rd g p.2 q.2) → CsRel rd g cells cs → fillS place cs qs = some ds → ∃ r, Instr.fill place cells ps = some r ∧ CsRel rd g r ds
  | [], [], cells, cs, ds, _, _, hc, h => by
    cases h
    exact ⟨cells, rfl, hc⟩
  | (i, v) :: ps, (j, x) :: qs, cells, cs, ds, hl, hr, hc, h => by
    obtain ⟨rfl, hv⟩ := hr 0 _ _ rfl rfl
    simp only [fillS] at h
    simp only [Instr.fill]
    split at h
    · cases h
    · rename_i off size hp
      split at h
      · cases h
      · rename_i vs hvs
        split at h
        · cases h
        · rename_i hb
          simp only [Bool.or_eq_true, decide_eq_true_eq, not_or, Decidable.not_not, Nat.not_lt] at hb
          have hcv := rel_cells hv hvs
          simp only [hp]
          rw [if_neg (by simp only [Bool.or_eq_true, decide_eq_true_eq, not_or, Decidable.not_not, Nat.not_lt, hcv.1, hc.1]; exact hb)]
          have hf := foldl_set off v.cells.toList 0 cells
          simp only at hf
          have e : v.cells.zipIdx.foldl (fun cs x => cs.setIfInBounds (off + x.2) x.1) cells = (v.cells.toList.zipIdx 0).foldl (fun cs (p : Value × Nat) => cs.setIfInBounds (off + p.2) p.1) cells := by
            rw [← Array.foldl_toList, Array.toList_zipIdx]
          have e' : Array.foldl (fun cs (x : Value × Nat) => match x with | (c, j) => cs.setIfInBounds (off + j) c) cells v.cells.zipIdx = (v.cells.toList.zipIdx 0).foldl (fun cs (p : Value × Nat) => cs.setIfInBounds (off + p.2) p.1) cells := e
          rw [e']
          generalize (v.cells.toList.zipIdx 0).foldl (fun cs (p : Value × Nat) => cs.setIfInBounds (off + p.2) p.1) cells = r at hf ⊢
          refine fill_rel ps qs r _ ds (by simpa using hl) (fun k p q h1 h2 => hr (k + 1) p q h1 h2) ?_ h
          obtain ⟨f1, f2⟩ := hf
          have hlv : v.cells.toList.length = vs.length := by simpa using hcv.1
          refine ⟨by simp [f1, hc.1]; omega, fun k y hy => ?_⟩
          rw [f2 k, hlv, hc.1]
          simp only [Nat.add_zero]
          rw [List.append_assoc, List.getElem?_append] at hy
          simp only [List.length_take, Nat.min_eq_left (by omega : off ≤ cs.length)] at hy
          by_cases h1 : k < off
          · rw [if_pos h1, List.getElem?_take, if_pos h1] at hy
            rw [if_neg (by omega)]
            exact hc.2 k y hy
          · rw [if_neg h1, List.getElem?_append] at hy
            by_cases h2 : k - off < vs.length
            · rw [if_pos h2] at hy
              rw [if_pos (by omega)]
              obtain ⟨u, h3, h4⟩ := hcv.2 _ y hy
              exact ⟨u, by simpa using h3, h4⟩
            · rw [if_neg h2, List.getElem?_drop] at hy
              rw [if_neg (by omega)]
              rw [show off + vs.length + (k - off - vs.length) = k by omega] at hy
              exact hc.2 k y hy
  | [], _ :: _, _, _, _, hl, _, _, _ => by simp at hl
  | _ :: _, [], _, _, _, hl, _, _, _ => by simp at hl

def partsS (s : St) : List (Nat × Operand) → Option (List (Nat × SV))
  | [] => some []
  | (i, x) :: l => match opd s x, partsS s l with
    | some v, some r => some ((i, v) :: r)
    | _, _ => none
theorem partsS_spec {s : St} : ∀ (l : List (Nat × Operand)) (r : List (Nat × SV)), partsS s l = some r → l.length = r.length ∧ ∀ (i : Nat) (p : Nat × Operand) (q : Nat × SV), l[i]? = some p → r[i]? = some q → p.1 = q.1 ∧ opd s p.2 = some q.2
  | [], r, h => by cases h; exact ⟨rfl, fun i p q h1 => by simp at h1⟩
  | (i, x) :: l, r, h => by
    simp only [partsS] at h
    split at h
    · rename_i v r' hv hr
      cases h
      obtain ⟨h1, h2⟩ := partsS_spec l r' hr
      refine ⟨by simp [h1], fun k p q hp hq => ?_⟩
      cases k with
      | zero => cases hp; cases hq; exact ⟨rfl, hv⟩
      | succ k => exact h2 k p q hp hq
    · cases h

/-- where the parts of a struct or an array lie; its zero -/
def placeOf (P : Program) (t : TypeId) : Option ((Nat → Option (Nat × Nat)) × List SC) :=
  match P.info? t, P.underlying t with
  | some it, some (.array _ e) => match it.zero, P.info? e with
    | some z, some ie => some (fun i => some (i * ie.size, ie.size), z.cells.toList.map SC.lit)
    | _, _ => none
  | some it, some (.struct fields) => match it.zero, fields.toList.mapM (fun f => (P.info? f.type).map fun i => (f.offset, i.size)) with
    | some z, some places => some ((places.toArray[·]?), z.cells.toList.map SC.lit)
    | _, _ => none
  | _, _ => none
def buildS (P : Program) (s : St) (t : TypeId) (parts : List (Nat × Operand)) : Option SV := match placeOf P t, partsS s parts with
  | some (pl, z), some ps => match fillS pl z ps with
    | some cs => some (.agg cs)
    | none => none
  | _, _ => none
theorem lits_rel (rd : Rd) (g : Env) (vs : Array Value) : CsRel rd g vs (vs.toList.map SC.lit) := by
  refine ⟨by simp, fun j y hy => ?_⟩
  rw [List.getElem?_map] at hy
  obtain ⟨u, hu, rfl⟩ := Option.map_eq_some_iff.1 hy
  exact ⟨u, by simpa using hu, .lit u⟩
theorem parts_mem {parts : Array (Nat × Operand)} {i : Nat} {p : Nat × Operand} (h : parts.toList[i]? = some p) : p.2 ∈ (parts.toList.map (·.2)).toArray.toList := by
  simp only [List.mem_map]
  exact ⟨p, List.mem_of_getElem? h, rfl⟩
theorem parts_rel {g : Env} {rd : Rd} {a : Act} {w : World} {s : St} {o : Oper} (hv : OView g rd a w s o) {parts : Array (Nat × Operand)} {ps : List (Nat × SV)} (hps : partsS s parts.toList = some ps) (hm : ∀ (i : Nat) (p : Nat × Operand), parts.toList[i]? = some p → p.2 ∈ o.op.operands.toList) :
    ((parts.map fun (i, x) => (i, a.eval x)).toList).length = ps.length ∧ ∀ (i : Nat) (p : Nat × Value) (q : Nat × SV), ((parts.map fun (i, x) => (i, a.eval x)).toList)[i]? = some p → ps[i]? = some q → p.1 = q.1 ∧ VRel rd g p.2 q.2 := by
  obtain ⟨h1, h2⟩ := partsS_spec _ _ hps
  refine ⟨by simpa using h1, fun i p q hp hq => ?_⟩
  rw [Array.toList_map, List.getElem?_map] at hp
  obtain ⟨p0, hp0, rfl⟩ := Option.map_eq_some_iff.1 hp
  obtain ⟨h3, h4⟩ := h2 i p0 q hp0 hq
  exact ⟨h3, hv.op _ _ (hm i p0 hp0) h4⟩
theorem pure_build {P : Program} {o : Oper} {s : St} {v : SV} {t : TypeId} {parts : Array (Nat × Operand)} (ho : o.op = .build t parts) (hv : buildS P s t parts.toList = some v) : PureOp P o s v := by
  intro g rd a w hview
  unfold buildS at hv
  split at hv
  · rename_i pl z ps hpl hps
    split at hv
    · rename_i cs hcs
      cases hv
      obtain ⟨l1, l2⟩ := parts_rel hview hps (fun i p hp => by rw [ho]; simp only [Op.operands]; exact parts_mem hp)
      have key : ∀ zv : Array Value, zv.toList.map SC.lit = z → ∃ r, Instr.fill pl zv (parts.map fun (i, x) => (i, a.eval x)).toList = some r ∧ CsRel rd g r cs := fun zv hz => by
        subst hz
        exact fill_rel _ ps zv _ cs l1 l2 (lits_rel rd g zv) hcs
      have hb : ∃ r, P.built t (parts.map fun (i, x) => (i, a.eval x)).toList = some r ∧ CsRel rd g r cs := by
        unfold placeOf at hpl
        unfold Program.built
        cases hit : P.info? t with
        | none => simp [hit] at hpl
        | some it =>
          cases hu : P.underlying t with
          | none => simp [hit, hu] at hpl
          | some d =>
            cases d <;> simp only [hit, hu, reduceCtorEq] at hpl ⊢
            case array n e =>
              cases hz : it.zero with
              | none => simp [hz] at hpl
              | some zv =>
                cases hie : P.info? e with
                | none => simp [hz, hie] at hpl
                | some ie =>
                  simp only [hz, hie, Option.some.injEq, Prod.mk.injEq] at hpl ⊢
                  obtain ⟨rfl, h2⟩ := hpl
                  exact key _ h2
            case struct fs =>
              cases hz : it.zero with
              | none => simp [hz] at hpl
              | some zv =>
                cases hie : fs.toList.mapM (fun f => (P.info? f.type).map fun i => (f.offset, i.size)) with
                | none => simp [hz, hie] at hpl
                | some places =>
                  simp only [hz, hie, Option.some.injEq, Prod.mk.injEq] at hpl ⊢
                  obtain ⟨rfl, h2⟩ := hpl
                  exact key _ h2
      obtain ⟨r, hb1, hb2⟩ := hb
      exact ⟨.agg r, by simp [execOp, ho, run_build w t _ _ hb1], r, rfl, hb2⟩
    · cases hv
  · cases hv
end Go.Proofs.Ytohhaibbbnobpaa
