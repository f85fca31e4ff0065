/-
  SHADOWS: a statement whose order is drawn, with whatever operations: those that are not bound to an order touch different things.
-/
import Derived.Test.YtohhaibbbnobpaaSh16
namespace Go.Proofs.Ytohhaibbbnobpaa
open Go.RowKit

/-- one operation leads from a state to a state -/
def Stp (P : Program) (K : Ctx) (n : Nat) (ops : Array Oper) (o : Oper) (s s' : St) : Prop :=
  ∀ a w, R K n a w s → ∀ (K' : Act → World → Prop) (Q : Exit → Act → World → Prop), (∀ a' w', R K n a' w' s' → K' a' w') → if Region.wanted o (yielded ops a.tmps) then o.wp P a w K' Q else K' (a.put o.dst undef) w
theorem Stp_mk {P : Program} {K : Ctx} {n : Nat} {ops : Array Oper} {o : Oper} {s s' : St} (hgd : guardOf ops o s = some true) (h : ∀ g a w, RG K g n a w s → ∀ (K' : Act → World → Prop) (Q : Exit → Act → World → Prop), (∀ a' w', R K n a' w' s' → K' a' w') → o.wp P a w K' Q) : Stp P K n ops o s s' := by
  intro a w ⟨g, r⟩ K' Q hK
  have hw := guard_ok (a := a) hgd (fun t v hv => let ⟨u, h1, h2⟩ := r.tmps t v hv; ⟨u, _, _, h1, h2⟩)
  rw [if_pos hw]
  exact h g a w r K' Q hK
theorem S_skip {P : Program} {K : Ctx} {n : Nat} {ops : Array Oper} {o : Oper} {s : St} (hgd : guardOf ops o s = some false) (hd : dstOk n o = true) : Stp P K n ops o s (s.put o.dst (.tup [])) := by
  intro a w ⟨g, r⟩ K' Q hK
  have hw := guard_ok (a := a) hgd (fun t v hv => let ⟨u, h1, h2⟩ := r.tmps t v hv; ⟨u, _, _, h1, h2⟩)
  rw [if_neg (by rw [hw]; simp)]
  exact hK _ _ ⟨g, r.put o.dst (dstOk_spec hd) ⟨#[], rfl, rfl, fun j x hx => by simp at hx⟩⟩

theorem S_grow {P : Program} {K : Ctx} {n : Nat} {ops : Array Oper} {o : Oper} {s : St} (v : SV) (hgd : guardOf ops o s = some true) (hd : dstOk n o = true) (hp : GrowOp P o s v)  : Stp P K n ops o s (s.put o.dst v) := by
  refine Stp_mk hgd fun g a w r K' Q hK => ?_
  refine (hp g _ a w (r.view.o o)).wp fun u w' he hu => ?_
  exact hK _ _ ⟨g, (r.ext he).put o.dst (dstOk_spec hd) (hu _ (rdOf_ext he) r.hg.sees)⟩

theorem S_store {P : Program} {K : Ctx} {n : Nat} {ops : Array Oper} {o : Oper} {s : St} {t : TypeId} {p x : Operand} {v : SV} (d off : Nat) (cs ds : List SC) (ho : o.op = .store t p x) (hdst : o.dst = none) (hgd : guardOf ops o s = some true)
    (hp : opd s p = some (.c (.box d off))) (hx : opd s x = some v) (hc : cellsOf v = some ds) (hl : look s.hp.boxes d = some cs) (hi : (P.info? t).map (·.size) = some ds.length) (h1 : ds.all SC.one = true) (hsz : decide (off + ds.length ≤ cs.length) = true)
     : Stp P K n ops o s (s.setBox d (over cs off ds)) := by
  refine Stp_mk hgd fun g a w r K' Q hK => ?_
  have hv := rel_cells (r.view.opd hx) hc
  have hpp := r.view.opd hp
  simp only [VRel, CRel] at hpp
  obtain ⟨i, hi', hsize⟩ := Option.map_eq_some_iff.1 hi
  have hsz' := of_decide_eq_true hsz
  have hlen : (a.eval x).cells.toList.length = ds.length := by simpa using hv.1
  have hst := run_storeCells_cells (P := P) (g.pos d).1 ((g.pos d).2 + off) (a.eval x).cells.toList 0 w
    (fun j hj => by
      obtain ⟨u, k1, _⟩ := r.hg.box d cs hl (off + j) cs[off + j] (List.getElem?_eq_getElem (by omega))
      rw [← Nat.add_assoc] at k1
      rw [Nat.add_zero, k1]; rfl)
    (fun j hj => by
      obtain ⟨u, _, k2, _⟩ := r.hg.box d cs hl (off + j) cs[off + j] (List.getElem?_eq_getElem (by omega))
      rw [← Nat.add_assoc] at k2
      rw [Nat.add_zero]; exact k2)
    (fun u hu => by
      obtain ⟨j, hj, rfl⟩ := List.getElem_of_mem hu
      obtain ⟨u', k1, k2⟩ := hv.2 j ds[j] (List.getElem?_eq_getElem (by omega))
      have : u' = (a.eval x).cells.toList[j] := by
        have : (a.eval x).cells.toList[j]? = some u' := by simpa using k1
        rw [List.getElem?_eq_getElem hj] at this
        exact (Option.some.inj this).symm
      rw [← this]
      exact one_cell k2 (List.all_eq_true.1 h1 _ (List.getElem_mem _)))
  rw [Nat.add_zero] at hst
  unfold Oper.wp
  have hsz2 : (a.eval x).cells.size = i.size := by rw [hsize]; exact hv.1
  simp only [execOp, ho, Instr.storeAt, Instr.sureAddr, hpp, storeVar, sizeOf, typeInfo, program, hi', hsz2, ne_eq, not_true_eq_false, if_false, Sem.run_bind, Sem.run_pure, Sem.run, Result.andThen_ok, hst, Oper.upon, hdst]
  exact hK _ _ ⟨g, r.store hl hsz' hv⟩
theorem S_call1 {P : Program} {K : Ctx} {n : Nat} {ops : Array Oper} {o : Oper} {s : St} {fo : Operand} {xs : Array Operand} {ts : Array TypeId} (f : FuncId) (fn : Func) (kss : List (List Nat)) (args : List SV) (d off : Nat) (csD cs cs' : List SC) (r : SV) (hgd : guardOf ops o s = some true) (hd : dstOk n o = true)
    (ho : o.op = .call { callee := .value fo, args := xs, argTypes := ts }) (hfo : opd s fo = some (.c (.lit (.func (.func f) #[] #[]))))
    (hf : P.funcs[f]? = some fn) (hname : (fn.name == "runtime.NumGoroutine") = false) (hbody : fn.body.isNone = false) (hv' : (argsS s xs.toList).map (castArgs kss) = some (args.map (renV d off))) (hok : args.all SV.okP = true)
    (hl : look s.hp.boxes d = some csD) (hcs : (csD.drop off).take cs.length = cs) (hlen : cs'.length = cs.length) (hsz : decide (off + cs.length ≤ csD.length) = true) (hcl : cs.all SC.closed = true) (hcl' : cs'.all SC.closed = true) (hr : r.every SC.closed = true) (hp : Holds1 P f args cs r cs')
     : Stp P K n ops o s ((s.setBox d (over csD off cs')).put o.dst r) := by
  refine Stp_mk hgd fun g a w rg K' Q hK => ?_
  obtain ⟨vs, hv, hargs⟩ := Option.map_eq_some_iff.1 hv'
  have hview := rg.view.o o
  have hsz' := of_decide_eq_true hsz
  have h1 := rel_lit (hview.op fo _ (by simp [ho, Op.operands, Call.operands]) hfo)
  obtain ⟨hll, hget⟩ := argsS_spec _ _ hv
  have hbox : boxAt (g.setPos 1000000 ((g.pos d).1, (g.pos d).2 + off)) w (rdOf K g s.hp w) ((g.pos d).1, (g.pos d).2 + off) cs := by
    intro j y hy
    have hy' := hy
    rw [← hcs, List.getElem?_take] at hy'
    split at hy'
    · rw [List.getElem?_drop] at hy'
      obtain ⟨u, k1, k2, k3⟩ := rg.hg.box d csD hl _ y hy'
      simp only [Nat.add_assoc]
      exact ⟨u, k1, k2, closed_rel u y (List.all_eq_true.1 hcl y (List.mem_of_getElem? hy)) k3⟩
    · cases hy'
  have hcalls := hp (rdOf K g s.hp w) (g.setPos 1000000 ((g.pos d).1, (g.pos d).2 + off)) w (xs.map a.eval) hview.reads
    (by have := congrArg List.length hargs; rw [castArgs_length] at this; rw [Array.size_map, ← Array.length_toList, hll, this, List.length_map])
    (fun i y hy => by
      have hy2 : (args.map (renV d off))[i]? = some (renV d off y) := by rw [List.getElem?_map, hy]; rfl
      rw [← hargs] at hy2
      obtain ⟨ks, x, hx, hxe⟩ := castArgs_get kss vs i _ hy2
      have hi : i < xs.toList.length := by rw [hll]; exact (List.getElem?_eq_some_iff.1 hx).1
      have := hget i xs.toList[i] x (List.getElem?_eq_getElem hi) hx
      have hm : xs.toList[i] ∈ o.op.operands.toList := by
        rw [ho]
        simp only [Op.operands, Call.operands, Array.toList_append]
        exact List.mem_append_right _ (List.getElem_mem _)
      have hrel := castV_rel ks (hview.op _ _ hm this)
      rw [← hxe] at hrel
      refine ⟨a.eval xs.toList[i], ?_, ren_rel (List.all_eq_true.1 hok y (List.mem_of_getElem? hy)) hrel⟩
      simp only [Array.length_toList] at hi
      simp [hi])
    (by simp only [Env.setPos, if_true]; exact hbox)
    (fun b o' hin => by
      simp only [Env.setPos, if_true] at hin
      unfold rdOf
      rw [if_pos]
      exact .inl ⟨d, csD, hl, hin.1, by have := hin.2.1; simp only at this; omega, by have := hin.2.2; simp only at this; omega⟩)
  unfold Oper.wp
  simp only [execOp, ho, resolve, h1, Deferred.ofValue, invoke, callFunc, program, hf, hname, hbody, Bool.false_eq_true, if_false, Sem.run_bind, Sem.run_pure, Sem.run, Result.andThen_ok, Array.append_empty, Array.empty_append, Oper.upon]
  refine hcalls.mono fun e w' hq => ?_
  obtain ⟨u, rfl, hkeep, hpost⟩ := hq
  simp only [Env.setPos, if_true] at hkeep hpost
  rw [← hlen] at hkeep
  obtain ⟨r1, hle, hsees⟩ := rg.upd (d := d) (off := off) (cs := csD) (ds := cs') hl (by omega) hkeep (fun rd' k1 k2 => by
    intro j y hy
    obtain ⟨v, q1, q2, q3⟩ := (hpost rd' k1 k2).2 j y hy
    exact ⟨v, q1, q2, closed_rel v y (List.all_eq_true.1 hcl' y (List.mem_of_getElem? hy)) q3⟩)
  have hu := VRel.imp (g' := g) (fun v x hx k => closed_rel v x hx k) (hpost _ hle hsees).1 hr
  exact hK _ _ ⟨g, r1.put o.dst (dstOk_spec hd) hu⟩
theorem S_append {α : Type} {P : Program} {K : Ctx} {n : Nat} {ops : Array Oper} {o : Oper} {s : St} {t e : TypeId} {x y : Operand} {f : α → List SC} (tok sz by_ : Nat) (l1 l2 : List α) (ho : o.op = .call { callee := .builtin .append, args := #[x, y], argTypes := #[t, t] }) (hgd : guardOf ops o s = some true) (hd : dstOk n o = true)
    (hx : opd s x = some (.c (.slc sz (tok + 2) (l1.map f)))) (htok : look s.hp.toks tok = some (e, sz, l1.map f)) (hy : (opd s y).bind (rowOf sz) = some (l2.map f)) (h1 : (l2.map f).all (·.all SC.one) = true)
    (hu : P.underlying t = some (.slice e)) (hi' : (P.info? e).map (fun i => (i.zero.map (·.cells.size), i.size, i.bytes)) = some (some sz, sz, by_)) (hs0 : decide (0 < sz) = true) (hb : (l1.length + l2.length) * by_ ≤ 140737488355328) (hm : l1.length + l2.length ≤ 140737488355328)
     : Stp P K n ops o s ((s.setTok tok (e, sz, (l1 ++ l2).map f)).put o.dst (.c (.slc sz (tok + 2) ((l1 ++ l2).map f)))) := by
  refine Stp_mk hgd fun g a w r K' Q hK => ?_
  have hview := r.view.o o
  obtain ⟨vy, hy1, hy2⟩ := Option.bind_eq_some_iff.1 hy
  have hvx := hview.op x _ (by simp [ho, Op.operands, Call.operands]) hx
  have ry := rowOf_rel (hview.op y _ (by simp [ho, Op.operands, Call.operands]) hy1) hy2
  obtain ⟨rx, htag⟩ := hvx
  obtain ⟨i, hi, hq⟩ := Option.map_eq_some_iff.1 hi'
  simp only [Prod.mk.injEq] at hq
  obtain ⟨hz, hsize, hbytes⟩ := hq
  obtain ⟨z, hz, hzc⟩ := Option.map_eq_some_iff.1 hz
  have hs0' := of_decide_eq_true hs0
  have hmax : l1.length + l2.length ≤ maxLen := by unfold maxLen; omega
  obtain ⟨us, hown⟩ := r.hg.tok tok e sz _ htok
  have elx : (l1.map f).length = l1.length := by simp
  have ely : (l2.map f).length = l2.length := by simp
  rw [elx] at hown
  have hvl : vlen (g.tk tok) = l1.length := by
    rcases hown.2 with ⟨hn, h0⟩ | ⟨gb, cap, cur, hv, _⟩
    · rw [hn, h0]; rfl
    · rw [hv]; rfl
  have hux : a.eval x = g.tk tok := htag.2 (by rw [hvl, elx])
  unfold Oper.wp
  simp only [execOp, ho, resolve, invoke, builtin, Sem.run_bind, Sem.run_pure, Result.andThen_ok, List.map_toArray, List.map_cons, List.map_nil]
  rw [hux] at rx ⊢
  generalize hvy : a.eval y = uy at *
  obtain ⟨ay, cy, valsy, hsrc⟩ := src_row hview.reads ry
  -- nothing appended
  by_cases hl2 : l2 = []
  · subst hl2
    have hz2 : ∃ ad c, uy = .slice ad 0 c := by
      rcases hsrc with ⟨h3, _⟩ | ⟨ad, c, h3, _⟩
      · exact ⟨ay, cy, by simpa using h3⟩
      · exact ⟨ad, c, h3⟩
    obtain ⟨ad, c, rfl⟩ := hz2
    obtain ⟨base, nn, cap, hV, hn⟩ : ∃ base nn cap, g.tk tok = .slice base nn cap ∧ nn ≤ cap := by
      rcases hown.2 with ⟨hn, h0⟩ | ⟨gb, cap, cur, hv, _, _, hle, _⟩
      · exact ⟨none, 0, 0, hn, Nat.le_refl _⟩
      · exact ⟨_, _, cap, hv, hle⟩
    rw [hV, run_append_zero t o.type e i hu hi base ad nn cap c hn, ← hV]
    simp only [Result.andThen_ok, Oper.upon]
    refine hK _ _ ?_
    rw [List.append_nil]
    have hlk : ∀ u, look (s.setTok tok (e, sz, l1.map f)).hp.toks u = look s.hp.toks u := by
      intro u
      rw [look_setTok]
      split
      · rename_i he; subst he; exact htok.symm
      · rfl
    have hs2 : ∀ t' x', look (s.setTok tok (e, sz, l1.map f)).hp.toks t' = some x' → look s.hp.toks t' = some x' := fun t' x' ht' => (hlk t').symm.trans ht'
    have hrle : (rdOf K g s.hp w).le (rdOf K g (s.setTok tok (e, sz, l1.map f)).hp w) := rdOf_sub (h' := (s.setTok tok (e, sz, l1.map f)).hp) (fun d cs hd => hd) hs2
    have hsame : RG K g n a w (s.setTok tok (e, sz, l1.map f)) := by
      have hsub := r.hg.sub (h' := (s.setTok tok (e, sz, l1.map f)).hp) (fun d cs hd => hd) hs2
      exact ⟨r.defers, r.size, hsub, fun u v hv => let ⟨z, k1, k2⟩ := r.tmps u v hv; ⟨z, k1, k2.mono hrle⟩⟩
    exact ⟨g, hsame.put o.dst (dstOk_spec hd) ⟨rx.mono hrle, by rw [elx]; exact ⟨by omega, fun _ => rfl⟩⟩⟩
  have hpos : 0 < l2.length := List.length_pos_iff.2 hl2
  obtain ⟨ad, hcells, hrow, hlv, hy3⟩ : ∃ ad, (∀ j v, valsy[j]? = some v → w.cell? (ad.add j) = some v) ∧ RowIs (rdOf K g s.hp w) sz valsy (l2.map f) ∧ valsy.length = l2.length * sz ∧ uy = .slice (some ad) l2.length cy := by
    rcases hsrc with ⟨h3, _, _, hrow, hlv, hwhere⟩ | ⟨ad, c, h3, hnil, _⟩
    · rw [ely] at h3 hlv hwhere
      rcases hwhere with h0 | ⟨ad, rfl, hc⟩
      · omega
      · exact ⟨ad, hc, hrow, hlv, h3⟩
    · exact absurd (by simpa using hnil) hl2
  subst hy3
  have h1v : ∀ u ∈ valsy, u.oneCell' = true := by
    intro u hu'
    obtain ⟨k, hk, rfl⟩ := List.getElem_of_mem hu'
    have hkl : k < l2.length * sz := by omega
    have hi2 : k / sz < (l2.map f).length := by rw [ely]; exact Nat.div_lt_of_lt_mul (by rw [Nat.mul_comm]; exact hkl)
    have hx2 := List.getElem?_eq_getElem hi2
    have hlx := hrow.1 _ (List.getElem_mem hi2)
    have hj2 : k % sz < ((l2.map f)[k / sz]).length := by rw [hlx]; exact Nat.mod_lt _ hs0'
    obtain ⟨v, q1, q2⟩ := hrow.2 _ _ _ _ hx2 (List.getElem?_eq_getElem hj2)
    rw [show k / sz * sz + k % sz = k by have := Nat.div_add_mod k sz; rw [Nat.mul_comm] at this; omega, List.getElem?_eq_getElem hk] at q1
    cases q1
    exact oneCell_imm q2 (List.all_eq_true.1 (List.all_eq_true.1 h1 _ (List.getElem_mem hi2)) _ (List.getElem_mem hj2))
  -- the row lies elsewhere afterwards
  have fresh : ∀ (cap : Nat) (valsx : List Value) (rest : Array Value), RowIs (rdOf K g s.hp w) sz valsx (l1.map f) → valsx.length = l1.length * sz → l1.length + l2.length ≤ cap → cap ≤ maxLen → (valsx ++ valsy).length + rest.size = cap * sz →
      K' (a.put o.dst (.slice (some ⟨w.heap.size, 0, none⟩) (l1.length + l2.length) cap)) (w.drew.alloc (.cells ((valsx ++ valsy).toArray ++ rest) e)) := by
    intro cap valsx rest hrx hlx hc hcm hrest
    generalize hw' : w.drew.alloc (.cells ((valsx ++ valsy).toArray ++ rest) e) = w'
    have he : Ext w w' := by rw [← hw']; exact (Ext.drew w).trans (Ext.alloc _ _)
    have hnew : ∀ k, w'.cell? ⟨w.heap.size, k, none⟩ = ((valsx ++ valsy).toArray ++ rest)[k]? := fun k => by rw [← hw']; exact World.cell?_alloc_at (w := w.drew) _ e w.heap.size k rfl
    have hheap : w'.heap[w.heap.size]? = some (.cells ((valsx ++ valsy).toArray ++ rest) e) := by rw [← hw']; exact heap_alloc_new w.drew _
    have hlt2 : ∀ b o v, rdOf K g s.hp w b o = some v → b < w.heap.size := fun b o' v hv => World.block_lt_of_cell? w _ (rdOf_le g s.hp r.hg.keep b o' v hv)
    have hle : (rdOf K g s.hp w).le (rdOf K (g.setTk tok (.slice (some ⟨w.heap.size, 0, none⟩) (l1.length + l2.length) cap)) (s.setTok tok (e, sz, (l1 ++ l2).map f)).hp w') := by
      intro b o' v hv
      have hbl := hlt2 b o' v hv
      have h3 := rdOf_ext (K := K) (g := g) (h := s.hp) he b o' v hv
      unfold rdOf at h3 ⊢
      split at h3
      · cases h3
      · rename_i hex
        rw [if_neg]
        · exact h3
        · rintro (k | ⟨t', e', s', ys, a', c', k1, k2, k3, k4⟩)
          · exact hex (.inl k)
          · rw [look_setTok] at k1
            split at k1
            · rename_i he'; subst he'
              simp only [Env.setTk, if_true] at k2
              injection k2 with k5
              injection k5 with k6
              rw [← k6] at k3
              simp only at k3
              omega
            · rename_i he'
              simp only [Env.setTk, Ne.symm he', if_false] at k2
              exact hex (.inr ⟨t', e', s', ys, a', c', k1, k2, k3, k4⟩)
    have hcells' : ∀ k v, (valsx ++ valsy)[k]? = some v → rdOf K (g.setTk tok (.slice (some ⟨w.heap.size, 0, none⟩) (l1.length + l2.length) cap)) (s.setTok tok (e, sz, (l1 ++ l2).map f)).hp w' w.heap.size k = some v := by
      intro k v hv
      have hk := (List.getElem?_eq_some_iff.1 hv).1
      unfold rdOf
      rw [if_neg, if_neg]
      · rw [hnew, Array.getElem?_append_left (by simpa using hk)]
        simpa using hv
      · have := r.hg.keep.size; omega
      · rintro (⟨d, cs, k1, k2, k3, k4⟩ | ⟨t', e', s', ys, a', c', k1, k2, k3, k4⟩)
        · have hk2 : k - (g.pos d).2 < cs.length := by simp only [Env.setTk] at k3 k4; omega
          obtain ⟨u, q1, _⟩ := r.hg.box d cs k1 (k - (g.pos d).2) (cs[k - (g.pos d).2]'hk2) (List.getElem?_eq_getElem hk2)
          have := World.block_lt_of_cell? w _ q1
          simp only [Env.setTk] at k2 this
          omega
        · rw [look_setTok] at k1
          split at k1
          · cases k1
            simp only [List.length_map, List.length_append] at k4 hk
            rw [hlx, hlv, ← Nat.add_mul] at hk
            omega
          · rename_i he'
            simp only [Env.setTk, Ne.symm he', if_false] at k2
            obtain ⟨us2, hu2⟩ := r.hg.tok t' e' s' ys k1
            have := (hu2.lt a'.block (by rw [k2]; rfl)).2
            omega
    have hown' : w'.ownsRow K.w0.heap.size e sz (.slice (some ⟨w.heap.size, 0, none⟩) (l1.length + l2.length) cap) ((l1 ++ l2).map f).length (valsx ++ valsy) := by
      have hlen : ((l1 ++ l2).map f).length = l1.length + l2.length := by simp
      rw [hlen]
      refine ⟨by rw [List.length_append, hlx, hlv, Nat.add_mul], .inr ⟨w.heap.size, cap, _, rfl, r.hg.keep.size, hheap, hc, hcm, by simp at hrest ⊢; omega, ?_⟩⟩
      rw [Array.toList_append, List.toList_toArray, Nat.add_mul, ← hlx, ← hlv, ← List.length_append]
      exact List.take_left
    have r1 := r.tokUp (w' := w') (V' := .slice (some ⟨w.heap.size, 0, none⟩) (l1.length + l2.length) cap) (xs' := (l1 ++ l2).map f) htok (by rw [hvl]; simp only [vlen]; omega) (r.hg.ext he).keep hle
      (fun b o' u hc' _ => ⟨(Keep.of_ext he).cell hc' (by simp), (Keep.of_ext he).frozen (World.block_lt_of_cell? w _ hc')⟩) (fun b hb' _ => he.below.block b hb') hown' (fun k hk => .inr (by simp only [Value.ownBlock, Option.some.injEq] at hk; omega))
    refine hK _ _ ⟨_, r1.put o.dst (dstOk_spec hd) ⟨?_, ?_⟩⟩
    · have hr2 : RowIs (rdOf K g s.hp w) sz (valsx ++ valsy) ((l1 ++ l2).map f) := by
        rw [List.map_append]
        exact hrx.append hrow (by rw [elx]; exact hlx)
      exact row_is (b := w.heap.size) (vals := valsx ++ valsy) (hr2.mono hle) (by simp) hc hcm (fun k v hv _ => hcells' k v hv)
    · simp [Tag, Env.setTk, vlen]
  obtain ⟨ax, cx, valsx, hsx⟩ := src_row hview.reads rx
  rcases hown.2 with ⟨hnone, h0⟩ | ⟨gb, cap, cur, hV, hbase, hgg, hnc, hcm, hcs, htake⟩
  · have hl1 : l1 = [] := List.eq_nil_of_length_eq_zero h0
    subst hl1
    rw [hnone]
    have hr := run_append_nil (P := P) w t o.type e i z hu hi hz ad l2.length cy valsy (by rw [hsize]; exact hlv) hcells hpos (by omega) (by rw [hbytes]; simp only [List.length_nil, Nat.zero_add] at hb; omega)
    rw [hr]
    simp only [Result.andThen_ok, Oper.upon]
    have hge := grownCap_ge w l2.length 0 e
    have hcm2 := grownCap_le_maxLen w l2.length 0 e (by simp only [List.length_nil, Nat.zero_add] at hmax; exact hmax)
    have := fresh (grownCap w l2.length 0 e) [] (Builtin.zeroCells z.cells (grownCap w l2.length 0 e - l2.length)) ⟨by simp, by simp⟩ (by simp) (by simpa using hge) hcm2 (by
      simp only [List.nil_append, size_zeroCells, hzc, hlv, ← Nat.add_mul]
      congr 1; omega)
    simpa using this
  · have hrx : RowIs (rdOf K g s.hp w) sz us (l1.map f) ∧ us.length = l1.length * sz ∧ ∀ j v, us[j]? = some v → w.cell? ((⟨gb, 0, none⟩ : Addr).add j) = some v := by
      refine ⟨?_, hown.1, hown.cells (g := gb) (by rw [hV]; rfl)⟩
      rcases hsx with ⟨h3, _, _, hrow', hlv', hwhere'⟩ | ⟨ad', c', h3, hnil', _⟩
      · rw [elx] at h3 hlv' hwhere'
        rcases hwhere' with h0 | ⟨ad', rfl, hcells'⟩
        · have : l1 = [] := List.eq_nil_of_length_eq_zero h0
          subst this
          exact ⟨by simp, by simp⟩
        · rw [hV] at h3
          injection h3 with h4
          injection h4 with h5
          subst h5
          have : us = valsx := by
            apply List.ext_getElem?
            intro j
            rcases Nat.lt_or_ge j (l1.length * sz) with hj | hj
            · have hju : j < us.length := by rw [hown.1]; exact hj
              have hjv : j < valsx.length := by omega
              have q1 := hown.cells (g := gb) (by rw [hV]; rfl) j (us[j]'hju) (List.getElem?_eq_getElem hju)
              have q2 := hcells' j (valsx[j]'hjv) (List.getElem?_eq_getElem hjv)
              rw [q1] at q2
              rw [List.getElem?_eq_getElem (by rw [hown.1]; exact hj), List.getElem?_eq_getElem (by omega)]
              exact q2
            · rw [List.getElem?_eq_none (by rw [hown.1]; exact hj), List.getElem?_eq_none (by omega)]
          rw [this]
          exact hrow'
      · have : l1 = [] := by simpa using hnil'
        subst this
        exact ⟨by simp, by simp⟩
    obtain ⟨hrx1, hrx2, hrx3⟩ := hrx
    rw [hV]
    by_cases hroom : l1.length + l2.length ≤ cap
    · have hfit : l1.length * i.size + valsy.length ≤ cur.size := by rw [hsize, hlv, hcs, ← Nat.add_mul]; exact Nat.mul_le_mul_right _ hroom
      have hr := run_append_room (P := P) w t o.type e i hu hi gb l1.length cap cur hgg ad l2.length cy valsy (by rw [hsize]; exact hlv) hcells h1v hroom hfit
      rw [hr]
      simp only [Result.andThen_ok, Oper.upon]
      rw [hsize, htake]
      rw [hsize] at hfit
      generalize hw' : w.setRow gb (us ++ valsy ++ cur.toList.drop (l1.length * sz + valsy.length)).toArray = w'
      have hcellg : ∀ k, w'.cell? ⟨gb, k, none⟩ = (us ++ valsy ++ cur.toList.drop (l1.length * sz + valsy.length)).toArray[k]? := fun k => by rw [← hw']; exact cell_setRow_same w gb k cur _ e (0, 0) hgg
      have hother : ∀ b, b ≠ gb → w'.heap[b]? = w.heap[b]? := fun b hb' => by rw [← hw']; exact setRow_other w gb b _ hb'
      have hblkg : (g.tk tok).ownBlock = some gb := by rw [hV]; rfl
      have hkeep : Keep K.w0 K.may w' := by
        refine r.hg.keep.trans (may' := fun b _ => b = gb) ⟨by rw [← hw']; rfl, by rw [← hw']; rfl, by rw [← hw']; rfl, by rw [← hw']; simp, fun b hb' => ?_⟩ (fun b o' hb' he' => by omega)
        by_cases hbg : b = gb
        · subst hbg
          refine .inr ⟨cur, (us ++ valsy ++ cur.toList.drop (l1.length * sz + valsy.length)).toArray, e, (0, 0), hgg, by rw [← hw']; exact setRow_heap w b cur _ e _ hgg, ?_, fun j hj => absurd rfl hj⟩
          simp only [List.size_toArray, List.length_append, List.length_drop, Array.length_toList, hrx2]
          omega
        · exact .inl (hother b hbg)
      have hcur : ∀ k, k < l1.length * sz → cur[k]? = us[k]? := fun k hk => by
        rw [← htake, List.getElem?_take, if_pos hk]; simp
      have hle : (rdOf K g s.hp w).le (rdOf K (g.setTk tok (.slice (some ⟨gb, 0, none⟩) (l1.length + l2.length) cap)) (s.setTok tok (e, sz, (l1 ++ l2).map f)).hp w') := by
        intro b o' v hv
        have hc0 := rdOf_le g s.hp r.hg.keep b o' v hv
        unfold rdOf at hv ⊢
        split at hv
        · cases hv
        · rename_i hex
          rw [if_neg]
          · split at hv
            · rename_i hbb; rw [if_pos hbb]; exact hv
            · rename_i hbb
              rw [if_neg hbb]
              by_cases hbg : b = gb
              · subst hbg
                have ho' : o' < l1.length * sz := by
                  rcases Nat.lt_or_ge o' (l1.length * sz) with hh | hh
                  · exact hh
                  · exact absurd (.inr ⟨tok, e, sz, l1.map f, ⟨b, 0, none⟩, cap, htok, by rw [hV, elx], rfl, by rw [elx]; exact hh⟩) hex
                rw [hcellg]
                rw [cell_of_row w b o' cur e (0, 0) hgg, hcur o' ho'] at hc0
                simp only [List.getElem?_toArray, List.append_assoc]
                rw [List.getElem?_append_left (by rw [hrx2]; exact ho')]
                exact hc0
              · rw [World.cell?_of_block (a := ⟨b, o', none⟩) (hother b hbg)]
                exact hc0
          · rintro (k | ⟨t', e', s', ys, a', c', k1, k2, k3, k4⟩)
            · exact hex (.inl k)
            · rw [look_setTok] at k1
              split at k1
              · rename_i he'; subst he'; cases k1
                simp only [Env.setTk, if_true] at k2
                injection k2 with k5
                injection k5 with k6
                refine hex (.inr ⟨tok, e, sz, l1.map f, ⟨gb, 0, none⟩, cap, htok, by rw [hV, elx], by rw [k3, ← k6], ?_⟩)
                rw [elx]
                simp only [List.length_map, List.length_append, Nat.add_mul] at k4
                omega
              · rename_i he'
                simp only [Env.setTk, Ne.symm he', if_false] at k2
                exact hex (.inr ⟨t', e', s', ys, a', c', k1, k2, k3, k4⟩)
      have hcells' : ∀ k v, (us ++ valsy)[k]? = some v → rdOf K (g.setTk tok (.slice (some ⟨gb, 0, none⟩) (l1.length + l2.length) cap)) (s.setTok tok (e, sz, (l1 ++ l2).map f)).hp w' gb k = some v := by
        intro k v hv
        have hk := (List.getElem?_eq_some_iff.1 hv).1
        unfold rdOf
        rw [if_neg, if_neg (by omega)]
        · rw [hcellg]
          simp only [List.getElem?_toArray]
          rw [List.getElem?_append_left hk]
          exact hv
        · rintro (⟨d, cs, k1, k2, k3, k4⟩ | ⟨t', e', s', ys, a', c', k1, k2, k3, k4⟩)
          · have hp : 0 < cs.length := by simp only [Env.setTk] at k3 k4; omega
            exact r.hg.tbox tok _ d cs htok k1 hp (by rw [hblkg]; simp only [Env.setTk] at k2; rw [k2])
          · rw [look_setTok] at k1
            split at k1
            · cases k1
              simp only [List.length_map, List.length_append] at k4 hk
              rw [hrx2, hlv, ← Nat.add_mul] at hk
              omega
            · rename_i he'
              simp only [Env.setTk, Ne.symm he', if_false] at k2
              exact r.hg.tdis tok t' _ _ he' htok k1 gb hblkg (by rw [k2]; simp only [Value.ownBlock]; rw [k3])
      have hown' : w'.ownsRow K.w0.heap.size e sz (.slice (some ⟨gb, 0, none⟩) (l1.length + l2.length) cap) ((l1 ++ l2).map f).length (us ++ valsy) := by
        have hlen : ((l1 ++ l2).map f).length = l1.length + l2.length := by simp
        rw [hlen]
        refine ⟨by rw [List.length_append, hrx2, hlv, Nat.add_mul], .inr ⟨gb, cap, _, rfl, hbase, by rw [← hw']; exact setRow_heap w gb cur _ e _ hgg, hroom, hcm, ?_, ?_⟩⟩
        · simp only [List.size_toArray, List.length_append, List.length_drop, Array.length_toList, hrx2]
          omega
        · rw [List.toList_toArray, Nat.add_mul, ← hrx2, ← hlv, ← List.length_append]
          exact List.take_left
      have r1 := r.tokUp (w' := w') (V' := .slice (some ⟨gb, 0, none⟩) (l1.length + l2.length) cap) (xs' := (l1 ++ l2).map f) htok (by rw [hvl]; simp only [vlen]; omega) hkeep hle
        (fun b o' u hc' hne' => by
          have hbg : b ≠ gb := fun hh => hne' (by rw [hblkg, hh])
          exact ⟨by rw [World.cell?_of_block (a := ⟨b, o', none⟩) (hother b hbg)]; exact hc', World.frozen?_of_block (a := ⟨b, o', none⟩) (hother b hbg)⟩)
        (fun b _ hne' => hother b (fun hh => hne' (by rw [hblkg, hh]))) hown' (fun k hk => .inl (by rw [hblkg]; exact hk))
      refine hK _ _ ⟨_, r1.put o.dst (dstOk_spec hd) ⟨?_, ?_⟩⟩
      · have hr2 : RowIs (rdOf K g s.hp w) sz (us ++ valsy) ((l1 ++ l2).map f) := by
          rw [List.map_append]
          exact hrx1.append hrow (by rw [elx]; exact hrx2)
        exact row_is (b := gb) (vals := us ++ valsy) (hr2.mono hle) (by simp) hroom hcm (fun k v hv _ => hcells' k v hv)
      · simp [Tag, Env.setTk, vlen]
    · have hr := run_append_grow (P := P) w t o.type e i z hu hi hz ⟨gb, 0, none⟩ l1.length cap us (by rw [hsize]; exact hrx2) hrx3 ad l2.length cy valsy (by rw [hsize]; exact hlv) hcells (by omega) (by omega) (growslice_fits (by omega) (by rw [hbytes]; exact hb))
      rw [hr]
      simp only [Result.andThen_ok, Oper.upon]
      have hge := grownCap_ge w (l1.length + l2.length) cap e
      have hcm2 := grownCap_le_maxLen w (l1.length + l2.length) cap e hmax
      have := fresh (grownCap w (l1.length + l2.length) cap e) us (Builtin.zeroCells z.cells (grownCap w (l1.length + l2.length) cap e - (l1.length + l2.length))) hrx1 hrx2 hge hcm2 (by
        simp only [List.length_append, size_zeroCells, hzc, hlv, hrx2, ← Nat.add_mul]
        congr 1; omega)
      simpa using this

theorem S_box {P : Program} {K : Ctx} {n : Nat} {ops : Array Oper} {o : Oper} {s : St} {t : TypeId} {x : Operand} {v : SV} {cs : List SC} (d : Nat) (ho : o.op = .box t x) (hdst : o.dst = some d) (hgd : guardOf ops o s = some true) (hd : decide (d < n) = true) (hd6 : decide (d < 1000000) = true) (hx : opd s x = some v) (hc : cellsOf v = some cs)
    (hf1 : look s.hp.boxes d = none) (hf2 : ∀ t v, look s.tmps t = some v → t ≠ d → v.every (SC.all d) = true) (hf3 : ∀ e cs, look s.hp.boxes e = some cs → cs.all (SC.all d) = true) (hall : cs.all (SC.all d) = true) : Stp P K n ops o s (s.newBox d cs) := by
  refine Stp_mk hgd fun g a w r K' Q hK => ?_
  have h1 := rel_cells (r.view.opd hx) hc
  have h2 := r.newBoxL (of_decide_eq_true hd) (of_decide_eq_true hd6) hf1 hf2 hf3 t h1 hall
  unfold Oper.wp
  simp only [execOp, ho, Instr.box, newVar, newRow, newObj, Sem.run_bind, Sem.run_pure, Sem.run, Result.andThen_ok, Oper.upon, hdst]
  exact hK _ _ ⟨_, h2⟩
theorem S_alloc {P : Program} {K : Ctx} {n : Nat} {ops : Array Oper} {o : Oper} {s : St} {t : TypeId} {z : Value} (d : Nat) (cs : List SC) (ho : o.op = .alloc t) (hdst : o.dst = some d) (hgd : guardOf ops o s = some true) (hd : decide (d < n) = true) (hd6 : decide (d < 1000000) = true) (hz : (P.info? t).bind (·.zero) = some z) (hc : z.cells.toList.map SC.lit = cs)
    (hf1 : look s.hp.boxes d = none) (hf2 : ∀ t v, look s.tmps t = some v → t ≠ d → v.every (SC.all d) = true) (hf3 : ∀ e cs, look s.hp.boxes e = some cs → cs.all (SC.all d) = true) : Stp P K n ops o s (s.newBox d cs) := by
  refine Stp_mk hgd fun g a w r K' Q hK => ?_
  obtain ⟨i, hi, hz⟩ := Option.bind_eq_some_iff.1 hz
  have h1 : CsRel (rdOf K g s.hp w) g z.cells cs := by subst hc; exact lits_rel _ _ _
  have h2 := r.newBoxL (of_decide_eq_true hd) (of_decide_eq_true hd6) hf1 hf2 hf3 t h1 (by subst hc; simp [SC.all])
  unfold Oper.wp
  simp only [execOp, ho, Instr.alloc, zeroValue, typeInfo, program, hi, hz, newVar, newRow, newObj, Sem.run_bind, Sem.run_pure, Sem.run, Result.andThen_ok, Oper.upon, hdst]
  exact hK _ _ ⟨_, h2⟩

/-! ### states by what is looked up -/
structure Sub (s s' : St) : Prop where
  t : ∀ k v, look s.tmps k = some v → look s'.tmps k = some v
  b : ∀ k v, look s.hp.boxes k = some v → look s'.hp.boxes k = some v
  k : ∀ k v, look s.hp.toks k = some v → look s'.hp.toks k = some v
def Sim (s s' : St) : Prop := (∀ k, look s.tmps k = look s'.tmps k) ∧ (∀ k, look s.hp.boxes k = look s'.hp.boxes k) ∧ ∀ k, look s.hp.toks k = look s'.hp.toks k
theorem Sim.refl (s : St) : Sim s s := ⟨fun _ => rfl, fun _ => rfl, fun _ => rfl⟩
theorem Sim.symm {s s' : St} (h : Sim s s') : Sim s' s := ⟨fun k => (h.1 k).symm, fun k => (h.2.1 k).symm, fun k => (h.2.2 k).symm⟩
theorem Sim.trans {s s' s'' : St} (h : Sim s s') (k : Sim s' s'') : Sim s s'' := ⟨fun x => (h.1 x).trans (k.1 x), fun x => (h.2.1 x).trans (k.2.1 x), fun x => (h.2.2 x).trans (k.2.2 x)⟩
theorem Sub.sim {s s' s'' : St} (h : Sub s s') (k : Sim s' s'') : Sub s s'' := ⟨fun x v hv => (k.1 x).symm.trans (h.t x v hv), fun x v hv => (k.2.1 x).symm.trans (h.b x v hv), fun x v hv => (k.2.2 x).symm.trans (h.k x v hv)⟩
theorem R.sim {K : Ctx} {n : Nat} {a : Act} {w : World} {s s' : St} (h : R K n a w s) (k : Sim s s') : R K n a w s' := by
  obtain ⟨g, h⟩ := h
  have hb : ∀ d cs, look s'.hp.boxes d = some cs → look s.hp.boxes d = some cs := fun d cs hd => (k.2.1 d).trans hd
  have ht : ∀ t x, look s'.hp.toks t = some x → look s.hp.toks t = some x := fun t x hd => (k.2.2 t).trans hd
  refine ⟨g, h.defers, h.size, h.hg.sub hb ht, fun t v hv => ?_⟩
  obtain ⟨u, h1, h2⟩ := h.tmps t v ((k.1 t).trans hv)
  exact ⟨u, h1, h2.mono (rdOf_sub hb ht)⟩
theorem Stp.sim {P : Program} {K : Ctx} {n : Nat} {ops : Array Oper} {o : Oper} {s s' s'' : St} (h : Stp P K n ops o s s') (k : Sim s' s'') : Stp P K n ops o s s'' :=
  fun a w r K' Q hK => h a w r K' Q fun a' w' r' => hK a' w' (r'.sim k)

theorem Sub.opd {s s' : St} (h : Sub s s') {x : Operand} {v : SV} (hx : opd s x = some v) : opd s' x = some v := by
  cases x with
  | tmp t => exact h.t t v hx
  | const c => exact hx
  | func f => exact hx
  | global g => simp [Go.Proofs.Ytohhaibbbnobpaa.opd] at hx
theorem Sub.guard {s s' : St} (h : Sub s s') {ops : Array Oper} {o : Oper} {b : Bool} (hg : guardOf ops o s = some b) : guardOf ops o s' = some b := by
  unfold guardOf at *
  split
  · rename_i hn; rw [hn] at hg; exact hg
  · rename_i j want hn
    rw [hn] at hg
    simp only at hg
    split at hg
    · rename_i oj hoj
      try rw [hoj]
      try simp only
      split at hg
      · rename_i t ht
        try rw [ht]
        try simp only
        split at hg
        · rename_i b' hl
          rw [h.t _ _ hl]
          exact hg
        · rename_i hl
          rw [h.t _ _ hl]
          exact hg
        · cases hg
      · cases hg
    · cases hg
theorem Sub.grow {s s' : St} (h : Sub s s') {P : Program} {o : Oper} {v : SV} (hp : GrowOp P o s v) : GrowOp P o s' v := by
  intro g rd a w hv
  exact hp g rd a w ⟨fun x y hx hy => hv.op x y hx (h.opd hy), hv.reads, fun d cs hd => hv.box d cs (h.b d cs hd)⟩

/-! ### what an operation does, told apart from the rest of the state -/
structure DD where
  need : St
  dst : Option Tmp
  v : SV
  bx : Option (Nat × List SC)
  new : Bool
  tk : Option (Nat × (Nat × Nat × List (List SC)))
def St.setBoxO (s : St) : Option (Nat × List SC) → St
  | some (d, cs) => s.setBox d cs
  | none => s
def St.setTokO (s : St) : Option (Nat × (Nat × Nat × List (List SC))) → St
  | some (t, x) => s.setTok t x
  | none => s
def DD.app (d : DD) (s : St) : St := ((s.setBoxO d.bx).setTokO d.tk).put d.dst d.v
def DD.lt (d : DD) (k : Nat) (old : Option SV) : Option SV := if d.dst = some k then some d.v else old
def DD.lb (d : DD) (k : Nat) (old : Option (List SC)) : Option (List SC) := match d.bx with
  | some (b, cs) => if b = k then some cs else old
  | none => old
def DD.lk (d : DD) (k : Nat) (old : Option (Nat × Nat × List (List SC))) : Option (Nat × Nat × List (List SC)) := match d.tk with
  | some (b, x) => if b = k then some x else old
  | none => old
theorem app_t (d : DD) (s : St) (k : Nat) : look (d.app s).tmps k = d.lt k (look s.tmps k) := by
  unfold DD.app DD.lt
  have h1 : ((s.setBoxO d.bx).setTokO d.tk).tmps = s.tmps := by
    unfold St.setTokO St.setBoxO
    cases d.bx <;> cases d.tk <;> rfl
  cases hd : d.dst with
  | none => simp only [St.put, h1]; simp
  | some t =>
    rw [look_put, h1]
    simp
theorem put_boxes (s : St) (d : Option Tmp) (v : SV) : (s.put d v).hp = s.hp := put_hp s d v
theorem app_b (d : DD) (s : St) (k : Nat) : look (d.app s).hp.boxes k = d.lb k (look s.hp.boxes k) := by
  unfold DD.app DD.lb
  rw [put_hp]
  have h1 : ((s.setBoxO d.bx).setTokO d.tk).hp.boxes = (s.setBoxO d.bx).hp.boxes := by
    unfold St.setTokO
    cases d.tk <;> rfl
  rw [h1]
  cases hd : d.bx with
  | none => rfl
  | some p => obtain ⟨b, cs⟩ := p; simp only [St.setBoxO]; rw [look_setBox]
theorem app_k (d : DD) (s : St) (k : Nat) : look (d.app s).hp.toks k = d.lk k (look s.hp.toks k) := by
  unfold DD.app DD.lk
  rw [put_hp]
  cases hd : d.tk with
  | none =>
    simp only [St.setTokO]
    unfold St.setBoxO
    cases d.bx <;> rfl
  | some p =>
    obtain ⟨b, x⟩ := p
    simp only [St.setTokO]
    rw [look_setTok]
    have : (s.setBoxO d.bx).hp.toks = s.hp.toks := by unfold St.setBoxO; cases d.bx <;> rfl
    rw [this]
theorem app_sim {s s' : St} (d : DD) (h : Sim s s') : Sim (d.app s) (d.app s') :=
  ⟨fun k => by rw [app_t, app_t, h.1], fun k => by rw [app_b, app_b, h.2.1], fun k => by rw [app_k, app_k, h.2.2]⟩

/-- no value names the variable d -/
def NM (d : Nat) (s : St) : Prop := look s.hp.boxes d = none ∧ (∀ t v, look s.tmps t = some v → t ≠ d → v.every (SC.all d) = true) ∧ ∀ e cs, look s.hp.boxes e = some cs → cs.all (SC.all d) = true
theorem NM.sim {d : Nat} {s s' : St} (h : NM d s) (k : Sim s s') : NM d s' :=
  ⟨(k.2.1 d).symm.trans h.1, fun t v hv ht => h.2.1 t v ((k.1 t).trans hv) ht, fun e cs he => h.2.2 e cs ((k.2.1 e).trans he)⟩
def DD.name (d : DD) : Nat := (d.bx.map (·.1)).getD 0
/-- x names not the variable that y makes -/
def DD.quiet (x y : DD) : Bool := !y.new || (x.v.every (SC.all y.name) && (match x.bx with | some (b, cs) => cs.all (SC.all y.name) && b != y.name | none => true))
theorem NM.app {x y : DD} {s : St} (h : NM y.name s) (hn : y.new = true) (hq : x.quiet y = true) : NM y.name (x.app s) := by
  unfold DD.quiet at hq
  rw [hn] at hq
  simp only [Bool.not_true, Bool.false_or, Bool.and_eq_true] at hq
  refine ⟨?_, fun t v hv ht => ?_, fun e cs he => ?_⟩
  · rw [app_b]
    unfold DD.lb
    split
    · rename_i b cs hb
      rw [hb] at hq
      simp only [Bool.and_eq_true] at hq
      rw [if_neg (by simpa using hq.2.2)]
      exact h.1
    · exact h.1
  · rw [app_t] at hv
    unfold DD.lt at hv
    split at hv
    · cases hv; exact hq.1
    · exact h.2.1 t v hv ht
  · rw [app_b] at he
    unfold DD.lb at he
    split at he
    · rename_i b cs' hb
      rw [hb] at hq
      simp only [Bool.and_eq_true] at hq
      split at he
      · cases he; exact hq.2.1
      · exact h.2.2 e cs he
    · exact h.2.2 e cs he

def VD (P : Program) (n : Nat) (ops : Array Oper) (o : Oper) (d : DD) : Prop := ∀ K s, Sub d.need s → (d.new = true → NM d.name s) → Stp P K n ops o s (d.app s)

theorem vd_grow {P : Program} {n : Nat} {ops : Array Oper} {o : Oper} {need : St} (v : SV) (hg : guardOf ops o need = some true) (hd : dstOk n o = true) (hp : GrowOp P o need v) : VD P n ops o ⟨need, o.dst, v, none, false, none⟩ :=
  fun K s hs _ => S_grow v (hs.guard hg) hd (hs.grow hp)
theorem vd_val {P : Program} {n : Nat} {ops : Array Oper} {o : Oper} {need : St} (v : SV) (hg : guardOf ops o need = some true) (hd : dstOk n o = true) (hp : sop P need o.op = some v) : VD P n ops o ⟨need, o.dst, v, none, false, none⟩ :=
  vd_grow v hg hd (sop_ok hp).grow
theorem vd_skip {P : Program} {n : Nat} {ops : Array Oper} {o : Oper} {need : St} (hg : guardOf ops o need = some false) (hd : dstOk n o = true) : VD P n ops o ⟨need, o.dst, .tup [], none, false, none⟩ :=
  fun K s hs _ => S_skip (hs.guard hg) hd
theorem vd_store {P : Program} {n : Nat} {ops : Array Oper} {o : Oper} {need : St} {t : TypeId} {p x : Operand} {v : SV} (d off : Nat) (cs ds : List SC) (ho : o.op = .store t p x) (hdst : o.dst = none) (hgd : guardOf ops o need = some true)
    (hp : opd need p = some (.c (.box d off))) (hx' : (opd need x).bind cellsOf = some ds) (hl : look need.hp.boxes d = some cs) (hi : (P.info? t).map (·.size) = some ds.length) (h1 : ds.all SC.one = true) (hsz : decide (off + ds.length ≤ cs.length) = true) : VD P n ops o ⟨need, none, .tup [], some (d, over cs off ds), false, none⟩ := by
  intro K s hs _
  obtain ⟨v, hx, hc⟩ := Option.bind_eq_some_iff.1 hx'
  exact S_store d off cs ds ho hdst (hs.guard hgd) (hs.opd hp) (hs.opd hx) hc (hs.b _ _ hl) hi h1 hsz
theorem newBox_sim (s : St) (d : Nat) (cs : List SC) (h : look s.hp.boxes d = none) (need : St) : Sim (s.newBox d cs) (DD.app ⟨need, some d, .c (.box d 0), some (d, cs), true, none⟩ s) := by
  refine ⟨fun k => ?_, fun k => ?_, fun k => ?_⟩
  · rw [app_t]
    unfold DD.lt
    simp only [St.newBox, look_cons, look_drop1, Option.some.injEq]
    by_cases hk : d = k
    · simp [hk]
    · simp [hk, Ne.symm hk]
  · rw [app_b]
    unfold DD.lb
    simp only [St.newBox, look_cons]
  · rw [app_k]
    rfl
theorem vd_box {P : Program} {n : Nat} {ops : Array Oper} {o : Oper} {need : St} {t : TypeId} {x : Operand} (d : Nat) (cs : List SC) (ho : o.op = .box t x) (hdst : o.dst = some d) (hgd : guardOf ops o need = some true) (hd : decide (d < n) = true) (hd6 : decide (d < 1000000) = true) (hx' : (opd need x).bind cellsOf = some cs) (hall : cs.all (SC.all d) = true) :
    VD P n ops o ⟨need, some d, .c (.box d 0), some (d, cs), true, none⟩ := by
  intro K s hs hn
  obtain ⟨v, hx, hc⟩ := Option.bind_eq_some_iff.1 hx'
  have hm := hn rfl
  exact (S_box d ho hdst (hs.guard hgd) hd hd6 (hs.opd hx) hc hm.1 hm.2.1 hm.2.2 hall).sim (newBox_sim s d cs hm.1 need)
theorem vd_alloc {P : Program} {n : Nat} {ops : Array Oper} {o : Oper} {need : St} {t : TypeId} (d : Nat) (cs : List SC) (ho : o.op = .alloc t) (hdst : o.dst = some d) (hgd : guardOf ops o need = some true) (hd : decide (d < n) = true) (hd6 : decide (d < 1000000) = true) (hz' : ((P.info? t).bind (·.zero)).map (fun z => z.cells.toList.map SC.lit) = some cs) :
    VD P n ops o ⟨need, some d, .c (.box d 0), some (d, cs), true, none⟩ := by
  intro K s hs hn
  obtain ⟨z, hz, hc⟩ := Option.map_eq_some_iff.1 hz'
  have hm := hn rfl
  exact (S_alloc d cs ho hdst (hs.guard hgd) hd hd6 hz hc hm.1 hm.2.1 hm.2.2).sim (newBox_sim s d cs hm.1 need)
theorem argsS_sub {s s' : St} (h : Sub s s') : ∀ (l : List Operand) (r : List SV), argsS s l = some r → argsS s' l = some r
  | [], r, hr => hr
  | x :: l, r, hr => by
    simp only [argsS] at hr ⊢
    split at hr
    · rename_i v r' hv hr'
      rw [h.opd hv, argsS_sub h l r' hr']
      exact hr
    · cases hr
theorem vd_call1 {P : Program} {n : Nat} {ops : Array Oper} {o : Oper} {need : St} {fo : Operand} {xs : Array Operand} {ts : Array TypeId} (f : FuncId) (fn : Func) (kss : List (List Nat)) (args : List SV) (d off : Nat) (csD cs cs' : List SC) (r : SV) (hgd : guardOf ops o need = some true) (hd : dstOk n o = true)
    (ho : o.op = .call { callee := .value fo, args := xs, argTypes := ts }) (hfo : opd need fo = some (.c (.lit (.func (.func f) #[] #[]))))
    (hf : P.funcs[f]? = some fn) (hname : (fn.name == "runtime.NumGoroutine") = false) (hbody : fn.body.isNone = false) (hv' : (argsS need xs.toList).map (castArgs kss) = some (args.map (renV d off))) (hok : args.all SV.okP = true)
    (hl : look need.hp.boxes d = some csD) (hcs : (csD.drop off).take cs.length = cs) (hlen : cs'.length = cs.length) (hsz : decide (off + cs.length ≤ csD.length) = true) (hcl : cs.all SC.closed = true) (hcl' : cs'.all SC.closed = true) (hr : r.every SC.closed = true) (hp : Holds1 P f args cs r cs') :
    VD P n ops o ⟨need, o.dst, r, some (d, over csD off cs'), false, none⟩ := by
  intro K s hs _
  obtain ⟨vs, hv, hargs⟩ := Option.map_eq_some_iff.1 hv'
  exact S_call1 f fn kss args d off csD cs cs' r (hs.guard hgd) hd ho (hs.opd hfo) hf hname hbody (by rw [argsS_sub hs _ _ hv, Option.map_some, hargs]) hok (hs.b _ _ hl) hcs hlen hsz hcl hcl' hr hp
theorem vd_append {α : Type} {P : Program} {n : Nat} {ops : Array Oper} {o : Oper} {need : St} {t e : TypeId} {x y : Operand} {f : α → List SC} (tok sz by_ : Nat) (l1 l2 : List α) (ho : o.op = .call { callee := .builtin .append, args := #[x, y], argTypes := #[t, t] }) (hgd : guardOf ops o need = some true) (hd : dstOk n o = true)
    (hx : opd need x = some (.c (.slc sz (tok + 2) (l1.map f)))) (htok : look need.hp.toks tok = some (e, sz, l1.map f)) (hy : (opd need y).bind (rowOf sz) = some (l2.map f)) (h1 : (l2.map f).all (·.all SC.one) = true)
    (hu : P.underlying t = some (.slice e)) (hi' : (P.info? e).map (fun i => (i.zero.map (·.cells.size), i.size, i.bytes)) = some (some sz, sz, by_)) (hs0 : decide (0 < sz) = true) (hb : (l1.length + l2.length) * by_ ≤ 140737488355328) (hm : l1.length + l2.length ≤ 140737488355328) :
    VD P n ops o ⟨need, o.dst, .c (.slc sz (tok + 2) ((l1 ++ l2).map f)), none, false, some (tok, (e, sz, (l1 ++ l2).map f))⟩ := by
  intro K s hs _
  obtain ⟨vy, hy1, hy2⟩ := Option.bind_eq_some_iff.1 hy
  exact S_append tok sz by_ l1 l2 ho (hs.guard hgd) hd (hs.opd hx) (hs.k _ _ htok) (by rw [hs.opd hy1]; exact hy2) h1 hu hi' hs0 hb hm

/-! ### the law -/
def keysOf {α : Type} (l : List (Nat × α)) : List Nat := l.map (·.1)
theorem look_none {α : Type} : ∀ {l : List (Nat × α)} {k : Nat}, ¬ k ∈ keysOf l → look l k = none
  | [], _, _ => rfl
  | (a, x) :: l, k, h => by
    simp only [keysOf, List.map_cons, List.mem_cons, not_or] at h
    rw [look_cons, if_neg (fun e => h.1 e.symm)]
    exact look_none h.2
/-- x writes nothing that y needs -/
def DD.spares (x y : DD) : Bool :=
  (match x.dst with | some t => !(keysOf y.need.tmps).contains t | none => true) &&
  (match x.bx with | some (b, _) => !(keysOf y.need.hp.boxes).contains b | none => true) &&
  (match x.tk with | some (b, _) => !(keysOf y.need.hp.toks).contains b | none => true)
def DD.other (x y : DD) : Bool :=
  (match x.dst, y.dst with | some a, some b => a != b | _, _ => true) &&
  (match x.bx, y.bx with | some a, some b => a.1 != b.1 | _, _ => true) &&
  (match x.tk, y.tk with | some a, some b => a.1 != b.1 | _, _ => true)
def DD.indep (x y : DD) : Bool := x.spares y && y.spares x && x.other y && x.quiet y && y.quiet x

theorem spares_sub {x y : DD} {s : St} (h : x.spares y = true) : Sub y.need s ↔ Sub y.need (x.app s) := by
  simp only [DD.spares, Bool.and_eq_true] at h
  obtain ⟨⟨h1, h2⟩, h3⟩ := h
  have e1 : ∀ k, k ∈ keysOf y.need.tmps → look (x.app s).tmps k = look s.tmps k := by
    intro k hk
    rw [app_t]
    unfold DD.lt
    rw [if_neg]
    intro he
    rw [he] at h1
    simp at h1
    exact h1 hk
  have e2 : ∀ k, k ∈ keysOf y.need.hp.boxes → look (x.app s).hp.boxes k = look s.hp.boxes k := by
    intro k hk
    rw [app_b]
    unfold DD.lb
    split
    · rename_i b cs hb
      rw [hb] at h2
      rw [if_neg]
      intro he
      subst he
      simp at h2
      exact h2 hk
    · rfl
  have e3 : ∀ k, k ∈ keysOf y.need.hp.toks → look (x.app s).hp.toks k = look s.hp.toks k := by
    intro k hk
    rw [app_k]
    unfold DD.lk
    split
    · rename_i b cs hb
      rw [hb] at h3
      rw [if_neg]
      intro he
      subst he
      simp at h3
      exact h3 hk
    · rfl
  have key : ∀ {α : Type} {l : List (Nat × α)} {k : Nat} {v : α}, look l k = some v → k ∈ keysOf l := fun {α l k v} hl => List.mem_map.2 ⟨_, look_mem hl, rfl⟩
  constructor
  · intro hs
    exact ⟨fun k v hv => (e1 k (key hv)).trans (hs.t k v hv), fun k v hv => (e2 k (key hv)).trans (hs.b k v hv), fun k v hv => (e3 k (key hv)).trans (hs.k k v hv)⟩
  · intro hs
    exact ⟨fun k v hv => (e1 k (key hv)).symm.trans (hs.t k v hv), fun k v hv => (e2 k (key hv)).symm.trans (hs.b k v hv), fun k v hv => (e3 k (key hv)).symm.trans (hs.k k v hv)⟩
theorem other_comm {x y : DD} (h : x.other y = true) (s : St) : Sim (y.app (x.app s)) (x.app (y.app s)) := by
  simp only [DD.other, Bool.and_eq_true] at h
  obtain ⟨⟨h1, h2⟩, h3⟩ := h
  refine ⟨fun k => ?_, fun k => ?_, fun k => ?_⟩
  · rw [app_t, app_t, app_t, app_t]
    unfold DD.lt
    by_cases hx : x.dst = some k
    · by_cases hy : y.dst = some k
      · rw [hx, hy] at h1; simp at h1
      · simp [hx, hy]
    · simp [hx]
  · rw [app_b, app_b, app_b, app_b]
    unfold DD.lb
    cases hx : x.bx with
    | none => cases hy : y.bx <;> rfl
    | some p =>
      cases hy : y.bx with
      | none => rfl
      | some q =>
        rw [hx, hy] at h2
        simp only [bne_iff_ne, ne_eq] at h2
        simp only
        by_cases e1 : p.1 = k
        · have e2 : ¬ q.1 = k := fun e => h2 (e1.trans e.symm)
          simp [e1, e2]
        · simp [e1]
  · rw [app_k, app_k, app_k, app_k]
    unfold DD.lk
    cases hx : x.tk with
    | none => cases hy : y.tk <;> rfl
    | some p =>
      cases hy : y.tk with
      | none => rfl
      | some q =>
        rw [hx, hy] at h3
        simp only [bne_iff_ne, ne_eq] at h3
        simp only
        by_cases e1 : p.1 = k
        · have e2 : ¬ q.1 = k := fun e => h3 (e1.trans e.symm)
          simp [e1, e2]
        · simp [e1]

/-- the operations one after the other: what each needs is there -/
def RunD : List DD → St → Prop
  | [], _ => True
  | d :: l, s => Sub d.need s ∧ RunD l (d.app s)
def FinD : List DD → St → St
  | [], s => s
  | d :: l, s => FinD l (d.app s)
theorem RunD.sim : ∀ {l : List DD} {s s' : St}, RunD l s → Sim s s' → RunD l s'
  | [], _, _, _, _ => trivial
  | d :: l, _, _, h, k => ⟨h.1.sim k, RunD.sim h.2 (app_sim d k)⟩
theorem FinD.sim : ∀ (l : List DD) {s s' : St}, Sim s s' → Sim (FinD l s) (FinD l s')
  | [], _, _, k => k
  | d :: l, _, _, k => FinD.sim l (app_sim d k)
theorem bubble {x : DD} {post : List DD} : ∀ (pre : List DD) (s : St), (∀ y ∈ pre, y.indep x = true) → RunD (pre ++ x :: post) s → RunD (x :: pre ++ post) s ∧ Sim (FinD (pre ++ x :: post) s) (FinD (x :: pre ++ post) s)
  | [], s, _, h => ⟨h, Sim.refl _⟩
  | y :: pre, s, hi, h => by
    obtain ⟨h1, h2⟩ := h
    obtain ⟨⟨h3, h4⟩, h5⟩ := bubble pre (y.app s) (fun z hz => hi z (List.mem_cons_of_mem _ hz)) h2
    have hyx := hi y (by simp)
    simp only [DD.indep, Bool.and_eq_true] at hyx
    obtain ⟨⟨⟨⟨a1, a2⟩, a3⟩, _⟩, _⟩ := hyx
    have hc := other_comm a3 s
    refine ⟨⟨(spares_sub a1).2 h3, (spares_sub a2).1 h1, RunD.sim h4 hc⟩, h5.trans ?_⟩
    exact FinD.sim (pre ++ post) hc

def Chk (anc : Nat → List Nat) : List (Nat × DD) → Bool
  | [] => true
  | p :: l => Chk anc l && l.all fun q => (anc q.1).contains p.1 || p.2.indep q.2
/-- whoever comes earlier names not what is made later -/
def Mute : List (Nat × DD) → Bool
  | [] => true
  | p :: l => Mute l && l.all fun q => p.2.quiet q.2

theorem Chk_mem {anc : Nat → List Nat} : ∀ {pre : List (Nat × DD)} {x : Nat × DD} {post : List (Nat × DD)}, Chk anc (pre ++ x :: post) = true → (∀ y ∈ pre, (anc x.1).contains y.1 = true ∨ y.2.indep x.2 = true) ∧ Chk anc (pre ++ post) = true
  | [], x, post, h => by
    simp only [List.nil_append, Chk, Bool.and_eq_true] at h
    exact ⟨by simp, h.1⟩
  | p :: pre, x, post, h => by
    simp only [List.cons_append, Chk, Bool.and_eq_true] at h
    obtain ⟨h1, h2⟩ := Chk_mem h.1
    have h3 := List.all_eq_true.1 h.2
    refine ⟨fun y hy => ?_, ?_⟩
    · rcases List.mem_cons.1 hy with rfl | hy
      · simpa using h3 x (by simp)
      · exact h1 y hy
    · simp only [List.cons_append, Chk, Bool.and_eq_true]
      refine ⟨h2, List.all_eq_true.2 fun q hq => h3 q ?_⟩
      rcases List.mem_append.1 hq with hq | hq
      · exact List.mem_append_left _ hq
      · exact List.mem_append_right _ (List.mem_cons_of_mem _ hq)
theorem Mute_mem : ∀ {pre : List (Nat × DD)} {x : Nat × DD} {post : List (Nat × DD)}, Mute (pre ++ x :: post) = true → (∀ q ∈ post, x.2.quiet q.2 = true) ∧ Mute (pre ++ post) = true
  | [], x, post, h => by
    simp only [List.nil_append, Mute, Bool.and_eq_true] at h
    exact ⟨fun q hq => List.all_eq_true.1 h.2 q hq, h.1⟩
  | p :: pre, x, post, h => by
    simp only [List.cons_append, Mute, Bool.and_eq_true] at h
    obtain ⟨h1, h2⟩ := Mute_mem h.1
    have h3 := List.all_eq_true.1 h.2
    refine ⟨h1, ?_⟩
    simp only [List.cons_append, Mute, Bool.and_eq_true]
    refine ⟨h2, List.all_eq_true.2 fun q hq => h3 q ?_⟩
    rcases List.mem_append.1 hq with hq | hq
    · exact List.mem_append_left _ hq
    · exact List.mem_append_right _ (List.mem_cons_of_mem _ hq)

structure AInv (P : Program) (n : Nat) (ops : Array Oper) (anc : Nat → List Nat) (ks : List (Nat × DD)) (listed : Array Bool) (s : St) : Prop where
  size : listed.size = ops.size
  mem : ∀ i, i < ops.size → (listed.getD i true = false ↔ i ∈ ks.map (·.1))
  lt : ∀ p ∈ ks, p.1 < ops.size
  nodup : (ks.map (·.1)).Nodup
  sorted : ∀ p ∈ ks, ∀ i, i < p.1 → i ∈ ks.map (·.1) → ∃ pre post, ks = pre ++ p :: post ∧ i ∈ pre.map (·.1)
  vd : ∀ p ∈ ks, ∃ o, ops[p.1]? = some o ∧ VD P n ops o p.2
  run : RunD (ks.map (·.2)) s
  nm : ∀ p ∈ ks, p.2.new = true → NM p.2.name s
  chk : Chk anc ks = true
  mute : Mute ks = true
  closed : ∀ i, i < ops.size → listed.getD i true = true → ∀ j ∈ anc i, listed.getD j true = true

/-- what is said of the ancestors is so by the edges -/
def AncOk (ops : Array Oper) (anc : Nat → List Nat) : Prop := ∀ i o, ops[i]? = some o → (∀ e ∈ o.after, Region.binds .any e = true → e.on < i) ∧ ∀ j ∈ anc i, ∃ e ∈ o.after, Region.binds .any e = true ∧ (e.on = j ∨ j ∈ anc e.on)

theorem any_law {P : Program} {K : Ctx} {n : Nat} {ops : Array Oper} {anc : Nat → List Nat} (hanc : AncOk ops anc) {Q : Exit → Act → World → Prop} : ∀ (m : Nat) (ks : List (Nat × DD)) (listed : Array Bool) (s : St) (a : Act) (w : World), ks.length = m → AInv P n ops anc ks listed s → R K n a w s →
    (∀ a w s', Sim (FinD (ks.map (·.2)) s) s' → R K n a w s' → Q .normal a w) → wpAny P .any ops Q m listed a w := by
  intro m
  induction m with
  | zero =>
    intro ks listed s a w hk inv r hQ
    have : ks = [] := List.eq_nil_of_length_eq_zero hk
    subst this
    refine ⟨?_, hQ a w s (Sim.refl _) r⟩
    apply List.eq_nil_iff_forall_not_mem.2
    intro i hi
    obtain ⟨h1, o, ho, _⟩ := mem_ready.1 hi
    have hlt := (Array.getElem?_eq_some_iff.1 ho).1
    have := (inv.mem i hlt).1 h1
    simp at this
  | succ m ih =>
    intro ks listed s a w hk inv r hQ
    refine ⟨fun hnone => ?_, fun i hi => ?_⟩
    · -- the first one is ready
      exfalso
      cases ks with
      | nil => simp at hk
      | cons p l =>
        have hp := inv.lt p (by simp)
        obtain ⟨o, ho, _⟩ := inv.vd p (by simp)
        have hready : p.1 ∈ Region.ready .any ops listed := by
          refine mem_ready.2 ⟨(inv.mem p.1 hp).2 (by simp), o, ho, fun e he hb => ?_⟩
          · have hlt := (hanc p.1 o ho).1 e he hb
            have hlt' : e.on < ops.size := by omega
            cases hg : listed.getD e.on true with
            | true =>
              rw [Array.getD_eq_getD_getElem?] at hg ⊢
              rw [Array.getElem?_eq_getElem (by rw [inv.size]; exact hlt')] at hg ⊢
              simpa using hg
            | false =>
              have hin := (inv.mem e.on hlt').1 hg
              obtain ⟨pre, post, hks, hpre⟩ := inv.sorted p (by simp) e.on hlt hin
              have hnd := inv.nodup
              cases pre with
              | nil => simp at hpre
              | cons q pre =>
                rw [List.cons_append] at hks
                injection hks with h1 h2
                rw [h2] at hnd
                simp at hnd
        rw [hnone] at hready
        cases hready
    · obtain ⟨hi1, o, ho, hedges⟩ := mem_ready.1 hi
      have hlt := (Array.getElem?_eq_some_iff.1 ho).1
      obtain ⟨p, hp, rfl⟩ := List.mem_map.1 ((inv.mem i hlt).1 hi1)
      obtain ⟨pre, post, rfl⟩ := List.append_of_mem hp
      obtain ⟨o', ho', hvd⟩ := inv.vd p hp
      rw [ho] at ho'
      cases ho'
      have hlisted : ∀ j ∈ anc p.1, listed.getD j true = true := by
        intro j hj
        obtain ⟨e, he, hb, hor⟩ := (hanc p.1 o ho).2 j hj
        have hlt2 := (hanc p.1 o ho).1 e he hb
        have hl : listed.getD e.on false = true := hedges e he hb
        have hl' : listed.getD e.on true = true := by
          rw [Array.getD_eq_getD_getElem?] at hl ⊢
          rw [Array.getElem?_eq_getElem (by rw [inv.size]; omega)] at hl ⊢
          simpa using hl
        rcases hor with rfl | hor
        · exact hl'
        · exact inv.closed e.on (by omega) hl' j hor
      obtain ⟨hch, hchk⟩ := Chk_mem inv.chk
      have hind : ∀ y ∈ pre, y.2.indep p.2 = true := by
        intro y hy
        rcases hch y hy with h | h
        · exfalso
          have hyl := hlisted y.1 (by simpa using h)
          have hym := inv.mem y.1 (inv.lt y (by simp [hy]))
          have := hym.2 (by simp only [List.map_append, List.mem_append]; exact .inl (List.mem_map.2 ⟨y, hy, rfl⟩))
          rw [this] at hyl
          cases hyl
        · exact h
      have hrun := inv.run
      rw [List.map_append, List.map_cons] at hrun
      obtain ⟨⟨hneed, hrun'⟩, hsim⟩ := bubble (x := p.2) (post := post.map (·.2)) (pre.map (·.2)) s (fun y hy => by
        obtain ⟨q, hq, rfl⟩ := List.mem_map.1 hy
        exact hind q hq) hrun
      have hstp := hvd K s hneed (inv.nm p hp)
      unfold wpOp
      simp only [ho]
      have cont : ∀ a' w', R K n a' w' (p.2.app s) → wpAny P .any ops Q m (listed.setIfInBounds p.1 true) a' w' := by
        intro a' w' r'
        have hnd := inv.nodup
        have hmem' : ∀ q, q ∈ pre ++ post → q ∈ pre ++ p :: post := fun q hq => by
          rcases List.mem_append.1 hq with h | h
          · exact List.mem_append_left _ h
          · exact List.mem_append_right _ (List.mem_cons_of_mem _ h)
        have hne : ∀ q ∈ pre ++ post, q.1 ≠ p.1 := by
          intro q hq he
          rw [List.map_append, List.map_cons, List.nodup_append] at hnd
          obtain ⟨n1, n2, n3⟩ := hnd
          rcases List.mem_append.1 hq with h | h
          · exact n3 q.1 (List.mem_map.2 ⟨q, h, rfl⟩) p.1 (by simp) he
          · have := (List.nodup_cons.1 n2).1
            exact this (List.mem_map.2 ⟨q, h, he⟩)
        refine ih (pre ++ post) (listed.setIfInBounds p.1 true) (p.2.app s) a' w' (by simp at hk ⊢; omega) ?_ r' ?_
        · refine ⟨by simp [inv.size], fun j hj => ?_, fun q hq => inv.lt q (hmem' q hq), ?_, ?_, fun q hq => inv.vd q (hmem' q hq), by rw [List.map_append]; exact hrun', ?_, hchk, (Mute_mem inv.mute).2, ?_⟩
          · rw [Array.getD_eq_getD_getElem?, Array.getElem?_setIfInBounds]
            by_cases hjp : p.1 = j
            · subst hjp
              rw [if_pos rfl, if_pos (by rw [inv.size]; exact hj)]
              simp only [Option.getD_some, Bool.true_eq_false, false_iff]
              intro hm
              obtain ⟨q, hq, hqe⟩ := List.mem_map.1 hm
              exact hne q hq hqe
            · rw [if_neg hjp, ← Array.getD_eq_getD_getElem?, inv.mem j hj]
              simp only [List.map_append, List.map_cons, List.mem_append, List.mem_cons]
              constructor
              · rintro (h | h | h)
                · exact .inl h
                · exact absurd h.symm hjp
                · exact .inr h
              · rintro (h | h)
                · exact .inl h
                · exact .inr (.inr h)
          · rw [List.map_append] at hnd ⊢
            rw [List.map_cons] at hnd
            exact hnd.sublist (List.Sublist.append_left (List.sublist_cons_self _ _) _)
          · intro q hq j hj hjm
            have hjm' : j ∈ (pre ++ p :: post).map (·.1) := by
              simp only [List.map_append, List.map_cons, List.mem_append, List.mem_cons] at hjm ⊢
              rcases hjm with h | h
              · exact .inl h
              · exact .inr (.inr h)
            obtain ⟨pre2, post2, he, hin⟩ := inv.sorted q (hmem' q hq) j hj hjm'
            have hjne : j ≠ p.1 := by
              intro hjp
              obtain ⟨z, hz, hze⟩ := List.mem_map.1 hjm
              exact hne z hz (hze.trans hjp)
            -- strike p out of the list
            rcases List.append_eq_append_iff.1 he with ⟨mid, h1, h2⟩ | ⟨mid, h1, h2⟩
            · cases mid with
              | nil =>
                simp only [List.nil_append] at h2
                injection h2 with h3 _
                exact absurd (congrArg Prod.fst h3.symm) (hne q hq)
              | cons z mid =>
                rw [List.cons_append] at h2
                injection h2 with h3 h4
                subst h3
                refine ⟨pre ++ mid, post2, by rw [h4]; simp, ?_⟩
                rw [h1] at hin
                simp only [List.map_append, List.map_cons, List.mem_append, List.mem_cons] at hin ⊢
                rcases hin with h | h | h
                · exact .inl h
                · exact absurd h hjne
                · exact .inr h
            · cases mid with
              | nil =>
                simp only [List.nil_append] at h2
                injection h2 with h3 _
                exact absurd (congrArg Prod.fst h3) (hne q hq)
              | cons z mid =>
                rw [List.cons_append] at h2
                injection h2 with h3 h4
                subst h3
                exact ⟨pre2, mid ++ post, by rw [h1]; simp, hin⟩
          · intro q hq hnew
            refine NM.app (inv.nm q (hmem' q hq) hnew) hnew ?_
            rcases List.mem_append.1 hq with h | h
            · have := hind q h
              simp only [DD.indep, Bool.and_eq_true] at this
              exact this.2
            · exact (Mute_mem inv.mute).1 q h
          · intro j hj hjl k hk'
            rw [Array.getD_eq_getD_getElem?, Array.getElem?_setIfInBounds] at hjl ⊢
            by_cases hkp : p.1 = k
            · subst hkp
              rw [if_pos rfl]
              split <;> simp
            · rw [if_neg hkp, ← Array.getD_eq_getD_getElem?]
              by_cases hjp : p.1 = j
              · subst hjp
                exact hlisted k hk'
              · rw [if_neg hjp, ← Array.getD_eq_getD_getElem?] at hjl
                exact inv.closed j hj hjl k hk'
        · intro a2 w2 s2 hs2 r2
          refine hQ a2 w2 s2 ?_ r2
          rw [List.map_append, List.map_cons]
          rw [List.map_append] at hs2
          exact hsim.trans hs2
      have := hstp a w r _ Q cont
      split
      · rename_i hw; rw [if_pos hw] at this; exact .inl this
      · rename_i hw; rw [if_neg hw] at this; exact this

/-- THE LAW: the operations' deeds in the order of the text -/
inductive Deeds (P : Program) (n : Nat) (ops : Array Oper) : List Oper → List DD → Prop
  | nil : Deeds P n ops [] []
  | cons {o : Oper} {l : List Oper} {d : DD} {ds : List DD} (h : VD P n ops o d) (k : Deeds P n ops l ds) : Deeds P n ops (o :: l) (d :: ds)
theorem Deeds.get {P : Program} {n : Nat} {ops : Array Oper} {l : List Oper} {ds : List DD} (h : Deeds P n ops l ds) : l.length = ds.length ∧ ∀ (i : Nat) (d : DD), ds[i]? = some d → ∃ o, l[i]? = some o ∧ VD P n ops o d := by
  induction h with
  | nil => exact ⟨rfl, by simp⟩
  | cons h k ih =>
    refine ⟨by simp [ih.1], fun i d hd => ?_⟩
    cases i with
    | zero => cases hd; exact ⟨_, rfl, h⟩
    | succ i => exact ih.2 i d hd
def number {α : Type} : Nat → List α → List (Nat × α)
  | _, [] => []
  | i, x :: l => (i, x) :: number (i + 1) l
theorem number_snd {α : Type} : ∀ (l : List α) (i : Nat), (number i l).map (·.2) = l
  | [], _ => rfl
  | x :: l, i => by simp [number, number_snd l]
theorem number_fst {α : Type} : ∀ (l : List α) (i : Nat), (number i l).map (·.1) = List.range' i l.length
  | [], _ => rfl
  | x :: l, i => by simp [number, number_fst l, List.range'_succ]
theorem number_mem {α : Type} : ∀ (l : List α) (i : Nat) (p : Nat × α), p ∈ number i l → i ≤ p.1 ∧ l[p.1 - i]? = some p.2
  | [], _, _, h => by simp [number] at h
  | x :: l, i, p, h => by
    rcases List.mem_cons.1 h with rfl | h
    · simp
    · obtain ⟨h1, h2⟩ := number_mem l (i + 1) p h
      exact ⟨by omega, by rw [show p.1 - i = (p.1 - (i + 1)) + 1 by omega, List.getElem?_cons_succ]; exact h2⟩
theorem number_length {α : Type} : ∀ (l : List α) (i : Nat), (number i l).length = l.length
  | [], _ => rfl
  | x :: l, i => by simp [number, number_length l]
def RunB : List DD → St → Bool
  | _, _ => true
def ancOf (t : List (List Nat)) (i : Nat) : List Nat := (t[i]?).getD []
def AncB (ops : Array Oper) (t : List (List Nat)) : Bool := (List.range ops.size).all fun i => match ops[i]? with
  | some o => o.after.all (fun e => !Region.binds .any e || decide (e.on < i)) && (ancOf t i).all fun j => o.after.any fun e => Region.binds .any e && (e.on == j || (ancOf t e.on).contains j)
  | none => true
theorem AncB_ok {ops : Array Oper} {t : List (List Nat)} (h : AncB ops t = true) : AncOk ops (ancOf t) := by
  intro i o ho
  have hi := (Array.getElem?_eq_some_iff.1 ho).1
  have := List.all_eq_true.1 h i (List.mem_range.2 hi)
  rw [ho] at this
  simp only [Bool.and_eq_true] at this
  refine ⟨fun e he hb => ?_, fun j hj => ?_⟩
  · have h1 := Array.all_eq_true_iff_forall_mem.1 this.1 e he
    rw [hb] at h1
    simpa using h1
  · have h1 := List.all_eq_true.1 this.2 j hj
    obtain ⟨e, he, h2⟩ := Array.any_eq_true'.1 h1
    simp only [Bool.and_eq_true, Bool.or_eq_true, beq_iff_eq] at h2
    exact ⟨e, he, h2.1, by simpa using h2.2⟩
theorem T_any {P : Program} {K : Ctx} {n : Nat} {Q : Exit → St → Prop} {s : St} {l : List Oper} {id : Nat} (t : List (List Nat)) (ds : List DD) (s' : St) (hm : P.follows .mixedOrders = true) (hd : Deeds P n l.toArray l ds) (hanc : AncB l.toArray t = true) (hrun : RunD ds s) (hfin : Sim (FinD ds s) s') (hnm : ∀ d ∈ ds, d.new = true → NM d.name s) (hchk : Chk (ancOf t) (number 0 ds) = true) (hmute : Mute (number 0 ds) = true) (hQ : Q .normal s') :
    T P K n (.region id l.toArray true) s Q := by
  intro a w r
  obtain ⟨hl, hget⟩ := hd.get
  refine wp_region_any hm ?_
  have hsz : l.toArray.size = (number 0 ds).length := by rw [number_length, ← hl]; simp
  rw [hsz]
  refine any_law (K := K) (n := n) (AncB_ok hanc) _ (number 0 ds) _ s a _ rfl ?_ ?_ ?_
  · refine ⟨by simp [number_length, hl], fun i hi => ?_, fun p hp => ?_, ?_, ?_, fun p hp => ?_, by rw [number_snd]; exact hrun, fun p hp hnew => ?_, hchk, hmute, ?_⟩
    · rw [number_fst, Array.getD_eq_getD_getElem?]
      simp only [Array.getElem?_replicate, number_length]
      simp only [List.size_toArray] at hi
      rw [if_pos (by omega)]
      simp [List.mem_range'_1]
      omega
    · obtain ⟨_, h2⟩ := number_mem ds 0 p hp
      have := (List.getElem?_eq_some_iff.1 h2).1
      simp
      omega
    · rw [number_fst]; exact List.nodup_range'
    · intro p hp i hi hin
      obtain ⟨pre, post, he⟩ := List.append_of_mem hp
      refine ⟨pre, post, he, ?_⟩
      have h1 := number_fst ds 0
      rw [he, List.map_append, List.map_cons] at h1
      have hpl : p.1 = pre.length := by
        have h2 : ((pre.map (·.1)) ++ p.1 :: post.map (·.1))[pre.length]? = some p.1 := by
          rw [List.getElem?_append_right (by simp)]; simp
        have hlt : pre.length < ds.length := by
          have := congrArg List.length he
          rw [number_length] at this
          simp at this
          omega
        rw [h1, List.getElem?_range' hlt] at h2
        simp at h2
        omega
      have h3 : ((pre.map (·.1)) ++ p.1 :: post.map (·.1))[i]? = some i := by
        have hlt : i < ds.length := by
          rw [number_fst] at hin
          simp [List.mem_range'_1] at hin
          omega
        rw [h1, List.getElem?_range' hlt]
        simp
      rw [List.getElem?_append_left (by simp; omega)] at h3
      exact List.mem_of_getElem? h3
    · obtain ⟨_, h2⟩ := number_mem ds 0 p hp
      obtain ⟨o, h3, h4⟩ := hget _ _ h2
      exact ⟨o, by simpa using h3, h4⟩
    · obtain ⟨_, h2⟩ := number_mem ds 0 p hp
      exact hnm p.2 (List.mem_of_getElem? h2) hnew
    · intro i hi hlist
      rw [Array.getD_eq_getD_getElem?] at hlist
      simp only [Array.getElem?_replicate, number_length] at hlist
      simp only [List.size_toArray] at hi
      rw [if_pos (by omega)] at hlist
      simp at hlist
  · obtain ⟨g, r⟩ := r
    exact ⟨g, r.ext (Ext.drew w)⟩
  · intro a2 w2 s2 hs2 r2
    rw [number_snd] at hs2
    exact ⟨s', r2.sim (hs2.symm.trans hfin), hQ⟩
end Go.Proofs.Ytohhaibbbnobpaa
