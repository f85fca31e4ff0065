/-
  SHADOWS: append to a row of the call's own.
-/
import Derived.Test.YtohhaibbbnobpaaSh14
namespace Go.Proofs.Ytohhaibbbnobpaa
open Go.RowKit

def St.setTok (s : St) (t : Nat) (x : Nat × Nat × List (List SC)) : St := { s with hp := { s.hp with toks := (t, x) :: drop1 s.hp.toks t } }
theorem look_setTok (s : St) (t : Nat) (x : Nat × Nat × List (List SC)) (u : Nat) : look (s.setTok t x).hp.toks u = if t = u then some x else look s.hp.toks u := by
  simp only [St.setTok, look_cons, look_drop1]
  by_cases h : t = u
  · simp [h]
  · simp [h, Ne.symm h]

/-- a row has become longer, in place or elsewhere -/
theorem RG.tokUp {K : Ctx} {g : Env} {n : Nat} {a : Act} {w w' : World} {s : St} (h : RG K g n a w s) {t e sz : Nat} {xs xs' : List (List SC)} {V' : Value} {us' : List Value} (hl : look s.hp.toks t = some (e, sz, xs)) (hlt : vlen (g.tk t) < vlen V')
    (hkeep : Keep K.w0 K.may w') (hle : (rdOf K g s.hp w).le (rdOf K (g.setTk t V') (s.setTok t (e, sz, xs')).hp w')) (hcell : ∀ b o u, w.cell? ⟨b, o, none⟩ = some u → (g.tk t).ownBlock ≠ some b → w'.cell? ⟨b, o, none⟩ = some u ∧ w'.frozen? ⟨b, o, none⟩ = w.frozen? ⟨b, o, none⟩)
    (hblk : ∀ b, b < w.heap.size → (g.tk t).ownBlock ≠ some b → w'.heap[b]? = w.heap[b]?) (hown : w'.ownsRow K.w0.heap.size e sz V' xs'.length us') (hV : ∀ k, V'.ownBlock = some k → (g.tk t).ownBlock = some k ∨ w.heap.size ≤ k) :
    RG K (g.setTk t V') n a w' (s.setTok t (e, sz, xs')) := by
  have hcr : ∀ u x, CRel (rdOf K g s.hp w) g u x → CRel (rdOf K (g.setTk t V') (s.setTok t (e, sz, xs')).hp w') (g.setTk t V') u x := by
    intro u x hx
    have hx := hx.mono hle
    cases x with
    | slc s' tag ys =>
      refine ⟨hx.1, ?_⟩
      rcases tag with _ | _ | t'
      · trivial
      · exact hx.2
      · by_cases ht : t' = t
        · subst ht
          have h2 := hx.2
          simp only [Tag, Env.setTk, if_true] at h2 ⊢
          exact ⟨by omega, fun he => by omega⟩
        · have h2 := hx.2
          simp only [Tag, Env.setTk, ht, if_false] at h2 ⊢
          exact h2
    | lit v => exact hx
    | ref cs => exact hx
    | box d off => exact hx
    | bsl d off s' n' c => exact hx
  have hown0 := h.hg.tok t e sz xs hl
  have hne : ∀ t', t' ≠ t → (g.setTk t V').tk t' = g.tk t' := fun t' ht => by simp [Env.setTk, ht]
  have heq : (g.setTk t V').tk t = V' := by simp [Env.setTk]
  have boxblk : ∀ d cs, look s.hp.boxes d = some cs → 0 < cs.length → (g.pos d).1 < w.heap.size := fun d cs hd hp => by
    obtain ⟨u, k1, _⟩ := h.hg.box d cs hd 0 cs[0] (List.getElem?_eq_getElem hp)
    exact World.block_lt_of_cell? w _ k1
  refine ⟨h.defers, h.size, ⟨hkeep, ?_, h.hg.may, h.hg.dis, ?_, ?_, ?_, h.hg.fix⟩, fun u v hv => ?_⟩
  · intro d cs hd j y hy
    obtain ⟨u, h1, h2, h3⟩ := h.hg.box d cs hd j y hy
    have hp : 0 < cs.length := by have := (List.getElem?_eq_some_iff.1 hy).1; omega
    obtain ⟨h4, h5⟩ := hcell _ _ u h1 (h.hg.tbox t _ d cs hl hd hp)
    exact ⟨u, h4, by rw [← h2]; exact h5, hcr u y h3⟩
  · intro t' e' s' ys ht'
    rw [look_setTok] at ht'
    split at ht'
    · rename_i he; subst he; cases ht'
      rw [heq]
      exact ⟨us', hown⟩
    · rename_i he
      rw [hne t' (Ne.symm he)]
      obtain ⟨us, hu⟩ := h.hg.tok t' e' s' ys ht'
      refine ⟨us, hu.1, ?_⟩
      rcases hu.2 with hn | ⟨gb, cap, cur, hv, hbb, hgg, rest⟩
      · exact .inl hn
      · refine .inr ⟨gb, cap, cur, hv, hbb, ?_, rest⟩
        rw [hblk gb (Array.getElem?_eq_some_iff.1 hgg).1 (h.hg.tdis t' t _ _ (Ne.symm he) ht' hl gb (by rw [hv]; rfl))]
        exact hgg
  · intro t1 t2 x1 x2 hne' h1 h2 k hk
    rw [look_setTok] at h1 h2
    split at h1
    · rename_i he; subst he
      rw [if_neg hne'] at h2
      rw [heq] at hk
      rw [hne t2 (Ne.symm hne')]
      rcases hV k hk with h3 | h3
      · exact h.hg.tdis t t2 _ _ hne' hl h2 k h3
      · intro h4
        obtain ⟨e2, s2, ys2⟩ := x2
        obtain ⟨us, hu⟩ := h.hg.tok t2 e2 s2 ys2 h2
        have := (hu.lt k h4).2
        omega
    · rename_i he
      rw [hne t1 (Ne.symm he)] at hk
      split at h2
      · rename_i he2; subst he2
        rw [heq]
        intro h4
        rcases hV k h4 with h3 | h3
        · exact h.hg.tdis t1 t _ _ hne' h1 hl k hk h3
        · obtain ⟨e1, s1, ys1⟩ := x1
          obtain ⟨us, hu⟩ := h.hg.tok t1 e1 s1 ys1 h1
          have := (hu.lt k hk).2
          omega
      · rename_i he2
        rw [hne t2 (Ne.symm he2)]
        exact h.hg.tdis t1 t2 x1 x2 hne' h1 h2 k hk
  · intro t' x d cs h1 h2 hpos
    rw [look_setTok] at h1
    split at h1
    · rename_i he; subst he
      rw [heq]
      intro h4
      rcases hV _ h4 with h3 | h3
      · exact h.hg.tbox t _ d cs hl h2 hpos h3
      · have := boxblk d cs h2 hpos
        simp only [Env.setTk] at h3
        omega
    · rename_i he
      rw [hne t' (Ne.symm he)]
      exact h.hg.tbox t' x d cs h1 h2 hpos
  · obtain ⟨z, h1, h2⟩ := h.tmps u v hv
    exact ⟨z, h1, VRel.imp (p := fun _ => true) (fun v x _ k => hcr v x k) h2 (by cases v <;> simp [SV.every])⟩

theorem TL_append {α : Type} {P : Program} {K : Ctx} {n : Nat} {ops : Array Oper} {l : List Oper} {o : Oper} {s : St} {Q : Exit → St → Prop} {t e : TypeId} {x y : Operand} {f : α → List SC} (tok sz by_ : Nat) (l1 l2 : List α) (ho : o.op = .call { callee := .builtin .append, args := #[x, y], argTypes := #[t, t] }) (hgd : guardOf ops o s = some true) (hd : dstOk n o = true)
    (hx : opd s x = some (.c (.slc sz (tok + 2) (l1.map f)))) (htok : look s.hp.toks tok = some (e, sz, l1.map f)) (hy : (opd s y).bind (rowOf sz) = some (l2.map f)) (h1 : (l2.map f).all (·.all SC.one) = true)
    (hu : P.underlying t = some (.slice e)) (hi' : (P.info? e).map (fun i => (i.zero.map (·.cells.size), i.size, i.bytes)) = some (some sz, sz, by_)) (hs0 : decide (0 < sz) = true) (hb : (l1.length + l2.length) * by_ ≤ 140737488355328) (hm : l1.length + l2.length ≤ 140737488355328)
    (h : TL P K n ops l ((s.setTok tok (e, sz, (l1 ++ l2).map f)).put o.dst (.c (.slc sz (tok + 2) ((l1 ++ l2).map f)))) Q) : TL P K n ops (o :: l) s Q := by
  refine TL_step hgd fun g a w r K' hK => ?_
  have hview := r.view.o o
  obtain ⟨vy, hy1, hy2⟩ := Option.bind_eq_some_iff.1 hy
  have hvx := hview.op x _ (by simp [ho, Op.operands, Call.operands]) hx
  have ry := rowOf_rel (hview.op y _ (by simp [ho, Op.operands, Call.operands]) hy1) hy2
  obtain ⟨rx, htag⟩ := hvx
  obtain ⟨i, hi, hq⟩ := Option.map_eq_some_iff.1 hi'
  simp only [Prod.mk.injEq] at hq
  obtain ⟨hz, hsize, hbytes⟩ := hq
  obtain ⟨z, hz, hzc⟩ := Option.map_eq_some_iff.1 hz
  have hs0' := of_decide_eq_true hs0
  have hmax : l1.length + l2.length ≤ maxLen := by unfold maxLen; omega
  obtain ⟨us, hown⟩ := r.hg.tok tok e sz _ htok
  have elx : (l1.map f).length = l1.length := by simp
  have ely : (l2.map f).length = l2.length := by simp
  rw [elx] at hown
  have hvl : vlen (g.tk tok) = l1.length := by
    rcases hown.2 with ⟨hn, h0⟩ | ⟨gb, cap, cur, hv, _⟩
    · rw [hn, h0]; rfl
    · rw [hv]; rfl
  have hux : a.eval x = g.tk tok := htag.2 (by rw [hvl, elx])
  unfold Oper.wp
  simp only [execOp, ho, resolve, invoke, builtin, Sem.run_bind, Sem.run_pure, Result.andThen_ok, List.map_toArray, List.map_cons, List.map_nil]
  rw [hux] at rx ⊢
  generalize hvy : a.eval y = uy at *
  obtain ⟨ay, cy, valsy, hsrc⟩ := src_row hview.reads ry
  -- nothing appended
  by_cases hl2 : l2 = []
  · subst hl2
    have hz2 : ∃ ad c, uy = .slice ad 0 c := by
      rcases hsrc with ⟨h3, _⟩ | ⟨ad, c, h3, _⟩
      · exact ⟨ay, cy, by simpa using h3⟩
      · exact ⟨ad, c, h3⟩
    obtain ⟨ad, c, rfl⟩ := hz2
    obtain ⟨base, nn, cap, hV, hn⟩ : ∃ base nn cap, g.tk tok = .slice base nn cap ∧ nn ≤ cap := by
      rcases hown.2 with ⟨hn, h0⟩ | ⟨gb, cap, cur, hv, _, _, hle, _⟩
      · exact ⟨none, 0, 0, hn, Nat.le_refl _⟩
      · exact ⟨_, _, cap, hv, hle⟩
    rw [hV, run_append_zero t o.type e i hu hi base ad nn cap c hn, ← hV]
    simp only [Result.andThen_ok, Oper.upon]
    refine hK _ _ (h _ _ ?_)
    rw [List.append_nil]
    have hlk : ∀ u, look (s.setTok tok (e, sz, l1.map f)).hp.toks u = look s.hp.toks u := by
      intro u
      rw [look_setTok]
      split
      · rename_i he; subst he; exact htok.symm
      · rfl
    have hs2 : ∀ t' x', look (s.setTok tok (e, sz, l1.map f)).hp.toks t' = some x' → look s.hp.toks t' = some x' := fun t' x' ht' => (hlk t').symm.trans ht'
    have hrle : (rdOf K g s.hp w).le (rdOf K g (s.setTok tok (e, sz, l1.map f)).hp w) := rdOf_sub (h' := (s.setTok tok (e, sz, l1.map f)).hp) (fun d cs hd => hd) hs2
    have hsame : RG K g n a w (s.setTok tok (e, sz, l1.map f)) := by
      have hsub := r.hg.sub (h' := (s.setTok tok (e, sz, l1.map f)).hp) (fun d cs hd => hd) hs2
      exact ⟨r.defers, r.size, hsub, fun u v hv => let ⟨z, k1, k2⟩ := r.tmps u v hv; ⟨z, k1, k2.mono hrle⟩⟩
    exact ⟨g, hsame.put o.dst (dstOk_spec hd) ⟨rx.mono hrle, by rw [elx]; exact ⟨by omega, fun _ => rfl⟩⟩⟩
  have hpos : 0 < l2.length := List.length_pos_iff.2 hl2
  obtain ⟨ad, hcells, hrow, hlv, hy3⟩ : ∃ ad, (∀ j v, valsy[j]? = some v → w.cell? (ad.add j) = some v) ∧ RowIs (rdOf K g s.hp w) sz valsy (l2.map f) ∧ valsy.length = l2.length * sz ∧ uy = .slice (some ad) l2.length cy := by
    rcases hsrc with ⟨h3, _, _, hrow, hlv, hwhere⟩ | ⟨ad, c, h3, hnil, _⟩
    · rw [ely] at h3 hlv hwhere
      rcases hwhere with h0 | ⟨ad, rfl, hc⟩
      · omega
      · exact ⟨ad, hc, hrow, hlv, h3⟩
    · exact absurd (by simpa using hnil) hl2
  subst hy3
  have h1v : ∀ u ∈ valsy, u.oneCell' = true := by
    intro u hu'
    obtain ⟨k, hk, rfl⟩ := List.getElem_of_mem hu'
    have hkl : k < l2.length * sz := by omega
    have hi2 : k / sz < (l2.map f).length := by rw [ely]; exact Nat.div_lt_of_lt_mul (by rw [Nat.mul_comm]; exact hkl)
    have hx2 := List.getElem?_eq_getElem hi2
    have hlx := hrow.1 _ (List.getElem_mem hi2)
    have hj2 : k % sz < ((l2.map f)[k / sz]).length := by rw [hlx]; exact Nat.mod_lt _ hs0'
    obtain ⟨v, q1, q2⟩ := hrow.2 _ _ _ _ hx2 (List.getElem?_eq_getElem hj2)
    rw [show k / sz * sz + k % sz = k by have := Nat.div_add_mod k sz; rw [Nat.mul_comm] at this; omega, List.getElem?_eq_getElem hk] at q1
    cases q1
    exact oneCell_imm q2 (List.all_eq_true.1 (List.all_eq_true.1 h1 _ (List.getElem_mem hi2)) _ (List.getElem_mem hj2))
  -- the row lies elsewhere afterwards
  have fresh : ∀ (cap : Nat) (valsx : List Value) (rest : Array Value), RowIs (rdOf K g s.hp w) sz valsx (l1.map f) → valsx.length = l1.length * sz → l1.length + l2.length ≤ cap → cap ≤ maxLen → (valsx ++ valsy).length + rest.size = cap * sz →
      K' (a.put o.dst (.slice (some ⟨w.heap.size, 0, none⟩) (l1.length + l2.length) cap)) (w.drew.alloc (.cells ((valsx ++ valsy).toArray ++ rest) e)) := by
    intro cap valsx rest hrx hlx hc hcm hrest
    generalize hw' : w.drew.alloc (.cells ((valsx ++ valsy).toArray ++ rest) e) = w'
    have he : Ext w w' := by rw [← hw']; exact (Ext.drew w).trans (Ext.alloc _ _)
    have hnew : ∀ k, w'.cell? ⟨w.heap.size, k, none⟩ = ((valsx ++ valsy).toArray ++ rest)[k]? := fun k => by rw [← hw']; exact World.cell?_alloc_at (w := w.drew) _ e w.heap.size k rfl
    have hheap : w'.heap[w.heap.size]? = some (.cells ((valsx ++ valsy).toArray ++ rest) e) := by rw [← hw']; exact heap_alloc_new w.drew _
    have hlt2 : ∀ b o v, rdOf K g s.hp w b o = some v → b < w.heap.size := fun b o' v hv => World.block_lt_of_cell? w _ (rdOf_le g s.hp r.hg.keep b o' v hv)
    have hle : (rdOf K g s.hp w).le (rdOf K (g.setTk tok (.slice (some ⟨w.heap.size, 0, none⟩) (l1.length + l2.length) cap)) (s.setTok tok (e, sz, (l1 ++ l2).map f)).hp w') := by
      intro b o' v hv
      have hbl := hlt2 b o' v hv
      have h3 := rdOf_ext (K := K) (g := g) (h := s.hp) he b o' v hv
      unfold rdOf at h3 ⊢
      split at h3
      · cases h3
      · rename_i hex
        rw [if_neg]
        · exact h3
        · rintro (k | ⟨t', e', s', ys, a', c', k1, k2, k3, k4⟩)
          · exact hex (.inl k)
          · rw [look_setTok] at k1
            split at k1
            · rename_i he'; subst he'
              simp only [Env.setTk, if_true] at k2
              injection k2 with k5
              injection k5 with k6
              rw [← k6] at k3
              simp only at k3
              omega
            · rename_i he'
              simp only [Env.setTk, Ne.symm he', if_false] at k2
              exact hex (.inr ⟨t', e', s', ys, a', c', k1, k2, k3, k4⟩)
    have hcells' : ∀ k v, (valsx ++ valsy)[k]? = some v → rdOf K (g.setTk tok (.slice (some ⟨w.heap.size, 0, none⟩) (l1.length + l2.length) cap)) (s.setTok tok (e, sz, (l1 ++ l2).map f)).hp w' w.heap.size k = some v := by
      intro k v hv
      have hk := (List.getElem?_eq_some_iff.1 hv).1
      unfold rdOf
      rw [if_neg, if_neg]
      · rw [hnew, Array.getElem?_append_left (by simpa using hk)]
        simpa using hv
      · have := r.hg.keep.size; omega
      · rintro (⟨d, cs, k1, k2, k3, k4⟩ | ⟨t', e', s', ys, a', c', k1, k2, k3, k4⟩)
        · have hk2 : k - (g.pos d).2 < cs.length := by simp only [Env.setTk] at k3 k4; omega
          obtain ⟨u, q1, _⟩ := r.hg.box d cs k1 (k - (g.pos d).2) (cs[k - (g.pos d).2]'hk2) (List.getElem?_eq_getElem hk2)
          have := World.block_lt_of_cell? w _ q1
          simp only [Env.setTk] at k2 this
          omega
        · rw [look_setTok] at k1
          split at k1
          · cases k1
            simp only [List.length_map, List.length_append] at k4 hk
            rw [hlx, hlv, ← Nat.add_mul] at hk
            omega
          · rename_i he'
            simp only [Env.setTk, Ne.symm he', if_false] at k2
            obtain ⟨us2, hu2⟩ := r.hg.tok t' e' s' ys k1
            have := (hu2.lt a'.block (by rw [k2]; rfl)).2
            omega
    have hown' : w'.ownsRow K.w0.heap.size e sz (.slice (some ⟨w.heap.size, 0, none⟩) (l1.length + l2.length) cap) ((l1 ++ l2).map f).length (valsx ++ valsy) := by
      have hlen : ((l1 ++ l2).map f).length = l1.length + l2.length := by simp
      rw [hlen]
      refine ⟨by rw [List.length_append, hlx, hlv, Nat.add_mul], .inr ⟨w.heap.size, cap, _, rfl, r.hg.keep.size, hheap, hc, hcm, by simp at hrest ⊢; omega, ?_⟩⟩
      rw [Array.toList_append, List.toList_toArray, Nat.add_mul, ← hlx, ← hlv, ← List.length_append]
      exact List.take_left
    have r1 := r.tokUp (w' := w') (V' := .slice (some ⟨w.heap.size, 0, none⟩) (l1.length + l2.length) cap) (xs' := (l1 ++ l2).map f) htok (by rw [hvl]; simp only [vlen]; omega) (r.hg.ext he).keep hle
      (fun b o' u hc' _ => ⟨(Keep.of_ext he).cell hc' (by simp), (Keep.of_ext he).frozen (World.block_lt_of_cell? w _ hc')⟩) (fun b hb' _ => he.below.block b hb') hown' (fun k hk => .inr (by simp only [Value.ownBlock, Option.some.injEq] at hk; omega))
    refine hK _ _ (h _ _ ⟨_, r1.put o.dst (dstOk_spec hd) ⟨?_, ?_⟩⟩)
    · have hr2 : RowIs (rdOf K g s.hp w) sz (valsx ++ valsy) ((l1 ++ l2).map f) := by
        rw [List.map_append]
        exact hrx.append hrow (by rw [elx]; exact hlx)
      exact row_is (b := w.heap.size) (vals := valsx ++ valsy) (hr2.mono hle) (by simp) hc hcm (fun k v hv _ => hcells' k v hv)
    · simp [Tag, Env.setTk, vlen]
  obtain ⟨ax, cx, valsx, hsx⟩ := src_row hview.reads rx
  rcases hown.2 with ⟨hnone, h0⟩ | ⟨gb, cap, cur, hV, hbase, hgg, hnc, hcm, hcs, htake⟩
  · have hl1 : l1 = [] := List.eq_nil_of_length_eq_zero h0
    subst hl1
    rw [hnone]
    have hr := run_append_nil (P := P) w t o.type e i z hu hi hz ad l2.length cy valsy (by rw [hsize]; exact hlv) hcells hpos (by omega) (by rw [hbytes]; simp only [List.length_nil, Nat.zero_add] at hb; omega)
    rw [hr]
    simp only [Result.andThen_ok, Oper.upon]
    have hge := grownCap_ge w l2.length 0 e
    have hcm2 := grownCap_le_maxLen w l2.length 0 e (by simp only [List.length_nil, Nat.zero_add] at hmax; exact hmax)
    have := fresh (grownCap w l2.length 0 e) [] (Builtin.zeroCells z.cells (grownCap w l2.length 0 e - l2.length)) ⟨by simp, by simp⟩ (by simp) (by simpa using hge) hcm2 (by
      simp only [List.nil_append, size_zeroCells, hzc, hlv, ← Nat.add_mul]
      congr 1; omega)
    simpa using this
  · have hrx : RowIs (rdOf K g s.hp w) sz us (l1.map f) ∧ us.length = l1.length * sz ∧ ∀ j v, us[j]? = some v → w.cell? ((⟨gb, 0, none⟩ : Addr).add j) = some v := by
      refine ⟨?_, hown.1, hown.cells (g := gb) (by rw [hV]; rfl)⟩
      rcases hsx with ⟨h3, _, _, hrow', hlv', hwhere'⟩ | ⟨ad', c', h3, hnil', _⟩
      · rw [elx] at h3 hlv' hwhere'
        rcases hwhere' with h0 | ⟨ad', rfl, hcells'⟩
        · have : l1 = [] := List.eq_nil_of_length_eq_zero h0
          subst this
          exact ⟨by simp, by simp⟩
        · rw [hV] at h3
          injection h3 with h4
          injection h4 with h5
          subst h5
          have : us = valsx := by
            apply List.ext_getElem?
            intro j
            rcases Nat.lt_or_ge j (l1.length * sz) with hj | hj
            · have hju : j < us.length := by rw [hown.1]; exact hj
              have hjv : j < valsx.length := by omega
              have q1 := hown.cells (g := gb) (by rw [hV]; rfl) j (us[j]'hju) (List.getElem?_eq_getElem hju)
              have q2 := hcells' j (valsx[j]'hjv) (List.getElem?_eq_getElem hjv)
              rw [q1] at q2
              rw [List.getElem?_eq_getElem (by rw [hown.1]; exact hj), List.getElem?_eq_getElem (by omega)]
              exact q2
            · rw [List.getElem?_eq_none (by rw [hown.1]; exact hj), List.getElem?_eq_none (by omega)]
          rw [this]
          exact hrow'
      · have : l1 = [] := by simpa using hnil'
        subst this
        exact ⟨by simp, by simp⟩
    obtain ⟨hrx1, hrx2, hrx3⟩ := hrx
    rw [hV]
    by_cases hroom : l1.length + l2.length ≤ cap
    · have hfit : l1.length * i.size + valsy.length ≤ cur.size := by rw [hsize, hlv, hcs, ← Nat.add_mul]; exact Nat.mul_le_mul_right _ hroom
      have hr := run_append_room (P := P) w t o.type e i hu hi gb l1.length cap cur hgg ad l2.length cy valsy (by rw [hsize]; exact hlv) hcells h1v hroom hfit
      rw [hr]
      simp only [Result.andThen_ok, Oper.upon]
      rw [hsize, htake]
      rw [hsize] at hfit
      generalize hw' : w.setRow gb (us ++ valsy ++ cur.toList.drop (l1.length * sz + valsy.length)).toArray = w'
      have hcellg : ∀ k, w'.cell? ⟨gb, k, none⟩ = (us ++ valsy ++ cur.toList.drop (l1.length * sz + valsy.length)).toArray[k]? := fun k => by rw [← hw']; exact cell_setRow_same w gb k cur _ e (0, 0) hgg
      have hother : ∀ b, b ≠ gb → w'.heap[b]? = w.heap[b]? := fun b hb' => by rw [← hw']; exact setRow_other w gb b _ hb'
      have hblkg : (g.tk tok).ownBlock = some gb := by rw [hV]; rfl
      have hkeep : Keep K.w0 K.may w' := by
        refine r.hg.keep.trans (may' := fun b _ => b = gb) ⟨by rw [← hw']; rfl, by rw [← hw']; rfl, by rw [← hw']; rfl, by rw [← hw']; simp, fun b hb' => ?_⟩ (fun b o' hb' he' => by omega)
        by_cases hbg : b = gb
        · subst hbg
          refine .inr ⟨cur, (us ++ valsy ++ cur.toList.drop (l1.length * sz + valsy.length)).toArray, e, (0, 0), hgg, by rw [← hw']; exact setRow_heap w b cur _ e _ hgg, ?_, fun j hj => absurd rfl hj⟩
          simp only [List.size_toArray, List.length_append, List.length_drop, Array.length_toList, hrx2]
          omega
        · exact .inl (hother b hbg)
      have hcur : ∀ k, k < l1.length * sz → cur[k]? = us[k]? := fun k hk => by
        rw [← htake, List.getElem?_take, if_pos hk]; simp
      have hle : (rdOf K g s.hp w).le (rdOf K (g.setTk tok (.slice (some ⟨gb, 0, none⟩) (l1.length + l2.length) cap)) (s.setTok tok (e, sz, (l1 ++ l2).map f)).hp w') := by
        intro b o' v hv
        have hc0 := rdOf_le g s.hp r.hg.keep b o' v hv
        unfold rdOf at hv ⊢
        split at hv
        · cases hv
        · rename_i hex
          rw [if_neg]
          · split at hv
            · rename_i hbb; rw [if_pos hbb]; exact hv
            · rename_i hbb
              rw [if_neg hbb]
              by_cases hbg : b = gb
              · subst hbg
                have ho' : o' < l1.length * sz := by
                  rcases Nat.lt_or_ge o' (l1.length * sz) with hh | hh
                  · exact hh
                  · exact absurd (.inr ⟨tok, e, sz, l1.map f, ⟨b, 0, none⟩, cap, htok, by rw [hV, elx], rfl, by rw [elx]; exact hh⟩) hex
                rw [hcellg]
                rw [cell_of_row w b o' cur e (0, 0) hgg, hcur o' ho'] at hc0
                simp only [List.getElem?_toArray, List.append_assoc]
                rw [List.getElem?_append_left (by rw [hrx2]; exact ho')]
                exact hc0
              · rw [World.cell?_of_block (a := ⟨b, o', none⟩) (hother b hbg)]
                exact hc0
          · rintro (k | ⟨t', e', s', ys, a', c', k1, k2, k3, k4⟩)
            · exact hex (.inl k)
            · rw [look_setTok] at k1
              split at k1
              · rename_i he'; subst he'; cases k1
                simp only [Env.setTk, if_true] at k2
                injection k2 with k5
                injection k5 with k6
                refine hex (.inr ⟨tok, e, sz, l1.map f, ⟨gb, 0, none⟩, cap, htok, by rw [hV, elx], by rw [k3, ← k6], ?_⟩)
                rw [elx]
                simp only [List.length_map, List.length_append, Nat.add_mul] at k4
                omega
              · rename_i he'
                simp only [Env.setTk, Ne.symm he', if_false] at k2
                exact hex (.inr ⟨t', e', s', ys, a', c', k1, k2, k3, k4⟩)
      have hcells' : ∀ k v, (us ++ valsy)[k]? = some v → rdOf K (g.setTk tok (.slice (some ⟨gb, 0, none⟩) (l1.length + l2.length) cap)) (s.setTok tok (e, sz, (l1 ++ l2).map f)).hp w' gb k = some v := by
        intro k v hv
        have hk := (List.getElem?_eq_some_iff.1 hv).1
        unfold rdOf
        rw [if_neg, if_neg (by omega)]
        · rw [hcellg]
          simp only [List.getElem?_toArray]
          rw [List.getElem?_append_left hk]
          exact hv
        · rintro (⟨d, cs, k1, k2, k3, k4⟩ | ⟨t', e', s', ys, a', c', k1, k2, k3, k4⟩)
          · have hp : 0 < cs.length := by simp only [Env.setTk] at k3 k4; omega
            exact r.hg.tbox tok _ d cs htok k1 hp (by rw [hblkg]; simp only [Env.setTk] at k2; rw [k2])
          · rw [look_setTok] at k1
            split at k1
            · cases k1
              simp only [List.length_map, List.length_append] at k4 hk
              rw [hrx2, hlv, ← Nat.add_mul] at hk
              omega
            · rename_i he'
              simp only [Env.setTk, Ne.symm he', if_false] at k2
              exact r.hg.tdis tok t' _ _ he' htok k1 gb hblkg (by rw [k2]; simp only [Value.ownBlock]; rw [k3])
      have hown' : w'.ownsRow K.w0.heap.size e sz (.slice (some ⟨gb, 0, none⟩) (l1.length + l2.length) cap) ((l1 ++ l2).map f).length (us ++ valsy) := by
        have hlen : ((l1 ++ l2).map f).length = l1.length + l2.length := by simp
        rw [hlen]
        refine ⟨by rw [List.length_append, hrx2, hlv, Nat.add_mul], .inr ⟨gb, cap, _, rfl, hbase, by rw [← hw']; exact setRow_heap w gb cur _ e _ hgg, hroom, hcm, ?_, ?_⟩⟩
        · simp only [List.size_toArray, List.length_append, List.length_drop, Array.length_toList, hrx2]
          omega
        · rw [List.toList_toArray, Nat.add_mul, ← hrx2, ← hlv, ← List.length_append]
          exact List.take_left
      have r1 := r.tokUp (w' := w') (V' := .slice (some ⟨gb, 0, none⟩) (l1.length + l2.length) cap) (xs' := (l1 ++ l2).map f) htok (by rw [hvl]; simp only [vlen]; omega) hkeep hle
        (fun b o' u hc' hne' => by
          have hbg : b ≠ gb := fun hh => hne' (by rw [hblkg, hh])
          exact ⟨by rw [World.cell?_of_block (a := ⟨b, o', none⟩) (hother b hbg)]; exact hc', World.frozen?_of_block (a := ⟨b, o', none⟩) (hother b hbg)⟩)
        (fun b _ hne' => hother b (fun hh => hne' (by rw [hblkg, hh]))) hown' (fun k hk => .inl (by rw [hblkg]; exact hk))
      refine hK _ _ (h _ _ ⟨_, r1.put o.dst (dstOk_spec hd) ⟨?_, ?_⟩⟩)
      · have hr2 : RowIs (rdOf K g s.hp w) sz (us ++ valsy) ((l1 ++ l2).map f) := by
          rw [List.map_append]
          exact hrx1.append hrow (by rw [elx]; exact hrx2)
        exact row_is (b := gb) (vals := us ++ valsy) (hr2.mono hle) (by simp) hroom hcm (fun k v hv _ => hcells' k v hv)
      · simp [Tag, Env.setTk, vlen]
    · have hr := run_append_grow (P := P) w t o.type e i z hu hi hz ⟨gb, 0, none⟩ l1.length cap us (by rw [hsize]; exact hrx2) hrx3 ad l2.length cy valsy (by rw [hsize]; exact hlv) hcells (by omega) (by omega) (growslice_fits (by omega) (by rw [hbytes]; exact hb))
      rw [hr]
      simp only [Result.andThen_ok, Oper.upon]
      have hge := grownCap_ge w (l1.length + l2.length) cap e
      have hcm2 := grownCap_le_maxLen w (l1.length + l2.length) cap e hmax
      have := fresh (grownCap w (l1.length + l2.length) cap e) us (Builtin.zeroCells z.cells (grownCap w (l1.length + l2.length) cap e - (l1.length + l2.length))) hrx1 hrx2 hge hcm2 (by
        simp only [List.length_append, size_zeroCells, hzc, hlv, hrx2, ← Nat.add_mul]
        congr 1; omega)
      simpa using this
end Go.Proofs.Ytohhaibbbnobpaa
