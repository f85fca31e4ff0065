/-
  Shadows: a function that returns the address of a new variable.
-/
import Derived.Test.YtohhaibbbnobpaaSh18
namespace Go.Proofs.Ytohhaibbbnobpaa
open Go.RowKit

/-- a reader that sees all new memory but the new variable -/
def SeesBut (w : World) (p : Nat × Nat) (n : Nat) (rd : Rd) (w' : World) : Prop := ∀ b o u, w.heap.size ≤ b → ¬ inBox p n b o → w'.cell? ⟨b, o, none⟩ = some u → rd b o = some u
/-- the function returns the address of a new variable -/
def HoldsN (P : Program) (f : FuncId) (args : List SV) (cs : List SC) : Prop :=
  ∀ (rd : Rd) (g : Env) (w : World) (us : Array Value), (∀ b o v, rd b o = some v → w.cell? ⟨b, o, none⟩ = some v) → us.size = args.length → (∀ (i : Nat) (x : SV), args[i]? = some x → ∃ u, us[i]? = some u ∧ VRel rd g u x) →
    Calls P f us w fun e w' => ∃ p : Nat × Nat, e = .returned (.pointer (some ⟨p.1, p.2, none⟩)) ∧ Ext w w' ∧ w.heap.size ≤ p.1 ∧ ∀ rd', rd.le rd' → SeesBut w p cs.length rd' w' → boxAt g w' rd' p cs

def retQN (P : Program) (fn : Func) (d : Nat) (ks : List Nat) (cs : List SC) : Exit → St → Prop
  | .normal, s => resL P s [[0]] fn.results.toList = some [(false, [.box d 0])] ∧ (look s.hp.boxes d).map (castL ks) = some cs
  | .ret, s => resL P s [[0]] fn.results.toList = some [(false, [.box d 0])] ∧ (look s.hp.boxes d).map (castL ks) = some cs
  | _, _ => False
theorem holdsN_of {P : Program} {f : FuncId} {fn : Func} {c : Code} {args : List SV} {cs : List SC} (d : Nat) (ks : List Nat) (n : Nat) (hf : P.funcs[f]? = some fn) (hb : fn.body = some c) (hn : fn.ntmps = n) (hl : decide (args.length ≤ n) = true) (hc : cs.all SC.closed = true) (h0 : decide (0 < cs.length) = true)
    (h : ∀ K, T P K n c { tmps := initT 0 args, hp := ⟨[], []⟩ } (retQN P fn d ks cs)) : HoldsN P f args cs := by
  intro rd g w us hrd hus hargs
  have hl' := of_decide_eq_true hl
  have h0' := of_decide_eq_true h0
  let K : Ctx := ⟨w, fun _ _ => False, rd, g.pos, fun b o v hv => ⟨hrd b o v hv, fun x => x⟩⟩
  have hrdle : rd.le (rdOf K g ⟨[], []⟩ w) := by
    intro b o v hv
    unfold rdOf
    rw [if_neg, if_pos]
    · exact hv
    · exact World.block_lt_of_cell? w _ (hrd b o v hv)
    · rintro (⟨d, cs0, h1, h2, h3, h4⟩ | ⟨t, e, s, xs, a, c, h1, _⟩)
      · simp [look] at h1
      · simp [look] at h1
  have hR : RG K g n { tmps := us ++ Array.replicate (fn.ntmps - us.size) undef, defers := [] } w { tmps := initT 0 args, hp := ⟨[], []⟩ } := by
    refine ⟨rfl, by simp; omega, ⟨Keep.refl _ _, ?_, ?_, ?_, ?_, ?_, ?_, fun _ _ => rfl⟩, fun t v hv => ?_⟩
    · intro d cs0 hd; simp [look] at hd
    · intro d cs0 hd; simp [look] at hd
    · intro d d' cs0 cs1 hne hd; simp [look] at hd
    · intro t e s xs ht; simp [look] at ht
    · intro t t' x x' _ ht; simp [look] at ht
    · intro t x d cs ht; simp [look] at ht
    · obtain ⟨_, h2⟩ := look_initT args 0 t v hv
      obtain ⟨u, h3, h4⟩ := hargs (t - 0) v h2
      simp only [Nat.sub_zero] at h3
      refine ⟨u, ?_, h4.mono hrdle⟩
      rw [Array.getElem?_append_left (Array.getElem?_eq_some_iff.1 h3).1]
      exact h3
  refine calls_of_wp hf hb (wp_mono (h K _ w ⟨g, hR⟩) fun e a' w' hq => ?_)
  obtain ⟨s', ⟨g', r'⟩, q⟩ := hq
  have fin : (resL P s' [[0]] fn.results.toList = some [(false, [.box d 0])] ∧ (look s'.hp.boxes d).map (castL ks) = some cs) → a'.defers = [] ∧ ∃ v, (results fn a'.tmps).run P w' = .ok v w' ∧ ∃ p : Nat × Nat, Ending.returned v = .returned (.pointer (some ⟨p.1, p.2, none⟩)) ∧ Ext w w' ∧ w.heap.size ≤ p.1 ∧ ∀ rd', rd.le rd' → SeesBut w p cs.length rd' w' → boxAt g w' rd' p cs := by
    rintro ⟨h1, h3⟩
    obtain ⟨u, h4, h5⟩ := run_results r'.view h1 (r := .c (.box d 0)) rfl
    obtain ⟨cs1, h6, h7⟩ := Option.map_eq_some_iff.1 h3
    have hlen : cs.length = cs1.length := by rw [← h7, castL_length]
    have h5' : u = .pointer (some ⟨(g'.pos d).1, (g'.pos d).2 + 0, none⟩) := h5
    refine ⟨r'.defers, u, h4, g'.pos d, by rw [h5']; rfl, Keep.ext r'.hg.keep, ?_, fun rd' hle hs => ?_⟩
    · rcases Nat.lt_or_ge (g'.pos d).1 w.heap.size with hlt | hge
      · exact absurd (r'.hg.may d cs1 h6 0 (by omega) hlt) (fun x => x)
      · exact hge
    · have hle' : (rdOf K g' s'.hp w').le rd' := by
        intro b o v hv
        have hcell := rdOf_le g' s'.hp r'.hg.keep b o v hv
        unfold rdOf at hv
        split at hv
        · cases hv
        · rename_i hex
          split at hv
          · exact hle b o v hv
          · rename_i hbb
            refine hs b o v (Nat.not_lt.1 hbb) (fun hin => hex (.inl ⟨d, cs1, h6, hin.1, hin.2.1, ?_⟩)) hcell
            have := hin.2.2
            omega
      intro j y hy
      rw [← h7] at hy
      obtain ⟨k, x, hx, rfl⟩ := castL_get ks cs1 j y hy
      obtain ⟨v, k1, k2, k3⟩ := r'.hg.box d cs1 h6 j x hx
      refine ⟨v, k1, k2, closed_rel v _ ?_ (cast1_rel k (k3.mono hle'))⟩
      rw [← h7] at hc
      exact List.all_eq_true.1 hc _ (List.mem_of_getElem? hy)
  cases e <;> simp only [retQN] at q <;> simp only [bodyPost]
  case normal => exact fin q
  case ret => exact fin q

theorem rdOf_adopt {K : Ctx} {g : Env} {h : Hp} {w w' : World} {d : Nat} {cs : List SC} {p : Nat × Nat} (he : Ext w w') (hp : w.heap.size ≤ p.1) (hsz : K.w0.heap.size ≤ w.heap.size) :
    (rdOf K g h w).le (rdOf K (g.setPos d p) { h with boxes := (d, cs) :: h.boxes } w') := by
  intro b o' v hv
  unfold rdOf at *
  split at hv
  · cases hv
  · rename_i hx
    have nex : b < w.heap.size → ¬ Ex (g.setPos d p) { h with boxes := (d, cs) :: h.boxes } b o' := by
      intro hlt k
      apply hx
      rcases k with ⟨e, cs', h1, h2, h3, h4⟩ | ⟨t, e, sz, xs, a, c, h1, h2⟩
      · rw [look_cons] at h1
        by_cases he : d = e
        · subst he
          exfalso
          simp only [Env.setPos, if_true] at h2
          omega
        · rw [if_neg he] at h1
          simp only [Env.setPos, Ne.symm he, if_false] at h2 h3 h4
          exact .inl ⟨e, cs', h1, h2, h3, h4⟩
      · exact .inr ⟨t, e, sz, xs, a, c, h1, h2⟩
    split at hv
    · rename_i hb
      rw [if_neg (nex (by omega)), if_pos hb]
      exact hv
    · rename_i hb
      have hlt := World.block_lt_of_cell? w _ hv
      rw [if_neg (nex hlt), if_neg hb]
      exact (Keep.of_ext he).cell hv (by simp)

theorem RG.adopt {K : Ctx} {g : Env} {n : Nat} {a : Act} {w w' : World} {s : St} (h : RG K g n a w s) {d : Nat} (hd : d < n) (hd6 : d < 1000000) (hf : s.freshB d = true) {cs : List SC} (hcl : cs.all SC.closed = true) {p : Nat × Nat} (he : Ext w w') (hp : w.heap.size ≤ p.1)
    (hb : ∀ rd', (rdOf K g s.hp w).le rd' → SeesBut w p cs.length rd' w' → boxAt g w' rd' p cs) :
    RG K (g.setPos d p) n (a.put (some d) (.pointer (some ⟨p.1, p.2, none⟩))) w' (s.newBox d cs) := by
  obtain ⟨_, hf2, hf3⟩ := freshB_spec hf
  have hle := rdOf_adopt (K := K) (g := g) (h := s.hp) (d := d) (cs := cs) he hp h.hg.keep.size
  have hcr : ∀ u x, x.all d = true → CRel (rdOf K g s.hp w) g u x → CRel (rdOf K (g.setPos d p) { s.hp with boxes := (d, cs) :: s.hp.boxes } w') (g.setPos d p) u x :=
    fun u x hx k => (k.setPos hx).mono hle
  have hx := h.ext he
  have hbox := hb _ hle (fun b o u hbb hin hc => by
    unfold rdOf
    rw [if_neg, if_neg]
    · exact hc
    · have := h.hg.keep.size
      omega
    · rintro (⟨e, cs', h1, h2, h3, h4⟩ | ⟨t, e, sz, xs, a', c, h1, h2, h3, h4⟩)
      · rw [look_cons] at h1
        by_cases hde : d = e
        · subst hde
          rw [if_pos rfl] at h1
          cases h1
          simp only [Env.setPos, if_true] at h2 h3 h4
          exact hin ⟨h2, h3, h4⟩
        · rw [if_neg hde] at h1
          simp only [Env.setPos, Ne.symm hde, if_false] at h2 h3 h4
          have hj : o - (g.pos e).2 < cs'.length := by omega
          obtain ⟨u', k1, _⟩ := h.hg.box e cs' h1 (o - (g.pos e).2) cs'[o - (g.pos e).2] (List.getElem?_eq_getElem hj)
          have := World.block_lt_of_cell? w _ k1
          simp only at this
          omega
      · obtain ⟨us, hu⟩ := h.hg.tok t e sz xs h1
        have h2' : g.tk t = .slice (some a') xs.length c := h2
        have := (hu.lt b (by rw [h2', h3]; rfl)).2
        omega)
  refine ⟨h.defers, by simp [Act.put, h.size], ?_, ?_⟩
  · refine ⟨hx.hg.keep, ?_, ?_, ?_, hx.hg.tok, hx.hg.tdis, ?_, fun e he => by rw [← h.hg.fix e he]; simp only [Env.setPos]; rw [if_neg (by omega)]⟩
    · intro d' cs' hl j y hy
      simp only [St.newBox] at hl
      rw [look_cons] at hl
      by_cases hde : d = d'
      · subst hde
        rw [if_pos rfl] at hl
        cases hl
        obtain ⟨u, h1, h2, h3⟩ := hbox j y hy
        simp only [Env.setPos, if_true]
        exact ⟨u, h1, h2, closed_rel u y (List.all_eq_true.1 hcl y (List.mem_of_getElem? hy)) h3⟩
      · rw [if_neg hde] at hl
        obtain ⟨u, h1, h2, h3⟩ := h.hg.box d' cs' hl j y hy
        simp only [Env.setPos, Ne.symm hde, if_false]
        exact ⟨u, (Keep.of_ext he).cell h1 (by simp), by rw [(Keep.of_ext he).frozen (World.block_lt_of_cell? w _ h1)]; exact h2, hcr u y (List.all_eq_true.1 (hf3 _ _ hl) y (List.mem_of_getElem? hy)) h3⟩
    · intro d' cs' hl j hj hbb
      simp only [St.newBox] at hl
      rw [look_cons] at hl
      by_cases hde : d = d'
      · subst hde
        simp only [Env.setPos, if_true] at hbb
        have := h.hg.keep.size
        omega
      · rw [if_neg hde] at hl
        simp only [Env.setPos, Ne.symm hde, if_false] at hbb ⊢
        exact h.hg.may d' cs' hl j hj hbb
    · intro d1 d2 cs1 cs2 hne h1 h2 j j' hj hj' hbb
      simp only [St.newBox] at h1 h2
      rw [look_cons] at h1 h2
      have blk : ∀ d' cs', look s.hp.boxes d' = some cs' → ∀ j, j < cs'.length → (g.pos d').1 < w.heap.size := fun d' cs' hl j hj => by
        obtain ⟨u, k1, _⟩ := h.hg.box d' cs' hl j cs'[j] (List.getElem?_eq_getElem hj)
        exact World.block_lt_of_cell? w _ k1
      by_cases e1 : d = d1
      · subst e1
        rw [if_neg hne] at h2
        simp only [Env.setPos, if_true, Ne.symm hne, if_false] at hbb ⊢
        have := blk d2 cs2 h2 j' hj'
        omega
      · rw [if_neg e1] at h1
        by_cases e2 : d = d2
        · subst e2
          simp only [Env.setPos, if_true, hne, if_false] at hbb ⊢
          have := blk d1 cs1 h1 j hj
          omega
        · rw [if_neg e2] at h2
          simp only [Env.setPos, Ne.symm e1, Ne.symm e2, if_false] at hbb ⊢
          exact h.hg.dis d1 d2 cs1 cs2 hne h1 h2 j j' hj hj' hbb
    · intro t x d' cs' ht hl hpos
      simp only [St.newBox] at hl
      rw [look_cons] at hl
      by_cases hde : d = d'
      · subst hde
        simp only [Env.setPos, if_true]
        intro hk
        obtain ⟨e', sz, xs⟩ := x
        obtain ⟨us, hu⟩ := h.hg.tok t e' sz xs ht
        have := (hu.lt _ hk).2
        omega
      · rw [if_neg hde] at hl
        simp only [Env.setPos, Ne.symm hde, if_false]
        exact h.hg.tbox t x d' cs' ht hl hpos
  · intro t v hl
    simp only [St.newBox] at hl
    rw [look_cons, look_drop1] at hl
    simp only [Act.put]
    by_cases ht : d = t
    · subst ht
      rw [if_pos rfl] at hl
      cases hl
      exact ⟨_, by simp [Array.getElem?_setIfInBounds, h.size, hd]; rfl, by simp [VRel, CRel, Env.setPos]⟩
    · rw [if_neg ht, if_neg (Ne.symm ht)] at hl
      obtain ⟨u, h1, h2⟩ := h.tmps t v hl
      exact ⟨u, by simp [Array.getElem?_setIfInBounds, ht, h1], VRel.imp hcr h2 (hf2 t v hl (Ne.symm ht))⟩

theorem TL_callN {P : Program} {K : Ctx} {n : Nat} {ops : Array Oper} {l : List Oper} {o : Oper} {s : St} {Q : Exit → St → Prop} {fo : Operand} {xs : Array Operand} {ts : Array TypeId} (d : Nat) (f : FuncId) (fn : Func) (kss : List (List Nat)) (args : List SV) (cs : List SC) (hgd : guardOf ops o s = some true) (hdst : o.dst = some d) (hd : decide (d < n) = true) (hd6 : decide (d < 1000000) = true) (hfr : s.freshB d = true)
    (ho : o.op = .call { callee := .value fo, args := xs, argTypes := ts }) (hfo : opd s fo = some (.c (.lit (.func (.func f) #[] #[]))))
    (hf : P.funcs[f]? = some fn) (hname : (fn.name == "runtime.NumGoroutine") = false) (hbody : fn.body.isNone = false) (hv' : (argsS s xs.toList).map (castArgs kss) = some args) (hcl : cs.all SC.closed = true) (hp : HoldsN P f args cs)
    (h : TL P K n ops l (s.newBox d cs) Q) : TL P K n ops (o :: l) s Q := by
  refine TL_step hgd fun g a w rg K' hK => ?_
  obtain ⟨vs, hv, hargs⟩ := Option.map_eq_some_iff.1 hv'
  have hview := rg.view.o o
  have h1 := rel_lit (hview.op fo _ (by simp [ho, Op.operands, Call.operands]) hfo)
  obtain ⟨hll, hget⟩ := argsS_spec _ _ hv
  have hcalls := hp (rdOf K g s.hp w) g w (xs.map a.eval) hview.reads
    (by have := congrArg List.length hargs; rw [castArgs_length] at this; rw [Array.size_map, ← Array.length_toList, hll, this])
    (fun i y hy => by
      rw [← hargs] at hy
      obtain ⟨ks, x, hx, hxe⟩ := castArgs_get kss vs i _ hy
      have hi : i < xs.toList.length := by rw [hll]; exact (List.getElem?_eq_some_iff.1 hx).1
      have := hget i xs.toList[i] x (List.getElem?_eq_getElem hi) hx
      have hm : xs.toList[i] ∈ o.op.operands.toList := by
        rw [ho]
        simp only [Op.operands, Call.operands, Array.toList_append]
        exact List.mem_append_right _ (List.getElem_mem _)
      have hrel := castV_rel ks (hview.op _ _ hm this)
      rw [← hxe] at hrel
      refine ⟨a.eval xs.toList[i], ?_, hrel⟩
      simp only [Array.length_toList] at hi
      simp [hi])
  unfold Oper.wp
  simp only [execOp, ho, resolve, h1, Deferred.ofValue, invoke, callFunc, program, hf, hname, hbody, Bool.false_eq_true, if_false, Sem.run_bind, Sem.run_pure, Sem.run, Result.andThen_ok, Array.append_empty, Array.empty_append, Oper.upon]
  refine hcalls.mono fun e w' hq => ?_
  obtain ⟨p, rfl, hE, hnew, hpost⟩ := hq
  have r1 := rg.adopt (of_decide_eq_true hd) (of_decide_eq_true hd6) hfr hcl hE hnew hpost
  rw [hdst]
  exact hK _ _ (h _ _ ⟨_, r1⟩)
end Go.Proofs.Ytohhaibbbnobpaa
