/-
  SHADOWS: functions that write the variable behind one pointer; functions that return a new variable.
-/
import Derived.Test.YtohhaibbbnobpaaSh10
namespace Go.Proofs.Ytohhaibbbnobpaa
open Go.RowKit

def inBox (p : Nat × Nat) (n : Nat) (b o : Nat) : Prop := b = p.1 ∧ p.2 ≤ o ∧ o < p.2 + n
def boxAt (g : Env) (w : World) (rd : Rd) (p : Nat × Nat) (cs : List SC) : Prop :=
  ∀ (j : Nat) (y : SC), cs[j]? = some y → ∃ u, w.cell? ⟨p.1, p.2 + j, none⟩ = some u ∧ w.frozen? ⟨p.1, p.2 + j, none⟩ = false ∧ CRel rd g u y

/-- a part of a variable has been written by someone else -/
theorem RG.upd {K : Ctx} {g : Env} {n : Nat} {a : Act} {w w' : World} {s : St} (h : RG K g n a w s) {d off : Nat} {cs ds : List SC} (hl : look s.hp.boxes d = some cs) (hsz : off + ds.length ≤ cs.length) (hk : Keep w (inBox ((g.pos d).1, (g.pos d).2 + off) ds.length) w')
    (hb : ∀ rd', (rdOf K g s.hp w).le rd' → Sees w rd' w' → boxAt g w' rd' ((g.pos d).1, (g.pos d).2 + off) ds) :
    RG K g n a w' (s.setBox d (over cs off ds)) ∧ (rdOf K g s.hp w).le (rdOf K g (s.setBox d (over cs off ds)).hp w') ∧ Sees w (rdOf K g (s.setBox d (over cs off ds)).hp w') w' := by
  have hex : ∀ b o, Ex g (s.setBox d (over cs off ds)).hp b o → Ex g s.hp b o := by
    rintro b o (⟨e, cs', h1, h2, h3, h4⟩ | k)
    · rw [look_setBox] at h1
      by_cases he : d = e
      · subst he
        rw [if_pos rfl] at h1
        cases h1
        rw [over_length hsz] at h4
        exact .inl ⟨d, cs, hl, h2, h3, h4⟩
      · rw [if_neg he] at h1
        exact .inl ⟨e, cs', h1, h2, h3, h4⟩
    · exact .inr k
  have hmay : ∀ b o, inBox ((g.pos d).1, (g.pos d).2 + off) ds.length b o → Ex g s.hp b o := fun b o k => .inl ⟨d, cs, hl, k.1, by have := k.2.1; simp only at this; omega, by have := k.2.2; simp only at this; omega⟩
  have hle : (rdOf K g s.hp w).le (rdOf K g (s.setBox d (over cs off ds)).hp w') := by
    intro b o v hvv
    unfold rdOf at *
    split at hvv
    · cases hvv
    · rename_i hx
      rw [if_neg (fun k => hx (hex b o k))]
      split at hvv
      · rename_i hb; rw [if_pos hb]; exact hvv
      · rename_i hb
        rw [if_neg hb]
        exact hk.cell hvv (fun k => hx (hmay b o k))
  have hsees : Sees w (rdOf K g (s.setBox d (over cs off ds)).hp w') w' := by
    intro b o u hbb hc
    have := h.hg.sees (w' := w') b o u hbb hc
    unfold rdOf at this ⊢
    split at this
    · cases this
    · rename_i hx
      rw [if_neg (fun k => hx (hex b o k))]
      exact this
  have hbx := hb _ hle hsees
  refine ⟨⟨h.defers, h.size, ⟨?_, ?_, ?_, ?_, ?_, ?_, ?_, h.hg.fix⟩, fun t x hx => let ⟨u, h1, h2⟩ := h.tmps t x hx; ⟨u, h1, h2.mono hle⟩⟩, hle, hsees⟩
  · refine h.hg.keep.trans hk (fun b o hb k => ?_)
    obtain ⟨rfl, k1, k2⟩ := k
    simp only at k1 k2
    have := h.hg.may d cs hl (o - (g.pos d).2) (by omega) hb
    rwa [show (g.pos d).2 + (o - (g.pos d).2) = o by omega] at this
  · intro e cs' hl' j y hy
    rw [look_setBox] at hl'
    by_cases he : d = e
    · subst he
      rw [if_pos rfl] at hl'
      cases hl'
      rw [over_get hsz] at hy
      by_cases hj : off ≤ j ∧ j < off + ds.length
      · rw [if_pos hj] at hy
        obtain ⟨u, h1, h2, h3⟩ := hbx _ y hy
        simp only [show (g.pos d).2 + off + (j - off) = (g.pos d).2 + j by omega] at h1 h2
        exact ⟨u, h1, h2, h3⟩
      · rw [if_neg hj] at hy
        obtain ⟨u, h1, h2, h3⟩ := h.hg.box d cs hl j y hy
        refine ⟨u, hk.cell h1 (fun k => ?_), by rw [hk.frozen (World.block_lt_of_cell? w _ h1)]; exact h2, h3.mono hle⟩
        obtain ⟨_, k1, k2⟩ := k
        simp only at k1 k2
        omega
    · rw [if_neg he] at hl'
      obtain ⟨u, h1, h2, h3⟩ := h.hg.box e cs' hl' j y hy
      refine ⟨u, hk.cell h1 (fun k => ?_), by rw [hk.frozen (World.block_lt_of_cell? w _ h1)]; exact h2, h3.mono hle⟩
      obtain ⟨k0, k1, k2⟩ := k
      simp only at k0 k1 k2
      have hjl := (List.getElem?_eq_some_iff.1 hy).1
      have := h.hg.dis e d cs' cs (Ne.symm he) hl' hl j ((g.pos e).2 + j - (g.pos d).2) hjl (by omega) k0
      omega
  · intro e cs' hl' j hj hb
    rw [look_setBox] at hl'
    by_cases he : d = e
    · subst he
      rw [if_pos rfl] at hl'
      cases hl'
      rw [over_length hsz] at hj
      exact h.hg.may d cs hl j hj hb
    · rw [if_neg he] at hl'
      exact h.hg.may e cs' hl' j hj hb
  · have len : ∀ e cs', look (s.setBox d (over cs off ds)).hp.boxes e = some cs' → ∃ cs0, look s.hp.boxes e = some cs0 ∧ cs0.length = cs'.length := by
      intro e cs' hl'
      rw [look_setBox] at hl'
      by_cases he : d = e
      · subst he
        rw [if_pos rfl] at hl'
        cases hl'
        exact ⟨cs, hl, (over_length hsz).symm⟩
      · rw [if_neg he] at hl'
        exact ⟨cs', hl', rfl⟩
    intro d1 d2 cs1 cs2 hne h1 h2 j j' hj hj'
    obtain ⟨c1, k1, e1⟩ := len d1 cs1 h1
    obtain ⟨c2, k2, e2⟩ := len d2 cs2 h2
    exact h.hg.dis d1 d2 c1 c2 hne k1 k2 j j' (by omega) (by omega)
  · intro t e sz xs ht
    obtain ⟨us, hu⟩ := h.hg.tok t e sz xs ht
    refine ⟨us, ?_⟩
    refine ⟨hu.1, ?_⟩
    rcases hu.2 with hn | ⟨gb, cap, cur, hv, hbb, hgg, rest⟩
    · exact .inl hn
    · refine .inr ⟨gb, cap, cur, hv, hbb, ?_, rest⟩
      have hlt := (Array.getElem?_eq_some_iff.1 hgg).1
      rcases hk.block gb hlt with e | ⟨c, c', e, f, h1, h2, h3, h4⟩
      · rw [e]; exact hgg
      · rw [h2, ← hgg, h1]
        congr 2
        refine Array.ext_getElem? (fun j => h4 j (fun x => ?_))
        have hp : 0 < ds.length := by have := x.2; simp only at this; omega
        exact h.hg.tbox t _ d cs ht hl (by omega) (by rw [hv]; simp only [Value.ownBlock]; rw [x.1])
  · exact h.hg.tdis
  · intro t x e cs' ht hl' hpos
    rw [look_setBox] at hl'
    by_cases he : d = e
    · subst he
      rw [if_pos rfl] at hl'
      cases hl'
      rw [over_length hsz] at hpos
      exact h.hg.tbox t x d cs ht hl hpos
    · rw [if_neg he] at hl'
      exact h.hg.tbox t x e cs' ht hl' hpos

/-- a contract with one variable behind a pointer: it holds cs before and cs' afterwards -/
def Holds1 (P : Program) (f : FuncId) (args : List SV) (cs : List SC) (r : SV) (cs' : List SC) : Prop :=
  ∀ (rd : Rd) (g : Env) (w : World) (us : Array Value), (∀ b o v, rd b o = some v → w.cell? ⟨b, o, none⟩ = some v) → us.size = args.length → (∀ (i : Nat) (x : SV), args[i]? = some x → ∃ u, us[i]? = some u ∧ VRel rd g u x) →
    boxAt g w rd (g.pos 1000000) cs → (∀ b o, inBox (g.pos 1000000) cs.length b o → rd b o = none) →
    Calls P f us w fun e w' => ∃ u, e = .returned u ∧ Keep w (inBox (g.pos 1000000) cs.length) w' ∧ ∀ rd', rd.le rd' → Sees w rd' w' → VRel rd' g u r ∧ boxAt g w' rd' (g.pos 1000000) cs'

def retQ1 (P : Program) (fn : Func) (kss : List (List Nat)) (r : SV) (ks : List Nat) (cs' : List SC) : Exit → St → Prop
  | .normal, s => (∃ xs, resL P s kss fn.results.toList = some xs ∧ resV xs = some r) ∧ (look s.hp.boxes 1000000).map (castL ks) = some cs'
  | .ret, s => (∃ xs, resL P s kss fn.results.toList = some xs ∧ resV xs = some r) ∧ (look s.hp.boxes 1000000).map (castL ks) = some cs'
  | _, _ => False

theorem holds1_of {P : Program} {f : FuncId} {fn : Func} {c : Code} {args : List SV} {cs cs' : List SC} {r : SV} (kss : List (List Nat)) (ks : List Nat) (n : Nat) (hf : P.funcs[f]? = some fn) (hb : fn.body = some c) (hn : fn.ntmps = n) (hl : decide (args.length ≤ n) = true) (hc : r.every SC.closed = true) (hc' : cs'.all SC.closed = true)
    (h : ∀ K, T P K n c { tmps := initT 0 args, hp := ⟨[(1000000, cs)], []⟩ } (retQ1 P fn kss r ks cs')) : Holds1 P f args cs r cs' := by
  intro rd g w us hrd hus hargs hbox hnot
  have hl' := of_decide_eq_true hl
  let K : Ctx := ⟨w, inBox (g.pos 1000000) cs.length, rd, g.pos, fun b o v hv => ⟨hrd b o v hv, fun x => by rw [hnot b o x] at hv; cases hv⟩⟩
  have hlook : ∀ d cs0, look [(1000000, cs)] d = some cs0 → d = 1000000 ∧ cs0 = cs := by
    intro d cs0 hd
    rw [look_cons] at hd
    split at hd
    · rename_i he; cases hd; exact ⟨he.symm, rfl⟩
    · simp [look] at hd
  have hrdle : rd.le (rdOf K g ⟨[(1000000, cs)], []⟩ w) := by
    intro b o v hv
    unfold rdOf
    rw [if_neg, if_pos]
    · exact hv
    · exact World.block_lt_of_cell? w _ (hrd b o v hv)
    · rintro (⟨d, cs0, h1, h2, h3, h4⟩ | ⟨t, e, s, xs, a, c, h1, _⟩)
      · obtain ⟨rfl, rfl⟩ := hlook d cs0 h1
        rw [hnot b o ⟨h2, h3, h4⟩] at hv
        cases hv
      · simp [look] at h1
  have hR : RG K g n { tmps := us ++ Array.replicate (fn.ntmps - us.size) undef, defers := [] } w { tmps := initT 0 args, hp := ⟨[(1000000, cs)], []⟩ } := by
    refine ⟨rfl, by simp; omega, ⟨Keep.refl _ _, ?_, ?_, ?_, ?_, ?_, ?_, fun _ _ => rfl⟩, fun t v hv => ?_⟩
    · intro d cs0 hd j y hy
      obtain ⟨rfl, rfl⟩ := hlook d cs0 hd
      obtain ⟨u, h1, h2, h3⟩ := hbox j y hy
      exact ⟨u, h1, h2, h3.mono hrdle⟩
    · intro d cs0 hd j hj _
      obtain ⟨rfl, rfl⟩ := hlook d cs0 hd
      exact ⟨rfl, by omega, by omega⟩
    · intro d d' cs0 cs1 hne hd hd'
      obtain ⟨rfl, rfl⟩ := hlook d cs0 hd
      obtain ⟨rfl, rfl⟩ := hlook d' cs1 hd'
      exact absurd rfl hne
    · intro t e s xs ht; simp [look] at ht
    · intro t t' x x' _ ht; simp [look] at ht
    · intro t x d cs ht; simp [look] at ht
    · obtain ⟨_, h2⟩ := look_initT args 0 t v hv
      obtain ⟨u, h3, h4⟩ := hargs (t - 0) v h2
      simp only [Nat.sub_zero] at h3
      refine ⟨u, ?_, h4.mono hrdle⟩
      rw [Array.getElem?_append_left (Array.getElem?_eq_some_iff.1 h3).1]
      exact h3
  refine calls_of_wp hf hb (wp_mono (h K _ w ⟨g, hR⟩) fun e a' w' hq => ?_)
  obtain ⟨s', ⟨g', r'⟩, q⟩ := hq
  have fin : ((∃ xs, resL P s' kss fn.results.toList = some xs ∧ resV xs = some r) ∧ (look s'.hp.boxes 1000000).map (castL ks) = some cs') → a'.defers = [] ∧ ∃ v, (results fn a'.tmps).run P w' = .ok v w' ∧ ∃ u, Ending.returned v = .returned u ∧ Keep w (inBox (g.pos 1000000) cs.length) w' ∧ ∀ rd', rd.le rd' → Sees w rd' w' → VRel rd' g u r ∧ boxAt g w' rd' (g.pos 1000000) cs' := by
    rintro ⟨⟨xs, h1, h2⟩, h3⟩
    obtain ⟨u, h4, h5⟩ := run_results r'.view h1 h2
    refine ⟨r'.defers, u, h4, u, rfl, r'.hg.keep, fun rd' hle hs => ?_⟩
    have hle' : (rdOf K g' s'.hp w').le rd' := by
      intro b o v hv
      have hcell := rdOf_le g' s'.hp r'.hg.keep b o v hv
      unfold rdOf at hv
      split at hv
      · cases hv
      · split at hv
        · exact hle b o v hv
        · rename_i hbb
          exact hs b o v (Nat.not_lt.1 hbb) hcell
    refine ⟨VRel.imp (fun v x hx k => closed_rel v x hx k) (h5.mono hle') hc, ?_⟩
    obtain ⟨cs1, h6, h7⟩ := Option.map_eq_some_iff.1 h3
    have hpos : g'.pos 1000000 = g.pos 1000000 := r'.hg.fix 1000000 (Nat.le_refl _)
    intro j y hy
    rw [← h7] at hy
    obtain ⟨k, x, hx, rfl⟩ := castL_get ks cs1 j y hy
    obtain ⟨v, k1, k2, k3⟩ := r'.hg.box 1000000 cs1 h6 j x hx
    rw [hpos] at k1 k2
    refine ⟨v, k1, k2, closed_rel v _ ?_ (cast1_rel k (k3.mono hle'))⟩
    rw [← h7] at hc'
    exact List.all_eq_true.1 hc' _ (List.mem_of_getElem? hy)
  cases e <;> simp only [retQ1] at q <;> simp only [bodyPost]
  case normal => exact fin q
  case ret => exact fin q

/-! ### the call -/
def ren1 (d off : Nat) : SC → SC
  | .box e o => if e = 1000000 then .box d (off + o) else .box e o
  | x => x
def renV (d off : Nat) : SV → SV
  | .c x => .c (ren1 d off x)
  | x => x
def SC.okP : SC → Bool
  | .box e _ => e == 1000000
  | x => x.closed
def SV.okP : SV → Bool
  | .c x => x.okP
  | x => x.every SC.closed
theorem ren_rel {rd : Rd} {g : Env} {u : Value} {x : SV} {d off : Nat} (hx : x.okP = true) (h : VRel rd g u (renV d off x)) : VRel rd (g.setPos 1000000 ((g.pos d).1, (g.pos d).2 + off)) u x := by
  cases x with
  | c x =>
    cases x with
    | box e o =>
      have he : e = 1000000 := by simpa [SV.okP, SC.okP] using hx
      subst he
      simp only [renV, ren1, if_true, VRel, CRel] at h
      simp only [VRel, CRel, Env.setPos, if_true]
      rw [h, Nat.add_assoc]
    | lit v => exact closed_rel (g := g) (g' := g.setPos 1000000 ((g.pos d).1, (g.pos d).2 + off)) u (.lit v) (by simpa [SV.okP, SC.okP] using hx) h
    | slc s t xs => exact closed_rel (g := g) (g' := g.setPos 1000000 ((g.pos d).1, (g.pos d).2 + off)) u (.slc s t xs) (by simpa [SV.okP, SC.okP] using hx) h
    | ref cs => exact closed_rel (g := g) (g' := g.setPos 1000000 ((g.pos d).1, (g.pos d).2 + off)) u (.ref cs) (by simpa [SV.okP, SC.okP] using hx) h
    | bsl a b c d e => simp [SV.okP, SC.okP, SC.closed] at hx
  | agg cs => exact VRel.imp (fun v x hx k => closed_rel v x hx k) h hx
  | tup vs => exact VRel.imp (fun v x hx k => closed_rel v x hx k) h hx

theorem TL_call1 {P : Program} {K : Ctx} {n : Nat} {ops : Array Oper} {l : List Oper} {o : Oper} {s : St} {Q : Exit → St → Prop} {fo : Operand} {xs : Array Operand} {ts : Array TypeId} (f : FuncId) (fn : Func) (kss : List (List Nat)) (args : List SV) (d off : Nat) (csD cs cs' : List SC) (r : SV) (hgd : guardOf ops o s = some true) (hd : dstOk n o = true)
    (ho : o.op = .call { callee := .value fo, args := xs, argTypes := ts }) (hfo : opd s fo = some (.c (.lit (.func (.func f) #[] #[]))))
    (hf : P.funcs[f]? = some fn) (hname : (fn.name == "runtime.NumGoroutine") = false) (hbody : fn.body.isNone = false) (hv' : (argsS s xs.toList).map (castArgs kss) = some (args.map (renV d off))) (hok : args.all SV.okP = true)
    (hl : look s.hp.boxes d = some csD) (hcs : (csD.drop off).take cs.length = cs) (hlen : cs'.length = cs.length) (hsz : decide (off + cs.length ≤ csD.length) = true) (hcl : cs.all SC.closed = true) (hcl' : cs'.all SC.closed = true) (hr : r.every SC.closed = true) (hp : Holds1 P f args cs r cs')
    (h : TL P K n ops l ((s.setBox d (over csD off cs')).put o.dst r) Q) : TL P K n ops (o :: l) s Q := by
  refine TL_step hgd fun g a w rg K' hK => ?_
  obtain ⟨vs, hv, hargs⟩ := Option.map_eq_some_iff.1 hv'
  have hview := rg.view.o o
  have hsz' := of_decide_eq_true hsz
  have h1 := rel_lit (hview.op fo _ (by simp [ho, Op.operands, Call.operands]) hfo)
  obtain ⟨hll, hget⟩ := argsS_spec _ _ hv
  have hbox : boxAt (g.setPos 1000000 ((g.pos d).1, (g.pos d).2 + off)) w (rdOf K g s.hp w) ((g.pos d).1, (g.pos d).2 + off) cs := by
    intro j y hy
    have hy' := hy
    rw [← hcs, List.getElem?_take] at hy'
    split at hy'
    · rw [List.getElem?_drop] at hy'
      obtain ⟨u, k1, k2, k3⟩ := rg.hg.box d csD hl _ y hy'
      simp only [Nat.add_assoc]
      exact ⟨u, k1, k2, closed_rel u y (List.all_eq_true.1 hcl y (List.mem_of_getElem? hy)) k3⟩
    · cases hy'
  have hcalls := hp (rdOf K g s.hp w) (g.setPos 1000000 ((g.pos d).1, (g.pos d).2 + off)) w (xs.map a.eval) hview.reads
    (by have := congrArg List.length hargs; rw [castArgs_length] at this; rw [Array.size_map, ← Array.length_toList, hll, this, List.length_map])
    (fun i y hy => by
      have hy2 : (args.map (renV d off))[i]? = some (renV d off y) := by rw [List.getElem?_map, hy]; rfl
      rw [← hargs] at hy2
      obtain ⟨ks, x, hx, hxe⟩ := castArgs_get kss vs i _ hy2
      have hi : i < xs.toList.length := by rw [hll]; exact (List.getElem?_eq_some_iff.1 hx).1
      have := hget i xs.toList[i] x (List.getElem?_eq_getElem hi) hx
      have hm : xs.toList[i] ∈ o.op.operands.toList := by
        rw [ho]
        simp only [Op.operands, Call.operands, Array.toList_append]
        exact List.mem_append_right _ (List.getElem_mem _)
      have hrel := castV_rel ks (hview.op _ _ hm this)
      rw [← hxe] at hrel
      refine ⟨a.eval xs.toList[i], ?_, ren_rel (List.all_eq_true.1 hok y (List.mem_of_getElem? hy)) hrel⟩
      simp only [Array.length_toList] at hi
      simp [hi])
    (by simp only [Env.setPos, if_true]; exact hbox)
    (fun b o' hin => by
      simp only [Env.setPos, if_true] at hin
      unfold rdOf
      rw [if_pos]
      exact .inl ⟨d, csD, hl, hin.1, by have := hin.2.1; simp only at this; omega, by have := hin.2.2; simp only at this; omega⟩)
  unfold Oper.wp
  simp only [execOp, ho, resolve, h1, Deferred.ofValue, invoke, callFunc, program, hf, hname, hbody, Bool.false_eq_true, if_false, Sem.run_bind, Sem.run_pure, Sem.run, Result.andThen_ok, Array.append_empty, Array.empty_append, Oper.upon]
  refine hcalls.mono fun e w' hq => ?_
  obtain ⟨u, rfl, hkeep, hpost⟩ := hq
  simp only [Env.setPos, if_true] at hkeep hpost
  rw [← hlen] at hkeep
  obtain ⟨r1, hle, hsees⟩ := rg.upd (d := d) (off := off) (cs := csD) (ds := cs') hl (by omega) hkeep (fun rd' k1 k2 => by
    intro j y hy
    obtain ⟨v, q1, q2, q3⟩ := (hpost rd' k1 k2).2 j y hy
    exact ⟨v, q1, q2, closed_rel v y (List.all_eq_true.1 hcl' y (List.mem_of_getElem? hy)) q3⟩)
  have hu := VRel.imp (g' := g) (fun v x hx k => closed_rel v x hx k) (hpost _ hle hsees).1 hr
  exact hK _ _ (h _ _ ⟨g, r1.put o.dst (dstOk_spec hd) hu⟩)
end Go.Proofs.Ytohhaibbbnobpaa
