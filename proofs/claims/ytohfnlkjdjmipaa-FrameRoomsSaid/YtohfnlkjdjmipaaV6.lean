/-
  SHADOWS, second make: calls.
-/
import Derived.Test.YtohfnlkjdjmipaaV5
namespace Go.Proofs.Ytohfnlkjdjmipaa
open Go.RowKit

/-! ### functions that only compute -/
theorem infoot_nil {g : Env} {b o : Nat} (h : InFoot g [] b o) : False := by obtain ⟨d, r, h1, _⟩ := h; simp [look] at h1
theorem grow_con {P : Program} {o : Oper} {s : St} {r : SV} {f : FuncId} {vs args : List SV} (kss : List (List Nat)) (hc : calleeOf s o = some (f, vs)) (hb : hasBody P f = true) (hargs : castArgs kss vs = args) (hr : r.every SC.closed = true) (hp : Con P f args [] r []) : GrowOp P o s r := by
  intro g rd a w hview
  obtain ⟨us, h1, h2, h3⟩ := callee_spec hc hb hview
  have hcalls := hp rd g w us hview.reads (by rw [← hargs, castArgs_length]; exact h1) (fun i y hy => by
    rw [← hargs] at hy
    obtain ⟨ks, x, hx, rfl⟩ := castArgs_get kss vs i y hy
    obtain ⟨u, q1, q2⟩ := h2 i x hx
    exact ⟨u, q1, castV_rel ks q2⟩) (fun d x hx => by simp [look] at hx) (fun d d' x x' b o _ hx => by simp [look] at hx) (fun b o hx => (infoot_nil hx).elim)
  unfold mSafe
  rw [h3]
  refine hcalls.mono fun e w' hq => ?_
  obtain ⟨u, g', rfl, hk, _, _, _, _, hpost⟩ := hq
  refine ⟨u, rfl, (hk.weak (fun b o x => (infoot_nil x))).ext, fun rd' hle hs => ?_⟩
  exact ((hpost rd' hle (fun b o u h1 _ h2 => hs b o u (h1.elim id fun x => (infoot_nil x).elim) h2)).1).imp1 (fun v x hx k => closed_rel v x hx k) hr

/-! ### functions that write the variable behind a pointer, and leave new resources -/
def ren1 (d off : Nat) : SC → SC
  | .box e o => if e = 1000000 then .box d (off + o) else .box e o
  | x => x
def renV (d off : Nat) : SV → SV
  | .c x => .c (ren1 d off x)
  | x => x
def SC.okP : SC → Bool
  | .box e _ => e == 1000000
  | x => x.closed
def SV.okP : SV → Bool
  | .c x => x.okP
  | x => x.every SC.closed
theorem ren_rel {rd : Rd} {g : Env} {u : Value} {x : SV} {d off : Nat} (hx : x.okP = true) (h : VRel rd g u (renV d off x)) : VRel rd (g.setPos 1000000 ((g.pos d).1, (g.pos d).2 + off)) u x := by
  cases x with
  | c x =>
    cases x with
    | box e o =>
      have he : e = 1000000 := by simpa [SV.okP, SC.okP] using hx
      subst he
      simp only [renV, ren1, if_true, VRel, CRel, CRel0] at h
      simp only [VRel, CRel, CRel0, Env.setPos, if_true]
      rw [h, Nat.add_assoc]
    | lit v => exact closed_rel (g := g) (g' := g.setPos 1000000 ((g.pos d).1, (g.pos d).2 + off)) u (.lit v) hx h
    | slc a b c e => exact closed_rel (rd := rd) (g := g) (g' := g.setPos 1000000 ((g.pos d).1, (g.pos d).2 + off)) u (.slc a b c e) hx h
    | ref a => exact closed_rel (g := g) (g' := g.setPos 1000000 ((g.pos d).1, (g.pos d).2 + off)) u (.ref a) hx h
    | own a => exact closed_rel (rd := rd) (g := g) (g' := g.setPos 1000000 ((g.pos d).1, (g.pos d).2 + off)) u (.own a) hx h
    | row a b => exact closed_rel (rd := rd) (g := g) (g' := g.setPos 1000000 ((g.pos d).1, (g.pos d).2 + off)) u (.row a b) hx h
    | win a b c => exact closed_rel (rd := rd) (g := g) (g' := g.setPos 1000000 ((g.pos d).1, (g.pos d).2 + off)) u (.win a b c) hx h
    | sub a b c e => exact closed_rel (rd := rd) (g := g) (g' := g.setPos 1000000 ((g.pos d).1, (g.pos d).2 + off)) u (.sub a b c e) hx h
    | elt a b c e => exact closed_rel (rd := rd) (g := g) (g' := g.setPos 1000000 ((g.pos d).1, (g.pos d).2 + off)) u (.elt a b c e) hx h
    | any => trivial
    | clo a b => exact closed_rel (rd := rd) (g := g) (g' := g.setPos 1000000 ((g.pos d).1, (g.pos d).2 + off)) u (.clo a b) hx h
  | agg cs => exact h.imp1 (fun v x hx k => closed_rel v x hx k) hx
  | tup vs => exact h.imp1 (fun v x hx k => closed_rel v x hx k) hx

/-- new resources: (the caller's name, the callee's name) -/
def backL (news : List (Nat × Nat)) (e : Nat) : Nat := match news.find? (fun p => p.2 == e) with
  | some p => p.1
  | none => e
def newsHp (h' : Hp) (ρ : Nat → Nat) : List (Nat × Nat) → Hp → Hp
  | [], hp => hp
  | (d, e) :: l, hp => match look h' e with
    | some x => (d, x.map (SC.ren ρ)) :: newsHp h' ρ l hp
    | none => newsHp h' ρ l hp
theorem look_news (h' : Hp) (ρ : Nat → Nat) (hp : Hp) (d : Nat) : ∀ (news : List (Nat × Nat)), (news.all fun p => (look h' p.2).isSome) = true → look (newsHp h' ρ news hp) d = match look news d with
    | some e => (look h' e).map (Res.map (SC.ren ρ))
    | none => look hp d
  | [], _ => rfl
  | (d0, e) :: l, hall => by
    simp only [List.all_cons, Bool.and_eq_true] at hall
    obtain ⟨x, hx⟩ := Option.isSome_iff_exists.1 hall.1
    simp only [newsHp, hx, look_cons]
    split
    · simp [hx]
    · exact look_news h' ρ hp d l hall.2
def Env.news (g g' : Env) (news : List (Nat × Nat)) : Env where
  pos := fun d => match look news d with
    | some e => g'.pos e
    | none => g.pos d
  tk := fun d => match look news d with
    | some e => g'.tk e
    | none => g.tk d
theorem Holds.ren {rd rd' : Rd} (hle : rd.le rd') {g g' : Env} {w : World} {d : Nat} {r : Res} (f : Nat → Nat) (p : Nat → Bool) (hp : ∀ d, p d = true → g'.pos (f d) = g.pos d ∧ g'.tk (f d) = g.tk d) (hd : p d = true) (hr : r.every (SC.say p) = true) (h : Holds rd g w d r) : Holds rd' g' w (f d) (r.map (SC.ren f)) := by
  cases r with
  | box cs =>
    intro j y hy
    rw [List.getElem?_map] at hy
    obtain ⟨y0, hy0, rfl⟩ := Option.map_eq_some_iff.1 hy
    obtain ⟨u, h1, h2, h3⟩ := h j y0 hy0
    rw [(hp d hd).1]
    exact ⟨u, h1, h2, h3.ren hle f p hp (List.all_eq_true.1 hr y0 (List.mem_of_getElem? hy0))⟩
  | row e s n xs => simp only [Res.map, Holds, (hp d hd).2]; exact (Holds.mono hle h)
  | spare e s n => simp only [Res.map, Holds, (hp d hd).2]; exact h

/-- the places that may be named by what the callee leaves -/
def okN (news : List (Nat × Nat)) (e : Nat) : Bool := look news (backL news e) == some e
def newsOk (s : St) (h' : Hp) (r : SV) (news : List (Nat × Nat)) (ex : Option Nat) : Bool :=
  (news.all fun p => (look h' p.2).isSome && decide (p.1 < 1000000) && decide (backL news p.2 = p.1) && decide (look news p.1 = some p.2) && (look s.hp p.1).isNone && decide (p.2 < 1000000)) &&
  (s.tmps.all fun q => some q.1 == ex || q.2.every (SC.say fun d => (look news d).isNone)) && (s.hp.all fun q => q.2.every (SC.say fun d => (look news d).isNone)) &&
  r.every (SC.say (okN news)) && (h'.all fun q => q.1 == 1000000 || q.2.every (SC.say (okN news)))

section
variable {P : Program} {K : Ctx} {n : Nat} {ops : Array Oper} {l : List Oper} {o : Oper} {s s' : St} {g : Env} {a : Act} {w : World}

def argsFor : Option (Nat × Nat) → List SV → List SV
  | some (d, off), args => args.map (renV d off)
  | none, args => args
def okFor : Option (Nat × Nat) → SV → Bool
  | some _, v => v.okP
  | none, v => v.every SC.closed
def PdOk (s : St) (h h' : Hp) (news : List (Nat × Nat)) : Option (Nat × Nat) → Prop
  | some (d, off) => ∃ csD cs cs', look s.hp d = some (.box csD) ∧ h = [(1000000, .box cs)] ∧ look h' 1000000 = some (.box cs') ∧ cs.all SC.closed = true ∧ cs'.all SC.closed = true ∧ (csD.drop off).take cs.length = cs ∧ cs'.length = cs.length ∧ off + cs.length ≤ csD.length ∧ look news d = none
  | none => h = []
def hpAfter (s : St) (h' : Hp) : Option (Nat × Nat) → Hp
  | some (d, off) => match look h' 1000000, look s.hp d with
    | some (.box cs'), some (.box cs) => setL d (.box (over cs off cs')) s.hp
    | _, _ => s.hp
  | none => s.hp
/-- the state afterwards -/
def St.after (s : St) (h' : Hp) (r : SV) (news : List (Nat × Nat)) (pd : Option (Nat × Nat)) (dst : Option Tmp) : St :=
  St.put { s with hp := newsHp h' (backL news) news (hpAfter s h' pd) } dst (r.map (SC.ren (backL news)))

theorem S_conL {f : FuncId} {vs args : List SV} {h' : Hp} {r : SV} {h : Hp} (kss : List (List Nat)) (news : List (Nat × Nat)) (pd : Option (Nat × Nat)) (hgd : guardOf ops o s = some true) (hd : dstOk n o = true) (hc : calleeOf s o = some (f, vs)) (hb : hasBody P f = true)
    (hargs : castArgs kss vs = argsFor pd args) (hok : args.all (okFor pd) = true) (hpd : PdOk s h h' news pd)
    (hn1 : ∀ p ∈ news, ((((((look h' p.2).isSome = true ∧ decide (p.1 < 1000000) = true) ∧ decide (backL news p.2 = p.1) = true) ∧ decide (look news p.1 = some p.2) = true) ∧ (look s.hp p.1).isNone = true) ∧ decide (p.2 < 1000000) = true)) (hn2 : ∀ t v, look s.tmps t = some v → (some t == o.dst || v.every (SC.say fun d => (look news d).isNone)) = true) (hn3 : ∀ d r, look s.hp d = some r → r.every (SC.say fun d => (look news d).isNone) = true) (hn4 : r.every (SC.say (okN news)) = true) (hn5 : ∀ q ∈ h', (q.1 == 1000000 || q.2.every (SC.say (okN news))) = true) (hp : Con P f args h r h') : Stp P K n ops o s (s.after h' r news pd o.dst) := by
  have hall : (news.all fun p => (look h' p.2).isSome) = true := List.all_eq_true.2 (fun p hp => (hn1 p hp).1.1.1.1.1)
  have nw : ∀ d e, look news d = some e → d < 1000000 ∧ backL news e = d ∧ look s.hp d = none ∧ e < 1000000 := by
    intro d e hde
    have hm := hn1 _ (look_mem hde)
    exact ⟨of_decide_eq_true hm.1.1.1.1.2, of_decide_eq_true hm.1.1.1.2, by simpa using hm.1.2, of_decide_eq_true hm.2⟩
  refine Stp_mk hgd fun g a w rg K' Q hK => ?_
  have hview := rg.view.o o
  obtain ⟨us, h1, h2, h3⟩ := callee_spec hc hb hview
  -- the callee's environment at the start
  obtain ⟨gc, hgc1, hgc2, hgc3, hgc4, hgc5⟩ : ∃ gc : Env, (∀ (i : Nat) (y : SV), args[i]? = some y → ∃ u, us[i]? = some u ∧ VRel (rdOf K g s.hp w) gc u y) ∧ (∀ d x, look h d = some x → Holds (rdOf K g s.hp w) gc w d x) ∧ Dis gc h ∧ (∀ b o, InFoot gc h b o → rdOf K g s.hp w b o = none) ∧
      (match pd with | some (d, off) => ∀ cs', look h' 1000000 = some (.box cs') → (∀ b o, InFoot gc h b o ↔ b = (g.pos d).1 ∧ (g.pos d).2 + off ≤ o ∧ o < (g.pos d).2 + off + cs'.length) ∧ gc.pos 1000000 = ((g.pos d).1, (g.pos d).2 + off) | none => ∀ b o, ¬ InFoot gc h b o) := by
    cases pd with
    | none =>
      simp only [PdOk] at hpd
      subst hpd
      refine ⟨g, fun i y hy => ?_, fun d x hx => by simp [look] at hx, fun d d' x x' b o _ hx => by simp [look] at hx, fun b o hx => (infoot_nil hx).elim, fun b o hx => infoot_nil hx⟩
      simp only [argsFor] at hargs
      rw [← hargs] at hy
      obtain ⟨ks, x, hx, rfl⟩ := castArgs_get kss vs i y hy
      obtain ⟨u, q1, q2⟩ := h2 i x hx
      exact ⟨u, q1, castV_rel ks q2⟩
    | some p =>
      obtain ⟨d, off⟩ := p
      obtain ⟨csD, cs, cs', hl, rfl, hl', hcl, hcl', hcs, hlen, hsz, _⟩ := hpd
      have hlook : ∀ e x, look [(1000000, Res.box cs)] e = some x → e = 1000000 ∧ x = .box cs := by
        intro e x he
        rw [look_cons] at he
        split at he
        · rename_i hq; cases he; exact ⟨hq.symm, rfl⟩
        · simp [look] at he
      have hpos : (g.setPos 1000000 ((g.pos d).1, (g.pos d).2 + off)).pos 1000000 = ((g.pos d).1, (g.pos d).2 + off) := by simp [Env.setPos]
      refine ⟨g.setPos 1000000 ((g.pos d).1, (g.pos d).2 + off), fun i y hy => ?_, fun e x he => ?_, ?_, ?_, ?_⟩
      · have hy2 : (args.map (renV d off))[i]? = some (renV d off y) := by rw [List.getElem?_map, hy]; rfl
        simp only [argsFor] at hargs
        rw [← hargs] at hy2
        obtain ⟨ks, x, hx, hxe⟩ := castArgs_get kss vs i _ hy2
        obtain ⟨u, q1, q2⟩ := h2 i x hx
        have hrel := castV_rel ks q2
        rw [← hxe] at hrel
        exact ⟨u, q1, ren_rel (List.all_eq_true.1 hok y (List.mem_of_getElem? hy)) hrel⟩
      · obtain ⟨rfl, rfl⟩ := hlook e x he
        intro j y hy
        rw [hpos]
        have hy' := hy
        rw [← hcs, List.getElem?_take] at hy'
        split at hy'
        · rw [List.getElem?_drop] at hy'
          obtain ⟨u, k1, k2, k3⟩ := rg.hg.holds d _ hl _ y hy'
          simp only [Nat.add_assoc]
          exact ⟨u, k1, k2, closed_rel u y (List.all_eq_true.1 hcl y (List.mem_of_getElem? hy)) k3⟩
        · cases hy'
      · intro e e' x x' b o' hne he he'
        obtain ⟨rfl, _⟩ := hlook e x he
        obtain ⟨rfl, _⟩ := hlook e' x' he'
        exact absurd rfl hne
      · rintro b o' ⟨e, x, he, hf⟩
        obtain ⟨rfl, rfl⟩ := hlook e x he
        simp only [Foot, hpos] at hf
        exact rdOf_none ⟨d, _, hl, hf.1, by omega, by omega⟩
      · intro cs'' hl''
        rw [hl'] at hl''; cases hl''
        refine ⟨fun b o' => ⟨?_, fun hf => ⟨1000000, _, rfl, ?_⟩⟩, hpos⟩
        · rintro ⟨e, x, he, hf⟩
          obtain ⟨rfl, rfl⟩ := hlook e x he
          simp only [Foot, hpos] at hf
          rw [hlen]; exact hf
        · simp only [Foot, hpos]; rw [← hlen]; exact hf
  have hcalls := hp (rdOf K g s.hp w) gc w us hview.reads (by
    rw [h1]
    have := congrArg List.length hargs
    rw [castArgs_length] at this
    rw [this]
    cases pd <;> simp [argsFor]) hgc1 hgc2 hgc3 hgc4
  unfold Oper.wp
  rw [h3]
  simp only [Oper.upon]
  refine hcalls.mono fun e w' hq => ?_
  obtain ⟨u, g', rfl, hkeep, hpos', hin, hdis', hnewr, hpost⟩ := hq
  simp only
  -- afterwards
  let g2 := g.news g' news
  let hp1 : Hp := hpAfter s h' pd
  let hp2 := newsHp h' (backL news) news hp1
  have lk2 : ∀ d, look hp2 d = match look news d with
    | some e => (look h' e).map (Res.map (SC.ren (backL news)))
    | none => look hp1 d := fun d => look_news h' _ hp1 d news hall
  have hren : ∀ e, okN news e = true → g2.pos (backL news e) = g'.pos e ∧ g2.tk (backL news e) = g'.tk e := by
    intro e he
    simp only [okN, beq_iff_eq] at he
    simp only [g2, Env.news, he, and_self]
  have hok2 : ∀ d e, look news d = some e → okN news e = true := by
    intro d e hde
    simp only [okN, beq_iff_eq, (nw d e hde).2.1, hde]
  let p : Nat → Bool := fun d => (look news d).isNone
  have hp0 : ∀ d, p d = true → g2.pos d = g.pos d ∧ g2.tk d = g.tk d := by
    intro d hd'
    simp only [p, Option.isNone_iff_eq_none] at hd'
    simp only [g2, Env.news, hd', and_self]
  let t : Nat → Bool := fun d => (look news d).isSome || (match pd with | some (d0, _) => d == d0 | none => false)
  have ht0 : ∀ d, t d = false → look news d = none := by
    intro d hd'
    simp only [t, Bool.or_eq_false_iff] at hd'
    simpa using hd'.1
  -- what is not new
  have lk1 : ∀ d, t d = false → look hp1 d = look s.hp d := by
    intro d hd'
    simp only [t, Bool.or_eq_false_iff] at hd'
    cases pd with
    | none => rfl
    | some q =>
      obtain ⟨d0, off⟩ := q
      simp only [hp1, hpAfter]
      split
      · rw [look_setL, if_neg (fun e => by subst e; simp at hd')]
      · rfl
  have hkp : ∀ b o', InFoot gc h b o' → ∃ d r, t d = true ∧ look s.hp d = some r ∧ Foot g d r b o' := by
    intro b o' hx
    cases pd with
    | none => exact absurd hx (hgc5 b o')
    | some q =>
      obtain ⟨d0, off⟩ := q
      obtain ⟨csD, cs, cs', hl, _, hl', _, _, _, hlen, hsz, _⟩ := hpd
      have := ((hgc5 cs' hl').1 b o').1 hx
      exact ⟨d0, _, by simp [t], hl, this.1, by omega, by omega⟩
  have hk2 : Keep w (fun b o => ∃ d r, t d = true ∧ look s.hp d = some r ∧ Foot g d r b o) w' := hkeep.weak hkp
  -- the footprint of what is touched
  have hfn : ∀ d e x, look news d = some e → Foot g2 d (Res.map (SC.ren (backL news)) x) = Foot g' e x := by
    intro d e x hde
    rw [foot_map]
    have := hren e (hok2 d e hde)
    rw [(nw d e hde).2.1] at this
    funext b o'
    cases x <;> simp only [Foot, this.1, this.2]
  have hcase : ∀ d r, t d = true → look hp2 d = some r → (∃ e x, look news d = some e ∧ look h' e = some x ∧ r = x.map (SC.ren (backL news))) ∨ (∃ off csD cs', pd = some (d, off) ∧ look news d = none ∧ look s.hp d = some (.box csD) ∧ look h' 1000000 = some (.box cs') ∧ r = .box (over csD off cs') ∧ off + cs'.length ≤ csD.length) := by
    intro d r hd' hr
    rw [lk2] at hr
    cases hnd : look news d with
    | some e =>
      rw [hnd] at hr
      obtain ⟨x, hx, rfl⟩ := Option.map_eq_some_iff.1 hr
      exact .inl ⟨e, x, rfl, hx, rfl⟩
    | none =>
      rw [hnd] at hr
      right
      simp only [t, hnd, Option.isSome_none, Bool.false_or] at hd'
      cases pd with
      | none => cases hd'
      | some q =>
        obtain ⟨d0, off⟩ := q
        have : d = d0 := by simpa using hd'
        subst this
        obtain ⟨csD, cs, cs', hl, _, hl', _, _, _, hlen, hsz, _⟩ := hpd
        simp only [hp1, hpAfter, hl', hl, look_setL, if_true] at hr
        cases hr
        exact ⟨off, csD, cs', rfl, rfl, hl, hl', rfl, by omega⟩
  have hf2 : ∀ d r b o, t d = true → look hp2 d = some r → Foot g2 d r b o → (∃ e r0, t e = true ∧ look s.hp e = some r0 ∧ Foot g e r0 b o) ∨ w.heap.size ≤ b := by
    intro d r b o' hd' hr hfo
    rcases hcase d r hd' hr with ⟨e, x, h4, h5, rfl⟩ | ⟨off, csD, cs', h4, h5, h6, h7, rfl, h8⟩
    · rw [hfn d e x h4] at hfo
      rcases hin b o' ⟨e, x, h5, hfo⟩ with h6 | h6
      · exact .inl (hkp b o' h6)
      · exact .inr h6
    · refine .inl ⟨d, _, hd', h6, ?_⟩
      simp only [Foot, over_length h8, (hp0 d (by simp [p, h5])).1] at hfo
      exact hfo
  have hl2 : ∀ d r', t d = false → look hp2 d = some r' → look s.hp d = some r' := by
    intro d r' hd' hr
    rw [lk2, ht0 d hd'] at hr
    rw [← lk1 d hd']
    exact hr
  have he2 : ∀ d r, t d = false → look s.hp d = some r → g2.pos d = g.pos d ∧ g2.tk d = g.tk d := fun d r hd' _ => hp0 d (by simp [p, ht0 d hd'])
  have hle := rd_step (K := K) (g := g) (g' := g2) (w := w) (w' := w') (h := s.hp) (h' := hp2) rg.hg t he2 (fun d r' h4 h5 => ⟨r', fun y => y, hl2 d r' h4 h5, r'.map_id.symm⟩) hk2 hf2
  have hsees : SeesX w (InFoot gc h) (rdOf K g2 hp2 w') w' (InFoot g' h') := by
    intro b o' u' hb0 hx hcell
    have hb' : w.heap.size ≤ b := by
      rcases hb0 with h4 | h4
      · exact h4
      · exfalso
        cases pd with
        | none => exact hgc5 b o' h4
        | some q =>
          obtain ⟨d0, off⟩ := q
          obtain ⟨csD, cs, cs', hl, _, hl', _, _, _, hlen, hsz, _⟩ := hpd
          have h5 := hgc5 cs' hl'
          have h6 := (h5.1 b o').1 h4
          refine hx ⟨1000000, _, hl', ?_⟩
          simp only [Foot, hpos' 1000000 cs' (Nat.le_refl _) hl', h5.2]
          exact h6
    refine rdOf_sees (g' := g2) (h' := hp2) rg.hg (may := fun _ _ => False) (fun _ _ h => h.elim) b o' u' (.inl hb') ?_ hcell
    rintro ⟨d, r0, q1, q2⟩
    cases hd' : t d with
    | false =>
      have q3 := hl2 d r0 hd' q1
      rw [foot_env (he2 d r0 hd' q3)] at q2
      have := (rg.hg.holds d r0 q3).lt q2
      omega
    | true =>
      rcases hcase d r0 hd' q1 with ⟨e, x, h4, h5, rfl⟩ | ⟨off, csD, cs', h4, h5, h6, h7, rfl, h8⟩
      · rw [hfn d e x h4] at q2
        exact hx ⟨e, x, h5, q2⟩
      · simp only [Foot, over_length h8, (hp0 d (by simp [p, h5])).1] at q2
        have := (rg.hg.holds d _ h6).lt (b := b) (o := o') q2
        omega
  obtain ⟨hres, hhold⟩ := hpost _ hle hsees
  have hHG : HG K g2 w' hp2 := by
    refine rg.hg.step (g' := g2) (w' := w') (h' := hp2) t (fun y => y) (SC.say p) he2 (fun d r' h4 h5 => ⟨r', hl2 d r' h4 h5, r'.map_id.symm, hn3 _ _ (hl2 d r' h4 h5)⟩) hk2 hf2 ?_ (fun u' x hx hcr => hcr.env hle p hp0 hx) ?_ ?_ ?_
    · -- touched names lie apart
      have mixed : ∀ d d' r r' b o', (∃ e x, look news d = some e ∧ look h' e = some x ∧ r = x.map (SC.ren (backL news))) → (∃ off csD cs', pd = some (d', off) ∧ look news d' = none ∧ look s.hp d' = some (.box csD) ∧ look h' 1000000 = some (.box cs') ∧ r' = .box (over csD off cs') ∧ off + cs'.length ≤ csD.length) → Foot g2 d r b o' → ¬ Foot g2 d' r' b o' := by
        rintro d d' r r' b o' ⟨e, x, h4, h5, rfl⟩ ⟨off, csD, cs', h6, h7, h8, h9, rfl, h10⟩ hfo hfo'
        rw [hfn d e x h4] at hfo
        simp only [Foot, over_length h10, (hp0 d' (by simp [p, h7])).1] at hfo'
        subst h6
        have hg5 := hgc5 cs' h9
        have hwin : InFoot gc h b o' := by
          rcases hin b o' ⟨e, x, h5, hfo⟩ with h11 | h11
          · exact h11
          · have := (rg.hg.holds d' _ h8).lt (b := b) (o := o') hfo'
            omega
        have h12 := (hg5.1 b o').1 hwin
        have h13 := hpos' 1000000 cs' (Nat.le_refl _) h9
        refine hdis' 1000000 e _ x b o' ?_ h9 h5 ?_ hfo
        · have := (nw d e h4).2.2.2; omega
        · simp only [Foot, h13, hg5.2]
          exact h12
      intro d d' r r' b o' hd' hd'' hne hr hr' hfo hfo'
      rcases hcase d r hd' hr with h4 | h4
      · rcases hcase d' r' hd'' hr' with h5 | h5
        · obtain ⟨e, x, h6, h7, rfl⟩ := h4
          obtain ⟨e', x', h8, h9, rfl⟩ := h5
          rw [hfn d e x h6] at hfo
          rw [hfn d' e' x' h8] at hfo'
          refine hdis' e e' x x' b o' (fun hee => hne ?_) h7 h9 hfo hfo'
          rw [← (nw d e h6).2.1, ← (nw d' e' h8).2.1, hee]
        · exact mixed d d' r r' b o' h4 h5 hfo hfo'
      · rcases hcase d' r' hd'' hr' with h5 | h5
        · exact mixed d' d r' r b o' h5 h4 hfo' hfo
        · obtain ⟨off, csD, cs', h6, _⟩ := h4
          obtain ⟨off', csD', cs'', h7, _⟩ := h5
          rw [h6] at h7
          cases h7
          exact hne rfl
    · intro d r0 hd' hr
      rcases hcase d r0 hd' hr with ⟨e, x, h4, h5, rfl⟩ | ⟨off, csD, cs', h4, h5, h6, h7, rfl, h8⟩
      · have := (hhold e x h5).ren (Rd.le.refl _) (backL news) (okN news) hren (hok2 d e h4) (by
          have := hn5 _ (look_mem h5)
          simp only [Bool.or_eq_true, beq_iff_eq] at this
          rcases this with h9 | h9
          · have := (nw d e h4).2.2.2; omega
          · exact h9)
        rw [(nw d e h4).2.1] at this
        exact this
      · have hpd0 := hp0 d (by simp [p, h5])
        subst h4
        obtain ⟨csD', cs, cs'', hl, _, hl', _, hcl', _, hlen, hsz, _⟩ := hpd
        rw [h6] at hl; cases hl
        rw [h7] at hl'; cases hl'
        have hg5 := hgc5 cs' h7
        intro j y hy
        rw [hpd0.1]
        rw [over_get h8] at hy
        by_cases hj : off ≤ j ∧ j < off + cs'.length
        · rw [if_pos hj] at hy
          obtain ⟨u', k1, k2, k3⟩ := hhold 1000000 _ h7 _ y hy
          rw [hpos' 1000000 cs' (Nat.le_refl _) h7, hg5.2] at k1 k2
          simp only [show (g.pos d).2 + off + (j - off) = (g.pos d).2 + j by omega] at k1 k2
          exact ⟨u', k1, k2, closed_rel u' y (List.all_eq_true.1 hcl' y (List.mem_of_getElem? hy)) k3⟩
        · rw [if_neg hj] at hy
          obtain ⟨u', k1, k2, k3⟩ := rg.hg.holds d _ h6 j y hy
          refine ⟨u', hkeep.cell k1 (fun hx => ?_), by rw [hkeep.frozen (World.block_lt_of_cell? w _ k1)]; exact k2, k3.env hle p hp0 (List.all_eq_true.1 (hn3 _ _ h6) y (List.mem_of_getElem? hy))⟩
          have := (hg5.1 _ _).1 hx
          omega
    · intro d cs0 hd' h6 hr
      rcases hcase d _ hd' hr with ⟨e, x, h4, h5, _⟩ | ⟨off, csD, cs', h4, h5, h7, _⟩
      · have := (nw d e h4).1; omega
      · rw [(hp0 d (by simp [p, h5])).1]
        exact rg.hg.fix d csD h6 h7
    · intro d r hd' hr hb b o' hfo
      rcases hcase d _ hd' hr with ⟨e, x, h4, h5, rfl⟩ | ⟨off, csD, cs', h4, h5, h7, h8, h9, _⟩
      · rw [hfn d e x h4] at hfo
        exact (hnewr e x h5 (by cases x <;> simp_all [Res.isBox, Res.map]) b o' hfo).elim (fun q => .inl (Nat.le_trans rg.hg.keep.size q)) (fun q => (Nat.lt_or_ge b K.w0.heap.size).elim (fun q2 => .inr (by obtain ⟨d3, r3, _, q4, q5⟩ := hkp b o' q; exact rg.hg.may b o' ⟨d3, r3, q4, q5⟩ q2)) .inl)
      · subst h9; cases hb
  have hput := (rg.move hHG hle p hp0 (match o.dst with | some t => drop1 s.tmps t | none => s.tmps) (fun t' v hv => by
    cases hds : o.dst with
    | none =>
      rw [hds] at hv
      refine ⟨hv, ?_⟩
      have := hn2 _ _ hv
      simpa [hds] using this
    | some t0 =>
      rw [hds] at hv
      simp only [look_drop1] at hv
      split at hv
      · cases hv
      · rename_i hne
        refine ⟨hv, ?_⟩
        have := hn2 _ _ hv
        simp only [hds, Bool.or_eq_true, beq_iff_eq, Option.some.injEq] at this
        rcases this with h4 | h4
        · exact absurd h4 hne
        · exact h4)).put o.dst (dstOk_spec hd) (hres.imp (fun v x hx k => k.ren (Rd.le.refl _) (backL news) (okN news) hren hx) hn4)
  refine hK _ _ ⟨g2, hput.sim (fun k => ?_) ?_⟩
  · cases hds : o.dst with
    | none => rfl
    | some t0 =>
      simp only [St.after]
      exact (put_drop _ t0 _ k).symm
  · cases hds : o.dst <;> rfl
theorem S_con {f : FuncId} {vs args : List SV} {h' : Hp} {r : SV} {h : Hp} (kss : List (List Nat)) (news : List (Nat × Nat)) (pd : Option (Nat × Nat)) (hgd : guardOf ops o s = some true) (hd : dstOk n o = true) (hc : calleeOf s o = some (f, vs)) (hb : hasBody P f = true)
    (hargs : castArgs kss vs = argsFor pd args) (hok : args.all (okFor pd) = true) (hpd : PdOk s h h' news pd)
    (hn : newsOk s h' r news o.dst = true) (hp : Con P f args h r h') : Stp P K n ops o s (s.after h' r news pd o.dst) := by
  simp only [newsOk, Bool.and_eq_true, List.all_eq_true] at hn
  obtain ⟨⟨⟨⟨hn1, hn2⟩, hn3⟩, hn4⟩, hn5⟩ := hn
  exact S_conL kss news pd hgd hd hc hb hargs hok hpd hn1 (fun t v hv => hn2 _ (look_mem hv)) (fun d r hr => hn3 _ (look_mem hr)) hn4 hn5 hp
end
end Go.Proofs.Ytohfnlkjdjmipaa
