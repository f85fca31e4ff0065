/-
  SHADOWS, second make: a statement whose order is drawn: operations that are not bound to an order touch different things.
-/
import Derived.Test.YtohfnlkjdjmipaaV9
namespace Go.Proofs.Ytohfnlkjdjmipaa
open Go.RowKit

/-! ### states by what is looked up -/
structure Sub (s s' : St) : Prop where
  t : ∀ k v, look s.tmps k = some v → look s'.tmps k = some v
  h : ∀ k v, look s.hp k = some v → look s'.hp k = some v
def Sim (s s' : St) : Prop := (∀ k, look s.tmps k = look s'.tmps k) ∧ ∀ k, look s.hp k = look s'.hp k
theorem Sim.refl (s : St) : Sim s s := ⟨fun _ => rfl, fun _ => rfl⟩
theorem Sim.symm {s s' : St} (h : Sim s s') : Sim s' s := ⟨fun k => (h.1 k).symm, fun k => (h.2 k).symm⟩
theorem Sim.trans {s s' s'' : St} (h : Sim s s') (k : Sim s' s'') : Sim s s'' := ⟨fun x => (h.1 x).trans (k.1 x), fun x => (h.2 x).trans (k.2 x)⟩
theorem Sub.sim {s s' s'' : St} (h : Sub s s') (k : Sim s' s'') : Sub s s'' := ⟨fun x v hv => (k.1 x).symm.trans (h.t x v hv), fun x v hv => (k.2 x).symm.trans (h.h x v hv)⟩
theorem R.sim {K : Ctx} {n : Nat} {a : Act} {w : World} {s s' : St} (h : R K n a w s) (k : Sim s s') : R K n a w s' := by
  obtain ⟨g, h⟩ := h
  have hin : ∀ b o, InFoot g s'.hp b o ↔ InFoot g s.hp b o := fun b o => ⟨fun ⟨d, r, h1, h2⟩ => ⟨d, r, (k.2 d).trans h1, h2⟩, fun ⟨d, r, h1, h2⟩ => ⟨d, r, (k.2 d).symm.trans h1, h2⟩⟩
  have hrd : rdOf K g s'.hp w = rdOf K g s.hp w := by
    funext b o
    unfold rdOf
    by_cases hx : InFoot g s.hp b o
    · rw [if_pos hx, if_pos ((hin b o).2 hx)]
    · rw [if_neg hx, if_neg (fun q => hx ((hin b o).1 q))]
  refine ⟨g, h.defers, h.size, h.few, ⟨h.hg.keep, fun d r hd => ?_, fun b o hx => h.hg.may b o ((hin b o).1 hx), fun d d' r r' b o hne h1 h2 => h.hg.dis d d' r r' b o hne ((k.2 d).trans h1) ((k.2 d').trans h2), fun d cs h6 hd => h.hg.fix d cs h6 ((k.2 d).trans hd), fun d r hd => h.hg.new d r ((k.2 d).trans hd)⟩, fun t v hv => ?_⟩
  · rw [hrd]; exact h.hg.holds d r ((k.2 d).trans hd)
  · rw [hrd]; exact h.tmps t v ((k.1 t).trans hv)
theorem Stp.sim {P : Program} {K : Ctx} {n : Nat} {ops : Array Oper} {o : Oper} {s s' s'' : St} (h : Stp P K n ops o s s') (k : Sim s' s'') : Stp P K n ops o s s'' :=
  fun a w r K' Q hK => h a w r K' Q fun a' w' r' => hK a' w' (r'.sim k)
theorem Sub.opd {s s' : St} (h : Sub s s') {x : Operand} {v : SV} (hx : opd s x = some v) : opd s' x = some v := by
  cases x with
  | tmp t =>
    simp only [Go.Proofs.Ytohfnlkjdjmipaa.opd] at hx ⊢
    split at hx
    · rename_i ht; rw [if_pos ht]; exact h.t t v hx
    · cases hx
  | const c => exact hx
  | func f => exact hx
  | global g => simp [Go.Proofs.Ytohfnlkjdjmipaa.opd] at hx
theorem Sub.t2 {s s' : St} (h : Sub s s') {t : Nat} {v : SV} (k : (if t < 2000000 then look s.tmps t else none) = some v) : (if t < 2000000 then look s'.tmps t else none) = some v := by
  split at k
  · rename_i ht; rw [if_pos ht]; exact h.t t v k
  · cases k
theorem Sub.guard {s s' : St} (h : Sub s s') {ops : Array Oper} {o : Oper} {b : Bool} (hg : guardOf ops o s = some b) : guardOf ops o s' = some b := by
  unfold guardOf at *
  split
  · rename_i hn; rw [hn] at hg; exact hg
  · rename_i j want hn
    rw [hn] at hg
    simp only at hg
    split at hg
    · rename_i oj hoj
      try rw [hoj]
      try simp only
      split at hg
      · rename_i t ht
        try rw [ht]
        try simp only
        split at hg
        · rename_i b' hl
          rw [h.t2 hl]
          exact hg
        · rename_i hl
          rw [h.t2 hl]
          exact hg
        · cases hg
      · cases hg
    · cases hg
theorem Sub.grow {s s' : St} (h : Sub s s') {P : Program} {o : Oper} {v : SV} (hp : GrowOp P o s v) : GrowOp P o s' v := by
  intro g rd a w hv
  exact hp g rd a w ⟨fun x y hx hy => hv.op x y hx (h.opd hy), hv.reads, fun d r hd => hv.holds d r (h.h d r hd)⟩

/-! ### what an operation does, told apart from the rest of the state -/
structure DD where
  need : St
  dst : Option Tmp
  v : SV
  up : Option (Nat × Res)
  new : Bool
def DD.app (d : DD) (s : St) : St := match d.up with
  | some (b, r) => (s.setR b r).put d.dst d.v
  | none => s.put d.dst d.v
def DD.lt (d : DD) (k : Nat) (old : Option SV) : Option SV := if d.dst = some k then some d.v else old
def DD.lb (d : DD) (k : Nat) (old : Option Res) : Option Res := match d.up with
  | some (b, r) => if b = k then some r else old
  | none => old
theorem put_hp (s : St) (d : Option Tmp) (v : SV) : (s.put d v).hp = s.hp := by cases d <;> rfl
theorem app_t (d : DD) (s : St) (k : Nat) : look (d.app s).tmps k = d.lt k (look s.tmps k) := by
  unfold DD.app DD.lt
  cases d.up with
  | none =>
    cases hd : d.dst with
    | none => simp [St.put]
    | some t => simp only [look_put]; simp
  | some p =>
    cases hd : d.dst with
    | none => simp [St.put, St.setR]
    | some t => simp only [look_put]; simp [St.setR]
theorem app_b (d : DD) (s : St) (k : Nat) : look (d.app s).hp k = d.lb k (look s.hp k) := by
  unfold DD.app DD.lb
  cases d.up with
  | none => simp only [put_hp]
  | some p => simp only [put_hp, St.setR, look_setL]
theorem app_sim {s s' : St} (d : DD) (h : Sim s s') : Sim (d.app s) (d.app s') :=
  ⟨fun k => by rw [app_t, app_t, h.1], fun k => by rw [app_b, app_b, h.2]⟩
def NM (d : Nat) (s : St) : Prop := NoName s d (some d)
theorem NM.sim {d : Nat} {s s' : St} (h : NM d s) (k : Sim s s') : NM d s' :=
  ⟨(k.2 d).symm.trans h.1, fun t v hv ht => h.2.1 t v ((k.1 t).trans hv) ht, fun e cs he => h.2.2 e cs ((k.2 e).trans he)⟩
def DD.name (d : DD) : Nat := (d.up.map (·.1)).getD 0
/-- x names not the variable that y makes -/
def DD.quiet (x y : DD) : Bool := !y.new || (x.v.every (SC.say (· != y.name)) && (match x.up with | some (b, r) => r.every (SC.say (· != y.name)) && b != y.name | none => true))
theorem NM.app {x y : DD} {s : St} (h : NM y.name s) (hn : y.new = true) (hq : x.quiet y = true) : NM y.name (x.app s) := by
  unfold DD.quiet at hq
  rw [hn] at hq
  simp only [Bool.not_true, Bool.false_or, Bool.and_eq_true] at hq
  refine ⟨?_, fun t v hv ht => ?_, fun e cs he => ?_⟩
  · rw [app_b]
    unfold DD.lb
    split
    · rename_i b cs hb
      rw [hb] at hq
      simp only [Bool.and_eq_true] at hq
      rw [if_neg (by simpa using hq.2.2)]
      exact h.1
    · exact h.1
  · rw [app_t] at hv
    unfold DD.lt at hv
    split at hv
    · cases hv; exact hq.1
    · exact h.2.1 t v hv ht
  · rw [app_b] at he
    unfold DD.lb at he
    split at he
    · rename_i b cs' hb
      rw [hb] at hq
      simp only [Bool.and_eq_true] at hq
      split at he
      · cases he; exact hq.2.1
      · exact h.2.2 e cs he
    · exact h.2.2 e cs he
def VD (P : Program) (n : Nat) (ops : Array Oper) (o : Oper) (d : DD) : Prop := ∀ K s, Sub d.need s → (d.new = true → NM d.name s) → Stp P K n ops o s (d.app s)
def keysOf {α : Type} (l : List (Nat × α)) : List Nat := l.map (·.1)
theorem look_none {α : Type} : ∀ {l : List (Nat × α)} {k : Nat}, ¬ k ∈ keysOf l → look l k = none
  | [], _, _ => rfl
  | (a, x) :: l, k, h => by
    simp only [keysOf, List.map_cons, List.mem_cons, not_or] at h
    rw [look_cons, if_neg (fun e => h.1 e.symm)]
    exact look_none h.2
/-- x writes nothing that y needs -/
def DD.spares (x y : DD) : Bool :=
  (match x.dst with | some t => !(keysOf y.need.tmps).contains t | none => true) &&
  (match x.up with | some (b, _) => !(keysOf y.need.hp).contains b | none => true)
def DD.other (x y : DD) : Bool :=
  (match x.dst, y.dst with | some a, some b => a != b | _, _ => true) &&
  (match x.up, y.up with | some a, some b => a.1 != b.1 | _, _ => true)
def DD.indep (x y : DD) : Bool := x.spares y && y.spares x && x.other y && x.quiet y && y.quiet x

theorem spares_sub {x y : DD} {s : St} (h : x.spares y = true) : Sub y.need s ↔ Sub y.need (x.app s) := by
  simp only [DD.spares, Bool.and_eq_true] at h
  obtain ⟨h1, h2⟩ := h
  have e1 : ∀ k, k ∈ keysOf y.need.tmps → look (x.app s).tmps k = look s.tmps k := by
    intro k hk
    rw [app_t]
    unfold DD.lt
    rw [if_neg]
    intro he
    rw [he] at h1
    simp at h1
    exact h1 hk
  have e2 : ∀ k, k ∈ keysOf y.need.hp → look (x.app s).hp k = look s.hp k := by
    intro k hk
    rw [app_b]
    unfold DD.lb
    split
    · rename_i b cs hb
      rw [hb] at h2
      rw [if_neg]
      intro he
      subst he
      simp at h2
      exact h2 hk
    · rfl
  have key : ∀ {α : Type} {l : List (Nat × α)} {k : Nat} {v : α}, look l k = some v → k ∈ keysOf l := fun {α l k v} hl => List.mem_map.2 ⟨_, look_mem hl, rfl⟩
  constructor
  · intro hs
    exact ⟨fun k v hv => (e1 k (key hv)).trans (hs.t k v hv), fun k v hv => (e2 k (key hv)).trans (hs.h k v hv)⟩
  · intro hs
    exact ⟨fun k v hv => (e1 k (key hv)).symm.trans (hs.t k v hv), fun k v hv => (e2 k (key hv)).symm.trans (hs.h k v hv)⟩
theorem other_comm {x y : DD} (h : x.other y = true) (s : St) : Sim (y.app (x.app s)) (x.app (y.app s)) := by
  simp only [DD.other, Bool.and_eq_true] at h
  obtain ⟨h1, h2⟩ := h
  refine ⟨fun k => ?_, fun k => ?_⟩
  · rw [app_t, app_t, app_t, app_t]
    unfold DD.lt
    by_cases hx : x.dst = some k
    · by_cases hy : y.dst = some k
      · rw [hx, hy] at h1; simp at h1
      · simp [hx, hy]
    · simp [hx]
  · rw [app_b, app_b, app_b, app_b]
    unfold DD.lb
    cases hx : x.up with
    | none => cases hy : y.up <;> rfl
    | some p =>
      cases hy : y.up with
      | none => rfl
      | some q =>
        rw [hx, hy] at h2
        simp only [bne_iff_ne, ne_eq] at h2
        simp only
        by_cases e1 : p.1 = k
        · have e2 : ¬ q.1 = k := fun e => h2 (e1.trans e.symm)
          simp [e1, e2]
        · simp [e1]
/-- the operations one after the other: what each needs is there -/
def RunD : List DD → St → Prop
  | [], _ => True
  | d :: l, s => Sub d.need s ∧ RunD l (d.app s)
def FinD : List DD → St → St
  | [], s => s
  | d :: l, s => FinD l (d.app s)
theorem RunD.sim : ∀ {l : List DD} {s s' : St}, RunD l s → Sim s s' → RunD l s'
  | [], _, _, _, _ => trivial
  | d :: _l, _, _, h, k => ⟨h.1.sim k, RunD.sim h.2 (app_sim d k)⟩
theorem FinD.sim : ∀ (l : List DD) {s s' : St}, Sim s s' → Sim (FinD l s) (FinD l s')
  | [], _, _, k => k
  | d :: l, _, _, k => FinD.sim l (app_sim d k)
theorem bubble {x : DD} {post : List DD} : ∀ (pre : List DD) (s : St), (∀ y ∈ pre, y.indep x = true) → RunD (pre ++ x :: post) s → RunD (x :: pre ++ post) s ∧ Sim (FinD (pre ++ x :: post) s) (FinD (x :: pre ++ post) s)
  | [], s, _, h => ⟨h, Sim.refl _⟩
  | y :: pre, s, hi, h => by
    obtain ⟨h1, h2⟩ := h
    obtain ⟨⟨h3, h4⟩, h5⟩ := bubble pre (y.app s) (fun z hz => hi z (List.mem_cons_of_mem _ hz)) h2
    have hyx := hi y (by simp)
    simp only [DD.indep, Bool.and_eq_true] at hyx
    obtain ⟨⟨⟨⟨a1, a2⟩, a3⟩, _⟩, _⟩ := hyx
    have hc := other_comm a3 s
    refine ⟨⟨(spares_sub a1).2 h3, (spares_sub a2).1 h1, RunD.sim h4 hc⟩, h5.trans ?_⟩
    exact FinD.sim (pre ++ post) hc

def Chk (anc : Nat → List Nat) : List (Nat × DD) → Bool
  | [] => true
  | p :: l => Chk anc l && l.all fun q => (anc q.1).contains p.1 || p.2.indep q.2
/-- whoever comes earlier names not what is made later -/
def Mute : List (Nat × DD) → Bool
  | [] => true
  | p :: l => Mute l && l.all fun q => p.2.quiet q.2

theorem Chk_mem {anc : Nat → List Nat} : ∀ {pre : List (Nat × DD)} {x : Nat × DD} {post : List (Nat × DD)}, Chk anc (pre ++ x :: post) = true → (∀ y ∈ pre, (anc x.1).contains y.1 = true ∨ y.2.indep x.2 = true) ∧ Chk anc (pre ++ post) = true
  | [], x, post, h => by
    simp only [List.nil_append, Chk, Bool.and_eq_true] at h
    exact ⟨by simp, h.1⟩
  | p :: pre, x, post, h => by
    simp only [List.cons_append, Chk, Bool.and_eq_true] at h
    obtain ⟨h1, h2⟩ := Chk_mem h.1
    have h3 := List.all_eq_true.1 h.2
    refine ⟨fun y hy => ?_, ?_⟩
    · rcases List.mem_cons.1 hy with rfl | hy
      · simpa using h3 x (by simp)
      · exact h1 y hy
    · simp only [List.cons_append, Chk, Bool.and_eq_true]
      refine ⟨h2, List.all_eq_true.2 fun q hq => h3 q ?_⟩
      rcases List.mem_append.1 hq with hq | hq
      · exact List.mem_append_left _ hq
      · exact List.mem_append_right _ (List.mem_cons_of_mem _ hq)
theorem Mute_mem : ∀ {pre : List (Nat × DD)} {x : Nat × DD} {post : List (Nat × DD)}, Mute (pre ++ x :: post) = true → (∀ q ∈ post, x.2.quiet q.2 = true) ∧ Mute (pre ++ post) = true
  | [], x, post, h => by
    simp only [List.nil_append, Mute, Bool.and_eq_true] at h
    exact ⟨fun q hq => List.all_eq_true.1 h.2 q hq, h.1⟩
  | p :: pre, x, post, h => by
    simp only [List.cons_append, Mute, Bool.and_eq_true] at h
    obtain ⟨h1, h2⟩ := Mute_mem h.1
    have h3 := List.all_eq_true.1 h.2
    refine ⟨h1, ?_⟩
    simp only [List.cons_append, Mute, Bool.and_eq_true]
    refine ⟨h2, List.all_eq_true.2 fun q hq => h3 q ?_⟩
    rcases List.mem_append.1 hq with hq | hq
    · exact List.mem_append_left _ hq
    · exact List.mem_append_right _ (List.mem_cons_of_mem _ hq)

structure AInv (P : Program) (n : Nat) (ops : Array Oper) (anc : Nat → List Nat) (ks : List (Nat × DD)) (listed : Array Bool) (s : St) : Prop where
  size : listed.size = ops.size
  mem : ∀ i, i < ops.size → (listed.getD i true = false ↔ i ∈ ks.map (·.1))
  lt : ∀ p ∈ ks, p.1 < ops.size
  nodup : (ks.map (·.1)).Nodup
  sorted : ∀ p ∈ ks, ∀ i, i < p.1 → i ∈ ks.map (·.1) → ∃ pre post, ks = pre ++ p :: post ∧ i ∈ pre.map (·.1)
  vd : ∀ p ∈ ks, ∃ o, ops[p.1]? = some o ∧ VD P n ops o p.2
  run : RunD (ks.map (·.2)) s
  nm : ∀ p ∈ ks, p.2.new = true → NM p.2.name s
  chk : Chk anc ks = true
  mute : Mute ks = true
  closed : ∀ i, i < ops.size → listed.getD i true = true → ∀ j ∈ anc i, listed.getD j true = true

/-- what is said of the ancestors is so by the edges -/
def AncOk (ops : Array Oper) (anc : Nat → List Nat) : Prop := ∀ i o, ops[i]? = some o → (∀ e ∈ o.after, Region.binds .any e = true → e.on < i) ∧ ∀ j ∈ anc i, ∃ e ∈ o.after, Region.binds .any e = true ∧ (e.on = j ∨ j ∈ anc e.on)

theorem any_law {P : Program} {K : Ctx} {n : Nat} {ops : Array Oper} {anc : Nat → List Nat} (hanc : AncOk ops anc) {Q : Exit → Act → World → Prop} : ∀ (m : Nat) (ks : List (Nat × DD)) (listed : Array Bool) (s : St) (a : Act) (w : World), ks.length = m → AInv P n ops anc ks listed s → R K n a w s →
    (∀ a w s', Sim (FinD (ks.map (·.2)) s) s' → R K n a w s' → Q .normal a w) → wpAny P .any ops Q m listed a w := by
  intro m
  induction m with
  | zero =>
    intro ks listed s a w hk inv r hQ
    have : ks = [] := List.eq_nil_of_length_eq_zero hk
    subst this
    refine ⟨?_, hQ a w s (Sim.refl _) r⟩
    apply List.eq_nil_iff_forall_not_mem.2
    intro i hi
    obtain ⟨h1, o, ho, _⟩ := mem_ready.1 hi
    have hlt := (Array.getElem?_eq_some_iff.1 ho).1
    have := (inv.mem i hlt).1 h1
    simp at this
  | succ m ih =>
    intro ks listed s a w hk inv r hQ
    refine ⟨fun hnone => ?_, fun i hi => ?_⟩
    · -- the first one is ready
      exfalso
      cases ks with
      | nil => simp at hk
      | cons p l =>
        have hp := inv.lt p (by simp)
        obtain ⟨o, ho, _⟩ := inv.vd p (by simp)
        have hready : p.1 ∈ Region.ready .any ops listed := by
          refine mem_ready.2 ⟨(inv.mem p.1 hp).2 (by simp), o, ho, fun e he hb => ?_⟩
          · have hlt := (hanc p.1 o ho).1 e he hb
            have hlt' : e.on < ops.size := by omega
            cases hg : listed.getD e.on true with
            | true =>
              rw [Array.getD_eq_getD_getElem?] at hg ⊢
              rw [Array.getElem?_eq_getElem (by rw [inv.size]; exact hlt')] at hg ⊢
              simpa using hg
            | false =>
              have hin := (inv.mem e.on hlt').1 hg
              obtain ⟨pre, post, hks, hpre⟩ := inv.sorted p (by simp) e.on hlt hin
              have hnd := inv.nodup
              cases pre with
              | nil => simp at hpre
              | cons q pre =>
                rw [List.cons_append] at hks
                injection hks with h1 h2
                rw [h2] at hnd
                simp at hnd
        rw [hnone] at hready
        cases hready
    · obtain ⟨hi1, o, ho, hedges⟩ := mem_ready.1 hi
      have hlt := (Array.getElem?_eq_some_iff.1 ho).1
      obtain ⟨p, hp, rfl⟩ := List.mem_map.1 ((inv.mem i hlt).1 hi1)
      obtain ⟨pre, post, rfl⟩ := List.append_of_mem hp
      obtain ⟨o', ho', hvd⟩ := inv.vd p hp
      rw [ho] at ho'
      cases ho'
      have hlisted : ∀ j ∈ anc p.1, listed.getD j true = true := by
        intro j hj
        obtain ⟨e, he, hb, hor⟩ := (hanc p.1 o ho).2 j hj
        have hlt2 := (hanc p.1 o ho).1 e he hb
        have hl : listed.getD e.on false = true := hedges e he hb
        have hl' : listed.getD e.on true = true := by
          rw [Array.getD_eq_getD_getElem?] at hl ⊢
          rw [Array.getElem?_eq_getElem (by rw [inv.size]; omega)] at hl ⊢
          simpa using hl
        rcases hor with rfl | hor
        · exact hl'
        · exact inv.closed e.on (by omega) hl' j hor
      obtain ⟨hch, hchk⟩ := Chk_mem inv.chk
      have hind : ∀ y ∈ pre, y.2.indep p.2 = true := by
        intro y hy
        rcases hch y hy with h | h
        · exfalso
          have hyl := hlisted y.1 (by simpa using h)
          have hym := inv.mem y.1 (inv.lt y (by simp [hy]))
          have := hym.2 (by simp only [List.map_append, List.mem_append]; exact .inl (List.mem_map.2 ⟨y, hy, rfl⟩))
          rw [this] at hyl
          cases hyl
        · exact h
      have hrun := inv.run
      rw [List.map_append, List.map_cons] at hrun
      obtain ⟨⟨hneed, hrun'⟩, hsim⟩ := bubble (x := p.2) (post := post.map (·.2)) (pre.map (·.2)) s (fun y hy => by
        obtain ⟨q, hq, rfl⟩ := List.mem_map.1 hy
        exact hind q hq) hrun
      have hstp := hvd K s hneed (inv.nm p hp)
      unfold wpOp
      simp only [ho]
      have cont : ∀ a' w', R K n a' w' (p.2.app s) → wpAny P .any ops Q m (listed.setIfInBounds p.1 true) a' w' := by
        intro a' w' r'
        have hnd := inv.nodup
        have hmem' : ∀ q, q ∈ pre ++ post → q ∈ pre ++ p :: post := fun q hq => by
          rcases List.mem_append.1 hq with h | h
          · exact List.mem_append_left _ h
          · exact List.mem_append_right _ (List.mem_cons_of_mem _ h)
        have hne : ∀ q ∈ pre ++ post, q.1 ≠ p.1 := by
          intro q hq he
          rw [List.map_append, List.map_cons, List.nodup_append] at hnd
          obtain ⟨n1, n2, n3⟩ := hnd
          rcases List.mem_append.1 hq with h | h
          · exact n3 q.1 (List.mem_map.2 ⟨q, h, rfl⟩) p.1 (by simp) he
          · have := (List.nodup_cons.1 n2).1
            exact this (List.mem_map.2 ⟨q, h, he⟩)
        refine ih (pre ++ post) (listed.setIfInBounds p.1 true) (p.2.app s) a' w' (by simp at hk ⊢; omega) ?_ r' ?_
        · refine ⟨by simp [inv.size], fun j hj => ?_, fun q hq => inv.lt q (hmem' q hq), ?_, ?_, fun q hq => inv.vd q (hmem' q hq), by rw [List.map_append]; exact hrun', ?_, hchk, (Mute_mem inv.mute).2, ?_⟩
          · rw [Array.getD_eq_getD_getElem?, Array.getElem?_setIfInBounds]
            by_cases hjp : p.1 = j
            · subst hjp
              rw [if_pos rfl, if_pos (by rw [inv.size]; exact hj)]
              simp only [Option.getD_some, Bool.true_eq_false, false_iff]
              intro hm
              obtain ⟨q, hq, hqe⟩ := List.mem_map.1 hm
              exact hne q hq hqe
            · rw [if_neg hjp, ← Array.getD_eq_getD_getElem?, inv.mem j hj]
              simp only [List.map_append, List.map_cons, List.mem_append, List.mem_cons]
              constructor
              · rintro (h | h | h)
                · exact .inl h
                · exact absurd h.symm hjp
                · exact .inr h
              · rintro (h | h)
                · exact .inl h
                · exact .inr (.inr h)
          · rw [List.map_append] at hnd ⊢
            rw [List.map_cons] at hnd
            exact hnd.sublist (List.Sublist.append_left (List.sublist_cons_self _ _) _)
          · intro q hq j hj hjm
            have hjm' : j ∈ (pre ++ p :: post).map (·.1) := by
              simp only [List.map_append, List.map_cons, List.mem_append, List.mem_cons] at hjm ⊢
              rcases hjm with h | h
              · exact .inl h
              · exact .inr (.inr h)
            obtain ⟨pre2, post2, he, hin⟩ := inv.sorted q (hmem' q hq) j hj hjm'
            have hjne : j ≠ p.1 := by
              intro hjp
              obtain ⟨z, hz, hze⟩ := List.mem_map.1 hjm
              exact hne z hz (hze.trans hjp)
            -- strike p out of the list
            rcases List.append_eq_append_iff.1 he with ⟨mid, h1, h2⟩ | ⟨mid, h1, h2⟩
            · cases mid with
              | nil =>
                simp only [List.nil_append] at h2
                injection h2 with h3 _
                exact absurd (congrArg Prod.fst h3.symm) (hne q hq)
              | cons z mid =>
                rw [List.cons_append] at h2
                injection h2 with h3 h4
                subst h3
                refine ⟨pre ++ mid, post2, by rw [h4]; simp, ?_⟩
                rw [h1] at hin
                simp only [List.map_append, List.map_cons, List.mem_append, List.mem_cons] at hin ⊢
                rcases hin with h | h | h
                · exact .inl h
                · exact absurd h hjne
                · exact .inr h
            · cases mid with
              | nil =>
                simp only [List.nil_append] at h2
                injection h2 with h3 _
                exact absurd (congrArg Prod.fst h3) (hne q hq)
              | cons z mid =>
                rw [List.cons_append] at h2
                injection h2 with h3 h4
                subst h3
                exact ⟨pre2, mid ++ post, by rw [h1]; simp, hin⟩
          · intro q hq hnew
            refine NM.app (inv.nm q (hmem' q hq) hnew) hnew ?_
            rcases List.mem_append.1 hq with h | h
            · have := hind q h
              simp only [DD.indep, Bool.and_eq_true] at this
              exact this.2
            · exact (Mute_mem inv.mute).1 q h
          · intro j hj hjl k hk'
            rw [Array.getD_eq_getD_getElem?, Array.getElem?_setIfInBounds] at hjl ⊢
            by_cases hkp : p.1 = k
            · subst hkp
              rw [if_pos rfl]
              split <;> simp
            · rw [if_neg hkp, ← Array.getD_eq_getD_getElem?]
              by_cases hjp : p.1 = j
              · subst hjp
                exact hlisted k hk'
              · rw [if_neg hjp, ← Array.getD_eq_getD_getElem?] at hjl
                exact inv.closed j hj hjl k hk'
        · intro a2 w2 s2 hs2 r2
          refine hQ a2 w2 s2 ?_ r2
          rw [List.map_append, List.map_cons]
          rw [List.map_append] at hs2
          exact hsim.trans hs2
      have := hstp a w r _ Q cont
      split
      · rename_i hw; rw [if_pos hw] at this; exact .inl this
      · rename_i hw; rw [if_neg hw] at this; exact this

/-- THE LAW: the operations' deeds in the order of the text -/
inductive Deeds (P : Program) (n : Nat) (ops : Array Oper) : List Oper → List DD → Prop
  | nil : Deeds P n ops [] []
  | cons {o : Oper} {l : List Oper} {d : DD} {ds : List DD} (h : VD P n ops o d) (k : Deeds P n ops l ds) : Deeds P n ops (o :: l) (d :: ds)
theorem Deeds.get {P : Program} {n : Nat} {ops : Array Oper} {l : List Oper} {ds : List DD} (h : Deeds P n ops l ds) : l.length = ds.length ∧ ∀ (i : Nat) (d : DD), ds[i]? = some d → ∃ o, l[i]? = some o ∧ VD P n ops o d := by
  induction h with
  | nil => exact ⟨rfl, by simp⟩
  | cons h k ih =>
    refine ⟨by simp [ih.1], fun i d hd => ?_⟩
    cases i with
    | zero => cases hd; exact ⟨_, rfl, h⟩
    | succ i => exact ih.2 i d hd
def number {α : Type} : Nat → List α → List (Nat × α)
  | _, [] => []
  | i, x :: l => (i, x) :: number (i + 1) l
theorem number_snd {α : Type} : ∀ (l : List α) (i : Nat), (number i l).map (·.2) = l
  | [], _ => rfl
  | x :: l, i => by simp [number, number_snd l]
theorem number_fst {α : Type} : ∀ (l : List α) (i : Nat), (number i l).map (·.1) = List.range' i l.length
  | [], _ => rfl
  | x :: l, i => by simp [number, number_fst l, List.range'_succ]
theorem number_mem {α : Type} : ∀ (l : List α) (i : Nat) (p : Nat × α), p ∈ number i l → i ≤ p.1 ∧ l[p.1 - i]? = some p.2
  | [], _, _, h => by simp [number] at h
  | x :: l, i, p, h => by
    rcases List.mem_cons.1 h with rfl | h
    · simp
    · obtain ⟨h1, h2⟩ := number_mem l (i + 1) p h
      exact ⟨by omega, by rw [show p.1 - i = (p.1 - (i + 1)) + 1 by omega, List.getElem?_cons_succ]; exact h2⟩
theorem number_length {α : Type} : ∀ (l : List α) (i : Nat), (number i l).length = l.length
  | [], _ => rfl
  | x :: l, i => by simp [number, number_length l]
def RunB : List DD → St → Bool
  | _, _ => true
def ancOf (t : List (List Nat)) (i : Nat) : List Nat := (t[i]?).getD []
def AncB (ops : Array Oper) (t : List (List Nat)) : Bool := (List.range ops.size).all fun i => match ops[i]? with
  | some o => o.after.all (fun e => !Region.binds .any e || decide (e.on < i)) && (ancOf t i).all fun j => o.after.any fun e => Region.binds .any e && (e.on == j || (ancOf t e.on).contains j)
  | none => true
theorem AncB_ok {ops : Array Oper} {t : List (List Nat)} (h : AncB ops t = true) : AncOk ops (ancOf t) := by
  intro i o ho
  have hi := (Array.getElem?_eq_some_iff.1 ho).1
  have := List.all_eq_true.1 h i (List.mem_range.2 hi)
  rw [ho] at this
  simp only [Bool.and_eq_true] at this
  refine ⟨fun e he hb => ?_, fun j hj => ?_⟩
  · have h1 := Array.all_eq_true_iff_forall_mem.1 this.1 e he
    rw [hb] at h1
    simpa using h1
  · have h1 := List.all_eq_true.1 this.2 j hj
    obtain ⟨e, he, h2⟩ := Array.any_eq_true'.1 h1
    simp only [Bool.and_eq_true, Bool.or_eq_true, beq_iff_eq] at h2
    exact ⟨e, he, h2.1, by simpa using h2.2⟩
theorem T_any {P : Program} {K : Ctx} {n : Nat} {Q : Exit → St → Prop} {s : St} {l : List Oper} {id : Nat} (t : List (List Nat)) (ds : List DD) (s' : St) (hm : P.follows .mixedOrders = true) (hd : Deeds P n l.toArray l ds) (hanc : AncB l.toArray t = true) (hrun : RunD ds s) (hfin : Sim (FinD ds s) s') (hnm : ∀ d ∈ ds, d.new = true → NM d.name s) (hchk : Chk (ancOf t) (number 0 ds) = true) (hmute : Mute (number 0 ds) = true) (hQ : Q .normal s') :
    T P K n (.region id l.toArray true) s Q := by
  intro a w r
  obtain ⟨hl, hget⟩ := hd.get
  refine wp_region_any hm ?_
  have hsz : l.toArray.size = (number 0 ds).length := by rw [number_length, ← hl]; simp
  rw [hsz]
  refine any_law (K := K) (n := n) (AncB_ok hanc) _ (number 0 ds) _ s a _ rfl ?_ ?_ ?_
  · refine ⟨by simp [number_length, hl], fun i hi => ?_, fun p hp => ?_, ?_, ?_, fun p hp => ?_, by rw [number_snd]; exact hrun, fun p hp hnew => ?_, hchk, hmute, ?_⟩
    · rw [number_fst, Array.getD_eq_getD_getElem?]
      simp only [Array.getElem?_replicate, number_length]
      simp only [List.size_toArray] at hi
      rw [if_pos (by omega)]
      simp [List.mem_range'_1]
      omega
    · obtain ⟨_, h2⟩ := number_mem ds 0 p hp
      have := (List.getElem?_eq_some_iff.1 h2).1
      simp
      omega
    · rw [number_fst]; exact List.nodup_range'
    · intro p hp i hi hin
      obtain ⟨pre, post, he⟩ := List.append_of_mem hp
      refine ⟨pre, post, he, ?_⟩
      have h1 := number_fst ds 0
      rw [he, List.map_append, List.map_cons] at h1
      have hpl : p.1 = pre.length := by
        have h2 : ((pre.map (·.1)) ++ p.1 :: post.map (·.1))[pre.length]? = some p.1 := by
          rw [List.getElem?_append_right (by simp)]; simp
        have hlt : pre.length < ds.length := by
          have := congrArg List.length he
          rw [number_length] at this
          simp at this
          omega
        rw [h1, List.getElem?_range' hlt] at h2
        simp at h2
        omega
      have h3 : ((pre.map (·.1)) ++ p.1 :: post.map (·.1))[i]? = some i := by
        have hlt : i < ds.length := by
          rw [number_fst] at hin
          simp [List.mem_range'_1] at hin
          omega
        rw [h1, List.getElem?_range' hlt]
        simp
      rw [List.getElem?_append_left (by simp; omega)] at h3
      exact List.mem_of_getElem? h3
    · obtain ⟨_, h2⟩ := number_mem ds 0 p hp
      obtain ⟨o, h3, h4⟩ := hget _ _ h2
      exact ⟨o, by simpa using h3, h4⟩
    · obtain ⟨_, h2⟩ := number_mem ds 0 p hp
      exact hnm p.2 (List.mem_of_getElem? h2) hnew
    · intro i hi hlist
      rw [Array.getD_eq_getD_getElem?] at hlist
      simp only [Array.getElem?_replicate, number_length] at hlist
      simp only [List.size_toArray] at hi
      rw [if_pos (by omega)] at hlist
      simp at hlist
  · obtain ⟨g, r⟩ := r
    exact ⟨g, r.ext (Ext.drew w)⟩
  · intro a2 w2 s2 hs2 r2
    rw [number_snd] at hs2
    exact ⟨s', r2.sim (hs2.symm.trans hfin), hQ⟩

/-! ### what an operation needs -/
def opTmps : List Operand → List Nat
  | [] => []
  | .tmp t :: l => t :: opTmps l
  | _ :: l => opTmps l
def SC.names0 : SC → List Nat
  | .box d _ => [d]
  | .own d => [d]
  | .row d _ => [d]
  | .win d _ _ => [d]
  | .sub d _ _ _ => [d]
  | .elt d _ _ _ => [d]
  | .slc _ tag _ _ => match tag with
    | t + 2 => [t]
    | _ => []
  | .clo _ cs => cs.flatMap fun
    | .box d _ => [d]
    | .own d => [d]
    | _ => []
  | _ => []
def SC.names1 : SC → List Nat
  | .own d => [d]
  | .row d _ => [d]
  | .win d _ _ => [d]
  | .sub d _ _ _ => [d]
  | _ => []
def SV.names (f : SC → List Nat) : SV → List Nat
  | .c x => f x
  | .agg cs => cs.flatMap f
  | .tup vs => vs.flatMap fun x => x.2.flatMap f
def opdNames (s : St) (f : SC → List Nat) : List Operand → List Nat
  | [] => []
  | x :: l => (match opd s x with | some v => v.names f | none => []) ++ opdNames s f l
/-- the resources that an operation looks into -/
def opNames (s : St) : Op → List Nat
  | .load _ x => opdNames s SC.names0 [x]
  | .store _ p _ => opdNames s SC.names0 [p]
  | .nilCheck x => opdNames s SC.names0 [x]
  | .call c => opdNames s SC.names0 c.operands.toList
  | .indexAddr _ x _ => opdNames s SC.names1 [x]
  | .slice _ x _ _ _ => opdNames s SC.names0 [x]
  | _ => []
def pickN {α : Type} (l : List (Nat × α)) (ks : List Nat) : List (Nat × α) := l.filter fun p => ks.contains p.1
theorem look_pickN {α : Type} (ks : List Nat) : ∀ (l : List (Nat × α)) (k : Nat) (v : α), look (pickN l ks) k = some v → look l k = some v
  | [], k, v, h => by simp [pickN, look] at h
  | (a, x) :: l, k, v, h => by
    simp only [pickN, List.filter_cons] at h
    split at h
    · rw [look_cons] at h ⊢
      split at h
      · rename_i hk; rw [if_pos hk]; exact h
      · rename_i hk; rw [if_neg hk]; exact look_pickN ks l k v h
    · rename_i hq
      have h1 := look_pickN ks l k v h
      rw [look_cons]
      split
      · rename_i hk
        subst hk
        exfalso
        have := look_mem h
        simp only [List.mem_filter] at this
        exact hq this.2
      · exact h1
def needOf (ops : Array Oper) (o : Oper) (s : St) : St :=
  { tmps := pickN s.tmps (opTmps o.op.operands.toList ++ (match o.guard with | some (j, _) => (match ops[j]? with | some oj => oj.dst.toList | none => []) | none => [])), hp := pickN s.hp (opNames s o.op) }
theorem need_sub (ops : Array Oper) (o : Oper) (s : St) : Sub (needOf ops o s) s := ⟨fun k v h => look_pickN _ _ k v h, fun k v h => look_pickN _ _ k v h⟩

/-! ### deeds -/
section
variable {P : Program} {n : Nat} {ops : Array Oper} {o : Oper} {need : St}
theorem vd_grow (v : SV) (hg : guardOf ops o need = some true) (hd : dstOk n o = true) (hp : GrowOp P o need v) : VD P n ops o ⟨need, o.dst, v, none, false⟩ :=
  fun _ _ hs _ => S_grow v (hs.guard hg) hd (hs.grow hp)
theorem vd_skip (hg : guardOf ops o need = some false) (hd : dstOk n o = true) : VD P n ops o ⟨need, o.dst, .tup [], none, false⟩ :=
  fun _ _ hs _ => S_skip (hs.guard hg) hd
theorem Sub.lookB {s s' : St} (h : Sub s s') {d : Nat} {cs : List SC} (hl : s.lookB d = some cs) : s'.lookB d = some cs := by
  have := h.h d _ (lookB_some hl)
  unfold St.lookB
  rw [this]
/-- what an operation does, reckoned -/
def deedS (P : Program) (n : Nat) (ops : Array Oper) (o : Oper) (s : St) : Option DD :=
  let need := needOf ops o s
  match guardOf ops o need with
  | some false => if dstOk n o then some ⟨need, o.dst, .tup [], none, false⟩ else none
  | some true => match o.op with
    | .box _ x => match o.dst, opd need x with
      | some d, some v => match cellsOf v with
        | some cs => if decide (d < n) && decide (d < 1000000) && cs.all (SC.say (· != d)) then some ⟨need, some d, .c (.box d 0), some (d, .box cs), true⟩ else none
        | none => none
      | _, _ => none
    | .alloc t => match o.dst, (P.info? t).bind (·.zero) with
      | some d, some z => if decide (d < n) && decide (d < 1000000) then some ⟨need, some d, .c (.box d 0), some (d, .box (z.cells.toList.map SC.lit)), true⟩ else none
      | _, _ => none
    | .store t p x => match o.dst, opd need p, opd need x with
      | none, some (.c (.box d off)), some v => match cellsOf v, need.lookB d, P.info? t with
        | some ds, some cs, some i => if decide (i.size = ds.length) && ds.all SC.one && decide (off + ds.length ≤ cs.length) then some ⟨need, none, .tup [], some (d, .box (over cs off ds)), false⟩ else none
        | _, _, _ => none
      | _, _, _ => none
    | _ => match sop P need o.op with
      | some v => if dstOk n o then some ⟨need, o.dst, v, none, false⟩ else none
      | none => none
  | none => none
theorem deedS_ok {s : St} {d : DD} (h : deedS P n ops o s = some d) : VD P n ops o d ∧ d.need = needOf ops o s := by
  unfold deedS at h
  simp only at h
  generalize needOf ops o s = need at h
  split at h
  · rename_i hg
    split at h
    · rename_i hd; cases h; exact ⟨vd_skip hg hd, rfl⟩
    · cases h
  · rename_i hg
    split at h
    · rename_i t x ho
      split at h
      · rename_i d' v hd hx
        split at h
        · rename_i cs hcs
          split at h
          · rename_i hc
            simp only [Bool.and_eq_true, decide_eq_true_eq] at hc
            cases h
            exact ⟨fun K s hs hn => S_box d' ho hd (hs.guard hg) hc.1.1 hc.1.2 (hs.opd hx) hcs (hn rfl) hc.2, rfl⟩
          · cases h
        · cases h
      · cases h
    · rename_i t ho
      split at h
      · rename_i d' z hd hz
        split at h
        · rename_i hc
          simp only [Bool.and_eq_true, decide_eq_true_eq] at hc
          cases h
          exact ⟨fun K s hs hn => S_alloc d' _ ho hd (hs.guard hg) hc.1 hc.2 hz rfl (hn rfl), rfl⟩
        · cases h
      · cases h
    · rename_i t p x ho
      split at h
      · rename_i d' off v hd hp hx
        split at h
        · rename_i ds cs i hds hcs hi
          split at h
          · rename_i hc
            simp only [Bool.and_eq_true, decide_eq_true_eq] at hc
            cases h
            exact ⟨fun K s hs _ => S_store d' off cs ds ho hd (hs.guard hg) (hs.opd hp) (hs.opd hx) hds (hs.lookB hcs) (by rw [hi]; exact congrArg some hc.1.1) hc.1.2 hc.2, rfl⟩
          · cases h
        · cases h
      · cases h
    · split at h
      · rename_i v hv
        split at h
        · rename_i hd; cases h; exact ⟨vd_grow v hg hd (sop_ok hv).grow, rfl⟩
        · cases h
      · cases h
  · cases h
end

/-! ### the machine for a drawn statement -/
inductive Dr where
  | mk (ops : Array Oper) (l : List Oper) (acc : List DD) (s0 : St) (fs : List Fr) (s : St)
  | bad
/-- what comes before an operation, by the edges -/
def nub (l : List Nat) : List Nat := l.foldr (fun x r => if r.contains x then r else x :: r) []
def ancL (ops : Array Oper) : List (List Nat) := ops.toList.foldl (fun t o => t ++ [nub (o.after.toList.flatMap fun e => if Region.binds .any e then e.on :: (t[e.on]?).getD [] else [])]) []
def drawOk (ops : Array Oper) (s0 : St) (ds : List DD) : Bool :=
  AncB ops (ancL ops) && Chk (ancOf (ancL ops)) (number 0 ds) && Mute (number 0 ds) && ds.all fun d => !d.new || s0.noname d.name (some d.name)
def TD (P : Program) (K : Ctx) (n : Nat) (D : Dr) (Q : Exit → St → Prop) : Prop := match D with
  | .mk ops l acc s0 fs s => ∃ ds, Deeds P n ops l ds ∧ RunD ds s ∧ drawOk ops s0 (acc.reverse ++ ds) = true ∧ QS P K n fs Q .normal (FinD ds s)
  | .bad => False
def stepD (P : Program) (n : Nat) : Dr → Dr
  | .mk ops (o :: l) acc s0 fs s => match deedS P n ops o s with
    | some d => .mk ops l (d :: acc) s0 fs (d.app s)
    | none => .bad
  | _ => .bad
def goD (P : Program) (n : Nat) : Nat → Dr → Dr
  | 0, D => D
  | k + 1, D => goD P n k (stepD P n D)
def Cfg.draw : Cfg → Dr
  | .mk (.code (.region _ ops true) :: fs) .normal s => .mk ops ops.toList [] s fs s
  | _ => .bad
def Dr.done : Dr → Cfg
  | .mk _ [] _ _ fs s => .mk fs .normal s
  | _ => .bad
def Dr.ok : Dr → Bool
  | .mk ops [] acc s0 _ _ => drawOk ops s0 acc.reverse
  | _ => false
def Dr.op : Dr → Option (Array Oper × Oper)
  | .mk ops (o :: _) _ _ _ _ => some (ops, o)
  | _ => none
def Dr.need : Dr → St
  | .mk ops (o :: _) _ _ _ s => needOf ops o s
  | _ => ⟨[], []⟩
def Dr.push (D : Dr) (d : DD) : Dr := match D with
  | .mk ops (_ :: l) acc s0 fs s => .mk ops l (d :: acc) s0 fs (d.app s)
  | _ => .bad
section
variable {P : Program} {K : Ctx} {n : Nat} {Q : Exit → St → Prop} {C : Cfg} {D : Dr}
theorem TS_draw (hm : P.follows .mixedOrders = true) (k : TD P K n C.draw Q) : TS P K n C Q := by
  unfold Cfg.draw at k
  split at k
  · rename_i id ops fs s
    obtain ⟨ds, h1, h2, h3, h4⟩ := k
    simp only [drawOk, Bool.and_eq_true, List.reverse_nil, List.nil_append] at h3
    obtain ⟨⟨⟨h5, h6⟩, h7⟩, h8⟩ := h3
    have := T_any (P := P) (K := K) (n := n) (Q := QS P K n fs Q) (s := s) (l := ops.toList) (id := id) (ancL ops) ds (FinD ds s) hm h1 h5 h2 (Sim.refl _) (fun d hd hn => by
      have := List.all_eq_true.1 h8 d hd
      simp only [hn, Bool.not_true, Bool.false_or] at this
      exact noname_spec this) h6 h7 h4
    exact this
  · exact k.elim
theorem push_ok {ops : Array Oper} {o : Oper} {d : DD} (ho : D.op = some (ops, o)) (hv : VD P n ops o d) (hn : d.need = D.need) (k : TD P K n (D.push d) Q) : TD P K n D Q := by
  unfold Dr.op at ho
  split at ho
  · cases ho
    rename_i l acc s0 fs s
    obtain ⟨ds, h1, h2, h3, h4⟩ := k
    refine ⟨d :: ds, .cons hv h1, ⟨by rw [hn]; exact need_sub _ _ _, h2⟩, ?_, h4⟩
    rw [List.reverse_cons, List.append_assoc] at h3
    exact h3
  · cases ho
theorem stepD_ok (h : TD P K n (stepD P n D) Q) : TD P K n D Q := by
  unfold stepD at h
  split at h
  · rename_i ops o l acc s0 fs s
    split at h
    · rename_i d hd
      obtain ⟨h1, h2⟩ := deedS_ok hd
      exact push_ok (D := .mk ops (o :: l) acc s0 fs s) rfl h1 h2 h
    · exact h.elim
  · exact h.elim
theorem TD_go : ∀ (k : Nat) {D : Dr}, TD P K n (goD P n k D) Q → TD P K n D Q
  | 0, _, h => h
  | k + 1, _, h => stepD_ok (TD_go k h)
theorem TD_end (hk : D.ok = true) (k : TS P K n D.done Q) : TD P K n D Q := by
  unfold Dr.done at k
  split at k
  · exact ⟨[], .nil, trivial, by simpa [Dr.ok] using hk, k⟩
  · exact k.elim
def Dr.go1 (n : Nat) (D : Dr) : Bool := match D.op with
  | some (os, o) => (match guardOf os o D.need with | some true => true | _ => false) && dstOk n o
  | none => false
def Dr.dst (D : Dr) : Option Tmp := match D.op with
  | some (_, o) => o.dst
  | none => none
theorem go1D_spec (h : D.go1 n = true) : ∃ os o, D.op = some (os, o) ∧ guardOf os o D.need = some true ∧ dstOk n o = true ∧ D.dst = o.dst := by
  unfold Dr.go1 at h
  split at h
  · rename_i os o ho
    simp only [Bool.and_eq_true] at h
    refine ⟨os, o, ho, ?_, h.2, by simp [Dr.dst, ho]⟩
    have h1 := h.1
    split at h1
    · assumption
    · cases h1
  · cases h
def Dr.ret (D : Dr) (v : SV) : Dr := D.push ⟨D.need, D.dst, v, none, false⟩
theorem TD_val (v : SV) (hg : D.go1 n = true) (hp : ∀ os o, D.op = some (os, o) → GrowOp P o D.need v) (k : TD P K n (D.ret v) Q) : TD P K n D Q := by
  obtain ⟨os, o, ho, h1, h2, h3⟩ := go1D_spec hg
  unfold Dr.ret at k
  rw [h3] at k
  exact push_ok ho (vd_grow v h1 h2 (hp os o ho)) rfl k
def Dr.with1 {β : Type} (D : Dr) (f : St → Oper → Option β) : Option β := match D.op with
  | some (_, o) => f D.need o
  | none => none
theorem with1D_op {β : Type} {f : St → Oper → Option β} {b : β} (h : D.with1 f = some b) {os : Array Oper} {o : Oper} (ho : D.op = some (os, o)) : f D.need o = some b := by
  unfold Dr.with1 at h
  rw [ho] at h
  exact h
variable {α : Type}
theorem TD_idx (f : α → List SC) {l : List α} {i : Int} {e : α} (he : idx l i = some e) (h : D.with1 (idxArgs P) = some (l.map f, i)) (hg : D.go1 n = true) (k : TD P K n (D.ret (.c (.ref (f e)))) Q) : TD P K n D Q :=
  TD_val _ hg (fun _ _ ho => grow_idx he (with1D_op h ho)) k
theorem TD_sub (f : α → List SC) (sz : Nat) {l l' : List α} {a b : Int} (he : subO l a b = some l') (h : D.with1 (subArgs P) = some (sz, l.map f, a, b)) (hg : D.go1 n = true) (k : TD P K n (D.ret (.c (.slc sz 0 l'.length (l'.map f)))) Q) : TD P K n D Q :=
  TD_val _ hg (fun _ _ ho => grow_subS he (with1D_op h ho)) k
theorem TD_app (f : α → List SC) (sz : Nat) {by_ : Nat} {l1 l2 l' : List α} (he : appO by_ l1 l2 = some l') (h : D.with1 (appArgs P) = some (sz, by_, l1.map f, l2.map f)) (hg : D.go1 n = true) (k : TD P K n (D.ret (.c (.slc sz 0 l'.length (l'.map f)))) Q) : TD P K n D Q :=
  TD_val _ hg (fun _ _ ho => grow_appS he (with1D_op h ho)) k
theorem TD_lit (f : α → List SC) (ks : List Nat) (sz : Nat) (l : List α) (h : D.with1 (litArgs P ks) = some (sz, l.length, l.map f)) (hg : D.go1 n = true) (k : TD P K n (D.ret (.c (.slc sz 1 l.length (l.map f)))) Q) : TD P K n D Q :=
  TD_val _ hg (fun _ _ ho => grow_litS (with1D_op h ho)) k
theorem TD_num {op : BinOp} {k k' : IntKind} {m i : Int} {v : SV} {p : Prop} (hp : p) (hv : intBinC op k m i = some (v, p)) (hk : op = .shl ∨ op = .shr ∨ k' = k) (h : D.with1 (chkArgs P) = some (op, k, k', m, i)) (hg : D.go1 n = true) (kk : TD P K n (D.ret v) Q) : TD P K n D Q := by
  refine TD_val v hg (fun os o ho => ?_) kk
  have h1 := with1D_op h ho
  unfold chkArgs at h1
  split at h1
  · rename_i op' t x y t' ho'
    split at h1
    · rename_i k1 m1 k2 i1 hx hy
      cases h1
      exact (pure_intC m i hk ho' hx hy hv hp).grow
    · cases h1
  · cases h1
theorem TD_know (_t : Nat) {e b : Bool} (hb : e = b) (_hh : True) (hg : D.go1 n = true) (h : D.with1 (fun s o => sop P s o.op) = some (.c (.lit (.bool e)))) (k : TD P K n (D.ret (.c (.lit (.bool b)))) Q) : TD P K n D Q := by
  subst hb
  exact TD_val _ hg (fun _ _ ho => (sop_ok (with1D_op h ho)).grow) k
def Dr.callee (D : Dr) (kss : List (List Nat)) : Option (FuncId × List SV) := match D.op with
  | some (_, o) => match calleeOf D.need o with
    | some (f, vs) => some (f, castArgs kss vs)
    | none => none
  | none => none
theorem calleeD_op {kss : List (List Nat)} {f : FuncId} {A : List SV} (h : D.callee kss = some (f, A)) {os : Array Oper} {o : Oper} (ho : D.op = some (os, o)) : ∃ vs, calleeOf D.need o = some (f, vs) ∧ castArgs kss vs = A := by
  unfold Dr.callee at h
  rw [ho] at h
  simp only at h
  split at h
  · rename_i f' vs hv; cases h; exact ⟨vs, hv, rfl⟩
  · cases h
theorem TD_call {f : FuncId} {A : List SV} {r : SV} (kss : List (List Nat)) (hp : Con P f A [] r []) (hc : D.callee kss = some (f, A)) (hg : (D.go1 n && hasBody P f && r.every SC.closed) = true) (k : TD P K n (D.ret r) Q) : TD P K n D Q := by
  simp only [Bool.and_eq_true] at hg
  refine TD_val r hg.1.1 (fun os o ho => ?_) k
  obtain ⟨vs, h1, h2⟩ := calleeD_op hc ho
  exact grow_con kss h1 hg.1.2 h2 hg.2 hp
theorem argsS_sub {s s' : St} (h : Sub s s') : ∀ (l : List Operand) (r : List SV), argsS s l = some r → argsS s' l = some r
  | [], r, hr => hr
  | x :: l, r, hr => by
    simp only [argsS] at hr ⊢
    split at hr
    · rename_i v r' hv hr'
      rw [h.opd hv, argsS_sub h l r' hr']
      exact hr
    · cases hr
theorem Sub.callee {s s' : St} (h : Sub s s') {o : Oper} {f : FuncId} {vs : List SV} (hc : calleeOf s o = some (f, vs)) : calleeOf s' o = some (f, vs) := by
  unfold calleeOf at hc ⊢
  split at hc
  · rename_i fo xs ts ho
    try rw [ho]
    try simp only
    split at hc
    · rename_i fv vs' hfo hvs
      rw [h.opd hfo, argsS_sub h _ _ hvs]
      exact hc
    · cases hc
  · cases hc
theorem ren0_closed {f : Nat → Nat} {x : SC} (h : x.say0 (fun _ => false) = true) : x.ren0 f = x := by
  cases x with
  | slc s tag n xs =>
    rcases tag with _ | _ | t
    · rfl
    · rfl
    · simp [SC.say0] at h
  | lit v => rfl
  | ref cs => rfl
  | clo c cs => rfl
  | box d off => simp [SC.say0] at h
  | own d => simp [SC.say0] at h
  | row d n => simp [SC.say0] at h
  | win d o n => simp [SC.say0] at h
  | sub d o n m => simp [SC.say0] at h
  | elt d o n m => simp [SC.say0] at h
  | any => rfl
theorem ren_closed {f : Nat → Nat} {x : SC} (h : x.closed = true) : x.ren f = x := by
  cases x with
  | clo c cs =>
    simp only [SC.ren]
    congr 1
    refine (List.map_congr_left (fun y hy => ren0_closed (List.all_eq_true.1 h y hy))).trans (List.map_id' _)
  | lit v => rfl
  | ref cs => rfl
  | slc s tag n xs => exact ren0_closed (x := .slc s tag n xs) h
  | box d off => simp [SC.closed, SC.say, SC.say0] at h
  | own d => simp [SC.closed, SC.say, SC.say0] at h
  | row d n => simp [SC.closed, SC.say, SC.say0] at h
  | win d o n => simp [SC.closed, SC.say, SC.say0] at h
  | sub d o n m => simp [SC.closed, SC.say, SC.say0] at h
  | elt d o n m => simp [SC.closed, SC.say, SC.say0] at h
  | any => rfl
theorem renV_closed {f : Nat → Nat} {v : SV} (h : v.every SC.closed = true) : v.map (SC.ren f) = v := by
  cases v with
  | c x => simp only [SV.map]; rw [ren_closed h]
  | agg cs => simp only [SV.map]; congr 1; exact (List.map_congr_left (fun y hy => ren_closed (List.all_eq_true.1 h y hy))).trans (List.map_id' _)
  | tup vs =>
    simp only [SV.map]
    congr 1
    refine (List.map_congr_left (fun y hy => ?_)).trans (List.map_id' _)
    have h1 := List.all_eq_true.1 h y hy
    have : y.2.map (SC.ren f) = y.2 := (List.map_congr_left (fun z hz => ren_closed (List.all_eq_true.1 h1 z hz))).trans (List.map_id' _)
    rw [this]
theorem say_mono {p q : Nat → Bool} (h : ∀ d, p d = true → q d = true) {x : SC} (hx : x.say p = true) : x.say q = true := by
  have h0 : ∀ y : SC, y.say0 p = true → y.say0 q = true := by
    intro y hy
    cases y with
    | slc s tag n xs =>
      rcases tag with _ | _ | t
      · rfl
      · rfl
      · exact h t hy
    | lit v => rfl
    | ref cs => rfl
    | clo c cs => rfl
    | box d off => exact h d hy
    | own d => exact h d hy
    | row d n => exact h d hy
    | win d o n => exact h d hy
    | sub d o n m => exact h d hy
    | elt d o n m => exact h d hy
    | any => rfl
  cases x with
  | clo c cs => exact List.all_eq_true.2 (fun y hy => h0 y (List.all_eq_true.1 hx y hy))
  | lit v => rfl
  | ref cs => rfl
  | slc s tag n xs => exact h0 (.slc s tag n xs) hx
  | box d off => exact h0 (.box d off) hx
  | own d => exact h0 (.own d) hx
  | row d n => exact h0 (.row d n) hx
  | win d o n => exact h0 (.win d o n) hx
  | sub d o n m => exact h0 (.sub d o n m) hx
  | elt d o n m => exact h0 (.elt d o n m) hx
  | any => rfl
theorem every_mono {p q : SC → Bool} (h : ∀ x, p x = true → q x = true) {v : SV} (hv : v.every p = true) : v.every q = true := by
  cases v with
  | c x => exact h x hv
  | agg cs => exact List.all_eq_true.2 (fun y hy => h y (List.all_eq_true.1 hv y hy))
  | tup vs => exact List.all_eq_true.2 (fun x hx => List.all_eq_true.2 (fun y hy => h y (List.all_eq_true.1 (List.all_eq_true.1 hv x hx) y hy)))
theorem everyR_true (r : Res) : r.every (SC.say fun d => (look ([] : List (Nat × Nat)) d).isNone) = true := by
  cases r <;> simp [Res.every, look, SC.say_true]
/-- a call with a variable behind a pointer -/
theorem vd_con {ops : Array Oper} {o : Oper} {need : St} {f : FuncId} {vs A : List SV} {r : SV} (kss : List (List Nat)) (d off : Nat) (csD cs cs' : List SC) (hgd : guardOf ops o need = some true) (hd : dstOk n o = true) (hc : calleeOf need o = some (f, vs)) (hb : hasBody P f = true) (hargs : castArgs kss vs = A.map (renV d off)) (hok : A.all SV.okP = true)
    (hl : look need.hp d = some (.box csD)) (hcl : cs.all SC.closed = true) (hcl' : cs'.all SC.closed = true) (hw : (csD.drop off).take cs.length = cs) (hlen : cs'.length = cs.length) (hsz : off + cs.length ≤ csD.length) (hr : r.every SC.closed = true) (hp : Con P f A [(1000000, .box cs)] r [(1000000, .box cs')]) :
    VD P n ops o ⟨need, o.dst, r, some (d, .box (over csD off cs')), false⟩ := by
  intro K s hs _
  have hN : newsOk s [(1000000, .box cs')] r [] o.dst = true := by
    simp only [newsOk, List.all_nil, Bool.true_and, Bool.and_eq_true, List.all_eq_true]
    refine ⟨⟨⟨fun q _ => ?_, fun q _ => everyR_true q.2⟩, every_mono (fun x hx => say_mono (fun d h => by cases h) hx) hr⟩, fun q hq => ?_⟩
    · simp only [Bool.or_eq_true]
      refine .inr ?_
      have : (fun d => (look ([] : List (Nat × Nat)) d).isNone) = fun _ => true := by funext d; rfl
      rw [this]
      cases q.2 <;> simp [SV.every, SC.say_true]
    · simp only [List.mem_singleton] at hq
      subst hq
      rfl
  have := S_con (P := P) (K := K) (n := n) (ops := ops) (o := o) (s := s) (h := [(1000000, .box cs)]) kss [] (some (d, off)) (hs.guard hgd) hd (hs.callee hc) hb hargs hok ⟨csD, cs, cs', hs.h _ _ hl, rfl, rfl, hcl, hcl', hw, hlen, hsz, rfl⟩ hN hp
  refine this.sim ?_
  have e1 : (s.after [(1000000, .box cs')] r [] (some (d, off)) o.dst) = (s.setR d (.box (over csD off cs'))).put o.dst r := by
    simp only [St.after, newsHp, hpAfter, look_cons, if_true, hs.h _ _ hl, renV_closed hr, St.setR]
  rw [e1]
  exact Sim.refl _
theorem TD_con {f : FuncId} {A : List SV} {r : SV} {_h _h' : Hp} (kss : List (List Nat)) (d off : Nat) (csD cs cs' : List SC) (hp : Con P f A [(1000000, .box cs)] r [(1000000, .box cs')]) (hc : D.callee kss = some (f, A.map (renV d off))) (hl : look D.need.hp d = some (.box csD)) (hw : (csD.drop off).take cs.length = cs) (hg : (D.go1 n && hasBody P f && A.all SV.okP && cs.all SC.closed && cs'.all SC.closed && decide (cs'.length = cs.length) && decide (off + cs.length ≤ csD.length) && r.every SC.closed) = true)
    (k : TD P K n (D.push ⟨D.need, D.dst, r, some (d, .box (over csD off cs')), false⟩) Q) : TD P K n D Q := by
  simp only [Bool.and_eq_true, decide_eq_true_eq] at hg
  obtain ⟨⟨⟨⟨⟨⟨⟨g1, g2⟩, g3⟩, g4⟩, g5⟩, g6⟩, g7⟩, g8⟩ := hg
  obtain ⟨os, o, ho, h1, h2, h3⟩ := go1D_spec g1
  obtain ⟨vs, h4, h5⟩ := calleeD_op hc ho
  rw [h3] at k
  exact push_ok ho (vd_con kss d off csD cs cs' h1 h2 h4 g2 h5 g3 hl g4 g5 hw g6 g7 g8 hp) rfl k
end
end Go.Proofs.Ytohfnlkjdjmipaa
