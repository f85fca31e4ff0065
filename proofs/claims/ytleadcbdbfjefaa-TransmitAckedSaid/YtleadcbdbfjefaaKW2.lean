/-
  Part 2 of what the proof of this law rests on.
-/
import Derived.Test.YtleadcbdbfjefaaKW1
namespace Go.Proofs.Ytleadcbdbfjefaa
section
open Go.RowKit

structure Sub (s s' : St) : Prop where
  t : ∀ k v, look s.tmps k = some v → look s'.tmps k = some v
  h : ∀ k v, look s.hp k = some v → look s'.hp k = some v
def Sim (s s' : St) : Prop := (∀ k, look s.tmps k = look s'.tmps k) ∧ ∀ k, look s.hp k = look s'.hp k
theorem Sim.refl (s : St) : Sim s s := ⟨fun _ => rfl, fun _ => rfl⟩
theorem Sim.symm {s s' : St} (h : Sim s s') : Sim s' s := ⟨fun k => (h.1 k).symm, fun k => (h.2 k).symm⟩
theorem Sim.trans {s s' s'' : St} (h : Sim s s') (k : Sim s' s'') : Sim s s'' := ⟨fun x => (h.1 x).trans (k.1 x), fun x => (h.2 x).trans (k.2 x)⟩
theorem Sub.sim {s s' s'' : St} (h : Sub s s') (k : Sim s' s'') : Sub s s'' := ⟨fun x v hv => (k.1 x).symm.trans (h.t x v hv), fun x v hv => (k.2 x).symm.trans (h.h x v hv)⟩
theorem R.sim {K : Ctx} {n : Nat} {a : Act} {w : World} {s s' : St} (h : R K n a w s) (k : Sim s s') : R K n a w s' := by
  obtain ⟨g, h⟩ := h
  have hin : ∀ b o, InFoot g s'.hp b o ↔ InFoot g s.hp b o := fun b o => ⟨fun ⟨d, r, h1, h2⟩ => ⟨d, r, (k.2 d).trans h1, h2⟩, fun ⟨d, r, h1, h2⟩ => ⟨d, r, (k.2 d).symm.trans h1, h2⟩⟩
  have hrd : rdOf K g s'.hp w = rdOf K g s.hp w := by
    funext b o
    unfold rdOf
    by_cases hx : InFoot g s.hp b o
    · rw [if_pos hx, if_pos ((hin b o).2 hx)]
    · rw [if_neg hx, if_neg (fun q => hx ((hin b o).1 q))]
  refine ⟨g, h.defers, h.size, h.few, ⟨h.hg.keep, fun d r hd => ?_, fun b o hx => h.hg.may b o ((hin b o).1 hx), fun d d' r r' b o hne h1 h2 => h.hg.dis d d' r r' b o hne ((k.2 d).trans h1) ((k.2 d').trans h2), fun d cs h6 hd => h.hg.fix d cs h6 ((k.2 d).trans hd), fun d r hd => h.hg.new d r ((k.2 d).trans hd)⟩, fun t v hv => ?_⟩
  · rw [hrd]; exact h.hg.holds d r ((k.2 d).trans hd)
  · rw [hrd]; exact h.tmps t v ((k.1 t).trans hv)
theorem Stp.sim {P : Program} {K : Ctx} {n : Nat} {ops : Array Oper} {o : Oper} {s s' s'' : St} (h : Stp P K n ops o s s') (k : Sim s' s'') : Stp P K n ops o s s'' :=
  fun a w r K' Q hK => h a w r K' Q fun a' w' r' => hK a' w' (r'.sim k)
theorem Sub.opd {s s' : St} (h : Sub s s') {x : Operand} {v : SV} (hx : opd s x = some v) : opd s' x = some v := by
  cases x with
  | tmp t =>
    simp only [Go.Proofs.Ytleadcbdbfjefaa.opd] at hx ⊢
    split at hx
    · rename_i ht; rw [if_pos ht]; exact h.t t v hx
    · cases hx
  | const c => exact hx
  | func f => exact hx
  | global g => simp [Go.Proofs.Ytleadcbdbfjefaa.opd] at hx
theorem Sub.t2 {s s' : St} (h : Sub s s') {t : Nat} {v : SV} (k : (if t < 2000000 then look s.tmps t else none) = some v) : (if t < 2000000 then look s'.tmps t else none) = some v := by
  split at k
  · rename_i ht; rw [if_pos ht]; exact h.t t v k
  · cases k
theorem Sub.guard {s s' : St} (h : Sub s s') {ops : Array Oper} {o : Oper} {b : Bool} (hg : guardOf ops o s = some b) : guardOf ops o s' = some b := by
  unfold guardOf at *
  split
  · rename_i hn; rw [hn] at hg; exact hg
  · rename_i j want hn
    rw [hn] at hg
    simp only at hg
    split at hg
    · rename_i oj hoj
      try rw [hoj]
      try simp only
      split at hg
      · rename_i t ht
        try rw [ht]
        try simp only
        split at hg
        · rename_i b' hl
          rw [h.t2 hl]
          exact hg
        · rename_i hl
          rw [h.t2 hl]
          exact hg
        · cases hg
      · cases hg
    · cases hg
theorem Sub.grow {s s' : St} (h : Sub s s') {P : Program} {o : Oper} {v : SV} (hp : GrowOp P o s v) : GrowOp P o s' v := by
  intro g rd a w hv
  exact hp g rd a w ⟨fun x y hx hy => hv.op x y hx (h.opd hy), hv.reads, fun d r hd => hv.holds d r (h.h d r hd)⟩

structure DD where
  need : St
  dst : Option Tmp
  v : SV
  up : Option (Nat × Res)
  new : Bool
def DD.app (d : DD) (s : St) : St := match d.up with
  | some (b, r) => (s.setR b r).put d.dst d.v
  | none => s.put d.dst d.v
def DD.lt (d : DD) (k : Nat) (old : Option SV) : Option SV := if d.dst = some k then some d.v else old
def DD.lb (d : DD) (k : Nat) (old : Option Res) : Option Res := match d.up with
  | some (b, r) => if b = k then some r else old
  | none => old
theorem put_hp (s : St) (d : Option Tmp) (v : SV) : (s.put d v).hp = s.hp := by cases d <;> rfl
theorem app_t (d : DD) (s : St) (k : Nat) : look (d.app s).tmps k = d.lt k (look s.tmps k) := by
  unfold DD.app DD.lt
  cases d.up with
  | none =>
    cases hd : d.dst with
    | none => simp [St.put]
    | some t => simp only [look_put]; simp
  | some p =>
    cases hd : d.dst with
    | none => simp [St.put, St.setR]
    | some t => simp only [look_put]; simp [St.setR]
theorem app_b (d : DD) (s : St) (k : Nat) : look (d.app s).hp k = d.lb k (look s.hp k) := by
  unfold DD.app DD.lb
  cases d.up with
  | none => simp only [put_hp]
  | some p => simp only [put_hp, St.setR, look_setL]
theorem app_sim {s s' : St} (d : DD) (h : Sim s s') : Sim (d.app s) (d.app s') :=
  ⟨fun k => by rw [app_t, app_t, h.1], fun k => by rw [app_b, app_b, h.2]⟩
def NM (d : Nat) (s : St) : Prop := NoName s d (some d)
theorem NM.sim {d : Nat} {s s' : St} (h : NM d s) (k : Sim s s') : NM d s' :=
  ⟨(k.2 d).symm.trans h.1, fun t v hv ht => h.2.1 t v ((k.1 t).trans hv) ht, fun e cs he => h.2.2 e cs ((k.2 e).trans he)⟩
def DD.name (d : DD) : Nat := (d.up.map (·.1)).getD 0
/-- x names not the variable that y makes -/
def DD.quiet (x y : DD) : Bool := !y.new || (x.v.every (SC.say (· != y.name)) && (match x.up with | some (b, r) => r.every (SC.say (· != y.name)) && b != y.name | none => true))
theorem NM.app {x y : DD} {s : St} (h : NM y.name s) (hn : y.new = true) (hq : x.quiet y = true) : NM y.name (x.app s) := by
  unfold DD.quiet at hq
  rw [hn] at hq
  simp only [Bool.not_true, Bool.false_or, Bool.and_eq_true] at hq
  refine ⟨?_, fun t v hv ht => ?_, fun e cs he => ?_⟩
  · rw [app_b]
    unfold DD.lb
    split
    · rename_i b cs hb
      rw [hb] at hq
      simp only [Bool.and_eq_true] at hq
      rw [if_neg (by simpa using hq.2.2)]
      exact h.1
    · exact h.1
  · rw [app_t] at hv
    unfold DD.lt at hv
    split at hv
    · cases hv; exact hq.1
    · exact h.2.1 t v hv ht
  · rw [app_b] at he
    unfold DD.lb at he
    split at he
    · rename_i b cs' hb
      rw [hb] at hq
      simp only [Bool.and_eq_true] at hq
      split at he
      · cases he; exact hq.2.1
      · exact h.2.2 e cs he
    · exact h.2.2 e cs he
def VD (P : Program) (n : Nat) (ops : Array Oper) (o : Oper) (d : DD) : Prop := ∀ K s, Sub d.need s → (d.new = true → NM d.name s) → Stp P K n ops o s (d.app s)
def keysOf {α : Type} (l : List (Nat × α)) : List Nat := l.map (·.1)
/-- x writes nothing that y needs -/
def DD.spares (x y : DD) : Bool :=
  (match x.dst with | some t => !(keysOf y.need.tmps).contains t | none => true) &&
  (match x.up with | some (b, _) => !(keysOf y.need.hp).contains b | none => true)
def DD.other (x y : DD) : Bool :=
  (match x.dst, y.dst with | some a, some b => a != b | _, _ => true) &&
  (match x.up, y.up with | some a, some b => a.1 != b.1 | _, _ => true)
def DD.indep (x y : DD) : Bool := x.spares y && y.spares x && x.other y && x.quiet y && y.quiet x

theorem spares_sub {x y : DD} {s : St} (h : x.spares y = true) : Sub y.need s ↔ Sub y.need (x.app s) := by
  simp only [DD.spares, Bool.and_eq_true] at h
  obtain ⟨h1, h2⟩ := h
  have e1 : ∀ k, k ∈ keysOf y.need.tmps → look (x.app s).tmps k = look s.tmps k := by
    intro k hk
    rw [app_t]
    unfold DD.lt
    rw [if_neg]
    intro he
    rw [he] at h1
    simp at h1
    exact h1 hk
  have e2 : ∀ k, k ∈ keysOf y.need.hp → look (x.app s).hp k = look s.hp k := by
    intro k hk
    rw [app_b]
    unfold DD.lb
    split
    · rename_i b cs hb
      rw [hb] at h2
      rw [if_neg]
      intro he
      subst he
      simp at h2
      exact h2 hk
    · rfl
  have key : ∀ {α : Type} {l : List (Nat × α)} {k : Nat} {v : α}, look l k = some v → k ∈ keysOf l := fun {α l k v} hl => List.mem_map.2 ⟨_, look_mem hl, rfl⟩
  constructor
  · intro hs
    exact ⟨fun k v hv => (e1 k (key hv)).trans (hs.t k v hv), fun k v hv => (e2 k (key hv)).trans (hs.h k v hv)⟩
  · intro hs
    exact ⟨fun k v hv => (e1 k (key hv)).symm.trans (hs.t k v hv), fun k v hv => (e2 k (key hv)).symm.trans (hs.h k v hv)⟩
theorem other_comm {x y : DD} (h : x.other y = true) (s : St) : Sim (y.app (x.app s)) (x.app (y.app s)) := by
  simp only [DD.other, Bool.and_eq_true] at h
  obtain ⟨h1, h2⟩ := h
  refine ⟨fun k => ?_, fun k => ?_⟩
  · rw [app_t, app_t, app_t, app_t]
    unfold DD.lt
    by_cases hx : x.dst = some k
    · by_cases hy : y.dst = some k
      · rw [hx, hy] at h1; simp at h1
      · simp [hx, hy]
    · simp [hx]
  · rw [app_b, app_b, app_b, app_b]
    unfold DD.lb
    cases hx : x.up with
    | none => cases hy : y.up <;> rfl
    | some p =>
      cases hy : y.up with
      | none => rfl
      | some q =>
        rw [hx, hy] at h2
        simp only [bne_iff_ne, ne_eq] at h2
        simp only
        by_cases e1 : p.1 = k
        · have e2 : ¬ q.1 = k := fun e => h2 (e1.trans e.symm)
          simp [e1, e2]
        · simp [e1]
/-- the operations one after the other: what each needs is there -/
def RunD : List DD → St → Prop
  | [], _ => True
  | d :: l, s => Sub d.need s ∧ RunD l (d.app s)
def FinD : List DD → St → St
  | [], s => s
  | d :: l, s => FinD l (d.app s)
theorem RunD.sim : ∀ {l : List DD} {s s' : St}, RunD l s → Sim s s' → RunD l s'
  | [], _, _, _, _ => trivial
  | d :: _l, _, _, h, k => ⟨h.1.sim k, RunD.sim h.2 (app_sim d k)⟩
theorem FinD.sim : ∀ (l : List DD) {s s' : St}, Sim s s' → Sim (FinD l s) (FinD l s')
  | [], _, _, k => k
  | d :: l, _, _, k => FinD.sim l (app_sim d k)
theorem bubble {x : DD} {post : List DD} : ∀ (pre : List DD) (s : St), (∀ y ∈ pre, y.indep x = true) → RunD (pre ++ x :: post) s → RunD (x :: pre ++ post) s ∧ Sim (FinD (pre ++ x :: post) s) (FinD (x :: pre ++ post) s)
  | [], s, _, h => ⟨h, Sim.refl _⟩
  | y :: pre, s, hi, h => by
    obtain ⟨h1, h2⟩ := h
    obtain ⟨⟨h3, h4⟩, h5⟩ := bubble pre (y.app s) (fun z hz => hi z (List.mem_cons_of_mem _ hz)) h2
    have hyx := hi y (by simp)
    simp only [DD.indep, Bool.and_eq_true] at hyx
    obtain ⟨⟨⟨⟨a1, a2⟩, a3⟩, _⟩, _⟩ := hyx
    have hc := other_comm a3 s
    refine ⟨⟨(spares_sub a1).2 h3, (spares_sub a2).1 h1, RunD.sim h4 hc⟩, h5.trans ?_⟩
    exact FinD.sim (pre ++ post) hc

def Chk (anc : Nat → List Nat) : List (Nat × DD) → Bool
  | [] => true
  | p :: l => Chk anc l && l.all fun q => (anc q.1).contains p.1 || p.2.indep q.2
/-- whoever comes earlier names not what is made later -/
def Mute : List (Nat × DD) → Bool
  | [] => true
  | p :: l => Mute l && l.all fun q => p.2.quiet q.2

theorem Chk_mem {anc : Nat → List Nat} : ∀ {pre : List (Nat × DD)} {x : Nat × DD} {post : List (Nat × DD)}, Chk anc (pre ++ x :: post) = true → (∀ y ∈ pre, (anc x.1).contains y.1 = true ∨ y.2.indep x.2 = true) ∧ Chk anc (pre ++ post) = true
  | [], x, post, h => by
    simp only [List.nil_append, Chk, Bool.and_eq_true] at h
    exact ⟨by simp, h.1⟩
  | p :: pre, x, post, h => by
    simp only [List.cons_append, Chk, Bool.and_eq_true] at h
    obtain ⟨h1, h2⟩ := Chk_mem h.1
    have h3 := List.all_eq_true.1 h.2
    refine ⟨fun y hy => ?_, ?_⟩
    · rcases List.mem_cons.1 hy with rfl | hy
      · simpa using h3 x (by simp)
      · exact h1 y hy
    · simp only [List.cons_append, Chk, Bool.and_eq_true]
      refine ⟨h2, List.all_eq_true.2 fun q hq => h3 q ?_⟩
      rcases List.mem_append.1 hq with hq | hq
      · exact List.mem_append_left _ hq
      · exact List.mem_append_right _ (List.mem_cons_of_mem _ hq)
theorem Mute_mem : ∀ {pre : List (Nat × DD)} {x : Nat × DD} {post : List (Nat × DD)}, Mute (pre ++ x :: post) = true → (∀ q ∈ post, x.2.quiet q.2 = true) ∧ Mute (pre ++ post) = true
  | [], x, post, h => by
    simp only [List.nil_append, Mute, Bool.and_eq_true] at h
    exact ⟨fun q hq => List.all_eq_true.1 h.2 q hq, h.1⟩
  | p :: pre, x, post, h => by
    simp only [List.cons_append, Mute, Bool.and_eq_true] at h
    obtain ⟨h1, h2⟩ := Mute_mem h.1
    have h3 := List.all_eq_true.1 h.2
    refine ⟨h1, ?_⟩
    simp only [List.cons_append, Mute, Bool.and_eq_true]
    refine ⟨h2, List.all_eq_true.2 fun q hq => h3 q ?_⟩
    rcases List.mem_append.1 hq with hq | hq
    · exact List.mem_append_left _ hq
    · exact List.mem_append_right _ (List.mem_cons_of_mem _ hq)

structure AInv (P : Program) (n : Nat) (ops : Array Oper) (anc : Nat → List Nat) (ks : List (Nat × DD)) (listed : Array Bool) (s : St) : Prop where
  size : listed.size = ops.size
  mem : ∀ i, i < ops.size → (listed.getD i true = false ↔ i ∈ ks.map (·.1))
  lt : ∀ p ∈ ks, p.1 < ops.size
  nodup : (ks.map (·.1)).Nodup
  sorted : ∀ p ∈ ks, ∀ i, i < p.1 → i ∈ ks.map (·.1) → ∃ pre post, ks = pre ++ p :: post ∧ i ∈ pre.map (·.1)
  vd : ∀ p ∈ ks, ∃ o, ops[p.1]? = some o ∧ VD P n ops o p.2
  run : RunD (ks.map (·.2)) s
  nm : ∀ p ∈ ks, p.2.new = true → NM p.2.name s
  chk : Chk anc ks = true
  mute : Mute ks = true
  closed : ∀ i, i < ops.size → listed.getD i true = true → ∀ j ∈ anc i, listed.getD j true = true

/-- what is said of the ancestors is so by the edges -/
def AncOk (ops : Array Oper) (anc : Nat → List Nat) : Prop := ∀ i o, ops[i]? = some o → (∀ e ∈ o.after, Region.binds .any e = true → e.on < i) ∧ ∀ j ∈ anc i, ∃ e ∈ o.after, Region.binds .any e = true ∧ (e.on = j ∨ j ∈ anc e.on)

theorem any_law {P : Program} {K : Ctx} {n : Nat} {ops : Array Oper} {anc : Nat → List Nat} (hanc : AncOk ops anc) {Q : Exit → Act → World → Prop} : ∀ (m : Nat) (ks : List (Nat × DD)) (listed : Array Bool) (s : St) (a : Act) (w : World), ks.length = m → AInv P n ops anc ks listed s → R K n a w s →
    (∀ a w s', Sim (FinD (ks.map (·.2)) s) s' → R K n a w s' → Q .normal a w) → wpAny P .any ops Q m listed a w := by
  intro m
  induction m with
  | zero =>
    intro ks listed s a w hk inv r hQ
    have : ks = [] := List.eq_nil_of_length_eq_zero hk
    subst this
    refine ⟨?_, hQ a w s (Sim.refl _) r⟩
    apply List.eq_nil_iff_forall_not_mem.2
    intro i hi
    obtain ⟨h1, o, ho, _⟩ := mem_ready.1 hi
    have hlt := (Array.getElem?_eq_some_iff.1 ho).1
    have := (inv.mem i hlt).1 h1
    simp at this
  | succ m ih =>
    intro ks listed s a w hk inv r hQ
    refine ⟨fun hnone => ?_, fun i hi => ?_⟩
    · -- the first one is ready
      exfalso
      cases ks with
      | nil => simp at hk
      | cons p l =>
        have hp := inv.lt p (by simp)
        obtain ⟨o, ho, _⟩ := inv.vd p (by simp)
        have hready : p.1 ∈ Region.ready .any ops listed := by
          refine mem_ready.2 ⟨(inv.mem p.1 hp).2 (by simp), o, ho, fun e he hb => ?_⟩
          · have hlt := (hanc p.1 o ho).1 e he hb
            have hlt' : e.on < ops.size := by omega
            cases hg : listed.getD e.on true with
            | true =>
              rw [Array.getD_eq_getD_getElem?] at hg ⊢
              rw [Array.getElem?_eq_getElem (by rw [inv.size]; exact hlt')] at hg ⊢
              simpa using hg
            | false =>
              have hin := (inv.mem e.on hlt').1 hg
              obtain ⟨pre, post, hks, hpre⟩ := inv.sorted p (by simp) e.on hlt hin
              have hnd := inv.nodup
              cases pre with
              | nil => simp at hpre
              | cons q pre =>
                rw [List.cons_append] at hks
                injection hks with h1 h2
                rw [h2] at hnd
                simp at hnd
        rw [hnone] at hready
        cases hready
    · obtain ⟨hi1, o, ho, hedges⟩ := mem_ready.1 hi
      have hlt := (Array.getElem?_eq_some_iff.1 ho).1
      obtain ⟨p, hp, rfl⟩ := List.mem_map.1 ((inv.mem i hlt).1 hi1)
      obtain ⟨pre, post, rfl⟩ := List.append_of_mem hp
      obtain ⟨o', ho', hvd⟩ := inv.vd p hp
      rw [ho] at ho'
      cases ho'
      have hlisted : ∀ j ∈ anc p.1, listed.getD j true = true := by
        intro j hj
        obtain ⟨e, he, hb, hor⟩ := (hanc p.1 o ho).2 j hj
        have hlt2 := (hanc p.1 o ho).1 e he hb
        have hl : listed.getD e.on false = true := hedges e he hb
        have hl' : listed.getD e.on true = true := by
          rw [Array.getD_eq_getD_getElem?] at hl ⊢
          rw [Array.getElem?_eq_getElem (by rw [inv.size]; omega)] at hl ⊢
          simpa using hl
        rcases hor with rfl | hor
        · exact hl'
        · exact inv.closed e.on (by omega) hl' j hor
      obtain ⟨hch, hchk⟩ := Chk_mem inv.chk
      have hind : ∀ y ∈ pre, y.2.indep p.2 = true := by
        intro y hy
        rcases hch y hy with h | h
        · exfalso
          have hyl := hlisted y.1 (by simpa using h)
          have hym := inv.mem y.1 (inv.lt y (by simp [hy]))
          have := hym.2 (by simp only [List.map_append, List.mem_append]; exact .inl (List.mem_map.2 ⟨y, hy, rfl⟩))
          rw [this] at hyl
          cases hyl
        · exact h
      have hrun := inv.run
      rw [List.map_append, List.map_cons] at hrun
      obtain ⟨⟨hneed, hrun'⟩, hsim⟩ := bubble (x := p.2) (post := post.map (·.2)) (pre.map (·.2)) s (fun y hy => by
        obtain ⟨q, hq, rfl⟩ := List.mem_map.1 hy
        exact hind q hq) hrun
      have hstp := hvd K s hneed (inv.nm p hp)
      unfold wpOp
      simp only [ho]
      have cont : ∀ a' w', R K n a' w' (p.2.app s) → wpAny P .any ops Q m (listed.setIfInBounds p.1 true) a' w' := by
        intro a' w' r'
        have hnd := inv.nodup
        have hmem' : ∀ q, q ∈ pre ++ post → q ∈ pre ++ p :: post := fun q hq => by
          rcases List.mem_append.1 hq with h | h
          · exact List.mem_append_left _ h
          · exact List.mem_append_right _ (List.mem_cons_of_mem _ h)
        have hne : ∀ q ∈ pre ++ post, q.1 ≠ p.1 := by
          intro q hq he
          rw [List.map_append, List.map_cons, List.nodup_append] at hnd
          obtain ⟨n1, n2, n3⟩ := hnd
          rcases List.mem_append.1 hq with h | h
          · exact n3 q.1 (List.mem_map.2 ⟨q, h, rfl⟩) p.1 (by simp) he
          · have := (List.nodup_cons.1 n2).1
            exact this (List.mem_map.2 ⟨q, h, he⟩)
        refine ih (pre ++ post) (listed.setIfInBounds p.1 true) (p.2.app s) a' w' (by simp at hk ⊢; omega) ?_ r' ?_
        · refine ⟨by simp [inv.size], fun j hj => ?_, fun q hq => inv.lt q (hmem' q hq), ?_, ?_, fun q hq => inv.vd q (hmem' q hq), by rw [List.map_append]; exact hrun', ?_, hchk, (Mute_mem inv.mute).2, ?_⟩
          · rw [Array.getD_eq_getD_getElem?, Array.getElem?_setIfInBounds]
            by_cases hjp : p.1 = j
            · subst hjp
              rw [if_pos rfl, if_pos (by rw [inv.size]; exact hj)]
              simp only [Option.getD_some, Bool.true_eq_false, false_iff]
              intro hm
              obtain ⟨q, hq, hqe⟩ := List.mem_map.1 hm
              exact hne q hq hqe
            · rw [if_neg hjp, ← Array.getD_eq_getD_getElem?, inv.mem j hj]
              simp only [List.map_append, List.map_cons, List.mem_append, List.mem_cons]
              constructor
              · rintro (h | h | h)
                · exact .inl h
                · exact absurd h.symm hjp
                · exact .inr h
              · rintro (h | h)
                · exact .inl h
                · exact .inr (.inr h)
          · rw [List.map_append] at hnd ⊢
            rw [List.map_cons] at hnd
            exact hnd.sublist (List.Sublist.append_left (List.sublist_cons_self _ _) _)
          · intro q hq j hj hjm
            have hjm' : j ∈ (pre ++ p :: post).map (·.1) := by
              simp only [List.map_append, List.map_cons, List.mem_append, List.mem_cons] at hjm ⊢
              rcases hjm with h | h
              · exact .inl h
              · exact .inr (.inr h)
            obtain ⟨pre2, post2, he, hin⟩ := inv.sorted q (hmem' q hq) j hj hjm'
            have hjne : j ≠ p.1 := by
              intro hjp
              obtain ⟨z, hz, hze⟩ := List.mem_map.1 hjm
              exact hne z hz (hze.trans hjp)
            -- strike p out of the list
            rcases List.append_eq_append_iff.1 he with ⟨mid, h1, h2⟩ | ⟨mid, h1, h2⟩
            · cases mid with
              | nil =>
                simp only [List.nil_append] at h2
                injection h2 with h3 _
                exact absurd (congrArg Prod.fst h3.symm) (hne q hq)
              | cons z mid =>
                rw [List.cons_append] at h2
                injection h2 with h3 h4
                subst h3
                refine ⟨pre ++ mid, post2, by rw [h4]; simp, ?_⟩
                rw [h1] at hin
                simp only [List.map_append, List.map_cons, List.mem_append, List.mem_cons] at hin ⊢
                rcases hin with h | h | h
                · exact .inl h
                · exact absurd h hjne
                · exact .inr h
            · cases mid with
              | nil =>
                simp only [List.nil_append] at h2
                injection h2 with h3 _
                exact absurd (congrArg Prod.fst h3) (hne q hq)
              | cons z mid =>
                rw [List.cons_append] at h2
                injection h2 with h3 h4
                subst h3
                exact ⟨pre2, mid ++ post, by rw [h1]; simp, hin⟩
          · intro q hq hnew
            refine NM.app (inv.nm q (hmem' q hq) hnew) hnew ?_
            rcases List.mem_append.1 hq with h | h
            · have := hind q h
              simp only [DD.indep, Bool.and_eq_true] at this
              exact this.2
            · exact (Mute_mem inv.mute).1 q h
          · intro j hj hjl k hk'
            rw [Array.getD_eq_getD_getElem?, Array.getElem?_setIfInBounds] at hjl ⊢
            by_cases hkp : p.1 = k
            · subst hkp
              rw [if_pos rfl]
              split <;> simp
            · rw [if_neg hkp, ← Array.getD_eq_getD_getElem?]
              by_cases hjp : p.1 = j
              · subst hjp
                exact hlisted k hk'
              · rw [if_neg hjp, ← Array.getD_eq_getD_getElem?] at hjl
                exact inv.closed j hj hjl k hk'
        · intro a2 w2 s2 hs2 r2
          refine hQ a2 w2 s2 ?_ r2
          rw [List.map_append, List.map_cons]
          rw [List.map_append] at hs2
          exact hsim.trans hs2
      have := hstp a w r _ Q cont
      split
      · rename_i hw; rw [if_pos hw] at this; exact .inl this
      · rename_i hw; rw [if_neg hw] at this; exact this

/-- THE LAW: the operations' deeds in the order of the text -/
inductive Deeds (P : Program) (n : Nat) (ops : Array Oper) : List Oper → List DD → Prop
  | nil : Deeds P n ops [] []
  | cons {o : Oper} {l : List Oper} {d : DD} {ds : List DD} (h : VD P n ops o d) (k : Deeds P n ops l ds) : Deeds P n ops (o :: l) (d :: ds)
theorem Deeds.get {P : Program} {n : Nat} {ops : Array Oper} {l : List Oper} {ds : List DD} (h : Deeds P n ops l ds) : l.length = ds.length ∧ ∀ (i : Nat) (d : DD), ds[i]? = some d → ∃ o, l[i]? = some o ∧ VD P n ops o d := by
  induction h with
  | nil => exact ⟨rfl, by simp⟩
  | cons h k ih =>
    refine ⟨by simp [ih.1], fun i d hd => ?_⟩
    cases i with
    | zero => cases hd; exact ⟨_, rfl, h⟩
    | succ i => exact ih.2 i d hd
def number {α : Type} : Nat → List α → List (Nat × α)
  | _, [] => []
  | i, x :: l => (i, x) :: number (i + 1) l
theorem number_snd {α : Type} : ∀ (l : List α) (i : Nat), (number i l).map (·.2) = l
  | [], _ => rfl
  | x :: l, i => by simp [number, number_snd l]
theorem number_fst {α : Type} : ∀ (l : List α) (i : Nat), (number i l).map (·.1) = List.range' i l.length
  | [], _ => rfl
  | x :: l, i => by simp [number, number_fst l, List.range'_succ]
theorem number_mem {α : Type} : ∀ (l : List α) (i : Nat) (p : Nat × α), p ∈ number i l → i ≤ p.1 ∧ l[p.1 - i]? = some p.2
  | [], _, _, h => by simp [number] at h
  | x :: l, i, p, h => by
    rcases List.mem_cons.1 h with rfl | h
    · simp
    · obtain ⟨h1, h2⟩ := number_mem l (i + 1) p h
      exact ⟨by omega, by rw [show p.1 - i = (p.1 - (i + 1)) + 1 by omega, List.getElem?_cons_succ]; exact h2⟩
theorem number_length {α : Type} : ∀ (l : List α) (i : Nat), (number i l).length = l.length
  | [], _ => rfl
  | x :: l, i => by simp [number, number_length l]
def ancOf (t : List (List Nat)) (i : Nat) : List Nat := (t[i]?).getD []
def AncB (ops : Array Oper) (t : List (List Nat)) : Bool := (List.range ops.size).all fun i => match ops[i]? with
  | some o => o.after.all (fun e => !Region.binds .any e || decide (e.on < i)) && (ancOf t i).all fun j => o.after.any fun e => Region.binds .any e && (e.on == j || (ancOf t e.on).contains j)
  | none => true
theorem AncB_ok {ops : Array Oper} {t : List (List Nat)} (h : AncB ops t = true) : AncOk ops (ancOf t) := by
  intro i o ho
  have hi := (Array.getElem?_eq_some_iff.1 ho).1
  have := List.all_eq_true.1 h i (List.mem_range.2 hi)
  rw [ho] at this
  simp only [Bool.and_eq_true] at this
  refine ⟨fun e he hb => ?_, fun j hj => ?_⟩
  · have h1 := Array.all_eq_true_iff_forall_mem.1 this.1 e he
    rw [hb] at h1
    simpa using h1
  · have h1 := List.all_eq_true.1 this.2 j hj
    obtain ⟨e, he, h2⟩ := Array.any_eq_true'.1 h1
    simp only [Bool.and_eq_true, Bool.or_eq_true, beq_iff_eq] at h2
    exact ⟨e, he, h2.1, by simpa using h2.2⟩
theorem T_any {P : Program} {K : Ctx} {n : Nat} {Q : Exit → St → Prop} {s : St} {l : List Oper} {id : Nat} (t : List (List Nat)) (ds : List DD) (s' : St) (hm : P.follows .mixedOrders = true) (hd : Deeds P n l.toArray l ds) (hanc : AncB l.toArray t = true) (hrun : RunD ds s) (hfin : Sim (FinD ds s) s') (hnm : ∀ d ∈ ds, d.new = true → NM d.name s) (hchk : Chk (ancOf t) (number 0 ds) = true) (hmute : Mute (number 0 ds) = true) (hQ : Q .normal s') :
    T P K n (.region id l.toArray true) s Q := by
  intro a w r
  obtain ⟨hl, hget⟩ := hd.get
  refine wp_region_any hm ?_
  have hsz : l.toArray.size = (number 0 ds).length := by rw [number_length, ← hl]; simp
  rw [hsz]
  refine any_law (K := K) (n := n) (AncB_ok hanc) _ (number 0 ds) _ s a _ rfl ?_ ?_ ?_
  · refine ⟨by simp [number_length, hl], fun i hi => ?_, fun p hp => ?_, ?_, ?_, fun p hp => ?_, by rw [number_snd]; exact hrun, fun p hp hnew => ?_, hchk, hmute, ?_⟩
    · rw [number_fst, Array.getD_eq_getD_getElem?]
      simp only [Array.getElem?_replicate, number_length]
      simp only [List.size_toArray] at hi
      rw [if_pos (by omega)]
      simp [List.mem_range'_1]
      omega
    · obtain ⟨_, h2⟩ := number_mem ds 0 p hp
      have := (List.getElem?_eq_some_iff.1 h2).1
      simp
      omega
    · rw [number_fst]; exact List.nodup_range'
    · intro p hp i hi hin
      obtain ⟨pre, post, he⟩ := List.append_of_mem hp
      refine ⟨pre, post, he, ?_⟩
      have h1 := number_fst ds 0
      rw [he, List.map_append, List.map_cons] at h1
      have hpl : p.1 = pre.length := by
        have h2 : ((pre.map (·.1)) ++ p.1 :: post.map (·.1))[pre.length]? = some p.1 := by
          rw [List.getElem?_append_right (by simp)]; simp
        have hlt : pre.length < ds.length := by
          have := congrArg List.length he
          rw [number_length] at this
          simp at this
          omega
        rw [h1, List.getElem?_range' hlt] at h2
        simp at h2
        omega
      have h3 : ((pre.map (·.1)) ++ p.1 :: post.map (·.1))[i]? = some i := by
        have hlt : i < ds.length := by
          rw [number_fst] at hin
          simp [List.mem_range'_1] at hin
          omega
        rw [h1, List.getElem?_range' hlt]
        simp
      rw [List.getElem?_append_left (by simp; omega)] at h3
      exact List.mem_of_getElem? h3
    · obtain ⟨_, h2⟩ := number_mem ds 0 p hp
      obtain ⟨o, h3, h4⟩ := hget _ _ h2
      exact ⟨o, by simpa using h3, h4⟩
    · obtain ⟨_, h2⟩ := number_mem ds 0 p hp
      exact hnm p.2 (List.mem_of_getElem? h2) hnew
    · intro i hi hlist
      rw [Array.getD_eq_getD_getElem?] at hlist
      simp only [Array.getElem?_replicate, number_length] at hlist
      simp only [List.size_toArray] at hi
      rw [if_pos (by omega)] at hlist
      simp at hlist
  · obtain ⟨g, r⟩ := r
    exact ⟨g, r.ext (Ext.drew w)⟩
  · intro a2 w2 s2 hs2 r2
    rw [number_snd] at hs2
    exact ⟨s', r2.sim (hs2.symm.trans hfin), hQ⟩

def opTmps : List Operand → List Nat
  | [] => []
  | .tmp t :: l => t :: opTmps l
  | _ :: l => opTmps l
def SC.names0 : SC → List Nat
  | .box d _ => [d]
  | .own d => [d]
  | .row d _ => [d]
  | .win d _ _ => [d]
  | .sub d _ _ _ => [d]
  | .elt d _ _ _ => [d]
  | .slc _ tag _ _ => match tag with
    | t + 2 => [t]
    | _ => []
  | .clo _ cs => cs.flatMap fun
    | .box d _ => [d]
    | .own d => [d]
    | _ => []
  | _ => []
def SC.names1 : SC → List Nat
  | .own d => [d]
  | .row d _ => [d]
  | .win d _ _ => [d]
  | .sub d _ _ _ => [d]
  | _ => []
def SV.names (f : SC → List Nat) : SV → List Nat
  | .c x => f x
  | .agg cs => cs.flatMap f
  | .tup vs => vs.flatMap fun x => x.2.flatMap f
def opdNames (s : St) (f : SC → List Nat) : List Operand → List Nat
  | [] => []
  | x :: l => (match opd s x with | some v => v.names f | none => []) ++ opdNames s f l
/-- the resources that an operation looks into -/
def opNames (s : St) : Op → List Nat
  | .load _ x => opdNames s SC.names0 [x]
  | .store _ p _ => opdNames s SC.names0 [p]
  | .nilCheck x => opdNames s SC.names0 [x]
  | .call c => opdNames s SC.names0 c.operands.toList
  | .indexAddr _ x _ => opdNames s SC.names1 [x]
  | .slice _ x _ _ _ => opdNames s SC.names0 [x]
  | _ => []
def pickN {α : Type} (l : List (Nat × α)) (ks : List Nat) : List (Nat × α) := l.filter fun p => ks.contains p.1
theorem look_pickN {α : Type} (ks : List Nat) : ∀ (l : List (Nat × α)) (k : Nat) (v : α), look (pickN l ks) k = some v → look l k = some v
  | [], k, v, h => by simp [pickN, look] at h
  | (a, x) :: l, k, v, h => by
    simp only [pickN, List.filter_cons] at h
    split at h
    · rw [look_cons] at h ⊢
      split at h
      · rename_i hk; rw [if_pos hk]; exact h
      · rename_i hk; rw [if_neg hk]; exact look_pickN ks l k v h
    · rename_i hq
      have h1 := look_pickN ks l k v h
      rw [look_cons]
      split
      · rename_i hk
        subst hk
        exfalso
        have := look_mem h
        simp only [List.mem_filter] at this
        exact hq this.2
      · exact h1
def needOf (ops : Array Oper) (o : Oper) (s : St) : St :=
  { tmps := pickN s.tmps (opTmps o.op.operands.toList ++ (match o.guard with | some (j, _) => (match ops[j]? with | some oj => oj.dst.toList | none => []) | none => [])), hp := pickN s.hp (opNames s o.op) }
theorem need_sub (ops : Array Oper) (o : Oper) (s : St) : Sub (needOf ops o s) s := ⟨fun k v h => look_pickN _ _ k v h, fun k v h => look_pickN _ _ k v h⟩

section
variable {P : Program} {n : Nat} {ops : Array Oper} {o : Oper} {need : St}
theorem vd_grow (v : SV) (hg : guardOf ops o need = some true) (hd : dstOk n o = true) (hp : GrowOp P o need v) : VD P n ops o ⟨need, o.dst, v, none, false⟩ :=
  fun _ _ hs _ => S_grow v (hs.guard hg) hd (hs.grow hp)
theorem vd_skip (hg : guardOf ops o need = some false) (hd : dstOk n o = true) : VD P n ops o ⟨need, o.dst, .tup [], none, false⟩ :=
  fun _ _ hs _ => S_skip (hs.guard hg) hd
theorem Sub.lookB {s s' : St} (h : Sub s s') {d : Nat} {cs : List SC} (hl : s.lookB d = some cs) : s'.lookB d = some cs := by
  have := h.h d _ (lookB_some hl)
  unfold St.lookB
  rw [this]
/-- what an operation does, reckoned -/
def deedS (P : Program) (n : Nat) (ops : Array Oper) (o : Oper) (s : St) : Option DD :=
  let need := needOf ops o s
  match guardOf ops o need with
  | some false => if dstOk n o then some ⟨need, o.dst, .tup [], none, false⟩ else none
  | some true => match o.op with
    | .box _ x => match o.dst, opd need x with
      | some d, some v => match cellsOf v with
        | some cs => if decide (d < n) && decide (d < 1000000) && cs.all (SC.say (· != d)) then some ⟨need, some d, .c (.box d 0), some (d, .box cs), true⟩ else none
        | none => none
      | _, _ => none
    | .alloc t => match o.dst, (P.info? t).bind (·.zero) with
      | some d, some z => if decide (d < n) && decide (d < 1000000) then some ⟨need, some d, .c (.box d 0), some (d, .box (z.cells.toList.map SC.lit)), true⟩ else none
      | _, _ => none
    | .store t p x => match o.dst, opd need p, opd need x with
      | none, some (.c (.box d off)), some v => match cellsOf v, need.lookB d, P.info? t with
        | some ds, some cs, some i => if decide (i.size = ds.length) && ds.all SC.one && decide (off + ds.length ≤ cs.length) then some ⟨need, none, .tup [], some (d, .box (over cs off ds)), false⟩ else none
        | _, _, _ => none
      | _, _, _ => none
    | _ => match sop P need o.op with
      | some v => if dstOk n o then some ⟨need, o.dst, v, none, false⟩ else none
      | none => none
  | none => none
theorem deedS_ok {s : St} {d : DD} (h : deedS P n ops o s = some d) : VD P n ops o d ∧ d.need = needOf ops o s := by
  unfold deedS at h
  simp only at h
  generalize needOf ops o s = need at h
  split at h
  · rename_i hg
    split at h
    · rename_i hd; cases h; exact ⟨vd_skip hg hd, rfl⟩
    · cases h
  · rename_i hg
    split at h
    · rename_i t x ho
      split at h
      · rename_i d' v hd hx
        split at h
        · rename_i cs hcs
          split at h
          · rename_i hc
            simp only [Bool.and_eq_true, decide_eq_true_eq] at hc
            cases h
            exact ⟨fun K s hs hn => S_box d' ho hd (hs.guard hg) hc.1.1 hc.1.2 (hs.opd hx) hcs (hn rfl) hc.2, rfl⟩
          · cases h
        · cases h
      · cases h
    · rename_i t ho
      split at h
      · rename_i d' z hd hz
        split at h
        · rename_i hc
          simp only [Bool.and_eq_true, decide_eq_true_eq] at hc
          cases h
          exact ⟨fun K s hs hn => S_alloc d' _ ho hd (hs.guard hg) hc.1 hc.2 hz rfl (hn rfl), rfl⟩
        · cases h
      · cases h
    · rename_i t p x ho
      split at h
      · rename_i d' off v hd hp hx
        split at h
        · rename_i ds cs i hds hcs hi
          split at h
          · rename_i hc
            simp only [Bool.and_eq_true, decide_eq_true_eq] at hc
            cases h
            exact ⟨fun K s hs _ => S_store d' off cs ds ho hd (hs.guard hg) (hs.opd hp) (hs.opd hx) hds (hs.lookB hcs) (by rw [hi]; exact congrArg some hc.1.1) hc.1.2 hc.2, rfl⟩
          · cases h
        · cases h
      · cases h
    · split at h
      · rename_i v hv
        split at h
        · rename_i hd; cases h; exact ⟨vd_grow v hg hd (sop_ok hv).grow, rfl⟩
        · cases h
      · cases h
  · cases h
end

inductive Dr where
  | mk (ops : Array Oper) (l : List Oper) (acc : List DD) (s0 : St) (fs : List Fr) (s : St)
  | bad
/-- what comes before an operation, by the edges -/
def nub (l : List Nat) : List Nat := l.foldr (fun x r => if r.contains x then r else x :: r) []
def ancL (ops : Array Oper) : List (List Nat) := ops.toList.foldl (fun t o => t ++ [nub (o.after.toList.flatMap fun e => if Region.binds .any e then e.on :: (t[e.on]?).getD [] else [])]) []
def drawOk (ops : Array Oper) (s0 : St) (ds : List DD) : Bool :=
  AncB ops (ancL ops) && Chk (ancOf (ancL ops)) (number 0 ds) && Mute (number 0 ds) && ds.all fun d => !d.new || s0.noname d.name (some d.name)
def TD (P : Program) (K : Ctx) (n : Nat) (D : Dr) (Q : Exit → St → Prop) : Prop := match D with
  | .mk ops l acc s0 fs s => ∃ ds, Deeds P n ops l ds ∧ RunD ds s ∧ drawOk ops s0 (acc.reverse ++ ds) = true ∧ QS P K n fs Q .normal (FinD ds s)
  | .bad => False
def stepD (P : Program) (n : Nat) : Dr → Dr
  | .mk ops (o :: l) acc s0 fs s => match deedS P n ops o s with
    | some d => .mk ops l (d :: acc) s0 fs (d.app s)
    | none => .bad
  | _ => .bad
def goD (P : Program) (n : Nat) : Nat → Dr → Dr
  | 0, D => D
  | k + 1, D => goD P n k (stepD P n D)
def Cfg.draw : Cfg → Dr
  | .mk (.code (.region _ ops true) :: fs) .normal s => .mk ops ops.toList [] s fs s
  | _ => .bad
def Dr.done : Dr → Cfg
  | .mk _ [] _ _ fs s => .mk fs .normal s
  | _ => .bad
def Dr.ok : Dr → Bool
  | .mk ops [] acc s0 _ _ => drawOk ops s0 acc.reverse
  | _ => false
def Dr.op : Dr → Option (Array Oper × Oper)
  | .mk ops (o :: _) _ _ _ _ => some (ops, o)
  | _ => none
def Dr.need : Dr → St
  | .mk ops (o :: _) _ _ _ s => needOf ops o s
  | _ => ⟨[], []⟩
def Dr.push (D : Dr) (d : DD) : Dr := match D with
  | .mk ops (_ :: l) acc s0 fs s => .mk ops l (d :: acc) s0 fs (d.app s)
  | _ => .bad
section
variable {P : Program} {K : Ctx} {n : Nat} {Q : Exit → St → Prop} {C : Cfg} {D : Dr}
theorem TS_draw (hm : P.follows .mixedOrders = true) (k : TD P K n C.draw Q) : TS P K n C Q := by
  unfold Cfg.draw at k
  split at k
  · rename_i id ops fs s
    obtain ⟨ds, h1, h2, h3, h4⟩ := k
    simp only [drawOk, Bool.and_eq_true, List.reverse_nil, List.nil_append] at h3
    obtain ⟨⟨⟨h5, h6⟩, h7⟩, h8⟩ := h3
    have := T_any (P := P) (K := K) (n := n) (Q := QS P K n fs Q) (s := s) (l := ops.toList) (id := id) (ancL ops) ds (FinD ds s) hm h1 h5 h2 (Sim.refl _) (fun d hd hn => by
      have := List.all_eq_true.1 h8 d hd
      simp only [hn, Bool.not_true, Bool.false_or] at this
      exact noname_spec this) h6 h7 h4
    exact this
  · exact k.elim
theorem push_ok {ops : Array Oper} {o : Oper} {d : DD} (ho : D.op = some (ops, o)) (hv : VD P n ops o d) (hn : d.need = D.need) (k : TD P K n (D.push d) Q) : TD P K n D Q := by
  unfold Dr.op at ho
  split at ho
  · cases ho
    rename_i l acc s0 fs s
    obtain ⟨ds, h1, h2, h3, h4⟩ := k
    refine ⟨d :: ds, .cons hv h1, ⟨by rw [hn]; exact need_sub _ _ _, h2⟩, ?_, h4⟩
    rw [List.reverse_cons, List.append_assoc] at h3
    exact h3
  · cases ho
theorem stepD_ok (h : TD P K n (stepD P n D) Q) : TD P K n D Q := by
  unfold stepD at h
  split at h
  · rename_i ops o l acc s0 fs s
    split at h
    · rename_i d hd
      obtain ⟨h1, h2⟩ := deedS_ok hd
      exact push_ok (D := .mk ops (o :: l) acc s0 fs s) rfl h1 h2 h
    · exact h.elim
  · exact h.elim
theorem TD_go : ∀ (k : Nat) {D : Dr}, TD P K n (goD P n k D) Q → TD P K n D Q
  | 0, _, h => h
  | k + 1, _, h => stepD_ok (TD_go k h)
theorem TD_end (hk : D.ok = true) (k : TS P K n D.done Q) : TD P K n D Q := by
  unfold Dr.done at k
  split at k
  · exact ⟨[], .nil, trivial, by simpa [Dr.ok] using hk, k⟩
  · exact k.elim
def Dr.go1 (n : Nat) (D : Dr) : Bool := match D.op with
  | some (os, o) => (match guardOf os o D.need with | some true => true | _ => false) && dstOk n o
  | none => false
def Dr.dst (D : Dr) : Option Tmp := match D.op with
  | some (_, o) => o.dst
  | none => none
theorem go1D_spec (h : D.go1 n = true) : ∃ os o, D.op = some (os, o) ∧ guardOf os o D.need = some true ∧ dstOk n o = true ∧ D.dst = o.dst := by
  unfold Dr.go1 at h
  split at h
  · rename_i os o ho
    simp only [Bool.and_eq_true] at h
    refine ⟨os, o, ho, ?_, h.2, by simp [Dr.dst, ho]⟩
    have h1 := h.1
    split at h1
    · assumption
    · cases h1
  · cases h
def Dr.ret (D : Dr) (v : SV) : Dr := D.push ⟨D.need, D.dst, v, none, false⟩
theorem TD_val (v : SV) (hg : D.go1 n = true) (hp : ∀ os o, D.op = some (os, o) → GrowOp P o D.need v) (k : TD P K n (D.ret v) Q) : TD P K n D Q := by
  obtain ⟨os, o, ho, h1, h2, h3⟩ := go1D_spec hg
  unfold Dr.ret at k
  rw [h3] at k
  exact push_ok ho (vd_grow v h1 h2 (hp os o ho)) rfl k
def Dr.with1 {β : Type} (D : Dr) (f : St → Oper → Option β) : Option β := match D.op with
  | some (_, o) => f D.need o
  | none => none
theorem with1D_op {β : Type} {f : St → Oper → Option β} {b : β} (h : D.with1 f = some b) {os : Array Oper} {o : Oper} (ho : D.op = some (os, o)) : f D.need o = some b := by
  unfold Dr.with1 at h
  rw [ho] at h
  exact h
variable {α : Type}
theorem TD_idx (f : α → List SC) {l : List α} {i : Int} {e : α} (he : idx l i = some e) (h : D.with1 (idxArgs P) = some (l.map f, i)) (hg : D.go1 n = true) (k : TD P K n (D.ret (.c (.ref (f e)))) Q) : TD P K n D Q :=
  TD_val _ hg (fun _ _ ho => grow_idx he (with1D_op h ho)) k
theorem TD_num {op : BinOp} {k k' : IntKind} {m i : Int} {v : SV} {p : Prop} (hp : p) (hv : intBinC op k m i = some (v, p)) (hk : op = .shl ∨ op = .shr ∨ k' = k) (h : D.with1 (chkArgs P) = some (op, k, k', m, i)) (hg : D.go1 n = true) (kk : TD P K n (D.ret v) Q) : TD P K n D Q := by
  refine TD_val v hg (fun os o ho => ?_) kk
  have h1 := with1D_op h ho
  unfold chkArgs at h1
  split at h1
  · rename_i op' t x y t' ho'
    split at h1
    · rename_i k1 m1 k2 i1 hx hy
      cases h1
      exact (pure_intC m i hk ho' hx hy hv hp).grow
    · cases h1
  · cases h1
theorem TD_know (_t : Nat) {e b : Bool} (hb : e = b) (_hh : True) (hg : D.go1 n = true) (h : D.with1 (fun s o => sop P s o.op) = some (.c (.lit (.bool e)))) (k : TD P K n (D.ret (.c (.lit (.bool b)))) Q) : TD P K n D Q := by
  subst hb
  exact TD_val _ hg (fun _ _ ho => (sop_ok (with1D_op h ho)).grow) k
def Dr.callee (D : Dr) (kss : List (List Nat)) : Option (FuncId × List SV) := match D.op with
  | some (_, o) => match calleeOf D.need o with
    | some (f, vs) => some (f, castArgs kss vs)
    | none => none
  | none => none
theorem calleeD_op {kss : List (List Nat)} {f : FuncId} {A : List SV} (h : D.callee kss = some (f, A)) {os : Array Oper} {o : Oper} (ho : D.op = some (os, o)) : ∃ vs, calleeOf D.need o = some (f, vs) ∧ castArgs kss vs = A := by
  unfold Dr.callee at h
  rw [ho] at h
  simp only at h
  split at h
  · rename_i f' vs hv; cases h; exact ⟨vs, hv, rfl⟩
  · cases h
theorem TD_call {f : FuncId} {A : List SV} {r : SV} (kss : List (List Nat)) (hp : Con P f A [] r []) (hc : D.callee kss = some (f, A)) (hg : (D.go1 n && hasBody P f && r.every SC.closed) = true) (k : TD P K n (D.ret r) Q) : TD P K n D Q := by
  simp only [Bool.and_eq_true] at hg
  refine TD_val r hg.1.1 (fun os o ho => ?_) k
  obtain ⟨vs, h1, h2⟩ := calleeD_op hc ho
  exact grow_con kss h1 hg.1.2 h2 hg.2 hp
theorem argsS_sub {s s' : St} (h : Sub s s') : ∀ (l : List Operand) (r : List SV), argsS s l = some r → argsS s' l = some r
  | [], r, hr => hr
  | x :: l, r, hr => by
    simp only [argsS] at hr ⊢
    split at hr
    · rename_i v r' hv hr'
      rw [h.opd hv, argsS_sub h l r' hr']
      exact hr
    · cases hr
theorem Sub.callee {s s' : St} (h : Sub s s') {o : Oper} {f : FuncId} {vs : List SV} (hc : calleeOf s o = some (f, vs)) : calleeOf s' o = some (f, vs) := by
  unfold calleeOf at hc ⊢
  split at hc
  · rename_i fo xs ts ho
    try rw [ho]
    try simp only
    split at hc
    · rename_i fv vs' hfo hvs
      rw [h.opd hfo, argsS_sub h _ _ hvs]
      exact hc
    · cases hc
  · cases hc
end
end
section
open Go.RowKit

def ghostL (l : List (Nat × SV)) : List (Nat × SV) := l.map fun p => (p.1 + 2000000, p.2)
def unghost : List (Nat × SV) → List (Nat × SV)
  | [] => []
  | p :: l => if p.1 < 2000000 then unghost l else (p.1 - 2000000, p.2) :: unghost l
theorem look_unghost : ∀ (l : List (Nat × SV)) (t : Nat), look (unghost l) t = look l (t + 2000000)
  | [], t => rfl
  | p :: l, t => by
    obtain ⟨k, v⟩ := p
    simp only [unghost]
    split
    · rename_i h
      rw [look_unghost l t, look_cons, if_neg (by omega)]
    · rename_i h
      rw [look_cons, look_cons, look_unghost l t]
      by_cases hk : k = t + 2000000
      · rw [if_pos hk, if_pos (by omega)]
      · rw [if_neg hk, if_neg (by omega)]
theorem look_append {α : Type} : ∀ (l l' : List (Nat × α)) (t : Nat) (v : α), look (l ++ l') t = some v → look l t = some v ∨ look l' t = some v
  | [], _, _, _, h => .inr h
  | (k, x) :: l, l', t, v, h => by
    rw [List.cons_append, look_cons] at h
    rw [look_cons]
    split at h
    · rename_i hk; rw [if_pos hk]; exact .inl h
    · rename_i hk; rw [if_neg hk]; exact look_append l l' t v h
theorem look_ghostL : ∀ (l : List (Nat × SV)) (t : Nat) (v : SV), look (ghostL l) t = some v → 2000000 ≤ t ∧ look l (t - 2000000) = some v
  | [], t, v, h => by simp [ghostL, look] at h
  | (k, x) :: l, t, v, h => by
    simp only [ghostL, List.map_cons, look_cons] at h
    split at h
    · rename_i hk; subst hk; cases h; exact ⟨by omega, by rw [look_cons, if_pos (by omega)]⟩
    · rename_i hk
      have := look_ghostL l t v h
      exact ⟨this.1, by rw [look_cons, if_neg (by omega)]; exact this.2⟩

def Ctx.wait (K : Ctx) (gh : Nat → Option Value) : Ctx := ⟨K.w0, K.may, K.rd0, K.pos0, gh, K.ok⟩
theorem slot_wait (K : Ctx) (f : Nat → Option Value) (a : Act) (t : Nat) (h : 2000000 ≤ t) : slotAt (K.wait f) a t = f (t - 2000000) := by
  rw [slotAt, if_neg (Nat.not_lt.2 h)]; rfl
section
variable {P : Program} {K : Ctx} {n : Nat} {Q : Exit → St → Prop} {C : Cfg}
def inlQ (P : Program) (K : Ctx) (n : Nat) (C : Cfg) (rs : List ResultVar) (Q : Exit → St → Prop) : Exit → St → Prop
  | .normal, s => ∃ xs r, resL P s [] rs = some xs ∧ resV xs = some r ∧ TS P K n (C.next (St.put ⟨unghost s.tmps, s.hp⟩ C.dst r)) Q
  | .ret, s => ∃ xs r, resL P s [] rs = some xs ∧ resV xs = some r ∧ TS P K n (C.next (St.put ⟨unghost s.tmps, s.hp⟩ C.dst r)) Q
  | _, _ => False
theorem TS_inline {f : FuncId} {A : List SV} {fn : Func} {c : Code} (m : Nat) (hf : P.funcs[f]? = some fn) (hb : fn.body = some c) (hn : fn.ntmps = m) (hc : C.callee [] = some (f, A)) (hg : (C.go1 n && hasBody P f && decide (A.length ≤ m ∧ m ≤ 2000000)) = true)
    (k : ∀ K', TS P K' m (.mk [.code c] .normal ⟨initT 0 A ++ ghostL C.st.tmps, C.st.hp⟩) (inlQ P K n C fn.results.toList Q)) : TS P K n C Q := by
  simp only [Bool.and_eq_true, decide_eq_true_eq] at hg
  obtain ⟨⟨g1, g2⟩, hl, hfew⟩ := hg
  obtain ⟨os, o, ho, h1, h2, h3⟩ := go1_spec g1
  obtain ⟨vs, h4, h5⟩ := callee_op hc ho
  have hvs : vs = A := by cases vs <;> simpa [castArgs] using h5
  subst hvs
  have hC : ∃ l fs s, C = .mk (.ops os (o :: l) :: fs) .normal s := by
    unfold Cfg.op at ho
    split at ho
    · cases ho; exact ⟨_, _, _, rfl⟩
    · cases ho
  obtain ⟨l, fs, s, rfl⟩ := hC
  simp only [Cfg.st, h3] at *
  intro a w r0
  obtain ⟨g, r⟩ := r0
  refine wpList_step fun K' hK => ?_
  have hw := guard_ok (a := a) h1 (fun t v ht hv => let ⟨u, h1, h2⟩ := r.view.tmps t v ht hv; ⟨u, _, _, h1, h2⟩)
  rw [if_pos hw]
  obtain ⟨us, q1, q2, q3⟩ := callee_spec h4 g2 (r.view.o o)
  unfold Oper.wp
  rw [q3]
  simp only [Oper.upon]
  have hR : RG (K.wait (slotAt K a)) g m { tmps := us ++ Array.replicate (fn.ntmps - us.size) undef, defers := [] } w ⟨initT 0 vs ++ ghostL s.tmps, s.hp⟩ := by
    refine ⟨rfl, by simp; omega, hfew, ⟨r.hg.keep, r.hg.holds, r.hg.may, r.hg.dis, r.hg.fix, r.hg.new⟩, fun t v hv => ?_⟩
    rcases look_append _ _ _ _ hv with hv | hv
    · obtain ⟨_, h2⟩ := look_initT vs 0 t v hv
      obtain ⟨u, h3, h4⟩ := q2 (t - 0) v h2
      simp only [Nat.sub_zero] at h3
      refine ⟨u, ?_, h4⟩
      have htn := (Array.getElem?_eq_some_iff.1 h3).1
      rw [slotAt, if_pos (by omega)]
      rw [Array.getElem?_append_left htn]
      exact h3
    · obtain ⟨k1, k2⟩ := look_ghostL _ _ _ hv
      obtain ⟨u, k3, k4⟩ := r.tmps _ _ k2
      refine ⟨u, ?_, k4⟩
      rw [slot_wait _ _ _ _ k1]
      exact k3
  refine calls_of_wp hf hb (wp_mono (k _ _ w ⟨g, hR⟩) fun e a' w' hq => ?_)
  obtain ⟨s', ⟨g', r'⟩, q⟩ := hq
  have fin : (∃ xs rr, resL P s' [] fn.results.toList = some xs ∧ resV xs = some rr ∧ TS P K n (.mk (.ops os l :: fs) .normal (St.put ⟨unghost s'.tmps, s'.hp⟩ o.dst rr)) Q) → a'.defers = [] ∧ ∃ v, (results fn a'.tmps).run P w' = .ok v w' ∧ K' (a.put o.dst v) w' := by
    rintro ⟨xs, rr, e1, e2, e3⟩
    obtain ⟨u, e4, e5⟩ := run_results r'.view e1 e2
    refine ⟨r'.defers, u, e4, hK _ _ (e3 _ _ ⟨g', RG.put (K := K) (s := ⟨unghost s'.tmps, s'.hp⟩) ⟨r.defers, r.size, r.few, ⟨r'.hg.keep, r'.hg.holds, r'.hg.may, r'.hg.dis, r'.hg.fix, r'.hg.new⟩, fun t v hv => ?_⟩ o.dst (dstOk_spec h2) e5⟩)⟩
    simp only at hv
    rw [look_unghost] at hv
    obtain ⟨u', k1, k2⟩ := r'.tmps _ _ hv
    rw [slot_wait _ _ _ _ (Nat.le_add_left _ _), Nat.add_sub_cancel] at k1
    exact ⟨u', k1, k2⟩
  cases e <;> simp only [QS, inlQ] at q <;> simp only [bodyPost]
  case normal => exact fin q
  case ret => exact fin q
end
end
section
open Go.RowKit

inductive Cut where
  | whole
  | part (a m : Nat)
def Cut.app {α : Type} : Cut → List α → List α
  | .whole, l => l
  | .part a m, l => (l.drop a).take m
theorem Cut.map {α β : Type} (f : α → β) (c : Cut) (l : List α) : c.app (l.map f) = (c.app l).map f := by
  cases c with
  | whole => rfl
  | part a m => simp [Cut.app, List.map_take, List.map_drop]
def SrcIs (rd : Rd) (w : World) (u : Value) (sz : Nat) (xs : List (List SC)) : Prop :=
  ∃ a c vals, u = .slice a xs.length c ∧ vals.length = xs.length * sz ∧ RowIs rd sz vals xs ∧ (xs = [] ∨ ∃ ad, a = some ad ∧ ∀ j v, vals[j]? = some v → w.cell? (ad.add j) = some v) ∧ xs.length ≤ c ∧ c ≤ maxLen ∧ ∀ ad, a = some ad → xs = [] ∨ ∃ b o, ad = ⟨b, o, none⟩
def srcS (s : St) (sz : Nat) : SV → Option (List (List SC) × Cut)
  | .c (.lit (.slice none 0 0)) => some ([], .whole)
  | .c (.slc s' _ _ xs) => if s' = sz then some (xs, .whole) else none
  | .c (.own d) => match look s.hp d with
    | some (.row _ s' _ xs) => if s' = sz then some (xs, .whole) else none
    | _ => none
  | .c (.row d m) => match look s.hp d with
    | some (.row _ s' _ xs) => if s' = sz then some (xs, .part 0 m) else none
    | _ => none
  | .c (.sub d s1 a m) => match look s.hp d with
    | some (.row _ s' _ xs) => if s' = sz ∧ s1 = sz then some (xs, .part a m) else none
    | _ => none
  | .c (.win d off m) => match s.lookB d with
    | some cs => match immL ((cs.drop off).take m) with
      | some ys => if sz = 1 ∧ ys.length = m then some (ys.map (fun c => [c]), .whole) else none
      | none => none
    | none => none
  | _ => none
theorem RowIs.cut {rd : Rd} {sz : Nat} {us : List Value} {xs : List (List SC)} (h : RowIs rd sz us xs) (a m : Nat) : RowIs rd sz ((us.drop (a * sz)).take (m * sz)) ((xs.drop a).take m) := by
  refine ⟨fun x hx => h.1 x (List.mem_of_mem_drop (List.mem_of_mem_take hx)), fun i x j y hx hy => ?_⟩
  rw [List.getElem?_take] at hx
  split at hx
  · rename_i hi
    rw [List.getElem?_drop] at hx
    obtain ⟨u, h1, h2⟩ := h.2 _ x j y hx hy
    refine ⟨u, ?_, h2⟩
    have hj : j < sz := by
      have := (List.getElem?_eq_some_iff.1 hy).1
      rw [h.1 x (List.mem_of_getElem? hx)] at this
      exact this
    have hlt : i * sz + j < m * sz := by
      calc i * sz + j < i * sz + sz := by omega
        _ = (i + 1) * sz := by rw [Nat.add_mul, Nat.one_mul]
        _ ≤ m * sz := Nat.mul_le_mul_right _ hi
    rw [List.getElem?_take, if_pos hlt, List.getElem?_drop, ← Nat.add_assoc, ← Nat.add_mul]
    exact h1
  · cases hx
theorem tk_sliceM {w : World} {e sz n : Nat} {V : Value} {us : List Value} (h : w.ownsRowM e sz V n us) : ∃ a c, V = .slice a n c ∧ n ≤ c ∧ c ≤ maxLen ∧ vlen V = n ∧ (n = 0 ∨ ∃ b, a = some ⟨b, 0, none⟩ ∧ V.ownBlock = some b) := by
  rcases h.2 with ⟨h1, h2⟩ | ⟨gb, cap, cur, fz, h1, _, _, h2, h3, _⟩
  · subst h2; exact ⟨none, 0, h1, Nat.le_refl _, by simp [maxLen], by rw [h1]; rfl, .inl rfl⟩
  · exact ⟨_, cap, h1, h2, h3, by rw [h1]; rfl, .inr ⟨gb, rfl, by rw [h1]; rfl⟩⟩
theorem tk_slice {w : World} {e sz n : Nat} {V : Value} {us : List Value} (h : w.ownsRow 0 e sz V n us) : ∃ a c, V = .slice a n c ∧ n ≤ c ∧ c ≤ maxLen ∧ vlen V = n ∧ (n = 0 ∨ ∃ b, a = some ⟨b, 0, none⟩ ∧ V.ownBlock = some b) := tk_sliceM h.m
theorem srcS_rel {s : St} {sz : Nat} {v : SV} {xs : List (List SC)} {c : Cut} (h : srcS s sz v = some (xs, c)) {g : Env} {rd : Rd} {a : Act} {w : World} {o : Oper} (hv : OView g rd a w s o) {u : Value} (hu : VRel rd g u v) : SrcIs rd w u sz (c.app xs) := by
  unfold srcS at h
  split at h
  · cases h
    rw [rel_lit hu]
    exact ⟨none, 0, [], rfl, by simp [Cut.app], ⟨by simp [Cut.app], by simp [Cut.app]⟩, .inl rfl, Nat.le_refl _, by simp [maxLen], fun _ _ => .inl rfl⟩
  · split at h
    · rename_i hs; subst hs
      cases h
      obtain ⟨h1, _⟩ := hu
      obtain ⟨ay, cy, vals, h2 | ⟨ad, c, h3, h4, _⟩⟩ := src_row hv.reads h1
      · obtain ⟨h3, h3a, h3b, h4, h5, h6⟩ := h2
        refine ⟨ay, cy, vals, h3, h5, h4, ?_, h3a, h3b, fun ad hq => ?_⟩
        · rcases h6 with h6 | h6
          · exact .inl (List.eq_nil_of_length_eq_zero h6)
          · exact .inr h6
        · subst hq
          cases h1 with
          | nil s' a c hm => exact .inl rfl
          | slc b o n c s' xs' ff hn hc hm hs hr hu => cases h3; exact .inr ⟨_, _, rfl⟩
      · subst h4
        obtain ⟨ad2, c2, h3, hc2⟩ : ∃ ad c, u = .slice ad 0 c ∧ c ≤ maxLen := ⟨ad, c, h3, by assumption⟩
        exact ⟨ad2, c2, [], h3, by simp [Cut.app], ⟨by simp [Cut.app], by simp [Cut.app]⟩, .inl rfl, Nat.zero_le _, hc2, fun _ _ => .inl rfl⟩
    · cases h
  · rename_i d
    split at h
    · rename_i e s' n xs' hl
      split at h
      · rename_i hs; subst hs
        cases h
        obtain ⟨us, h1, h2, h3⟩ := hv.holds d _ hl
        obtain ⟨rfl, _⟩ := hu
        obtain ⟨b, c, h4, h4a, h4b, _, h5⟩ := tk_slice h1
        refine ⟨b, c, us, by simp only [Cut.app]; rw [h2]; exact h4, by simp only [Cut.app]; rw [h2]; exact h1.1, h3, ?_, by simp only [Cut.app]; omega, h4b, fun ad hq => ?_⟩
        · rcases h5 with h5 | ⟨bb, h5, h6⟩
          · exact .inl (List.eq_nil_of_length_eq_zero (h2.trans h5))
          · exact .inr ⟨_, h5, h1.cells h6⟩
        · rcases h5 with h5 | ⟨bb, h5, h6⟩
          · exact .inl (List.eq_nil_of_length_eq_zero (h2.trans h5))
          · rw [h5] at hq; cases hq; exact .inr ⟨_, _, rfl⟩
      · cases h
    · cases h
  · rename_i d m
    split at h
    · rename_i e s' n xs' hl
      split at h
      · rename_i hs; subst hs
        cases h
        obtain ⟨us, h1, h2, h3⟩ := hv.holds d _ hl
        obtain ⟨a', N, c', k1, rfl, k3⟩ := hu
        obtain ⟨b, c, h4, h4a, h4b, _, h5⟩ := tk_slice h1
        rw [h4] at k1
        cases k1
        have hlen : (Cut.app (.part 0 m) xs).length = m := by simp only [Cut.app, List.drop_zero, List.length_take]; omega
        have hcut := h3.cut 0 m
        refine ⟨_, _, (us.drop (0 * s')).take (m * s'), by rw [hlen], ?_, hcut, ?_, by rw [hlen]; omega, h4b, fun ad hq => ?_⟩
        · rw [hlen, Nat.zero_mul, List.drop_zero, List.length_take, h1.1]
          exact Nat.min_eq_left (Nat.mul_le_mul_right _ k3)
        · rcases h5 with h5 | ⟨bb, h5, h6⟩
          · left; exact List.eq_nil_of_length_eq_zero (by rw [hlen]; omega)
          · refine .inr ⟨_, h5, fun j v hj => h1.cells h6 j v ?_⟩
            rw [Nat.zero_mul, List.drop_zero, List.getElem?_take] at hj
            split at hj
            · exact hj
            · cases hj
        · rcases h5 with h5 | ⟨bb, h5, h6⟩
          · left; exact List.eq_nil_of_length_eq_zero (by rw [hlen]; omega)
          · rw [h5] at hq; cases hq; exact .inr ⟨_, _, rfl⟩
      · cases h
    · cases h
  · rename_i d s1 a' m
    split at h
    · rename_i e s' n xs' hl
      split at h
      · rename_i hs; obtain ⟨rfl, rfl⟩ := hs
        cases h
        obtain ⟨us, h1, h2, h3⟩ := hv.holds d _ hl
        obtain ⟨b, N, c, x, c', k1, k2, rfl, k4, k5, k6⟩ := hu
        obtain ⟨b', c2, h4, _, _, _, h5⟩ := tk_slice h1
        rw [h4] at k1
        cases k1
        have hlen : (Cut.app (.part a' m) xs).length = m := by simp only [Cut.app, List.length_take, List.length_drop]; omega
        refine ⟨_, _, (us.drop (a' * s1)).take (m * s1), by rw [hlen], ?_, h3.cut a' m, ?_, by rw [hlen]; omega, k5, fun ad hq => ?_⟩
        · rw [hlen, List.length_take, List.length_drop, h1.1, ← Nat.sub_mul]
          exact Nat.min_eq_left (Nat.mul_le_mul_right _ (by omega))
        · rcases k6 with k6 | ⟨blk, k6, k7⟩
          · left; exact List.eq_nil_of_length_eq_zero (by rw [hlen]; omega)
          · rcases h5 with h5 | ⟨bb, h5, h6⟩
            · left; exact List.eq_nil_of_length_eq_zero (by rw [hlen]; omega)
            · rw [k6] at h5
              cases h5
              refine .inr ⟨_, k7, fun j v hj => ?_⟩
              rw [List.getElem?_take] at hj
              split at hj
              · rw [List.getElem?_drop] at hj
                have := h1.cells h6 _ v hj
                rw [addr_add] at this ⊢
                rw [Nat.zero_add] at this
                exact this
              · cases hj
        · rcases k6 with k6 | ⟨blk, k6, k7⟩
          · left; exact List.eq_nil_of_length_eq_zero (by rw [hlen]; omega)
          · rw [k7] at hq; cases hq; exact .inr ⟨_, _, rfl⟩
      · cases h
    · cases h
  · rename_i d off m
    split at h
    · rename_i cs hl
      split at h
      · rename_i ys hys
        split at h
        · rename_i hs; obtain ⟨rfl, hs⟩ := hs
          cases h
          obtain ⟨A, c, rfl, k2, k3, k4⟩ := hu
          obtain ⟨i1, i2⟩ := immL_get _ _ hys
          have hb := hv.box d cs hl
          -- the cells
          have hex : ∃ vals : List Value, vals.length = m ∧ ∀ j v, vals[j]? = some v → w.cell? ⟨(g.pos d).1, (g.pos d).2 + off + j, none⟩ = some v ∧ ∃ y, ys[j]? = some y ∧ IRel rd v y := by
            refine ⟨(List.range m).map fun j => (w.cell? ⟨(g.pos d).1, (g.pos d).2 + off + j, none⟩).getD undef, by simp, fun j v hj => ?_⟩
            rw [List.getElem?_map] at hj
            obtain ⟨j', hj', rfl⟩ := Option.map_eq_some_iff.1 hj
            have hjm := (List.getElem?_eq_some_iff.1 hj').1
            rw [List.getElem?_eq_getElem hjm] at hj'
            simp only [List.getElem_range, Option.some.injEq] at hj'
            subst hj'
            rw [List.length_range] at hjm
            have hy : j < ys.length := by omega
            obtain ⟨x, hx1, hx2⟩ := i2 j _ (List.getElem?_eq_getElem hy)
            rw [List.getElem?_take, if_pos hjm, List.getElem?_drop] at hx1
            obtain ⟨u, q1, q2⟩ := hb (off + j) x hx1
            rw [← Nat.add_assoc] at q1
            refine ⟨by rw [q1]; rfl, ys[j], List.getElem?_eq_getElem hy, ?_⟩
            rw [q1]
            exact imm_rel q2 hx2
          obtain ⟨vals, e1, e2⟩ := hex
          have hlen : (Cut.app .whole (ys.map fun c => [c])).length = m := by simp [Cut.app, hs]
          refine ⟨A, c, vals, by rw [hlen], by rw [hlen, e1, Nat.mul_one], ⟨by simp [Cut.app], fun i x j y hx hy => ?_⟩, ?_, by rw [hlen]; exact k2, k3, fun ad hq => ?_⟩
          · simp only [Cut.app, List.getElem?_map] at hx
            obtain ⟨y0, hy0, rfl⟩ := Option.map_eq_some_iff.1 hx
            have hj0 : j = 0 := by have := (List.getElem?_eq_some_iff.1 hy).1; simp at this; exact this
            subst hj0
            simp at hy
            subst hy
            have hi : i < vals.length := by have := (List.getElem?_eq_some_iff.1 hy0).1; omega
            obtain ⟨_, y1, q1, q2⟩ := e2 i _ (List.getElem?_eq_getElem hi)
            rw [hy0] at q1
            cases q1
            exact ⟨_, by rw [Nat.mul_one, Nat.add_zero]; exact List.getElem?_eq_getElem hi, q2⟩
          · rcases k4 with k4 | k4
            · left; exact List.eq_nil_of_length_eq_zero (by rw [hlen]; exact k4)
            · exact .inr ⟨_, k4, fun j v hj => by rw [addr_add]; exact (e2 j v hj).1⟩
          · rcases k4 with k4 | k4
            · left; exact List.eq_nil_of_length_eq_zero (by rw [hlen]; exact k4)
            · rw [k4] at hq; cases hq; exact .inr ⟨_, _, rfl⟩
        · cases h
      · cases h
    · cases h
  · cases h
theorem SrcIs.one {rd : Rd} {sz : Nat} {vals : List Value} {xs : List (List SC)} (hs : 0 < sz) (hl : vals.length = xs.length * sz) (h : RowIs rd sz vals xs) (h1 : ∀ x ∈ xs, x.all SC.one = true) : ∀ u ∈ vals, u.oneCell' = true := by
  intro u hu'
  obtain ⟨k, hk, rfl⟩ := List.getElem_of_mem hu'
  have hkl : k < xs.length * sz := by omega
  have hi2 : k / sz < xs.length := Nat.div_lt_of_lt_mul (by rw [Nat.mul_comm]; exact hkl)
  have hx2 := List.getElem?_eq_getElem hi2
  have hlx := h.1 _ (List.getElem_mem hi2)
  have hj2 : k % sz < (xs[k / sz]).length := by rw [hlx]; exact Nat.mod_lt _ hs
  obtain ⟨v, q1, q2⟩ := h.2 _ _ _ _ hx2 (List.getElem?_eq_getElem hj2)
  rw [show k / sz * sz + k % sz = k by have := Nat.div_add_mod k sz; rw [Nat.mul_comm] at this; omega, List.getElem?_eq_getElem hk] at q1
  cases q1
  exact oneCell_imm q2 (List.all_eq_true.1 (h1 _ (List.getElem_mem hi2)) _ (List.getElem_mem hj2))

/-- cells of a row are written, wherever its mark lies behind it -/
theorem run_storeCells_atM (P : Program) (g o : Nat) (t : TypeId) (fz : Nat × Nat) : ∀ (vs : List Value) (i : Nat) (cur : Array Value) (w : World), w.heap[g]? = some (.cells cur t fz) → unfrozen fz cur.size → o + i + vs.length ≤ cur.size → (∀ v ∈ vs, v.oneCell' = true) →
    (storeCells ⟨g, o, none⟩ vs i).run P w = .ok () (w.setRow g (cur.toList.take (o + i) ++ vs ++ cur.toList.drop (o + i + vs.length)).toArray)
  | [], i, cur, w, hg, _, _, _ => by
    simp only [storeCells, List.append_nil, List.length_nil, Nat.add_zero, List.take_append_drop, Array.toArray_toList]
    rw [setRow_self w g cur t fz hg]
    rfl
  | v :: rest, i, cur, w, hg, hfz, hl, h1 => by
    have hi : o + i < cur.size := by simp at hl; omega
    have hadd : (⟨g, o, none⟩ : Addr).add i = ⟨g, o + i, none⟩ := by unfold Addr.add; split <;> simp_all
    have hcell : w.cell? ⟨g, o + i, none⟩ = some cur[o + i] := by simp [World.cell?, hg, hi]
    have hfro : w.frozen? ⟨g, o + i, none⟩ = false := by
      have := hfz _ hi
      obtain ⟨lo, hi'⟩ := fz
      simp only [World.frozen?, hg, Bool.and_eq_false_iff, decide_eq_false_iff_not]
      simp only at this
      omega
    have hst : (store ((⟨g, o, none⟩ : Addr).add i) v).run P w = .ok () (w.setRow g (cur.setIfInBounds (o + i) v)) := by
      rw [hadd, run_store P w _ v _ (h1 v (by simp)), hcell]
      simp [hfro, setCell_eq_setRow w g (o + i) cur t fz v hg]
    have ih := run_storeCells_atM P g o t fz rest (i + 1) (cur.setIfInBounds (o + i) v) (w.setRow g (cur.setIfInBounds (o + i) v)) (setRow_heap w g cur _ t _ hg) (by simpa using hfz) (by simp at hl ⊢; omega) (fun x hx => h1 x (by simp [hx]))
    simp only [storeCells, Sem.run_bind, hst, Result.andThen_ok, ih, setRow_setRow]
    congr 3
    have e := list_seg_step cur.toList (o + i) v rest (by simp at hl ⊢; omega)
    simpa [Array.toList_setIfInBounds, Nat.add_assoc] using e
theorem run_append_keepM {P : Program} {w : World} (t ty e : TypeId) (i : TypeInfo) (z : Value) (sz bytes : Nat) (ht : P.underlying t = some (.slice e)) (hi : P.info? e = some i) (hz : i.zero = some z) (hsize : i.size = sz) (hby : i.bytes = bytes) (hzs : z.cells.size = sz) (hsz : 0 < sz)
    (V : Value) (n : Nat) (us : List Value) (hown : w.ownsRowM e sz V n us) (ad : Addr) (m c : Nat) (vals : List Value) (hl : vals.length = m * sz) (hcells : ∀ j u, vals[j]? = some u → w.cell? (ad.add j) = some u) (h1 : ∀ u ∈ vals, u.oneCell' = true) (hm : 0 < m)
    (h63 : n + m ≤ maxLen) (hbytes : (n + m) * bytes ≤ 140737488355328) :
    ∃ V' w', (Builtin.append_ #[t, t] ty #[V, .slice (some ad) m c]).run P w = .ok V' w' ∧ w'.ownsRowM e sz V' (n + m) (us ++ vals) ∧ Keep w (fun b o => V.ownBlock = some b ∧ n * sz ≤ o) w' ∧ ∀ k, V'.ownBlock = some k → V.ownBlock = some k ∨ w.heap.size ≤ k := by
  subst hsize
  subst hby
  have hsmall : n + m ≤ 9223372036854775807 := by simp only [maxLen] at h63; omega
  have hlen : (us ++ vals).length = (n + m) * i.size := by rw [List.length_append, hown.1, hl, Nat.add_mul]
  have grown : ∀ (old : Nat), old < n + m →
      (w.drew.alloc (.cells (us.toArray ++ vals.toArray ++ Builtin.zeroCells z.cells (grownCap w (n + m) old e - (n + m))) e)).ownsRowM e i.size
        (.slice (some ⟨w.heap.size, 0, none⟩) (n + m) (grownCap w (n + m) old e)) (n + m) (us ++ vals) ∧
      Keep w (fun b o => V.ownBlock = some b ∧ n * i.size ≤ o) (w.drew.alloc (.cells (us.toArray ++ vals.toArray ++ Builtin.zeroCells z.cells (grownCap w (n + m) old e - (n + m))) e)) := by
    intro old ho
    have hge := grownCap_ge w (n + m) old e
    have hcm : grownCap w (n + m) old e ≤ maxLen := grownCap_le_maxLen w (n + m) old e h63
    refine ⟨⟨hlen, .inr ⟨w.heap.size, _, _, (0, 0), rfl, heap_alloc_new w.drew _, fun j _ q => Nat.not_lt_zero _ q.2, hge, hcm, ?_, ?_⟩⟩, (Keep.of_ext ((Ext.drew w).trans (Ext.alloc _ _))).weak (fun _ _ x => x.elim)⟩
    · simp only [Array.size_append, List.size_toArray, size_zeroCells, hzs, hown.1, hl, ← Nat.add_mul]
      congr 1
      omega
    · simp only [Array.toList_append, List.append_assoc]
      rw [← List.append_assoc, ← hlen]
      exact List.take_left
  rcases hown.2 with ⟨rfl, rfl⟩ | ⟨gb, cap, cur, fz, rfl, hgg, huf, hnc, hcm, hcs, htake⟩
  · have hx : us = [] := List.eq_nil_of_length_eq_zero (by simpa using hown.1)
    subst hx
    have hr := run_append_nil (P := P) w t ty e i z ht hi hz ad m c vals hl hcells hm (by omega) (by have hb := hbytes; simp only [Nat.zero_add] at hb; omega)
    have hgr := grown 0 (by omega)
    simp only [Nat.zero_add, List.nil_append, Array.empty_append] at hgr ⊢
    exact ⟨_, _, hr, hgr.1, hgr.2, fun k hk => .inr (by simp only [Value.ownBlock, Option.some.injEq] at hk; omega)⟩
  · by_cases hroom : n + m ≤ cap
    · have hfit : n * i.size + vals.length ≤ cur.size := by rw [hl, hcs, ← Nat.add_mul]; exact Nat.mul_le_mul_right _ hroom
      have hf := run_firstCells_some (P := P) w i.size m ad m c vals hl hcells
      have hst := run_storeCells_atM P gb (n * i.size) e fz vals 0 cur w hgg huf (by simpa using hfit) h1
      simp only [Nat.add_zero] at hst
      have hr : (Builtin.append_ #[t, t] ty #[.slice (some ⟨gb, 0, none⟩) n cap, .slice (some ad) m c]).run P w = .ok (.slice (some ⟨gb, 0, none⟩) (n + m) cap) (w.setRow gb (cur.toList.take (n * i.size) ++ vals ++ cur.toList.drop (n * i.size + vals.length)).toArray) := by
        simp [Builtin.append_, run_underlying ht, sizeOf, typeInfo, hi, Builtin.lenOf, hroom, hf, Addr.add_lit, hst]
      have hsz2 : (cur.toList.take (n * i.size) ++ vals ++ cur.toList.drop (n * i.size + vals.length)).toArray.size = cur.size := by
        simp only [List.size_toArray, List.length_append, List.length_take, List.length_drop, Array.length_toList]
        omega
      refine ⟨_, _, hr, ⟨hlen, .inr ⟨gb, cap, _, fz, rfl, setRow_heap w gb cur _ e _ hgg, by rw [hsz2]; exact huf, hroom, hcm, ?_, ?_⟩⟩, ⟨rfl, rfl, rfl, by simp, fun b hb => ?_⟩, fun k hk => .inl (by simpa [Value.ownBlock] using hk)⟩
      · rw [hsz2]; exact hcs
      · rw [htake, ← hlen]
        exact List.take_left
      · by_cases hbb : b = gb
        · subst hbb
          refine .inr ⟨cur, _, e, fz, hgg, setRow_heap w b cur _ e _ hgg, ?_, fun j hj => ?_⟩
          · simp only [List.size_toArray, List.length_append, List.length_take, List.length_drop, Array.length_toList]
            omega
          · have hj' : j < n * i.size := by
              rcases Nat.lt_or_ge j (n * i.size) with h | h
              · exact h
              · exact absurd ⟨rfl, h⟩ hj
            rw [List.getElem?_toArray, List.append_assoc, List.getElem?_append_left (by simp only [List.length_take, Array.length_toList]; omega), List.getElem?_take, if_pos hj']
            simp
        · exact .inl (setRow_other w gb b _ hbb)
    · have holds : ∀ j u, us[j]? = some u → w.cell? ((⟨gb, 0, none⟩ : Addr).add j) = some u := hown.cells (g := gb) rfl
      have hr := run_append_grow (P := P) w t ty e i z ht hi hz ⟨gb, 0, none⟩ n cap us hown.1 holds ad m c vals hl hcells (by omega) (by omega) (growslice_fits (by omega) hbytes)
      have hgr := grown cap (by omega)
      exact ⟨_, _, hr, hgr.1, hgr.2, fun k hk => .inr (by simp only [Value.ownBlock, Option.some.injEq] at hk; omega)⟩

section
variable {K : Ctx} {g g' : Env} {w w' : World} {n : Nat} {a : Act} {s : St}
/-- the spare token of one name has grown, or is what it was -/
structure Grew (g g' : Env) (d0 : Nat) : Prop where
  pos : ∀ d, g'.pos d = g.pos d
  tk1 : ∀ d, (g'.tk d).1 = (g.tk d).1
  tk : ∀ d, d ≠ d0 → g'.tk d = g.tk d
  tk2 : g'.tk d0 = g.tk d0 ∨ vlen (g.tk d0).2 < vlen (g'.tk d0).2
theorem CRel0.grew {rd rd' : Rd} (hle : rd.le rd') {d0 : Nat} (k : Grew g g' d0) {v : Value} {x : SC} (h : CRel0 rd g v x) : CRel0 rd' g' v x := by
  cases x with
  | lit u => exact h.mono hle
  | ref cs => exact h.mono hle
  | box d off => simp only [CRel0, k.pos] at *; exact h
  | own d => simp only [CRel0, k.tk1] at *; exact h
  | row d n => simp only [CRel0, k.tk1] at *; exact h
  | win d off n => simp only [CRel0, k.pos] at *; exact h
  | sub d s a n => simp only [CRel0, k.tk1] at *; exact h
  | elt d s i off => simp only [CRel0, k.tk1] at *; exact h
  | any => trivial
  | clo c cs => exact h.elim
  | slc s tag n xs =>
    refine ⟨h.1.mono hle, ?_⟩
    rcases tag with _ | _ | t
    · trivial
    · exact h.2
    · have h2 := h.2
      simp only [Tag] at h2 ⊢
      by_cases ht : t = d0
      · subst ht
        rcases k.tk2 with e | e
        · rw [e]; exact h2
        · exact ⟨by omega, fun q => by omega⟩
      · rw [k.tk t ht]; exact h2
theorem CRel.grew {rd rd' : Rd} (hle : rd.le rd') {d0 : Nat} (k : Grew g g' d0) {v : Value} {x : SC} (h : CRel rd g v x) : CRel rd' g' v x := by
  cases x with
  | clo c cs =>
    obtain ⟨caps, h1, h2, h3⟩ := h
    exact ⟨caps, h1, h2, fun j y hy => let ⟨u, h4, h5⟩ := h3 j y hy; ⟨u, h4, h5.grew hle k⟩⟩
  | lit u => exact CRel0.up (CRel0.grew hle k (x := .lit u) h)
  | ref u => exact CRel0.up (CRel0.grew hle k (x := .ref u) h)
  | box d off => exact CRel0.up (CRel0.grew hle k (x := .box d off) h)
  | own d => exact CRel0.up (CRel0.grew hle k (x := .own d) h)
  | row d n => exact CRel0.up (CRel0.grew hle k (x := .row d n) h)
  | win d off n => exact CRel0.up (CRel0.grew hle k (x := .win d off n) h)
  | sub d s a n => exact CRel0.up (CRel0.grew hle k (x := .sub d s a n) h)
  | elt d s i off => exact CRel0.up (CRel0.grew hle k (x := .elt d s i off) h)
  | any => trivial
  | slc s tag n xs => exact CRel0.up (CRel0.grew hle k (x := .slc s tag n xs) h)
/-- the spare room behind a row is taken -/
theorem RG.grow (h : RG K g n a w s) {d : Nat} {r0 r : Res} (hl : look s.hp d = some r0) (hgr : Grew g g' d) (hk : Keep w (Foot g d r0) w') (hfoot : ∀ b o, Foot g' d r b o → Foot g d r0 b o ∨ w.heap.size ≤ b) (hnb : ∀ cs, r ≠ .box cs) (hr0 : r0.isBox = false)
    (hh : (rdOf K g s.hp w).le (rdOf K g' (setL d r s.hp) w') → Holds (rdOf K g' (setL d r s.hp) w') g' w' d r) : RG K g' n a w' (s.setR d r) ∧ (rdOf K g s.hp w).le (rdOf K g' (setL d r s.hp) w') := by
  have ht : ∀ e, (e == d) = false → e ≠ d := fun e h => by simpa using h
  have ht' : ∀ e, (e == d) = true → e = d := fun e h => by simpa using h
  have he : ∀ e x, (e == d) = false → look s.hp e = some x → g'.pos e = g.pos e ∧ g'.tk e = g.tk e := fun e x h1 _ => ⟨hgr.pos e, hgr.tk e (ht e h1)⟩
  have hl' : ∀ e, e ≠ d → look (setL d r s.hp) e = look s.hp e := fun e he' => by rw [look_setL, if_neg (Ne.symm he')]
  have hld : look (setL d r s.hp) d = some r := by rw [look_setL, if_pos rfl]
  have hk' : Keep w (fun b o => ∃ e x, (e == d) = true ∧ look s.hp e = some x ∧ Foot g e x b o) w' := hk.weak (fun b o x => ⟨d, r0, by simp, hl, x⟩)
  have hf' : ∀ e x b o, (e == d) = true → look (setL d r s.hp) e = some x → Foot g' e x b o → (∃ e' r', (e' == d) = true ∧ look s.hp e' = some r' ∧ Foot g e' r' b o) ∨ w.heap.size ≤ b := by
    intro e x b o h1 h2 h3
    have := ht' e h1; subst this
    rw [hld] at h2; cases h2
    rcases hfoot b o h3 with h4 | h4
    · exact .inl ⟨e, r0, by simp, hl, h4⟩
    · exact .inr h4
  have hle := rd_step (K := K) (g := g) (g' := g') (w := w) (w' := w') (h := s.hp) (h' := setL d r s.hp) h.hg (· == d) he (fun e x h1 h2 => ⟨x, fun y => y, by rw [← hl' e (ht e h1)]; exact h2, x.map_id.symm⟩) hk' hf'
  have k := h.hg.step (g' := g') (w' := w') (h' := setL d r s.hp) (· == d) (fun y => y) (fun _ => true) he (fun e x h1 h2 => ⟨x, by rw [← hl' e (ht e h1)]; exact h2, x.map_id.symm, x.every_true⟩) hk' hf'
    (fun e e' x x' b o h1 h2 hne => absurd ((ht' e h1).trans (ht' e' h2).symm) hne) (fun u x _ hc => hc.grew hle hgr)
    (fun e x h1 h2 => by have := ht' e h1; subst this; rw [hld] at h2; cases h2; exact hh hle)
    (fun e cs h1 _ h2 => by have := ht' e h1; subst this; rw [hld] at h2; cases h2; exact absurd rfl (hnb cs))
    (fun e x h1 h2 _ b o hf => by
      have := ht' e h1; subst this
      rw [hld] at h2; cases h2
      rcases hfoot b o hf with h4 | h4
      · exact h.hg.new e r0 hl hr0 b o h4
      · exact .inl (Nat.le_trans h.hg.keep.size h4))
  exact ⟨⟨h.defers, h.size, h.few, k, fun t v hv => let ⟨u, h1, h2⟩ := h.tmps t v hv; ⟨u, h1, h2.imp1 (p := fun _ => true) (fun v x _ hc => hc.grew hle hgr) v.every_true⟩⟩, hle⟩
end

def appTArgs (P : Program) (s : St) (o : Oper) : Option (Nat × Nat × Nat × Nat × Nat × Nat × List (List SC) × List (List SC) × Cut) := match o.op with
  | .call { callee := .builtin .append, args := xs, argTypes := ts } => match xs.toList, ts.toList with
    | [x, y], [t, t'] => match P.underlying t with
      | some (.slice e) => match P.info? e with
        | some ie => match opd s x, (opd s y).bind (srcS s ie.size) with
          | some (.c (.slc sz (d + 2) N a)), some (b, c) => match look s.hp d with
            | some (.spare e' sz' N') => if t = t' ∧ ie.zero.map (·.cells.size) = some ie.size ∧ 0 < ie.size ∧ e' = e ∧ sz = ie.size ∧ sz' = ie.size then some (d, e, ie.size, ie.bytes, N, N', a, b, c) else none
            | _ => none
          | _, _ => none
        | none => none
      | _ => none
    | _, _ => none
  | _ => none
theorem S_appT {α : Type} {P : Program} {K : Ctx} {n : Nat} {ops : Array Oper} {o : Oper} {s : St} {d e sz by_ N : Nat} (f : α → List SC) (hone : ∀ x, (f x).all SC.one = true) {l1 l2 l' : List α} {c : Cut} (he : appO by_ l1 (c.app l2) = some l') (h : appTArgs P s o = some (d, e, sz, by_, N, N, l1.map f, l2.map f, c)) (hgd : guardOf ops o s = some true) (hd : dstOk n o = true) :
    Stp P K n ops o s ((s.setR d (.spare e sz l'.length)).put o.dst (.c (.slc sz (d + 2) l'.length (l'.map f)))) := by
  unfold appTArgs at h
  split at h
  rotate_left
  · cases h
  rename_i xs ts ho
  split at h
  rotate_left
  · cases h
  rename_i x y t t' hxs hts
  have hxs' : xs = #[x, y] := by rw [← Array.toArray_toList (xs := xs), hxs]
  have hts' : ts = #[t, t'] := by rw [← Array.toArray_toList (xs := ts), hts]
  subst hxs'
  subst hts'
  split at h
  rotate_left
  · cases h
  rename_i e1 hu
  split at h
  rotate_left
  · cases h
  rename_i ie hi
  split at h
  rotate_left
  · cases h
  rename_i sz1 d1 N1 a1 b1 c1 hx hy
  split at h
  rotate_left
  · cases h
  rename_i e2 sz2 N2 hl
  split at h
  rotate_left
  · cases h
  rename_i hq
  obtain ⟨rfl, hz, hs0, rfl, rfl, rfl⟩ := hq
  cases h
  obtain ⟨z, hz, hzc⟩ := Option.map_eq_some_iff.1 hz
  simp only [appO] at he
  split at he
  rotate_left
  · cases he
  rename_i hb
  cases he
  refine Stp_mk hgd fun g a w r K' Q hK => ?_
  have hview := r.view.o o
  obtain ⟨vy, hy1, hy2⟩ := Option.bind_eq_some_iff.1 hy
  have hvx := hview.op x _ (by simp [ho, Op.operands, Call.operands]) hx
  have hsrc := srcS_rel hy2 hview (hview.op y _ (by simp [ho, Op.operands, Call.operands]) hy1)
  rw [Cut.map] at hsrc
  obtain ⟨rx, htag⟩ := hvx
  have hN := irel_n rx
  rw [List.length_map] at hN
  subst hN
  obtain ⟨us, hown⟩ := r.hg.holds d _ hl
  obtain ⟨aV, cV, hV, hVc, hVm, hvl, hblk⟩ := tk_sliceM hown
  have hux : a.eval x = (g.tk d).2 := htag.2 hvl.symm
  unfold Oper.wp
  simp only [execOp, ho, resolve, invoke, builtin, Sem.run_bind, Sem.run_pure, Result.andThen_ok, List.map_toArray, List.map_cons, List.map_nil]
  rw [hux] at rx ⊢
  generalize hvy : a.eval y = uy at *
  obtain ⟨ay, cy, vals, rfl, hlv, hrow, hwhere, _⟩ := hsrc
  rw [List.length_map] at hlv ⊢
  generalize hl2' : c.app l2 = l2' at *
  -- nothing appended
  by_cases hl2 : l2' = []
  · subst hl2
    rw [List.append_nil] at hK
    simp only [List.length_nil]
    rw [hV, run_append_zero t o.type e ie hu hi aV ay l1.length cV cy hVc, ← hV]
    simp only [Result.andThen_ok, Oper.upon]
    refine hK _ _ ⟨g, RG.put ?_ o.dst (dstOk_spec hd) ⟨?_, ?_⟩⟩
    · exact (r.upd (r := .spare e ie.size l1.length) hl (fun _ _ x => x) (Keep.refl _ _) (fun _ q => by cases q) (fun q => q) (fun _ => ⟨us, hown⟩)).1
    · have := (r.upd (r := .spare e ie.size l1.length) hl (fun _ _ x => x) (Keep.refl _ _) (fun _ q => by cases q) (fun q => q) (fun _ => ⟨us, hown⟩)).2
      exact rx.mono this
    · exact ⟨by omega, fun _ => rfl⟩
  have hpos : 0 < l2'.length := List.length_pos_iff.2 hl2
  obtain ⟨ad, rfl, hcells⟩ : ∃ ad, ay = some ad ∧ ∀ j v, vals[j]? = some v → w.cell? (ad.add j) = some v := by
    rcases hwhere with h0 | h0
    · exact absurd (List.map_eq_nil_iff.1 h0) hl2
    · exact h0
  have h1v := SrcIs.one hs0 (by rw [List.length_map]; exact hlv) hrow (fun x hx => by obtain ⟨y, _, rfl⟩ := List.mem_map.1 hx; exact hone y)
  obtain ⟨V', w', q1, q2, q3, q4⟩ := run_append_keepM (P := P) t o.type e ie z ie.size ie.bytes hu hi hz rfl rfl hzc hs0 _ _ us hown ad l2'.length cy vals hlv hcells h1v hpos (by unfold maxLen; omega) hb.1
  rw [q1]
  simp only [Result.andThen_ok, Oper.upon]
  obtain ⟨aV', cV', hV', hVc', hVm', hvl', hblk'⟩ := tk_sliceM q2
  -- the names afterwards
  let g' : Env := { pos := g.pos, tk := fun e => if e = d then ((g.tk d).1, V') else g.tk e }
  have hgd' : g'.tk d = ((g.tk d).1, V') := by simp [g']
  have hgr : Grew g g' d := ⟨fun _ => rfl, fun e => by by_cases q : e = d <;> simp [g', q], fun e q => by simp [g', q], .inr (by rw [hgd', hvl, hvl']; omega)⟩
  have hlen : (l1 ++ l2').length = l1.length + l2'.length := List.length_append
  obtain ⟨r1, hle⟩ := r.grow (g' := g') (w' := w') (r := .spare e ie.size (l1 ++ l2').length) hl hgr q3 (fun b o' hf => by
      simp only [Foot, hgd'] at hf
      rcases q4 b hf.1 with h5 | h5
      · refine .inl ⟨h5, Nat.le_trans (Nat.mul_le_mul_right _ ?_) hf.2⟩
        omega
      · exact .inr h5) (fun _ q => by cases q) rfl (fun _ => ⟨us ++ vals, by rw [hgd', hlen]; exact q2⟩)
  refine hK _ _ ⟨g', r1.put o.dst (dstOk_spec hd) ⟨?_, ?_⟩⟩
  · -- the elements
    have hrx : RowIs (rdOf K g s.hp w) ie.size us (l1.map f) := by
      rcases hblk with h0 | ⟨bb, hbb, hbk⟩
      · have : l1 = [] := List.eq_nil_of_length_eq_zero h0
        subst this
        exact ⟨by simp, by simp⟩
      · obtain ⟨_, _, valsx, hs | ⟨ad', c', h3, hnil', _⟩⟩ := src_row hview.reads rx
        · obtain ⟨h3, _, _, hrow', hlv', hw'⟩ := hs
          rw [List.length_map] at hlv' hw' h3
          rcases hw' with h0 | ⟨ad', hh, hcells'⟩
          · have : l1 = [] := List.eq_nil_of_length_eq_zero h0
            subst this
            exact ⟨by simp, by simp⟩
          · rw [hV, hbb] at h3
            cases h3
            cases hh
            have : us = valsx := by
              apply List.ext_getElem?
              intro j
              rcases Nat.lt_or_ge j (l1.length * ie.size) with hj | hj
              · have hju : j < us.length := by rw [hown.1]; exact hj
                have hjv : j < valsx.length := by omega
                have q1 := hown.cells hbk j (us[j]'hju) (List.getElem?_eq_getElem hju)
                have q2 := hcells' j (valsx[j]'hjv) (List.getElem?_eq_getElem hjv)
                rw [q1] at q2
                rw [List.getElem?_eq_getElem hju, List.getElem?_eq_getElem hjv]
                exact q2
              · rw [List.getElem?_eq_none (by rw [hown.1]; exact hj), List.getElem?_eq_none (by omega)]
            rw [this]
            exact hrow'
        · have : l1 = [] := by simpa using hnil'
          subst this
          exact ⟨by simp, by simp⟩
    have hr2 : RowIs (rdOf K g s.hp w) ie.size (us ++ vals) ((l1 ++ l2').map f) := by
      rw [List.map_append]
      exact hrx.append hrow (by rw [List.length_map]; exact hown.1)
    rcases hblk' with h0 | ⟨bb, hbb, hbk⟩
    · omega
    rw [hV', hbb, ← hlen]
    refine row_is (b := bb) (vals := us ++ vals) (hr2.mono hle) (by simp) (by rw [hlen]; exact hVc') hVm' (fun k v hv hk => ?_)
    -- each cell is read
    have hcell := q2.cells hbk k v hv
    rw [addr_add, Nat.zero_add] at hcell
    rcases q4 bb hbk with h5 | h5
    · -- in place
      rcases Nat.lt_or_ge k (l1.length * ie.size) with hk1 | hk1
      · rcases hblk with h0 | ⟨b2, hb2, hbk2⟩
        · rw [h0] at hk1; omega
        · rw [h5] at hbk2
          cases hbk2
          rw [hV, hb2] at rx
          have hv2 : us[k]? = some v := by rwa [List.getElem?_append_left (by rw [hown.1]; exact hk1)] at hv
          refine hle _ _ _ ?_
          generalize hsc : SC.slc ie.size 0 l1.length (l1.map f) = yy at rx
          generalize hvv : Value.slice (some ⟨bb, 0, none⟩) l1.length cV = vv at rx
          cases rx with
          | lit v => cases hsc
          | nil s' a c hm => injection hsc with _ _ h9 _; rw [h9] at hk1; omega
          | ref b o cs f hr hu => cases hsc
          | slc b o n c s' xs' ff hn hc hm hs hr hu =>
            cases hsc
            cases hvv
            have hs0' : 0 < ie.size := hs0
            have hi2 : k / ie.size < (l1.map f).length := by rw [List.length_map]; exact Nat.div_lt_of_lt_mul (by rw [Nat.mul_comm]; exact hk1)
            have hx2 := List.getElem?_eq_getElem hi2
            have hlx := hs _ (List.getElem_mem hi2)
            have hj2 : k % ie.size < ((l1.map f)[k / ie.size]).length := by rw [hlx]; exact Nat.mod_lt _ hs0'
            have h6 := hr _ _ _ _ hx2 (List.getElem?_eq_getElem hj2)
            rw [Nat.zero_add, show k / ie.size * ie.size + k % ie.size = k by have := Nat.div_add_mod k ie.size; rw [Nat.mul_comm] at this; omega] at h6
            have h7 := rdOf_le g s.hp r.hg.keep _ _ _ h6
            have h8 := hown.cells h5 k v hv2
            rw [addr_add, Nat.zero_add, h7] at h8
            rw [h6]; exact h8
      · unfold rdOf
        have hnew : ¬ InFoot g' (s.setR d (.spare e ie.size (l1 ++ l2').length)).hp bb k := by
          rintro ⟨d2, x2, k1, k2⟩
          simp only [St.setR, look_setL] at k1
          split at k1
          · rename_i hdd
            cases k1
            simp only [Foot, ← hdd, hgd'] at k2
            omega
          · rename_i hdd
            rw [foot_env ⟨hgr.pos d2, hgr.tk d2 (Ne.symm hdd)⟩] at k2
            exact r.hg.dis d2 d x2 _ bb k (Ne.symm hdd) k1 hl k2 ⟨h5, hk1⟩
        rw [if_neg hnew, if_neg]
        · exact hcell
        · exact fun q => (r.hg.new d _ hl rfl bb k ⟨h5, hk1⟩).elim (fun q2 => Nat.not_lt.2 q2 q.1) q.2
    · unfold rdOf
      have hnew : ¬ InFoot g' (s.setR d (.spare e ie.size (l1 ++ l2').length)).hp bb k := by
        rintro ⟨d2, x2, k1, k2⟩
        simp only [St.setR, look_setL] at k1
        split at k1
        · rename_i hdd
          cases k1
          simp only [Foot, ← hdd, hgd'] at k2
          omega
        · rename_i hdd
          rw [foot_env ⟨hgr.pos d2, hgr.tk d2 (Ne.symm hdd)⟩] at k2
          have := (r.hg.holds d2 x2 k1).lt k2
          omega
      rw [if_neg hnew, if_neg (by have := r.hg.keep.size; omega)]
      exact hcell
  · show _ ≤ vlen (g'.tk d).2 ∧ (_ = vlen (g'.tk d).2 → V' = (g'.tk d).2)
    rw [hgd']
    exact ⟨by rw [hvl', hlen]; exact Nat.le_refl _, fun _ => rfl⟩
end
section
open Go.RowKit

section
variable {P : Program} {K : Ctx} {g g' : Env} {w w' : World} {n : Nat} {a : Act} {s : St} {ops : Array Oper} {o : Oper}
/-- an operation that makes a row of its own -/
def OwnOp (P : Program) (o : Oper) (s : St) (e sz : Nat) (xs : List (List SC)) : Prop :=
  ∀ g rd a w, OView g rd a w s o → ∃ V w' us, (execOp a.eval o).run P w = .ok (.value V) w' ∧ Ext w w' ∧ w'.ownsRow 0 e sz V xs.length us ∧ (∀ b, V.ownBlock = some b → w.heap.size ≤ b) ∧ RowIs rd sz us xs
theorem Sub.own {s s' : St} (h : Sub s s') {e sz : Nat} {xs : List (List SC)} (hp : OwnOp P o s e sz xs) : OwnOp P o s' e sz xs :=
  fun g rd a w hv => hp g rd a w ⟨fun x v hx hq => hv.op x v hx (h.opd hq), hv.reads, fun d r hd => hv.holds d r (h.h d r hd)⟩
/-- the same; a mark may lie behind the row -/
def OwnOpM (P : Program) (o : Oper) (s : St) (e sz : Nat) (xs : List (List SC)) : Prop :=
  ∀ g rd a w, OView g rd a w s o → ∃ V w' us, (execOp a.eval o).run P w = .ok (.value V) w' ∧ Ext w w' ∧ w'.ownsRowM e sz V xs.length us ∧ (∀ b, V.ownBlock = some b → w.heap.size ≤ b) ∧ RowIs rd sz us xs
theorem OwnOp.m {e sz : Nat} {xs : List (List SC)} (hp : OwnOp P o s e sz xs) : OwnOpM P o s e sz xs := fun g rd a w hv => let ⟨V, w', us, h1, h2, h3, h4, h5⟩ := hp g rd a w hv; ⟨V, w', us, h1, h2, h3.m, h4, h5⟩
theorem S_ownM {e sz : Nat} {xs : List (List SC)} (d : Nat) (hp : OwnOpM P o s e sz xs) (hgd : guardOf ops o s = some true) (hdst : o.dst = some d) (hd : d < n) (hd6 : d < 1000000) (hf : NoName s d (some d)) :
    Stp P K n ops o s ((s.setR d (.spare e sz xs.length)).put (some d) (.c (.slc sz (d + 2) xs.length xs))) := by
  refine Stp_mk hgd fun g a w r K' Q hK => ?_
  obtain ⟨V, w', us, h1, h2, h3, h4, h5⟩ := hp _ _ _ _ (r.view.o o)
  unfold Oper.wp
  rw [h1]
  simp only [Oper.upon]
  obtain ⟨aV, cV, hV, hVc, hVm, hvl, hblk⟩ := tk_sliceM h3
  have h0 := r.forget d
  have hgd' : (g.setTk d (undef, V) (0, 0)).tk d = (undef, V) := by simp [Env.setTk]
  obtain ⟨r1, hle⟩ := h0.add (g' := g.setTk d (undef, V) (0, 0)) (w' := w') (r := .spare e sz xs.length) hd6 hf.drop (fun e he => by simp [Env.setTk, he]) h2 (fun b o hb => by
      simp only [Foot, hgd'] at hb
      exact h4 b hb.1) (fun hle => ⟨us, by rw [hgd']; exact h3⟩)
  have r2 := r1.put (some d) (fun t ht => by cases ht; exact hd) (u := V) (v := .c (.slc sz (d + 2) xs.length xs)) (by
    refine ⟨?_, ?_⟩
    · rcases hblk with h0 | ⟨bb, hbb, hbk⟩
      · have hx : xs = [] := List.eq_nil_of_length_eq_zero h0
        subst hx
        rw [hV]
        exact .nil sz _ _ hVm
      · have hVe : V = .slice (some ⟨bb, 0, none⟩) xs.length cV := by rw [hV, hbb]
        conv => arg 2; rw [hVe]
        refine row_is (b := bb) (vals := us) (h5.mono hle) rfl hVc hVm (fun k v hv hk => ?_)
        have hcell := h3.cells hbk k v hv
        rw [addr_add, Nat.zero_add] at hcell
        have hb := h4 bb hbk
        unfold rdOf
        rw [if_neg, if_neg (by have := r.hg.keep.size; omega)]
        · exact hcell
        · rintro ⟨d2, x2, k1, k2⟩
          simp only [St.setR, look_setL] at k1
          split at k1
          · rename_i hdd
            cases k1
            simp only [Foot] at k2
            omega
          · rename_i hdd
            rw [foot_env (g := g) (by simp [Env.setTk, Ne.symm hdd])] at k2
            have := (r.hg.holds d2 x2 k1).lt k2
            omega
    · show _ ≤ vlen ((g.setTk d (undef, V) (0, 0)).tk d).2 ∧ (_ = vlen ((g.setTk d (undef, V) (0, 0)).tk d).2 → V = ((g.setTk d (undef, V) (0, 0)).tk d).2)
      rw [hgd', hvl]
      exact ⟨Nat.le_refl _, fun _ => rfl⟩)
  rw [hdst]
  exact hK _ _ ⟨_, r2.sim (fun k => (put_drop (s.setR d (.spare e sz xs.length)) d _ k).symm) rfl⟩
theorem S_ownT {e sz : Nat} {xs : List (List SC)} (d : Nat) (hp : OwnOp P o s e sz xs) (hgd : guardOf ops o s = some true) (hdst : o.dst = some d) (hd : d < n) (hd6 : d < 1000000) (hf : NoName s d (some d)) :
    Stp P K n ops o s ((s.setR d (.spare e sz xs.length)).put (some d) (.c (.slc sz (d + 2) xs.length xs))) := S_ownM d hp.m hgd hdst hd hd6 hf
theorem RG.recast (h : RG K g n a w s) {t : Nat} {v0 v : SV} (hl : look s.tmps t = some v0) (hv : ∀ u, VRel (rdOf K g s.hp w) g u v0 → VRel (rdOf K g s.hp w) g u v) : RG K g n a w (s.put (some t) v) := by
  refine ⟨h.defers, h.size, h.few, h.hg, fun k x hx => ?_⟩
  rw [look_put] at hx
  split at hx
  · rename_i hk; subst hk; cases hx
    obtain ⟨u, h1, h2⟩ := h.tmps _ _ hl
    exact ⟨u, h1, hv u h2⟩
  · exact h.tmps k x hx
theorem RG.recastBox (h : RG K g n a w s) {b : Nat} {cs ds : List SC} (hl : look s.hp b = some (.box cs)) (hlen : ds.length = cs.length) (hv : ∀ (j : Nat) (x y : SC), cs[j]? = some x → ds[j]? = some y → ∀ u, CRel (rdOf K g s.hp w) g u x → CRel (rdOf K g s.hp w) g u y) : RG K g n a w (s.setR b (.box ds)) := by
  refine (h.upd (r := .box ds) hl (fun b' o' hf => ?_) (Keep.refl _ _) (fun _ _ => ⟨cs, rfl⟩) (fun q => by cases q) (fun hle j y hy => ?_)).1
  · simp only [Foot, hlen] at hf ⊢; exact hf
  · have hj := (List.getElem?_eq_some_iff.1 hy).1
    obtain ⟨u, h1, h2, h3⟩ := h.hg.holds b _ hl j _ (List.getElem?_eq_getElem (by omega))
    exact ⟨u, h1, h2, (hv j _ y (List.getElem?_eq_getElem (by omega)) hy u h3).mono hle⟩
theorem RG.nilTok (h : RG K g n a w s) (d e sz : Nat) (hd6 : d < 1000000) (hf : NoName s d none) : RG K (g.setTk d (undef, .slice none 0 0) (0, 0)) n a w (s.setR d (.spare e sz 0)) :=
  (h.add (g' := g.setTk d (undef, .slice none 0 0) (0, 0)) (w' := w) (r := .spare e sz 0) hd6 hf (fun e he => by simp [Env.setTk, he]) (Ext.refl w) (fun b o hb => by
      simp [Foot, Env.setTk, Value.ownBlock] at hb) (fun hle => ⟨[], by simpa [Env.setTk] using (World.ownsRow_nil w 0 e sz).m⟩)).1
def nilT (s : St) (t d e sz : Nat) : Option St := match look s.tmps t with
  | some (.c (.lit (.slice none 0 0))) => if decide (d < 1000000) && s.noname d none then some ((s.setR d (.spare e sz 0)).put (some t) (.c (.slc sz (d + 2) 0 []))) else none
  | _ => none
theorem R.nilT {s' : St} (h : R K n a w s) {t d e sz : Nat} (hs : nilT s t d e sz = some s') : R K n a w s' := by
  obtain ⟨g, h⟩ := h
  unfold Go.Proofs.Ytleadcbdbfjefaa.nilT at hs
  split at hs
  · rename_i hl
    split at hs
    · rename_i hq
      simp only [Bool.and_eq_true, decide_eq_true_eq] at hq
      cases hs
      have h1 := h.nilTok d e sz hq.1 (noname_spec hq.2)
      refine ⟨_, h1.recast (t := t) hl (fun u hu => ?_)⟩
      rw [rel_lit hu]
      refine ⟨.nil sz none 0 (by simp [maxLen]), ?_⟩
      simp [Tag, Env.setTk, vlen]
    · cases hs
  · cases hs
def nilB (s : St) (b j d e sz : Nat) : Option St := match s.lookB b with
  | some cs => match cs[j]? with
    | some (.lit (.slice none 0 0)) => if decide (d < 1000000) && s.noname d none && b != d then some ((s.setR d (.spare e sz 0)).setR b (.box (cs.set j (.slc sz (d + 2) 0 [])))) else none
    | _ => none
  | none => none
theorem R.nilB {s' : St} (h : R K n a w s) {b j d e sz : Nat} (hs : nilB s b j d e sz = some s') : R K n a w s' := by
  obtain ⟨g, h⟩ := h
  unfold Go.Proofs.Ytleadcbdbfjefaa.nilB at hs
  split at hs
  · rename_i cs hl
    split at hs
    · rename_i hj
      split at hs
      · rename_i hq
        simp only [Bool.and_eq_true, decide_eq_true_eq, bne_iff_ne] at hq
        cases hs
        have h1 := h.nilTok d e sz hq.1.1 (noname_spec hq.1.2)
        refine ⟨_, h1.recastBox (b := b) (cs := cs) (by simp only [St.setR, look_setL]; rw [if_neg (Ne.symm hq.2)]; exact lookB_some hl) (by simp) (fun i x y hx hy u hu => ?_)⟩
        rw [List.getElem?_set] at hy
        split at hy
        · rename_i hij; subst hij
          split at hy
          · cases hy
            rw [hj] at hx
            cases hx
            have : u = .slice none 0 0 := rel_lit (g := g.setTk d (undef, .slice none 0 0) (0, 0)) hu
            subst this
            refine ⟨.nil sz none 0 (by simp [maxLen]), ?_⟩
            simp [Tag, Env.setTk, vlen]
          · cases hy
        · rw [hx] at hy; cases hy; exact hu
      · cases hs
    · cases hs
  · cases hs

def bumpN (k d : Nat) : Nat := if d < 1000000 then d + k else d
def bumpP (k d : Nat) : Bool := decide (d + k < 1000000) || decide (1000000 ≤ d)
def St.bump (s : St) (k : Nat) : Option St :=
  if s.tmps.all (fun p => p.2.every (SC.say (bumpP k))) && s.hp.all (fun p => bumpP k p.1 && p.2.every (SC.say (bumpP k))) then
    some ⟨s.tmps.map fun p => (p.1, p.2.map (SC.ren (bumpN k))), s.hp.map fun p => (bumpN k p.1, p.2.map (SC.ren (bumpN k)))⟩
  else none
theorem bump_inj {k d e : Nat} (hd : bumpP k d = true) (he : bumpP k e = true) (h : bumpN k d = bumpN k e) : d = e := by
  simp only [bumpP, Bool.or_eq_true, decide_eq_true_eq] at hd he
  unfold bumpN at h
  split at h <;> split at h <;> omega
theorem look_bump (k : Nat) : ∀ (l : Hp), (∀ p ∈ l, bumpP k p.1 = true) → ∀ d x, look (l.map fun p => (bumpN k p.1, p.2.map (SC.ren (bumpN k)))) d = some x → ∃ d0 x0, look l d0 = some x0 ∧ d = bumpN k d0 ∧ x = x0.map (SC.ren (bumpN k)) ∧ bumpP k d0 = true
  | [], _, d, x, h => by simp [look] at h
  | (e, y) :: l, hl, d, x, h => by
    simp only [List.map_cons, look_cons] at h
    split at h
    · rename_i he
      cases h
      exact ⟨e, y, by rw [look_cons, if_pos rfl], he.symm, rfl, hl (e, y) (by simp)⟩
    · rename_i he
      obtain ⟨d0, x0, h1, h2, h3, h4⟩ := look_bump k l (fun p hp => hl p (by simp [hp])) d x h
      refine ⟨d0, x0, ?_, h2, h3, h4⟩
      rw [look_cons, if_neg]
      · exact h1
      · intro hh; subst hh; exact he h2.symm
theorem R.bump {s' : St} {k : Nat} (h : R K n a w s) (hs : s.bump k = some s') : R K n a w s' := by
  obtain ⟨g, h⟩ := h
  unfold St.bump at hs
  split at hs
  rotate_left
  · cases hs
  rename_i hq
  cases hs
  simp only [Bool.and_eq_true, List.all_eq_true] at hq
  obtain ⟨hq1, hq2⟩ := hq
  let un : Nat → Nat := fun e => if e < 1000000 then e - k else e
  have hun : ∀ d, bumpP k d = true → un (bumpN k d) = d := by
    intro d hd
    simp only [bumpP, Bool.or_eq_true, decide_eq_true_eq] at hd
    simp only [un, bumpN]
    by_cases h1 : d < 1000000
    · rw [if_pos h1, if_pos (by omega)]; omega
    · rw [if_neg h1, if_neg h1]
  let g' : Env := { pos := fun e => g.pos (un e), tk := fun e => g.tk (un e) }
  have hg' : ∀ d, bumpP k d = true → g'.pos (bumpN k d) = g.pos d ∧ g'.tk (bumpN k d) = g.tk d := fun d hd => by simp only [g', hun d hd, and_self]
  have hlk := look_bump k s.hp (fun p hp => (hq2 p hp).1)
  have hfoot : ∀ d r, bumpP k d = true → Foot g' (bumpN k d) (Res.map (SC.ren (bumpN k)) r) = Foot g d r := by
    intro d r hd
    rw [foot_map]
    funext b o
    cases r <;> simp only [Foot, (hg' d hd).1, (hg' d hd).2]
  have hin : ∀ b o, InFoot g' (s.hp.map fun p => (bumpN k p.1, p.2.map (SC.ren (bumpN k)))) b o → InFoot g s.hp b o := by
    rintro b o ⟨d, r, h1, h2⟩
    obtain ⟨d0, x0, q1, rfl, rfl, q4⟩ := hlk d r h1
    rw [hfoot d0 x0 q4] at h2
    exact ⟨d0, x0, q1, h2⟩
  have hin2 : ∀ b o, InFoot g s.hp b o → InFoot g' (s.hp.map fun p => (bumpN k p.1, p.2.map (SC.ren (bumpN k)))) b o := by
    rintro b o ⟨d, r, h1, h2⟩
    have hb := (hq2 _ (look_mem h1)).1
    refine ⟨bumpN k d, r.map (SC.ren (bumpN k)), ?_, by rw [hfoot d r hb]; exact h2⟩
    have gen : ∀ (l : Hp), (∀ p ∈ l, bumpP k p.1 = true) → look l d = some r → look (l.map fun p => (bumpN k p.1, p.2.map (SC.ren (bumpN k)))) (bumpN k d) = some (r.map (SC.ren (bumpN k))) := by
      intro l hl hd
      induction l with
      | nil => simp [look] at hd
      | cons p l ih =>
        obtain ⟨e, y⟩ := p
        simp only [List.map_cons, look_cons] at hd ⊢
        split at hd
        · rename_i he; subst he; cases hd; rw [if_pos rfl]
        · rename_i he
          rw [if_neg (fun q => he (bump_inj (hl (e, y) (by simp)) hb q))]
          exact ih (fun p hp => hl p (by simp [hp])) hd
    exact gen s.hp (fun p hp => (hq2 p hp).1) h1
  have hrd : rdOf K g' (s.hp.map fun p => (bumpN k p.1, p.2.map (SC.ren (bumpN k)))) w = rdOf K g s.hp w := by
    funext b o
    unfold rdOf
    by_cases hx : InFoot g s.hp b o
    · rw [if_pos hx, if_pos (hin2 b o hx)]
    · rw [if_neg hx, if_neg (fun q => hx (hin b o q))]
  refine ⟨g', h.defers, h.size, h.few, ⟨h.hg.keep, fun d r hd => ?_, fun b o hx => h.hg.may b o (hin b o hx), fun d d' r r' b o hne h1 h2 h3 h4 => ?_, fun d cs h6 hd => ?_, fun d r hd hb b o hf => ?_⟩, fun t v hv => ?_⟩
  · obtain ⟨d0, x0, q1, rfl, rfl, q4⟩ := hlk d r hd
    simp only [hrd]
    exact (h.hg.holds d0 x0 q1).ren (Rd.le.refl _) (bumpN k) (bumpP k) hg' q4 (hq2 _ (look_mem q1)).2
  · obtain ⟨d0, x0, q1, rfl, rfl, q4⟩ := hlk d r h1
    obtain ⟨e0, y0, k1, rfl, rfl, k4⟩ := hlk d' r' h2
    rw [hfoot d0 x0 q4] at h3
    rw [hfoot e0 y0 k4] at h4
    exact h.hg.dis d0 e0 x0 y0 b o (fun q => hne (by rw [q])) q1 k1 h3 h4
  · obtain ⟨d0, x0, q1, rfl, q3, q4⟩ := hlk d _ hd
    have hd0 : bumpN k d0 = d0 := by
      unfold bumpN at h6 ⊢
      simp only [bumpP, Bool.or_eq_true, decide_eq_true_eq] at q4
      by_cases h1 : d0 < 1000000
      · rw [if_pos h1] at h6; omega
      · rw [if_neg h1]
    rw [(hg' d0 q4).1, hd0]
    cases x0 with
    | box cs0 => exact h.hg.fix d0 cs0 (by rw [hd0] at h6; exact h6) q1
    | row e s n xs => cases q3
    | spare e s n => cases q3
  · obtain ⟨d0, x0, q1, rfl, rfl, q4⟩ := hlk d r hd
    rw [hfoot d0 x0 q4] at hf
    exact h.hg.new d0 x0 q1 (by cases x0 <;> simp_all [Res.isBox, Res.map]) b o hf
  · simp only [look_map (fun v => SV.map (SC.ren (bumpN k)) v)] at hv
    obtain ⟨v0, hv0, rfl⟩ := Option.map_eq_some_iff.1 hv
    obtain ⟨u, k1, k2⟩ := h.tmps t v0 hv0
    simp only [hrd]
    exact ⟨u, k1, k2.imp (fun v x hx k' => k'.ren (Rd.le.refl _) (bumpN k) (bumpP k) hg' hx) (hq1 _ (look_mem hv0))⟩
end

section
variable {P : Program} {K : Ctx} {n : Nat} {Q : Exit → St → Prop} {C : Cfg} {α : Type}
def Cfg.st2 (C : Cfg) (s : Option St) : Cfg := match s with
  | some s => C.withS s
  | none => .bad
theorem TS_st2 {s : Option St} (hR : ∀ a w s', s = some s' → R K n a w C.st → R K n a w s') (he : C.pre = true) (k : TS P K n (C.st2 s) Q) : TS P K n C Q := by
  cases s with
  | none => exact k.elim
  | some s' => exact TS_state s' (fun a w r => hR a w s' rfl r) he k
theorem TS_nilT (t d e sz : Nat) (he : C.pre = true) (k : TS P K n (C.st2 (nilT C.st t d e sz)) Q) : TS P K n C Q := TS_st2 (fun _ _ _ hs r => r.nilT hs) he k
theorem TS_nilB (b j d e sz : Nat) (he : C.pre = true) (k : TS P K n (C.st2 (nilB C.st b j d e sz)) Q) : TS P K n C Q := TS_st2 (fun _ _ _ hs r => r.nilB hs) he k
theorem TS_bump (b : Nat) (he : C.pre = true) (k : TS P K n (C.st2 (C.st.bump b)) Q) : TS P K n C Q := TS_st2 (fun _ _ _ hs r => r.bump hs) he k
theorem TS_appT {d e sz by_ N : Nat} (f : α → List SC) (hone : ∀ x, (f x).all SC.one = true) {l1 l2 l' : List α} {c : Cut} (he : appO by_ l1 (c.app l2) = some l') (h : C.with1 (appTArgs P) = some (d, e, sz, by_, N, N, l1.map f, l2.map f, c)) (hg : C.go1 n = true)
    (k : TS P K n (C.next ((C.st.setR d (.spare e sz l'.length)).put C.dst (.c (.slc sz (d + 2) l'.length (l'.map f))))) Q) : TS P K n C Q := by
  obtain ⟨os, o, ho, h1, h2, h3⟩ := go1_spec hg
  rw [h3] at k
  exact TS_stp ho (S_appT f hone he (with1_op h ho) h1 h2) k
/-- a row of its own is made: d the place of the result -/
def Cfg.okNew (n d : Nat) (C : Cfg) : Bool := C.go1 n && (match C.dst with | some t => t == d | none => false) && decide (d < 1000000) && C.st.noname d (some d)
theorem okNew_spec {d : Nat} (h : C.okNew n d = true) : ∃ os o, C.op = some (os, o) ∧ guardOf os o C.st = some true ∧ o.dst = some d ∧ d < n ∧ d < 1000000 ∧ NoName C.st d (some d) := by
  simp only [Cfg.okNew, Bool.and_eq_true, decide_eq_true_eq] at h
  obtain ⟨⟨⟨h1, h2⟩, h3⟩, h4⟩ := h
  obtain ⟨os, o, ho, k1, k2, k3⟩ := go1_spec h1
  rw [k3] at h2
  have hd : o.dst = some d := by
    cases hq : o.dst with
    | none => rw [hq] at h2; cases h2
    | some t => rw [hq] at h2; simp at h2; rw [h2]
  exact ⟨os, o, ho, k1, hd, dstOk_spec k2 d hd, h3, noname_spec h4⟩
theorem TS_ownT {e sz : Nat} {xs : List (List SC)} (d : Nat) (hp : ∀ os o, C.op = some (os, o) → OwnOp P o C.st e sz xs) (hg : C.okNew n d = true) (k : TS P K n (C.next ((C.st.setR d (.spare e sz xs.length)).put (some d) (.c (.slc sz (d + 2) xs.length xs)))) Q) : TS P K n C Q := by
  obtain ⟨os, o, ho, h1, h2, h3, h4, h5⟩ := okNew_spec hg
  exact TS_stp ho (S_ownT d (hp os o ho) h1 h2 h3 h4 h5) k
end
end
section
open Go.RowKit

section
variable {P : Program} {o : Oper} {s : St} {α : Type}
def appNArgs (P : Program) (s : St) (o : Oper) : Option (Nat × Nat × Nat × List (List SC) × Cut) := match o.op with
  | .call { callee := .builtin .append, args := xs, argTypes := ts } => match xs.toList, ts.toList with
    | [x, y], [t, t'] => match P.underlying t with
      | some (.slice e) => match P.info? e with
        | some ie => match opd s x, (opd s y).bind (srcS s ie.size) with
          | some (.c (.lit (.slice none 0 0))), some (b, c) => if t = t' ∧ ie.zero.map (·.cells.size) = some ie.size ∧ 0 < ie.size then some (e, ie.size, ie.bytes, b, c) else none
          | _, _ => none
        | none => none
      | _ => none
    | _, _ => none
  | _ => none
theorem own_appN {e sz by_ : Nat} (f : α → List SC) (_hone : ∀ x, (f x).all SC.one = true) {l2 l' : List α} {c : Cut} (he : appO by_ ([] : List α) (c.app l2) = some l') (h : appNArgs P s o = some (e, sz, by_, l2.map f, c)) : OwnOp P o s e sz (l'.map f) := by
  unfold appNArgs at h
  split at h
  rotate_left
  · cases h
  rename_i xs ts ho
  split at h
  rotate_left
  · cases h
  rename_i x y t t' hxs hts
  have hxs' : xs = #[x, y] := by rw [← Array.toArray_toList (xs := xs), hxs]
  have hts' : ts = #[t, t'] := by rw [← Array.toArray_toList (xs := ts), hts]
  subst hxs'
  subst hts'
  split at h
  rotate_left
  · cases h
  rename_i e1 hu
  split at h
  rotate_left
  · cases h
  rename_i ie hi
  split at h
  rotate_left
  · cases h
  rename_i b1 c1 hx hy
  split at h
  rotate_left
  · cases h
  rename_i hq
  obtain ⟨rfl, hz, hs0⟩ := hq
  cases h
  obtain ⟨z, hz, hzc⟩ := Option.map_eq_some_iff.1 hz
  simp only [appO] at he
  split at he
  rotate_left
  · cases he
  rename_i hb
  cases he
  intro g rd a w hview
  obtain ⟨vy, hy1, hy2⟩ := Option.bind_eq_some_iff.1 hy
  have hvx := rel_lit (hview.op x _ (by simp [ho, Op.operands, Call.operands]) hx)
  have hsrc := srcS_rel hy2 hview (hview.op y _ (by simp [ho, Op.operands, Call.operands]) hy1)
  rw [Cut.map] at hsrc
  simp only [execOp, ho, resolve, invoke, builtin, Sem.run_bind, Sem.run_pure, Result.andThen_ok, List.map_toArray, List.map_cons, List.map_nil]
  rw [hvx]
  generalize hvy : a.eval y = uy at *
  obtain ⟨ay, cy, vals, rfl, hlv, hrow, hwhere, _⟩ := hsrc
  rw [List.length_map] at hlv ⊢
  generalize hl2' : c.app l2 = l2' at *
  simp only [List.nil_append, List.length_nil, Nat.zero_add] at hb ⊢
  by_cases hl2 : l2' = []
  · subst hl2
    simp only [List.length_nil, List.map_nil]
    rw [run_append_zero t o.type e ie hu hi none ay 0 0 cy (Nat.le_refl _)]
    simp only [Result.andThen_ok]
    exact ⟨_, _, [], rfl, Ext.refl w, World.ownsRow_nil w 0 e ie.size, by simp [Value.ownBlock], by simp, by simp⟩
  have hpos : 0 < l2'.length := List.length_pos_iff.2 hl2
  obtain ⟨ad, rfl, hcells⟩ : ∃ ad, ay = some ad ∧ ∀ j v, vals[j]? = some v → w.cell? (ad.add j) = some v := by
    rcases hwhere with h0 | h0
    · exact absurd (List.map_eq_nil_iff.1 h0) hl2
    · exact h0
  have hr := run_append_nil (P := P) w t o.type e ie z hu hi hz ad l2'.length cy vals hlv hcells hpos (by omega) (by omega)
  rw [hr]
  simp only [Result.andThen_ok]
  have hge := grownCap_ge w l2'.length 0 e
  have hcm := grownCap_le_maxLen w l2'.length 0 e (by unfold maxLen; omega)
  refine ⟨_, _, vals, rfl, (Ext.drew w).trans (Ext.alloc _ _), ⟨by rw [hlv, List.length_map], .inr ⟨w.heap.size, grownCap w l2'.length 0 e, _, by rw [List.length_map], Nat.zero_le _, heap_alloc_new w.drew _, by rw [List.length_map]; exact hge, hcm, ?_, ?_⟩⟩, fun b hb' => ?_, hrow⟩
  · simp only [Array.size_append, List.size_toArray, size_zeroCells, hzc, hlv, ← Nat.add_mul]
    congr 1
    omega
  · rw [List.length_map, Array.toList_append, List.toList_toArray, ← hlv]
    exact List.take_left
  · simp only [Value.ownBlock, Option.some.injEq] at hb'; omega

def litRArgs (P : Program) (ks : List Nat) (s : St) (o : Oper) : Option (Nat × Nat × List (List SC)) := match o.op with
  | .buildSlice t len parts => match P.underlying t with
    | some (.slice e) => match P.info? e with
      | some ie => if len = 0 then (if parts.size = 0 then some (e, ie.size, []) else none) else if decide (0 < len * ie.size ∧ len * ie.size ≤ 16777216) && ie.zero.isSome then match buildL P s e len ks parts.toList with
          | some xs => some (e, ie.size, xs)
          | none => none
        else none
      | none => none
    | _ => none
  | _ => none
theorem own_litS {e sz : Nat} {xs : List (List SC)} {ks : List Nat} (h : litRArgs P ks s o = some (e, sz, xs)) : OwnOp P o s e sz xs := by
  unfold litRArgs at h
  split at h
  rotate_left
  · cases h
  rename_i t len parts ho
  split at h
  rotate_left
  · cases h
  rename_i e1 hu
  split at h
  rotate_left
  · cases h
  rename_i ie hie
  split at h
  · rename_i hl0
    subst hl0
    split at h
    rotate_left
    · cases h
    rename_i hp0
    cases h
    have hp : parts = #[] := Array.eq_empty_of_size_eq_zero hp0
    subst hp
    intro g rd a w hview
    have hrun : (Instr.buildSlice t 0 #[]).run P w = .ok (.slice (some ⟨w.heap.size, 0, none⟩) 0 0) (w.alloc (.cells #[] e)) := by
      simp [Instr.buildSlice, run_underlying hu, sizeOf, typeInfo, hie, Instr.fill, newRow, newObj, Sem.run_bind, Sem.run, program]
      rw [show Array.range 0 = #[] from Array.eq_empty_of_size_eq_zero (by simp), Array.map_empty]
    simp only [execOp, ho, Sem.run_bind, Array.map_empty, hrun, Result.andThen_ok, Sem.run_pure]
    exact ⟨_, _, [], rfl, Ext.alloc _ _, ⟨by simp, .inr ⟨w.heap.size, 0, #[], rfl, Nat.zero_le _, heap_alloc_new w _, Nat.le_refl _, by simp [maxLen], by simp, by simp⟩⟩, fun b hb => by simp only [Value.ownBlock, Option.some.injEq] at hb; omega, by simp, by simp⟩
  split at h
  rotate_left
  · cases h
  rename_i hpos
  simp only [Bool.and_eq_true, decide_eq_true_eq] at hpos
  obtain ⟨hpos', hz'⟩ := hpos
  split at h
  rotate_left
  · cases h
  rename_i xs' hb
  cases h
  intro g rd a w hview
  unfold buildL at hb
  rw [hie] at hb
  split at hb
  rotate_left
  · cases hb
  rename_i ie' ps hie' hps
  cases hie'
  split at hb
  rotate_left
  · cases hb
  rename_i z hz
  split at hb
  rotate_left
  · cases hb
  rename_i cs hcs
  split at hb
  rotate_left
  · cases hb
  rename_i cs' hcs'
  cases hb
  obtain ⟨l1, l2⟩ := parts_rel hview hps (fun i p hp => by rw [ho]; simp only [Op.operands]; exact parts_mem hp)
  obtain ⟨r, hr1, hr2⟩ := fill_rel _ ps _ _ cs l1 l2 (lits_rel rd g _) hcs
  have hrun := run_buildSlice (P := P) w t e len _ r ie z hu hie hz (by omega) (by omega) hr1
  simp only [execOp, ho, Sem.run_bind, hrun, Result.andThen_ok, Sem.run_pure]
  obtain ⟨h5, h6⟩ := immL_get cs cs' hcs'
  have hrs : r.size = len * ie.size := by
    have hfl : ∀ (ps : List (Nat × Value)) (c c' : Array Value), Instr.fill (fun i => some (i * ie.size, ie.size)) c ps = some c' → c'.size = c.size := by
      intro ps
      induction ps with
      | nil => intro c c' hc; cases hc; rfl
      | cons p ps ih =>
        intro c c' hc
        obtain ⟨j, v⟩ := p
        simp only [Instr.fill] at hc
        split at hc
        · cases hc
        · have := ih _ _ hc
          rw [this]
          have e' : Array.foldl (fun cs (x : Value × Nat) => match x with | (c, j') => cs.setIfInBounds (j * ie.size + j') c) c v.cells.zipIdx = (v.cells.toList.zipIdx 0).foldl (fun cs (p : Value × Nat) => cs.setIfInBounds (j * ie.size + p.2) p.1) c := by
            rw [← Array.foldl_toList, Array.toList_zipIdx]
          have e2 : Array.foldl (fun cs (x : Value × Nat) => cs.setIfInBounds (j * ie.size + x.2) x.1) c v.cells.zipIdx = (v.cells.toList.zipIdx 0).foldl (fun cs (p : Value × Nat) => cs.setIfInBounds (j * ie.size + p.2) p.1) c := e'
          first
            | rw [e']
            | rw [e2]
          exact (foldl_set (j * ie.size) v.cells.toList 0 c).1
    rw [hfl _ _ _ hr1]
    simp
  have hcl : cs'.length = len * ie.size := by rw [← h5, ← hr2.1, hrs]
  have hlen : ((chunks ie.size len cs').map (castL ks)).length = len := by rw [List.length_map, chunks_length]
  refine ⟨_, _, r.toList, rfl, Ext.alloc _ _, ⟨by rw [hlen, Array.length_toList, hrs], .inr ⟨w.heap.size, len, r, by rw [hlen], Nat.zero_le _, heap_alloc_new w _, by rw [hlen]; exact Nat.le_refl _, ?_, hrs, ?_⟩⟩, fun b hb' => by simp only [Value.ownBlock, Option.some.injEq] at hb'; omega, ⟨fun x hx => ?_, fun i x j y hx hy => ?_⟩⟩
  · unfold maxLen
    have : len ≤ len * ie.size := Nat.le_mul_of_pos_right _ (Nat.pos_of_ne_zero (fun h0 => by rw [h0] at hpos'; simp at hpos'))
    omega
  · rw [hlen, ← hrs, ← Array.length_toList, List.take_length]
  · obtain ⟨x0, hx0, rfl⟩ := List.mem_map.1 hx
    obtain ⟨i, hi⟩ := List.getElem?_of_mem hx0
    rw [castL_length]
    exact (chunks_get ie.size len cs' i x0 (by omega) hi).1
  · rw [List.getElem?_map] at hx
    obtain ⟨x0, hx0, rfl⟩ := Option.map_eq_some_iff.1 hx
    obtain ⟨k, y0, hy0, rfl⟩ := castL_get ks x0 j y hy
    have h7 := (chunks_get ie.size len cs' i x0 (by omega) hx0).2 j y0 hy0
    obtain ⟨y1, h8, h9⟩ := h6 _ y0 h7
    obtain ⟨u, h10, h11⟩ := hr2.2 _ y1 h8
    exact ⟨u, by simpa using h10, cast1_imm k (imm_rel h11 h9)⟩

end
end
section
open Go.RowKit

def UpdOp (P : Program) (o : Oper) (s : St) (d : Nat) (r0 r : Res) (v : SV) : Prop :=
  look s.hp d = some r0 ∧ (r0.isBox = r.isBox) ∧ (∀ g b o, Foot g d r b o → Foot g d r0 b o) ∧ ∀ g rd a w, OView g rd a w s o →
    ∃ nx w', (execOp a.eval o).run P w = .ok nx w' ∧ Keep w (Foot g d r0) w' ∧ ((nx = .skip ∧ o.dst = none) ∨ ∃ u, nx = .value u ∧ ∀ rd', rd.le rd' → VRel rd' g u v) ∧ ∀ rd', rd.le rd' → Holds rd' g w' d r
section
variable {P : Program} {K : Ctx} {n : Nat} {ops : Array Oper} {o : Oper} {s : St} {d : Nat} {r0 r : Res} {v : SV}
theorem Sub.upd {s s' : St} (h : Sub s s') (hp : UpdOp P o s d r0 r v) : UpdOp P o s' d r0 r v :=
  ⟨h.h _ _ hp.1, hp.2.1, hp.2.2.1, fun g rd a w hv => hp.2.2.2 g rd a w ⟨fun x v hx hq => hv.op x v hx (h.opd hq), hv.reads, fun d r hd => hv.holds d r (h.h d r hd)⟩⟩
end

section
variable {P : Program} {o : Oper} {s : St} {α : Type}
end
end
section
open Go.RowKit

section
variable {P : Program} {o : Oper} {s : St} {α : Type}
end

section
variable {P : Program} {n : Nat} {ops : Array Oper} {o : Oper} {need : St} {α : Type}
theorem Sub.srcS {s s' : St} (h : Sub s s') {sz : Nat} {v : SV} {q : List (List SC) × Cut} (k : srcS s sz v = some q) : Go.Proofs.Ytleadcbdbfjefaa.srcS s' sz v = some q := by
  unfold Go.Proofs.Ytleadcbdbfjefaa.srcS at k ⊢
  split at k <;> (try exact k)
  all_goals (
    split at k
    · rename_i hl
      first
        | rw [h.h _ _ hl]
        | rw [h.lookB hl]
      exact k
    · cases k)
theorem Sub.bindSrc {s s' : St} (h : Sub s s') {sz : Nat} {x : Operand} {q : List (List SC) × Cut} (k : (Go.Proofs.Ytleadcbdbfjefaa.opd s x).bind (Go.Proofs.Ytleadcbdbfjefaa.srcS s sz) = some q) : (Go.Proofs.Ytleadcbdbfjefaa.opd s' x).bind (Go.Proofs.Ytleadcbdbfjefaa.srcS s' sz) = some q := by
  obtain ⟨v, h1, h2⟩ := Option.bind_eq_some_iff.1 k
  rw [h.opd h1]
  exact h.srcS h2
theorem Sub.appT {s s' : St} (h : Sub s s') {q : Nat × Nat × Nat × Nat × Nat × Nat × List (List SC) × List (List SC) × Cut} (k : appTArgs P s o = some q) : appTArgs P s' o = some q := by
  unfold appTArgs at k ⊢
  split at k
  rotate_left
  · cases k
  split at k
  rotate_left
  · cases k
  rename_i x y t t' hxs hts
  try rw [hxs, hts]
  try simp only
  split at k
  rotate_left
  · cases k
  rename_i e hu
  try rw [hu]
  try simp only
  split at k
  rotate_left
  · cases k
  rename_i ie hie
  try rw [hie]
  try simp only
  split at k
  rotate_left
  · cases k
  rename_i sz d N a b c hx hy
  rw [h.opd hx, h.bindSrc hy]
  try simp only
  split at k
  rotate_left
  · cases k
  rename_i e' sz' N' hl
  rw [h.h _ _ hl]
  exact k
theorem vd_ownT {e sz : Nat} {xs : List (List SC)} (d : Nat) (hp : OwnOp P o need e sz xs) (hg : guardOf ops o need = some true) (hdst : o.dst = some d) (hd : d < n) (hd6 : d < 1000000) : VD P n ops o ⟨need, some d, .c (.slc sz (d + 2) xs.length xs), some (d, .spare e sz xs.length), true⟩ :=
  fun _K _s hs hn => S_ownT d (hs.own hp) (hs.guard hg) hdst hd hd6 (hn rfl)
theorem vd_appT {d e sz by_ N : Nat} (f : α → List SC) (hone : ∀ x, (f x).all SC.one = true) {l1 l2 l' : List α} {c : Cut} (he : appO by_ l1 (c.app l2) = some l') (h : appTArgs P need o = some (d, e, sz, by_, N, N, l1.map f, l2.map f, c)) (hg : guardOf ops o need = some true) (hd : dstOk n o = true) :
    VD P n ops o ⟨need, o.dst, .c (.slc sz (d + 2) l'.length (l'.map f)), some (d, .spare e sz l'.length), false⟩ :=
  fun _K _s hs _ => S_appT f hone he (hs.appT h) (hs.guard hg) hd
end

section
variable {P : Program} {K : Ctx} {n : Nat} {Q : Exit → St → Prop} {C : Cfg} {D : Dr} {α : Type}
def Dr.okNew (n d : Nat) (D : Dr) : Bool := D.go1 n && (match D.dst with | some t => t == d | none => false) && decide (d < 1000000)
theorem okNewD_spec {d : Nat} (h : D.okNew n d = true) : ∃ os o, D.op = some (os, o) ∧ guardOf os o D.need = some true ∧ o.dst = some d ∧ d < n ∧ d < 1000000 := by
  simp only [Dr.okNew, Bool.and_eq_true, decide_eq_true_eq] at h
  obtain ⟨⟨h1, h2⟩, h3⟩ := h
  obtain ⟨os, o, ho, k1, k2, k3⟩ := go1D_spec h1
  rw [k3] at h2
  have hd : o.dst = some d := by
    cases hq : o.dst with
    | none => rw [hq] at h2; cases h2
    | some t => rw [hq] at h2; simp at h2; rw [h2]
  exact ⟨os, o, ho, k1, hd, dstOk_spec k2 d hd, h3⟩
theorem TD_ownT {e sz : Nat} {xs : List (List SC)} (d : Nat) (hp : ∀ os o, D.op = some (os, o) → OwnOp P o D.need e sz xs) (hg : D.okNew n d = true) (k : TD P K n (D.push ⟨D.need, some d, .c (.slc sz (d + 2) xs.length xs), some (d, .spare e sz xs.length), true⟩) Q) : TD P K n D Q := by
  obtain ⟨os, o, ho, h1, h2, h3, h4⟩ := okNewD_spec hg
  exact push_ok ho (vd_ownT d (hp os o ho) h1 h2 h3 h4) rfl k
theorem TD_appT {d e sz by_ N : Nat} (f : α → List SC) (hone : ∀ x, (f x).all SC.one = true) {l1 l2 l' : List α} {c : Cut} (he : appO by_ l1 (c.app l2) = some l') (h : D.with1 (appTArgs P) = some (d, e, sz, by_, N, N, l1.map f, l2.map f, c)) (hg : D.go1 n = true)
    (k : TD P K n (D.push ⟨D.need, D.dst, .c (.slc sz (d + 2) l'.length (l'.map f)), some (d, .spare e sz l'.length), false⟩) Q) : TD P K n D Q := by
  obtain ⟨os, o, ho, h1, h2, h3⟩ := go1D_spec hg
  rw [h3] at k
  exact push_ok ho (vd_appT f hone he (with1D_op h ho) h1 h2) rfl k
theorem TS_appNT (d : Nat) (e sz : Nat) {by_ : Nat} (f : α → List SC) (hone : ∀ x, (f x).all SC.one = true) {l2 l' : List α} (c : Cut) (he : appO by_ ([] : List α) (c.app l2) = some l') (h : C.with1 (appNArgs P) = some (e, sz, by_, l2.map f, c)) (hg : C.okNew n d = true) (kk : TS P K n (C.next ((C.st.setR d (.spare e sz (l'.length))).put (some d) (.c (.slc sz (d + 2) (l'.length) (l'.map f))))) Q) : TS P K n C Q := by
  refine TS_ownT (e := e) (sz := sz) (xs := l'.map f) d (fun os o ho => own_appN f hone he (with1_op h ho)) hg ?_
  rw [List.length_map]
  exact kk
theorem TS_litNT (d : Nat) (e sz : Nat) (f : α → List SC) (ks : List Nat) (l : List α) (h : C.with1 (litRArgs P ks) = some (e, sz, l.map f)) (hg : C.okNew n d = true) (kk : TS P K n (C.next ((C.st.setR d (.spare e sz (l.length))).put (some d) (.c (.slc sz (d + 2) (l.length) (l.map f))))) Q) : TS P K n C Q := by
  refine TS_ownT (e := e) (sz := sz) (xs := l.map f) d (fun os o ho => own_litS (with1_op h ho)) hg ?_
  rw [List.length_map]
  exact kk
theorem TD_litNT (d : Nat) (e sz : Nat) (f : α → List SC) (ks : List Nat) (l : List α) (h : D.with1 (litRArgs P ks) = some (e, sz, l.map f)) (hg : D.okNew n d = true) (kk : TD P K n (D.push ⟨D.need, some d, .c (.slc sz (d + 2) (l.length) (l.map f)), some (d, .spare e sz (l.length)), true⟩) Q) : TD P K n D Q := by
  refine TD_ownT (e := e) (sz := sz) (xs := l.map f) d (fun os o ho => own_litS (with1D_op h ho)) hg ?_
  rw [List.length_map]
  exact kk
end
end
section
section
open Go.RowKit

section
variable {P : Program} {K K2 : Ctx} {n m : Nat} {Q : Exit → St → Prop} {C C' : Cfg} {X ρ : Type}
theorem fin_spec (h : C'.fin = true) : ∃ s, C' = .mk [] .normal s ∨ C' = .mk [] .ret s := by
  unfold Cfg.fin at h
  split at h
  · exact ⟨_, .inl rfl⟩
  · exact ⟨_, .inr rfl⟩
  · cases h
theorem TS_inlRet {rs : List ResultVar} {r : SV} (he : C'.fin = true) (h : (resL P C'.st [] rs).bind resV = some r) (k : TS P K n (C.next (St.put ⟨unghost C'.st.tmps, C'.st.hp⟩ C.dst r)) Q) : TS P K2 m C' (inlQ P K n C rs Q) := by
  obtain ⟨xs, h1, h2⟩ := Option.bind_eq_some_iff.1 h
  obtain ⟨s, rfl | rfl⟩ := fin_spec he
  · exact ⟨xs, r, h1, h2, k⟩
  · exact ⟨xs, r, h1, h2, k⟩
def inlJ (P : Program) (K : Ctx) (n : Nat) (C : Cfg) (rs : List ResultVar) (S : X → St) (j : X → Option ρ) (r : ρ) : Exit → St → Prop
  | .normal, s => ∃ xs rr v, resL P s [] rs = some xs ∧ resV xs = some rr ∧ j v = some r ∧ ∀ a w, R K n a w (St.put ⟨unghost s.tmps, s.hp⟩ C.dst rr) → R K n a w (S v)
  | .ret, s => ∃ xs rr v, resL P s [] rs = some xs ∧ resV xs = some rr ∧ j v = some r ∧ ∀ a w, R K n a w (St.put ⟨unghost s.tmps, s.hp⟩ C.dst rr) → R K n a w (S v)
  | _, _ => False
theorem TS_inlineJ {f : FuncId} {A : List SV} {fn : Func} {c : Code} (m : Nat) (hf : P.funcs[f]? = some fn) (hb : fn.body = some c) (hn : fn.ntmps = m) (f0 : Fit) (tv : X → List (Nat × SV)) (rv : X → List (Nat × Res)) (j : X → Option ρ) (r : ρ) (hc : C.callee [] = some (f, A)) (hg : (C.go1 n && hasBody P f && decide (A.length ≤ m ∧ m ≤ 2000000)) = true)
    (hj : ∀ v, j v = some r → TS P K n (C.next ((baseS f0 C.st).overs (tv v) (rv v))) Q)
    (k : ∀ K', TS P K' m (.mk [.code c] .normal ⟨initT 0 A ++ ghostL C.st.tmps, C.st.hp⟩) (inlJ P K n C fn.results.toList (fun v => (baseS f0 C.st).overs (tv v) (rv v)) j r)) : TS P K n C Q := by
  refine TS_inline m hf hb hn hc hg (fun K' => ?_)
  refine T_mono (k K') (fun e s hq => ?_)
  have hpre : ∀ s0, (C.next s0).pre = true := by
    intro s0
    simp only [Bool.and_eq_true] at hg
    obtain ⟨os, o, ho, _⟩ := go1_spec hg.1.1
    unfold Cfg.op at ho
    split at ho
    · cases ho; rfl
    · cases ho
  have hst : ∀ s0, (C.next s0).st = s0 ∧ ∀ s1, (C.next s0).withS s1 = C.next s1 := by
    intro s0
    simp only [Bool.and_eq_true] at hg
    obtain ⟨os, o, ho, _⟩ := go1_spec hg.1.1
    unfold Cfg.op at ho
    split at ho
    · cases ho; exact ⟨rfl, fun _ => rfl⟩
    · cases ho
  have fin : (∃ xs rr v, resL P s [] fn.results.toList = some xs ∧ resV xs = some rr ∧ j v = some r ∧ ∀ a w, R K n a w (St.put ⟨unghost s.tmps, s.hp⟩ C.dst rr) → R K n a w ((baseS f0 C.st).overs (tv v) (rv v))) → ∃ xs r, resL P s [] fn.results.toList = some xs ∧ resV xs = some r ∧ TS P K n (C.next (St.put ⟨unghost s.tmps, s.hp⟩ C.dst r)) Q := by
    rintro ⟨xs, rr, v, h1, h2, h3, h4⟩
    refine ⟨xs, rr, h1, h2, TS_state ((baseS f0 C.st).overs (tv v) (rv v)) (fun a w hr => h4 a w (by rw [(hst _).1] at hr; exact hr)) (hpre _) ?_⟩
    rw [(hst _).2]
    exact hj v h3
  cases e <;> first | exact fin hq | exact hq
theorem TS_inlMeet {rs : List ResultVar} {S : X → St} {j : X → Option ρ} {r : ρ} {rr : SV} (v : X) (f : Fit) (hj : j v = some r) (he : C'.fin = true) (h : (resL P C'.st [] rs).bind resV = some rr) (hf : fitS f (St.put ⟨unghost C'.st.tmps, C'.st.hp⟩ C.dst rr) = some (S v)) : TS P K2 m C' (inlJ P K n C rs S j r) := by
  obtain ⟨xs, h1, h2⟩ := Option.bind_eq_some_iff.1 h
  obtain ⟨s, rfl | rfl⟩ := fin_spec he
  · exact ⟨xs, rr, v, h1, h2, hj, fun a w hr => hr.fit f hf⟩
  · exact ⟨xs, rr, v, h1, h2, hj, fun a w hr => hr.fit f hf⟩
/-- the start of the body that is called -/
def Cfg.inl (C : Cfg) (c : Code) : Cfg := match C.callee [] with
  | some (_, A) => .mk [.code c] .normal ⟨initT 0 A ++ ghostL C.st.tmps, C.st.hp⟩
  | none => .bad
def Cfg.inlOk (P : Program) (n m f : Nat) (C : Cfg) : Bool := match C.callee [] with
  | some (f', A) => f' == f && (C.go1 n && hasBody P f && decide (A.length ≤ m ∧ m ≤ 2000000))
  | none => false
theorem inlOk_spec {f : Nat} {c : Code} (h : C.inlOk P n m f = true) : ∃ A, C.callee [] = some (f, A) ∧ (C.go1 n && hasBody P f && decide (A.length ≤ m ∧ m ≤ 2000000)) = true ∧ C.inl c = .mk [.code c] .normal ⟨initT 0 A ++ ghostL C.st.tmps, C.st.hp⟩ := by
  unfold Cfg.inlOk at h
  split at h
  · rename_i f' A hc
    rw [Bool.and_eq_true] at h
    have : f' = f := by simpa using h.1
    subst this
    exact ⟨A, hc, h.2, by simp only [Cfg.inl, hc]⟩
  · cases h
theorem TS_inl {f : FuncId} {fn : Func} {c : Code} (m : Nat) (hf : P.funcs[f]? = some fn) (hb : fn.body = some c) (hn : fn.ntmps = m) (hg : C.inlOk P n m f = true) (k : ∀ K', TS P K' m (C.inl c) (inlQ P K n C fn.results.toList Q)) : TS P K n C Q := by
  obtain ⟨A, h1, h2, h3⟩ := inlOk_spec (c := c) hg
  exact TS_inline m hf hb hn h1 h2 (fun K' => h3 ▸ k K')
theorem TS_inlJ {f : FuncId} {fn : Func} {c : Code} (m : Nat) (hf : P.funcs[f]? = some fn) (hb : fn.body = some c) (hn : fn.ntmps = m) (f0 : Fit) (tv : X → List (Nat × SV)) (rv : X → List (Nat × Res)) (j : X → Option ρ) (r : ρ) (hg : C.inlOk P n m f = true)
    (hj : ∀ v, j v = some r → TS P K n (C.next ((baseS f0 C.st).overs (tv v) (rv v))) Q)
    (k : ∀ K', TS P K' m (C.inl c) (inlJ P K n C fn.results.toList (fun v => (baseS f0 C.st).overs (tv v) (rv v)) j r)) : TS P K n C Q := by
  obtain ⟨A, h1, h2, h3⟩ := inlOk_spec (c := c) hg
  exact TS_inlineJ m hf hb hn f0 tv rv j r h1 h2 hj (fun K' => h3 ▸ k K')
def Cfg.back (P : Program) (C' : Cfg) (rs : List ResultVar) (dst : Option Tmp) : St := St.put ⟨unghost C'.st.tmps, C'.st.hp⟩ dst (((resL P C'.st [] rs).bind resV).getD (.tup []))
theorem TS_inlR {rs : List ResultVar} (he : C'.fin = true) (h : ((resL P C'.st [] rs).bind resV).isSome = true) (k : TS P K n (C.next (C'.back P rs C.dst)) Q) : TS P K2 m C' (inlQ P K n C rs Q) := by
  obtain ⟨r, hr⟩ := Option.isSome_iff_exists.1 h
  refine TS_inlRet he hr ?_
  simp only [Cfg.back, hr, Option.getD_some] at k
  exact k
theorem TS_inlM {rs : List ResultVar} {S : X → St} {j : X → Option ρ} {r : ρ} (v : X) (f : Fit) (hj : j v = some r) (he : C'.fin = true) (h : ((resL P C'.st [] rs).bind resV).isSome = true) (hf : fitS f (C'.back P rs C.dst) = some (S v)) : TS P K2 m C' (inlJ P K n C rs S j r) := by
  obtain ⟨rr, hr⟩ := Option.isSome_iff_exists.1 h
  refine TS_inlMeet v f hj he hr ?_
  simp only [Cfg.back, hr, Option.getD_some] at hf
  exact hf
end
end
section
open Go.RowKit

section
variable {P : Program} {o : Oper} {s : St}
variable {K : Ctx} {n : Nat} {Q : Exit → St → Prop} {C : Cfg}
variable {D : Dr}
end
end
section
open Go.RowKit

section
variable {P : Program} {o : Oper} {s : St} {α : Type}
variable {K : Ctx} {n : Nat} {Q : Exit → St → Prop} {C : Cfg} {D : Dr}
end
end
section
open Go.RowKit

def castS (kss : List (List Nat)) : SV → SV
  | .tup vs => .tup ((List.range vs.length).map fun i => castF (kss.getD i []) (vs.getD i (false, [])))
  | x => castV (kss.getD 0 []) x
theorem castS_rel {rd : Rd} {g : Env} {v : Value} {x : SV} (kss : List (List Nat)) (h : VRel rd g v x) : VRel rd g v (castS kss x) := by
  cases x with
  | c x => exact castV_rel _ h
  | agg cs => exact castV_rel _ h
  | tup xs =>
    obtain ⟨vs, h1, h2, h3⟩ := h
    refine ⟨vs, h1, by simpa using h2, fun j x hx => ?_⟩
    have hj : j < xs.length := by have := (List.getElem?_eq_some_iff.1 hx).1; simpa using this
    rw [List.getElem?_map, List.getElem?_range hj] at hx
    cases hx
    obtain ⟨u, h4, h5⟩ := h3 j xs[j] (List.getElem?_eq_getElem hj)
    refine ⟨u, h4, castF_rel _ ?_⟩
    simpa [List.getD_eq_getElem?_getD, List.getElem?_eq_getElem hj] using h5
theorem con_drop {P : Program} {f : FuncId} {A : List SV} {h h' h2 : Hp} {r r2 : SV} (kss : List (List Nat)) (spec : List (Nat × List Nat)) (hp : Con P f A h r h') (hr : castS kss r = r2) (hh : pickH h' spec = some h2) (hd : (h2.all fun p => p.2.isBox) = true) : Con P f A h r2 h2 := by
  intro rd g w us a1 a2 a3 a4 a5 a6
  refine (hp rd g w us a1 a2 a3 a4 a5 a6).mono ?_
  rintro e w' ⟨u, g', rfl, hk, hpos, hin, hdis, hnew, hres⟩
  subst hr
  have hl : ∀ d x, look h2 d = some x → ∃ x0 ks, look h' d = some x0 ∧ x = castR ks x0 := pickH_look spec hh
  have hft : ∀ b o, InFoot g' h2 b o → InFoot g' h' b o := by
    rintro b o ⟨d, x, q1, q2⟩
    obtain ⟨x0, ks, q3, rfl⟩ := hl d x q1
    rw [castR_foot] at q2
    exact ⟨d, x0, q3, q2⟩
  refine ⟨u, g', rfl, hk, ?_, fun b o q => hin b o (hft b o q), ?_, ?_, ?_⟩
  · intro d cs hd6 hx
    obtain ⟨x0, ks, q3, q4⟩ := hl d _ hx
    cases x0 with
    | box c => exact hpos d c hd6 q3
    | row => cases q4
    | spare => cases q4
  · intro d d' r1 r2 b o hne q1 q2 q3 q4
    obtain ⟨x0, ks, q5, rfl⟩ := hl d _ q1
    obtain ⟨x1, ks1, q6, rfl⟩ := hl d' _ q2
    rw [castR_foot] at q3 q4
    exact hdis d d' x0 x1 b o hne q5 q6 q3 q4
  · intro d x q1 q2
    have := List.all_eq_true.1 hd _ (look_mem q1)
    rw [this] at q2
    cases q2
  · intro rd' hle hs
    obtain ⟨k1, k2⟩ := hres rd' hle (fun b o u q1 q2 q3 => hs b o u q1 (fun q => q2 (hft b o q)) q3)
    refine ⟨castS_rel kss k1, fun d x hx => ?_⟩
    obtain ⟨x0, ks, q5, rfl⟩ := hl d _ hx
    exact castR_holds ks (k2 d x0 q5)
section
variable {P : Program} {K : Ctx} {n : Nat} {Q : Exit → St → Prop} {C : Cfg} {g : Env} {a : Act} {w : World} {s : St}
end
section
variable {P : Program} {K : Ctx} {n : Nat} {Q : Exit → St → Prop} {C : Cfg} {D : Dr} {o : Oper} {s : St}
end
end
section
open Go.RowKit

def codeAt : List Nat → Code → Code
  | [], c => c
  | 0 :: p, .seq a _ => codeAt p a
  | _ :: p, .seq _ b => codeAt p b
  | 0 :: p, .cond _ a _ => codeAt p a
  | _ :: p, .cond _ _ b => codeAt p b
  | _ :: p, .block _ a => codeAt p a
  | _ :: p, .loop a => codeAt p a
  | _ :: p, .scope a => codeAt p a
  | _, c => c
def bodyOf (f : Func) : Code := match f.body with
  | some c => c
  | none => .skip
def opsOf : Code → Array Oper
  | .region _ ops _ => ops
  | _ => #[]
def opsFr (c : Code) (i : Nat) : Fr := .ops (opsOf c) ((opsOf c).toList.drop i)
section
variable {P : Program} {K : Ctx} {n : Nat} {Q : Exit → St → Prop} {C : Cfg}
theorem TS_cut (f : Fit) (C' : Cfg) (he : C.pre = true) (h : C.fit f = C') (k : TS P K n C' Q) : TS P K n C Q := TS_fitU f he (h ▸ k)
end
end
section
open Go.RowKit

section
variable {P : Program} {K : Ctx} {n : Nat} {Q : Exit → St → Prop} {C : Cfg} {D : Dr}
end
section
variable {P : Program} {K : Ctx} {n : Nat} {Q : Exit → St → Prop} {C : Cfg} {g : Env} {a : Act} {w : World} {s : St}
end
end
section
open Go.RowKit

section
variable {P : Program} {K : Ctx} {n : Nat} {Q : Exit → St → Prop} {C : Cfg} {D : Dr} {ops : Array Oper} {o : Oper} {need : St}
end

section
variable {P : Program} {K : Ctx} {n : Nat} {Q : Exit → St → Prop} {C : Cfg}
end
end
section
open Go.RowKit

section
variable {P : Program} {o : Oper} {s : St} {α : Type}
end
section
variable {P : Program} {K : Ctx} {n : Nat} {Q : Exit → St → Prop} {C : Cfg} {D : Dr} {α : Type} {ops : Array Oper} {o : Oper} {need : St}
end
end
section
open Go.RowKit

section
variable {P : Program} {K : Ctx} {n : Nat} {Q : Exit → St → Prop} {C C0 : Cfg} {D : Dr}
theorem vd_conX {ops : Array Oper} {o : Oper} {need : St} {f : FuncId} {vs A : List SV} {d e : Nat} {r : SV} {res : Res} (kss : List (List Nat)) (hgd : guardOf ops o need = some true) (hdst : o.dst = some d) (hdn : d < n) (hd6 : d < 1000000) (he6 : e < 1000000) (hc : calleeOf need o = some (f, vs)) (hb : hasBody P f = true) (hargs : castArgs kss vs = A) (hcl : A.all (fun v => v.every SC.closed) = true) (hres : res.isBox = false) (hr : r.every (SC.say (okN [(d, e)])) = true) (hp : Con P f A [] r [(e, res)]) :
    VD P n ops o ⟨need, some d, r.map (SC.ren (backL [(d, e)])), some (d, res), true⟩ := by
  intro K s hs hn
  have hnm : NM d s := hn rfl
  obtain ⟨m1, m2, m3⟩ := hnm
  have hback : backL [(d, e)] e = d := by simp [backL]
  have hnone : ∀ x, (look [(d, e)] x).isNone = (x != d) := by
    intro x
    rw [look_cons]
    by_cases hx : d = x
    · subst hx; simp
    · rw [if_neg hx]
      simp [look]
      exact fun h => hx h.symm
  have hfun : (fun x => (look [(d, e)] x).isNone) = fun x => x != d := funext hnone
  have hev : ∀ p, res.every p = true := by
    intro p
    cases res with
    | box cs => cases hres
    | row _ _ _ _ => rfl
    | spare _ _ _ => rfl
  have := S_conL (P := P) (K := K) (n := n) (ops := ops) (o := o) (s := s) (h := []) (h' := [(e, res)]) (r := r) kss [(d, e)] none (hs.guard hgd) (by simp [dstOk, hdst, hdn]) (hs.callee hc) hb hargs hcl rfl
    (by
      intro p hpm
      rw [List.mem_singleton.1 hpm]
      exact ⟨⟨⟨⟨⟨by simp [look_cons], by simpa using hd6⟩, by simpa using hback⟩, by simp [look_cons]⟩, by simp [m1]⟩, by simpa using he6⟩)
    (by
      intro t v hv
      rw [hdst, hfun]
      by_cases ht : t = d
      · subst ht; simp
      · rw [m2 t v hv (by intro h; cases h; exact ht rfl), Bool.or_true])
    (by
      intro d' r hr
      rw [hfun]
      exact m3 d' r hr)
    hr
    (by
      intro q hq
      rw [List.mem_singleton.1 hq]
      simp [hev])
    hp
  refine this.sim ?_
  have hmap : ∀ m, res.map m = res := by
    intro m
    cases res with
    | box cs => cases hres
    | row _ _ _ _ => rfl
    | spare _ _ _ => rfl
  have e1 : s.after [(e, res)] r [(d, e)] none o.dst = St.put { s with hp := (d, res) :: s.hp } (some d) (r.map (SC.ren (backL [(d, e)]))) := by
    rw [hdst]
    simp [St.after, newsHp, hpAfter, look_cons, hmap]
  rw [e1]
  refine ⟨fun k => rfl, fun k => ?_⟩
  simp only [DD.app, put_hp, St.setR]
  rw [look_cons, look_setL]
theorem TD_conX {f : FuncId} {A : List SV} {d e : Nat} {r : SV} {res : Res} (kss : List (List Nat)) (hp : Con P f A [] r [(e, res)]) (hc : D.callee kss = some (f, A)) (hg : (D.okNew n d && hasBody P f && decide (e < 1000000) && A.all (fun v => v.every SC.closed) && !res.isBox && r.every (SC.say (okN [(d, e)]))) = true)
    (k : TD P K n (D.push ⟨D.need, some d, r.map (SC.ren (backL [(d, e)])), some (d, res), true⟩) Q) : TD P K n D Q := by
  simp only [Bool.and_eq_true, decide_eq_true_eq, Bool.not_eq_true'] at hg
  obtain ⟨⟨⟨⟨⟨g1, g2⟩, g3⟩, g4⟩, g5⟩, g6⟩ := hg
  obtain ⟨os, o, ho, h1, h2, h3, h4⟩ := okNewD_spec g1
  obtain ⟨vs, h5, h6⟩ := calleeD_op hc ho
  exact push_ok ho (vd_conX kss h1 h2 h3 h4 g3 h5 g2 h6 g4 g5 g6 hp) rfl k
end
end
end
section
section
open Go.RowKit

section
variable {K : Ctx} {g : Env} {w w' : World} {n : Nat} {a : Act} {s : St} {α : Type}
theorem RG.appended (r : RG K g n a w s) {e sz d : Nat} (f : α → List SC) {l1 l2 : List α} {V V' : Value} {us vals : List Value} (hl : look s.hp d = some (.spare e sz l1.length)) (hux : V = (g.tk d).2) (rx : IRel (rdOf K g s.hp w) V (.slc sz 0 l1.length (l1.map f))) (hs0 : 0 < sz)
    (hown : w.ownsRowM e sz (g.tk d).2 l1.length us) (hrow : RowIs (rdOf K g s.hp w) sz vals (l2.map f)) (hpos : 0 < l2.length)
    (q2 : w'.ownsRowM e sz V' (l1.length + l2.length) (us ++ vals)) (q3 : Keep w (fun b o => (g.tk d).2.ownBlock = some b ∧ l1.length * sz ≤ o) w') (q4 : ∀ k, V'.ownBlock = some k → (g.tk d).2.ownBlock = some k ∨ w.heap.size ≤ k) :
    ∃ g', RG K g' n a w' (s.setR d (.spare e sz (l1 ++ l2).length)) ∧ VRel (rdOf K g' (s.setR d (.spare e sz (l1 ++ l2).length)).hp w') g' V' (.c (.slc sz (d + 2) (l1 ++ l2).length ((l1 ++ l2).map f))) := by
  obtain ⟨aV, cV, hV, hVc, hVm, hvl, hblk⟩ := tk_sliceM hown
  rw [hux] at rx
  obtain ⟨aV', cV', hV', hVc', hVm', hvl', hblk'⟩ := tk_sliceM q2
  let g' : Env := { pos := g.pos, tk := fun e => if e = d then ((g.tk d).1, V') else g.tk e }
  have hgd' : g'.tk d = ((g.tk d).1, V') := by simp [g']
  have hgr : Grew g g' d := ⟨fun _ => rfl, fun e => by by_cases q : e = d <;> simp [g', q], fun e q => by simp [g', q], .inr (by rw [hgd', hvl, hvl']; omega)⟩
  have hlen : (l1 ++ l2).length = l1.length + l2.length := List.length_append
  obtain ⟨r1, hle⟩ := r.grow (g' := g') (w' := w') (r := .spare e sz (l1 ++ l2).length) hl hgr q3 (fun b o' hf => by
      simp only [Foot, hgd'] at hf
      rcases q4 b hf.1 with h5 | h5
      · refine .inl ⟨h5, Nat.le_trans (Nat.mul_le_mul_right _ ?_) hf.2⟩
        omega
      · exact .inr h5) (fun _ q => by cases q) rfl (fun _ => ⟨us ++ vals, by rw [hgd', hlen]; exact q2⟩)
  refine ⟨g', r1, ⟨?_, ?_⟩⟩
  · -- the elements
    have hrx : RowIs (rdOf K g s.hp w) sz us (l1.map f) := by
      rcases hblk with h0 | ⟨bb, hbb, hbk⟩
      · have : l1 = [] := List.eq_nil_of_length_eq_zero h0
        subst this
        have : us = [] := List.eq_nil_of_length_eq_zero (by simpa using hown.1)
        subst this
        exact ⟨by simp, by simp⟩
      · obtain ⟨_, _, valsx, hs | ⟨ad', c', h3, hnil', _⟩⟩ := src_row (rdOf_le g s.hp r.hg.keep) rx
        · obtain ⟨h3, _, _, hrow', hlv', hw'⟩ := hs
          rw [List.length_map] at hlv' hw' h3
          rcases hw' with h0 | ⟨ad', hh, hcells'⟩
          · have : l1 = [] := List.eq_nil_of_length_eq_zero h0
            subst this
            have : us = [] := List.eq_nil_of_length_eq_zero (by simpa using hown.1)
            subst this
            exact ⟨by simp, by simp⟩
          · rw [hV, hbb] at h3
            cases h3
            cases hh
            have : us = valsx := by
              apply List.ext_getElem?
              intro j
              rcases Nat.lt_or_ge j (l1.length * sz) with hj | hj
              · have hju : j < us.length := by rw [hown.1]; exact hj
                have hjv : j < valsx.length := by omega
                have q1 := hown.cells hbk j (us[j]'hju) (List.getElem?_eq_getElem hju)
                have q2 := hcells' j (valsx[j]'hjv) (List.getElem?_eq_getElem hjv)
                rw [q1] at q2
                rw [List.getElem?_eq_getElem hju, List.getElem?_eq_getElem hjv]
                exact q2
              · rw [List.getElem?_eq_none (by rw [hown.1]; exact hj), List.getElem?_eq_none (by omega)]
            rw [this]
            exact hrow'
        · have : l1 = [] := by simpa using hnil'
          subst this
          have : us = [] := List.eq_nil_of_length_eq_zero (by simpa using hown.1)
          subst this
          exact ⟨by simp, by simp⟩
    have hr2 : RowIs (rdOf K g s.hp w) sz (us ++ vals) ((l1 ++ l2).map f) := by
      rw [List.map_append]
      exact hrx.append hrow (by rw [List.length_map]; exact hown.1)
    rcases hblk' with h0 | ⟨bb, hbb, hbk⟩
    · omega
    rw [hV', hbb, ← hlen]
    refine row_is (b := bb) (vals := us ++ vals) (hr2.mono hle) (by simp) (by rw [hlen]; exact hVc') hVm' (fun k v hv hk => ?_)
    -- each cell is read
    have hcell := q2.cells hbk k v hv
    rw [addr_add, Nat.zero_add] at hcell
    rcases q4 bb hbk with h5 | h5
    · -- in place
      rcases Nat.lt_or_ge k (l1.length * sz) with hk1 | hk1
      · rcases hblk with h0 | ⟨b2, hb2, hbk2⟩
        · rw [h0] at hk1; omega
        · rw [h5] at hbk2
          cases hbk2
          rw [hV, hb2] at rx
          have hv2 : us[k]? = some v := by rwa [List.getElem?_append_left (by rw [hown.1]; exact hk1)] at hv
          refine hle _ _ _ ?_
          generalize hsc : SC.slc sz 0 l1.length (l1.map f) = yy at rx
          generalize hvv : Value.slice (some ⟨bb, 0, none⟩) l1.length cV = vv at rx
          cases rx with
          | lit v => cases hsc
          | nil s' a c hm => injection hsc with _ _ h9 _; rw [h9] at hk1; omega
          | ref b o cs f hr hu => cases hsc
          | slc b o n c s' xs' ff hn hc hm hs hr hu =>
            cases hsc
            cases hvv
            have hs0' : 0 < sz := hs0
            have hi2 : k / sz < (l1.map f).length := by rw [List.length_map]; exact Nat.div_lt_of_lt_mul (by rw [Nat.mul_comm]; exact hk1)
            have hx2 := List.getElem?_eq_getElem hi2
            have hlx := hs _ (List.getElem_mem hi2)
            have hj2 : k % sz < ((l1.map f)[k / sz]).length := by rw [hlx]; exact Nat.mod_lt _ hs0'
            have h6 := hr _ _ _ _ hx2 (List.getElem?_eq_getElem hj2)
            rw [Nat.zero_add, show k / sz * sz + k % sz = k by have := Nat.div_add_mod k sz; rw [Nat.mul_comm] at this; omega] at h6
            have h7 := rdOf_le g s.hp r.hg.keep _ _ _ h6
            have h8 := hown.cells h5 k v hv2
            rw [addr_add, Nat.zero_add, h7] at h8
            rw [h6]; exact h8
      · unfold rdOf
        have hnew : ¬ InFoot g' (s.setR d (.spare e sz (l1 ++ l2).length)).hp bb k := by
          rintro ⟨d2, x2, k1, k2⟩
          simp only [St.setR, look_setL] at k1
          split at k1
          · rename_i hdd
            cases k1
            simp only [Foot, ← hdd, hgd'] at k2
            have := (List.getElem?_eq_some_iff.1 hv).1
            rw [q2.1] at this
            omega
          · rename_i hdd
            rw [foot_env ⟨hgr.pos d2, hgr.tk d2 (Ne.symm hdd)⟩] at k2
            exact r.hg.dis d2 d x2 _ bb k (Ne.symm hdd) k1 hl k2 ⟨h5, hk1⟩
        rw [if_neg hnew, if_neg]
        · exact hcell
        · exact fun q => (r.hg.new d _ hl rfl bb k ⟨h5, hk1⟩).elim (fun q2 => Nat.not_lt.2 q2 q.1) q.2
    · unfold rdOf
      have hnew : ¬ InFoot g' (s.setR d (.spare e sz (l1 ++ l2).length)).hp bb k := by
        rintro ⟨d2, x2, k1, k2⟩
        simp only [St.setR, look_setL] at k1
        split at k1
        · rename_i hdd
          cases k1
          simp only [Foot, ← hdd, hgd'] at k2
          have := (List.getElem?_eq_some_iff.1 hv).1
          rw [q2.1] at this
          omega
        · rename_i hdd
          rw [foot_env ⟨hgr.pos d2, hgr.tk d2 (Ne.symm hdd)⟩] at k2
          have := (r.hg.holds d2 x2 k1).lt k2
          omega
      rw [if_neg hnew, if_neg (by have := r.hg.keep.size; omega)]
      exact hcell
  · show _ ≤ vlen (g'.tk d).2 ∧ (_ = vlen (g'.tk d).2 → V' = (g'.tk d).2)
    rw [hgd']
    exact ⟨by rw [hvl', hlen]; exact Nat.le_refl _, fun _ => rfl⟩
end

section
variable {P : Program} {K : Ctx} {n : Nat} {ops : Array Oper} {o : Oper} {s need : St} {α : Type} {C : Cfg} {D : Dr} {Q : Exit → St → Prop}
end
end
section
open Go.RowKit

section
variable {P : Program} {o : Oper} {s : St} {α : Type}
end

section
variable {P : Program} {K : Ctx} {n : Nat} {Q : Exit → St → Prop} {C : Cfg} {D : Dr}
end
end
section
open Go.RowKit

section
variable {P : Program} {K : Ctx} {n : Nat} {Q : Exit → St → Prop} {C : Cfg} {D : Dr} {g : Env} {a : Act} {w : World} {s : St} {o : Oper} {α : Type}
end
end
section
open Go.RowKit

section
variable {P : Program} {K : Ctx} {n : Nat} {Q : Exit → St → Prop} {C : Cfg} {D : Dr} {s : St} {o : Oper} {α : Type}
end
end
section
open Go.RowKit

end
section
open Go.RowKit

section
variable {P : Program} {K : Ctx} {n : Nat} {Q : Exit → St → Prop} {C : Cfg} {D : Dr} {s : St} {o : Oper} {α : Type}
end
end
end
section
open Go.RowKit
attribute [local irreducible] TS go TD goD

structure S_Addr where
  Mode : Int
  Short : Int
  EUI : Int
def S_Addr.cs (x : S_Addr) : List SC := [.lit (.int .i64 (x.Mode))] ++ [.lit (.int .u16 (x.Short))] ++ [.lit (.int .u64 (x.EUI))]
def S_Addr.eqb (x y : S_Addr) : Bool := (x.Mode == y.Mode) && ((x.Short == y.Short) && ((x.EUI == y.EUI) && true))

structure S_Frame where
  Kind : Int
  AckRequest : Bool
  Pending : Bool
  Secure : Bool
  Seq : Int
  Pan : Int
  Dst : S_Addr
  Src : S_Addr
  Counter : Int
  Key : Int
  Payload : List Int
  MIC : List Int
def S_Frame.cs (x : S_Frame) : List SC := [.lit (.int .i64 (x.Kind))] ++ [.lit (.bool (x.AckRequest))] ++ [.lit (.bool (x.Pending))] ++ [.lit (.bool (x.Secure))] ++ [.lit (.int .u8 (x.Seq))] ++ [.lit (.int .u16 (x.Pan))] ++ S_Addr.cs x.Dst ++ S_Addr.cs x.Src ++ [.lit (.int .u32 (x.Counter))] ++ [.lit (.int .u8 (x.Key))] ++ [eS 1 (ecI .u8) (x.Payload)] ++ [eS 1 (ecI .u8) (x.MIC)]

structure S_Backoff where
  State : Int
  Busy : Int
  Exponent : Int
  Clear : Int
  Wait : Int
def S_Backoff.cs (x : S_Backoff) : List SC := [.lit (.int .i64 (x.State))] ++ [.lit (.int .i64 (x.Busy))] ++ [.lit (.int .i64 (x.Exponent))] ++ [.lit (.int .i64 (x.Clear))] ++ [.lit (.int .i64 (x.Wait))]
def S_Backoff.eqb (x y : S_Backoff) : Bool := (x.State == y.State) && ((x.Busy == y.Busy) && ((x.Exponent == y.Exponent) && ((x.Clear == y.Clear) && ((x.Wait == y.Wait) && true))))

structure S_Link where
  Queue : List S_Frame
  Phase : Int
  Attempts : Int
  Backoff : S_Backoff
  Left : Int
def S_Link.cs (x : S_Link) : List SC := [eS 16 S_Frame.cs (x.Queue)] ++ [.lit (.int .i64 (x.Phase))] ++ [.lit (.int .i64 (x.Attempts))] ++ S_Backoff.cs x.Backoff ++ [.lit (.int .i64 (x.Left))]

structure S_Slot where
  Busy : Bool
  Ack : Bool
  Seq : Int
  Draw : Int
def S_Slot.cs (x : S_Slot) : List SC := [.lit (.bool (x.Busy))] ++ [.lit (.bool (x.Ack))] ++ [.lit (.int .u8 (x.Seq))] ++ [.lit (.int .u32 (x.Draw))]

structure S_multihopmade_Tape where
  l : List Int
  at_ : Int
def S_multihopmade_Tape.cs (x : S_multihopmade_Tape) : List SC := [eS 1 (ecI .i64) (x.l)] ++ [.lit (.int .i64 (x.at_))]

structure S_Outcome where
  Frame : S_Frame
  Sent : Bool
  Attempts : Int
def S_Outcome.cs (x : S_Outcome) : List SC := S_Frame.cs x.Frame ++ [.lit (.bool (x.Sent))] ++ [.lit (.int .i64 (x.Attempts))]

structure S_transmit_machine where
  Link : S_Link
  draw : Int
  outcomes : List S_Outcome
def S_transmit_machine.cs (x : S_transmit_machine) : List SC := S_Link.cs x.Link ++ [.lit (.int .u32 (x.draw))] ++ [eS 18 S_Outcome.cs (x.outcomes)]
end
section
open Go.RowKit
attribute [local irreducible] TS go TD goD

/-- multihop/frame.validAck -/
noncomputable def F_frame_validAck (a0 : S_Frame) : Option (Bool) :=
  bif a0.AckRequest then
    some (false)
  else
    bif a0.Secure then
      some (false)
    else
      bif (a0.Pan == 0) then
        bif (a0.Counter == 0) then
          bif (a0.Key == 0) then
            bif (S_Addr.eqb a0.Dst (S_Addr.mk 0 0 0)) then
              bif (S_Addr.eqb a0.Src (S_Addr.mk 0 0 0)) then
                bif ((List.length a0.Payload : Int) == 0) then
                  some (((List.length a0.MIC : Int) == 0))
                else
                  some (false)
              else
                some (false)
            else
              some (false)
          else
            some (false)
        else
          some (false)
      else
        some (false)
set_option maxRecDepth 100000 in
set_option maxHeartbeats 40000000 in
theorem ok_frame_validAck (a0 : S_Frame) (r : Bool) (h : F_frame_validAck a0 = some r) : Con Try.prog 69 [.agg (S_Frame.cs a0)] [] (.c (.lit (.bool (r)))) [] := by
  unfold F_frame_validAck at h
  refine con_of [] [] 52 Try.func69 rfl rfl (by kernel_rfl) (fun K => ?_)
  refine TS_go 17 ?_
  replace h := condO h
  rcases h with ⟨hb1, h⟩ | ⟨hb1, h⟩
  · refine TS_know 6 (b := true) hb1 (by kernel_rfl) (by kernel_rfl) ?_
    refine TS_know 7 (b := false) (notF hb1) (by kernel_rfl) (by kernel_rfl) ?_
    refine TS_know 8 (b := false) (notF hb1) (by kernel_rfl) (by kernel_rfl) ?_
    refine TS_go 46 ?_
    have ret := Option.some.inj h
    subst ret
    exact TS_ret (by kernel_rfl) (by kernel_rfl) (by kernel_rfl)
  · refine TS_know 6 (b := false) hb1 (by kernel_rfl) (by kernel_rfl) ?_
    refine TS_know 7 (b := true) (notT hb1) (by kernel_rfl) (by kernel_rfl) ?_
    refine TS_know 8 (b := true) (notT hb1) (by kernel_rfl) (by kernel_rfl) ?_
    refine TS_go 5 ?_
    replace h := condO h
    rcases h with ⟨hb2, h⟩ | ⟨hb2, h⟩
    · refine TS_know 10 (b := true) hb2 (by kernel_rfl) (by kernel_rfl) ?_
      refine TS_know 11 (b := false) (notF hb2) (by kernel_rfl) (by kernel_rfl) ?_
      refine TS_know 12 (b := false) (notF hb2) (by kernel_rfl) (by kernel_rfl) ?_
      refine TS_know 13 (b := false) (notF hb2) (by kernel_rfl) (by kernel_rfl) ?_
      refine TS_go 41 ?_
      have ret := Option.some.inj h
      subst ret
      exact TS_ret (by kernel_rfl) (by kernel_rfl) (by kernel_rfl)
    · refine TS_know 10 (b := false) hb2 (by kernel_rfl) (by kernel_rfl) ?_
      refine TS_know 11 (b := true) (notT hb2) (by kernel_rfl) (by kernel_rfl) ?_
      refine TS_know 12 (b := true) (notT hb2) (by kernel_rfl) (by kernel_rfl) ?_
      refine TS_know 13 (b := true) (notT hb2) (by kernel_rfl) (by kernel_rfl) ?_
      refine TS_go 5 ?_
      replace h := condO h
      rcases h with ⟨hb3, h⟩ | ⟨hb3, h⟩
      · refine TS_know 16 (b := true) hb3 (by kernel_rfl) (by kernel_rfl) ?_
        refine TS_know 17 (b := true) hb3 (by kernel_rfl) (by kernel_rfl) ?_
        refine TS_know 18 (b := true) hb3 (by kernel_rfl) (by kernel_rfl) ?_
        refine TS_go 5 ?_
        replace h := condO h
        rcases h with ⟨hb4, h⟩ | ⟨hb4, h⟩
        · refine TS_know 21 (b := true) hb4 (by kernel_rfl) (by kernel_rfl) ?_
          refine TS_know 22 (b := true) hb4 (by kernel_rfl) (by kernel_rfl) ?_
          refine TS_know 23 (b := true) hb4 (by kernel_rfl) (by kernel_rfl) ?_
          refine TS_go 5 ?_
          replace h := condO h
          rcases h with ⟨hb5, h⟩ | ⟨hb5, h⟩
          · refine TS_know 26 (b := true) hb5 (by kernel_rfl) (by kernel_rfl) ?_
            refine TS_know 27 (b := true) hb5 (by kernel_rfl) (by kernel_rfl) ?_
            refine TS_know 28 (b := true) hb5 (by kernel_rfl) (by kernel_rfl) ?_
            refine TS_go 6 ?_
            replace h := condO h
            rcases h with ⟨hb6, h⟩ | ⟨hb6, h⟩
            · refine TS_know 32 (b := true) hb6 (by kernel_rfl) (by kernel_rfl) ?_
              refine TS_know 33 (b := true) hb6 (by kernel_rfl) (by kernel_rfl) ?_
              refine TS_know 34 (b := true) hb6 (by kernel_rfl) (by kernel_rfl) ?_
              refine TS_go 6 ?_
              replace h := condO h
              rcases h with ⟨hb7, h⟩ | ⟨hb7, h⟩
              · refine TS_know 38 (b := true) hb7 (by kernel_rfl) (by kernel_rfl) ?_
                refine TS_know 39 (b := true) hb7 (by kernel_rfl) (by kernel_rfl) ?_
                refine TS_know 40 (b := true) hb7 (by kernel_rfl) (by kernel_rfl) ?_
                refine TS_go 6 ?_
                replace h := condO h
                rcases h with ⟨hb8, h⟩ | ⟨hb8, h⟩
                · refine TS_know 44 (b := true) hb8 (by kernel_rfl) (by kernel_rfl) ?_
                  refine TS_know 45 (b := true) hb8 (by kernel_rfl) (by kernel_rfl) ?_
                  refine TS_know 46 (b := true) hb8 (by kernel_rfl) (by kernel_rfl) ?_
                  refine TS_go 8 ?_
                  have ret := Option.some.inj h
                  subst ret
                  exact TS_ret (by kernel_rfl) (by kernel_rfl) (by kernel_rfl)
                · refine TS_know 44 (b := false) hb8 (by kernel_rfl) (by kernel_rfl) ?_
                  refine TS_know 45 (b := false) hb8 (by kernel_rfl) (by kernel_rfl) ?_
                  refine TS_know 46 (b := false) hb8 (by kernel_rfl) (by kernel_rfl) ?_
                  refine TS_go 8 ?_
                  have ret := Option.some.inj h
                  subst ret
                  exact TS_ret (by kernel_rfl) (by kernel_rfl) (by kernel_rfl)
              · refine TS_know 38 (b := false) hb7 (by kernel_rfl) (by kernel_rfl) ?_
                refine TS_know 39 (b := false) hb7 (by kernel_rfl) (by kernel_rfl) ?_
                refine TS_know 40 (b := false) hb7 (by kernel_rfl) (by kernel_rfl) ?_
                refine TS_go 14 ?_
                have ret := Option.some.inj h
                subst ret
                exact TS_ret (by kernel_rfl) (by kernel_rfl) (by kernel_rfl)
            · refine TS_know 32 (b := false) hb6 (by kernel_rfl) (by kernel_rfl) ?_
              refine TS_know 33 (b := false) hb6 (by kernel_rfl) (by kernel_rfl) ?_
              refine TS_know 34 (b := false) hb6 (by kernel_rfl) (by kernel_rfl) ?_
              refine TS_go 20 ?_
              have ret := Option.some.inj h
              subst ret
              exact TS_ret (by kernel_rfl) (by kernel_rfl) (by kernel_rfl)
          · refine TS_know 26 (b := false) hb5 (by kernel_rfl) (by kernel_rfl) ?_
            refine TS_know 27 (b := false) hb5 (by kernel_rfl) (by kernel_rfl) ?_
            refine TS_know 28 (b := false) hb5 (by kernel_rfl) (by kernel_rfl) ?_
            refine TS_go 26 ?_
            have ret := Option.some.inj h
            subst ret
            exact TS_ret (by kernel_rfl) (by kernel_rfl) (by kernel_rfl)
        · refine TS_know 21 (b := false) hb4 (by kernel_rfl) (by kernel_rfl) ?_
          refine TS_know 22 (b := false) hb4 (by kernel_rfl) (by kernel_rfl) ?_
          refine TS_know 23 (b := false) hb4 (by kernel_rfl) (by kernel_rfl) ?_
          refine TS_go 31 ?_
          have ret := Option.some.inj h
          subst ret
          exact TS_ret (by kernel_rfl) (by kernel_rfl) (by kernel_rfl)
      · refine TS_know 16 (b := false) hb3 (by kernel_rfl) (by kernel_rfl) ?_
        refine TS_know 17 (b := false) hb3 (by kernel_rfl) (by kernel_rfl) ?_
        refine TS_know 18 (b := false) hb3 (by kernel_rfl) (by kernel_rfl) ?_
        refine TS_go 36 ?_
        have ret := Option.some.inj h
        subst ret
        exact TS_ret (by kernel_rfl) (by kernel_rfl) (by kernel_rfl)

/-- multihop/address.Valid -/
noncomputable def F_address_Valid (a0 : S_Addr) : Option (Bool) :=
  bif (a0.Mode == 0) then
    some ((S_Addr.eqb a0 (S_Addr.mk 0 0 0)))
  else
    bif (a0.Mode == 2) then
      some ((a0.EUI == 0))
    else
      bif (a0.Mode == 3) then
        some ((a0.Short == 0))
      else
        some (false)
set_option maxRecDepth 100000 in
set_option maxHeartbeats 40000000 in
theorem ok_address_Valid (a0 : S_Addr) (r : Bool) (h : F_address_Valid a0 = some r) : Con Try.prog 77 [.agg (S_Addr.cs a0)] [] (.c (.lit (.bool (r)))) [] := by
  unfold F_address_Valid at h
  refine con_of [] [] 20 Try.func77 rfl rfl (by kernel_rfl) (fun K => ?_)
  refine TS_go 17 ?_
  replace h := condO h
  rcases h with ⟨hb1, h⟩ | ⟨hb1, h⟩
  · refine TS_know 6 (b := true) hb1 (by kernel_rfl) (by kernel_rfl) ?_
    refine TS_know 5 (b := true) hb1 (by kernel_rfl) (by kernel_rfl) ?_
    refine TS_T (by kernel_rfl) rfl ?_
    refine TS_go 10 ?_
    have ret := Option.some.inj h
    subst ret
    exact TS_ret (by kernel_rfl) (by kernel_rfl) (by kernel_rfl)
  · refine TS_know 6 (b := false) hb1 (by kernel_rfl) (by kernel_rfl) ?_
    refine TS_know 5 (b := false) hb1 (by kernel_rfl) (by kernel_rfl) ?_
    refine TS_F (by kernel_rfl) rfl ?_
    refine TS_go 5 ?_
    replace h := condO h
    rcases h with ⟨hb2, h⟩ | ⟨hb2, h⟩
    · refine TS_know 11 (b := true) hb2 (by kernel_rfl) (by kernel_rfl) ?_
      refine TS_know 10 (b := true) hb2 (by kernel_rfl) (by kernel_rfl) ?_
      refine TS_T (by kernel_rfl) rfl ?_
      refine TS_go 10 ?_
      have ret := Option.some.inj h
      subst ret
      exact TS_ret (by kernel_rfl) (by kernel_rfl) (by kernel_rfl)
    · refine TS_know 11 (b := false) hb2 (by kernel_rfl) (by kernel_rfl) ?_
      refine TS_know 10 (b := false) hb2 (by kernel_rfl) (by kernel_rfl) ?_
      refine TS_F (by kernel_rfl) rfl ?_
      refine TS_go 5 ?_
      replace h := condO h
      rcases h with ⟨hb3, h⟩ | ⟨hb3, h⟩
      · refine TS_know 16 (b := true) hb3 (by kernel_rfl) (by kernel_rfl) ?_
        refine TS_know 15 (b := true) hb3 (by kernel_rfl) (by kernel_rfl) ?_
        refine TS_T (by kernel_rfl) rfl ?_
        refine TS_go 10 ?_
        have ret := Option.some.inj h
        subst ret
        exact TS_ret (by kernel_rfl) (by kernel_rfl) (by kernel_rfl)
      · refine TS_know 16 (b := false) hb3 (by kernel_rfl) (by kernel_rfl) ?_
        refine TS_know 15 (b := false) hb3 (by kernel_rfl) (by kernel_rfl) ?_
        refine TS_F (by kernel_rfl) rfl ?_
        refine TS_go 7 ?_
        have ret := Option.some.inj h
        subst ret
        exact TS_ret (by kernel_rfl) (by kernel_rfl) (by kernel_rfl)

/-- multihop/address.IsBroadcast -/
noncomputable def F_address_IsBroadcast (a0 : S_Addr) : Option (Bool) :=
  some ((S_Addr.eqb a0 (S_Addr.mk 2 65535 0)))
set_option maxRecDepth 100000 in
set_option maxHeartbeats 40000000 in
theorem ok_address_IsBroadcast (a0 : S_Addr) (r : Bool) (h : F_address_IsBroadcast a0 = some r) : Con Try.prog 78 [.agg (S_Addr.cs a0)] [] (.c (.lit (.bool (r)))) [] := by
  unfold F_address_IsBroadcast at h
  refine con_of [] [] 6 Try.func78 rfl rfl (by kernel_rfl) (fun K => ?_)
  refine TS_go 13 ?_
  have ret := Option.some.inj h
  subst ret
  exact TS_ret (by kernel_rfl) (by kernel_rfl) (by kernel_rfl)

/-- multihop/frame.addrBytes -/
noncomputable def F_frame_addrBytes (a0 : S_Addr) : Option (Int) :=
  bif (a0.Mode == 2) then
    some (2)
  else
    bif (a0.Mode == 3) then
      some (8)
    else
      some (0)
set_option maxRecDepth 100000 in
set_option maxHeartbeats 40000000 in
theorem ok_frame_addrBytes (a0 : S_Addr) (r : Int) (h : F_frame_addrBytes a0 = some r) : Con Try.prog 81 [.agg (S_Addr.cs a0)] [] (.c (.lit (.int .i64 (r)))) [] := by
  unfold F_frame_addrBytes at h
  refine con_of [] [] 9 Try.func81 rfl rfl (by kernel_rfl) (fun K => ?_)
  refine TS_go 17 ?_
  replace h := condO h
  rcases h with ⟨hb1, h⟩ | ⟨hb1, h⟩
  · refine TS_know 6 (b := true) hb1 (by kernel_rfl) (by kernel_rfl) ?_
    refine TS_know 5 (b := true) hb1 (by kernel_rfl) (by kernel_rfl) ?_
    refine TS_T (by kernel_rfl) rfl ?_
    refine TS_go 7 ?_
    have ret := Option.some.inj h
    subst ret
    exact TS_ret (by kernel_rfl) (by kernel_rfl) (by kernel_rfl)
  · refine TS_know 6 (b := false) hb1 (by kernel_rfl) (by kernel_rfl) ?_
    refine TS_know 5 (b := false) hb1 (by kernel_rfl) (by kernel_rfl) ?_
    refine TS_F (by kernel_rfl) rfl ?_
    refine TS_go 5 ?_
    replace h := condO h
    rcases h with ⟨hb2, h⟩ | ⟨hb2, h⟩
    · refine TS_know 8 (b := true) hb2 (by kernel_rfl) (by kernel_rfl) ?_
      refine TS_know 7 (b := true) hb2 (by kernel_rfl) (by kernel_rfl) ?_
      refine TS_T (by kernel_rfl) rfl ?_
      refine TS_go 7 ?_
      have ret := Option.some.inj h
      subst ret
      exact TS_ret (by kernel_rfl) (by kernel_rfl) (by kernel_rfl)
    · refine TS_know 8 (b := false) hb2 (by kernel_rfl) (by kernel_rfl) ?_
      refine TS_know 7 (b := false) hb2 (by kernel_rfl) (by kernel_rfl) ?_
      refine TS_F (by kernel_rfl) rfl ?_
      refine TS_go 7 ?_
      have ret := Option.some.inj h
      subst ret
      exact TS_ret (by kernel_rfl) (by kernel_rfl) (by kernel_rfl)

/-- multihop/frame.length -/
noncomputable def F_frame_length_j2  (v2 : Int) : Option (Int) :=
  some (v2)
noncomputable def F_frame_length_j1 (a0 : S_Frame) (v1 : Int) : Option (Int) :=
  bif a0.Secure then
    (F_frame_length_j2) (IntKind.wrap .i64 (v1 + (IntKind.wrap .i64 (5 + (List.length a0.MIC : Int)))))
  else
    (F_frame_length_j2) v1
noncomputable def F_frame_length (a0 : S_Frame) : Option (Int) :=
  bif (a0.Kind != 2) then
    (F_frame_addrBytes a0.Dst).bind fun v5 =>
    (F_frame_addrBytes a0.Src).bind fun v6 =>
    (F_frame_length_j1 a0) (IntKind.wrap .i64 ((IntKind.wrap .i64 ((IntKind.wrap .i64 (3 + (List.length a0.Payload : Int))) + 2)) + (IntKind.wrap .i64 ((IntKind.wrap .i64 (2 + v5)) + v6))))
  else
    (F_frame_length_j1 a0) (IntKind.wrap .i64 ((IntKind.wrap .i64 (3 + (List.length a0.Payload : Int))) + 2))
set_option maxRecDepth 100000 in
set_option maxHeartbeats 40000000 in
theorem ok_frame_length (a0 : S_Frame) (r : Int) (h : F_frame_length a0 = some r) : Con Try.prog 79 [.agg (S_Frame.cs a0)] [] (.c (.lit (.int .i64 (r)))) [] := by
  unfold F_frame_length at h
  refine con_of [] [] 31 Try.func79 rfl rfl (by kernel_rfl) (fun K => ?_)
  refine TS_go 14 ?_
  refine TS_cut ⟨[(1, []), (3, [])], [(1, (1, []))]⟩ (.mk [.code (codeAt [1, 1] (bodyOf Try.f79))] .normal ⟨[(1, .c (.box 1 0)), (3, .c (.lit (.int .i64 (IntKind.wrap .i64 ((IntKind.wrap .i64 (3 + (List.length a0.Payload : Int))) + 2)))))], [(1, .box [.lit (.int .i64 (a0.Kind)), .lit (.bool (a0.AckRequest)), .lit (.bool (a0.Pending)), .lit (.bool (a0.Secure)), .lit (.int .u8 (a0.Seq)), .lit (.int .u16 (a0.Pan)), .lit (.int .i64 (a0.Dst.Mode)), .lit (.int .u16 (a0.Dst.Short)), .lit (.int .u64 (a0.Dst.EUI)), .lit (.int .i64 (a0.Src.Mode)), .lit (.int .u16 (a0.Src.Short)), .lit (.int .u64 (a0.Src.EUI)), .lit (.int .u32 (a0.Counter)), .lit (.int .u8 (a0.Key)), .slc 1 0 (List.length a0.Payload) (List.map (ecI .u8) a0.Payload), .slc 1 0 (List.length a0.MIC) (List.map (ecI .u8) a0.MIC)])]⟩) (by kernel_rfl) (by kernel_rfl) ?_
  refine TS_joinB ⟨[(1, []), (3, [])], [(1, (1, []))]⟩ (fun (v1 : Int) => [(3, .c (.lit (.int .i64 (v1))))]) (fun (v1 : Int) => []) (F_frame_length_j1 a0) r ?_ ?_
  · clear h
    intro v1 h
    unfold F_frame_length_j1 at h
    refine TS_cut ⟨[(1, []), (3, [])], [(1, (1, []))]⟩ (.mk [.code (codeAt [1, 1, 1] (bodyOf Try.f79))] .normal ⟨[(1, .c (.box 1 0)), (3, .c (.lit (.int .i64 (v1))))], [(1, .box [.lit (.int .i64 (a0.Kind)), .lit (.bool (a0.AckRequest)), .lit (.bool (a0.Pending)), .lit (.bool (a0.Secure)), .lit (.int .u8 (a0.Seq)), .lit (.int .u16 (a0.Pan)), .lit (.int .i64 (a0.Dst.Mode)), .lit (.int .u16 (a0.Dst.Short)), .lit (.int .u64 (a0.Dst.EUI)), .lit (.int .i64 (a0.Src.Mode)), .lit (.int .u16 (a0.Src.Short)), .lit (.int .u64 (a0.Src.EUI)), .lit (.int .u32 (a0.Counter)), .lit (.int .u8 (a0.Key)), .slc 1 0 (List.length a0.Payload) (List.map (ecI .u8) a0.Payload), .slc 1 0 (List.length a0.MIC) (List.map (ecI .u8) a0.MIC)])]⟩) (by kernel_rfl) (by kernel_rfl) ?_
    refine TS_joinB ⟨[(3, [])], []⟩ (fun (v2 : Int) => [(3, .c (.lit (.int .i64 (v2))))]) (fun (v2 : Int) => []) (F_frame_length_j2) r ?_ ?_
    · clear h
      intro v2 h
      unfold F_frame_length_j2 at h
      refine TS_go 6 ?_
      have ret := Option.some.inj h
      subst ret
      exact TS_ret (by kernel_rfl) (by kernel_rfl) (by kernel_rfl)
    · refine TS_go 5 ?_
      replace h := condO h
      rcases h with ⟨hb3, h⟩ | ⟨hb3, h⟩
      · refine TS_know 23 (b := true) hb3 (by kernel_rfl) (by kernel_rfl) ?_
        refine TS_T (by kernel_rfl) rfl ?_
        refine TS_go 9 ?_
        exact TS_meet (IntKind.wrap .i64 (v1 + (IntKind.wrap .i64 (5 + (List.length a0.MIC : Int))))) ⟨[(3, [])], []⟩ h (by kernel_rfl) (by kernel_rfl)
      · refine TS_know 23 (b := false) hb3 (by kernel_rfl) (by kernel_rfl) ?_
        refine TS_F (by kernel_rfl) rfl ?_
        refine TS_go 1 ?_
        exact TS_meet v1 ⟨[(3, [])], []⟩ h (by kernel_rfl) (by kernel_rfl)
  · refine TS_go 6 ?_
    replace h := condO h
    rcases h with ⟨hb4, h⟩ | ⟨hb4, h⟩
    · refine TS_know 11 (b := true) hb4 (by kernel_rfl) (by kernel_rfl) ?_
      refine TS_T (by kernel_rfl) rfl ?_
      refine TS_draw (by kernel_rfl) ?_
      refine TD_go 3 ?_
      replace h := bindO h
      obtain ⟨v5, hv5, h⟩ := h
      refine TD_call [] (ok_frame_addrBytes a0.Dst v5 hv5) (by kernel_rfl) (by kernel_rfl) ?_
      refine TD_go 3 ?_
      replace h := bindO h
      obtain ⟨v6, hv6, h⟩ := h
      refine TD_call [] (ok_frame_addrBytes a0.Src v6 hv6) (by kernel_rfl) (by kernel_rfl) ?_
      refine TD_go 3 ?_
      refine TD_end (by kernel_rfl) ?_
      exact TS_meet (IntKind.wrap .i64 ((IntKind.wrap .i64 ((IntKind.wrap .i64 (3 + (List.length a0.Payload : Int))) + 2)) + (IntKind.wrap .i64 ((IntKind.wrap .i64 (2 + v5)) + v6)))) ⟨[(1, []), (3, [])], [(1, (1, []))]⟩ h (by kernel_rfl) (by kernel_rfl)
    · refine TS_know 11 (b := false) hb4 (by kernel_rfl) (by kernel_rfl) ?_
      refine TS_F (by kernel_rfl) rfl ?_
      refine TS_go 1 ?_
      exact TS_meet (IntKind.wrap .i64 ((IntKind.wrap .i64 (3 + (List.length a0.Payload : Int))) + 2)) ⟨[(1, []), (3, [])], [(1, (1, []))]⟩ h (by kernel_rfl) (by kernel_rfl)

/-- multihop/frame.validData -/
noncomputable def F_frame_validData (a0 : S_Frame) : Option (Bool) :=
  (F_address_Valid a0.Dst).bind fun v1 =>
  bif v1 then
    bif (a0.Dst.Mode == 0) then
      some (false)
    else
      (F_address_Valid a0.Src).bind fun v4 =>
      bif v4 then
        bif (a0.Src.Mode == 0) then
          some (false)
        else
          (F_address_IsBroadcast a0.Src).bind fun v7 =>
          bif v7 then
            some (false)
          else
            bif a0.AckRequest then
              (F_address_IsBroadcast a0.Dst).bind fun v10 =>
              bif v10 then
                some (false)
              else
                bif a0.Secure then
                  bif ((List.length a0.MIC : Int) != 4) then
                    some (false)
                  else
                    (F_frame_length a0).bind fun v14 =>
                    some ((decide (v14 ≤ 127)))
                else
                  bif (a0.Counter != 0) then
                    some (false)
                  else
                    bif (a0.Key != 0) then
                      some (false)
                    else
                      bif ((List.length a0.MIC : Int) != 0) then
                        some (false)
                      else
                        (F_frame_length a0).bind fun v18 =>
                        some ((decide (v18 ≤ 127)))
            else
              bif a0.Secure then
                bif ((List.length a0.MIC : Int) != 4) then
                  some (false)
                else
                  (F_frame_length a0).bind fun v21 =>
                  some ((decide (v21 ≤ 127)))
              else
                bif (a0.Counter != 0) then
                  some (false)
                else
                  bif (a0.Key != 0) then
                    some (false)
                  else
                    bif ((List.length a0.MIC : Int) != 0) then
                      some (false)
                    else
                      (F_frame_length a0).bind fun v25 =>
                      some ((decide (v25 ≤ 127)))
      else
        some (false)
  else
    some (false)
set_option maxRecDepth 100000 in
set_option maxHeartbeats 40000000 in
theorem ok_frame_validData (a0 : S_Frame) (r : Bool) (h : F_frame_validData a0 = some r) : Con Try.prog 70 [.agg (S_Frame.cs a0)] [] (.c (.lit (.bool (r)))) [] := by
  unfold F_frame_validData at h
  refine con_of [] [] 67 Try.func70 rfl rfl (by kernel_rfl) (fun K => ?_)
  refine TS_go 10 ?_
  replace h := bindO h
  obtain ⟨v1, hv1, h⟩ := h
  refine TS_call [] (ok_address_Valid a0.Dst v1 hv1) (by kernel_rfl) (by kernel_rfl) ?_
  refine TS_go 2 ?_
  replace h := condO h
  rcases h with ⟨hb2, h⟩ | ⟨hb2, h⟩
  · subst hb2
    refine TS_go 6 ?_
    replace h := condO h
    rcases h with ⟨hb3, h⟩ | ⟨hb3, h⟩
    · refine TS_know 11 (b := true) hb3 (by kernel_rfl) (by kernel_rfl) ?_
      refine TS_know 12 (b := true) hb3 (by kernel_rfl) (by kernel_rfl) ?_
      refine TS_know 13 (b := true) hb3 (by kernel_rfl) (by kernel_rfl) ?_
      refine TS_go 12 ?_
      refine TS_T (by kernel_rfl) rfl ?_
      refine TS_go 6 ?_
      have ret := Option.some.inj h
      subst ret
      exact TS_ret (by kernel_rfl) (by kernel_rfl) (by kernel_rfl)
    · refine TS_know 11 (b := false) hb3 (by kernel_rfl) (by kernel_rfl) ?_
      refine TS_know 12 (b := false) hb3 (by kernel_rfl) (by kernel_rfl) ?_
      refine TS_know 13 (b := false) hb3 (by kernel_rfl) (by kernel_rfl) ?_
      refine TS_go 2 ?_
      replace h := bindO h
      obtain ⟨v4, hv4, h⟩ := h
      refine TS_call [] (ok_address_Valid a0.Src v4 hv4) (by kernel_rfl) (by kernel_rfl) ?_
      refine TS_go 3 ?_
      replace h := condO h
      rcases h with ⟨hb5, h⟩ | ⟨hb5, h⟩
      · subst hb5
        refine TS_go 6 ?_
        replace h := condO h
        rcases h with ⟨hb6, h⟩ | ⟨hb6, h⟩
        · refine TS_know 23 (b := true) hb6 (by kernel_rfl) (by kernel_rfl) ?_
          refine TS_know 24 (b := true) hb6 (by kernel_rfl) (by kernel_rfl) ?_
          refine TS_T (by kernel_rfl) rfl ?_
          refine TS_go 6 ?_
          have ret := Option.some.inj h
          subst ret
          exact TS_ret (by kernel_rfl) (by kernel_rfl) (by kernel_rfl)
        · refine TS_know 23 (b := false) hb6 (by kernel_rfl) (by kernel_rfl) ?_
          refine TS_know 24 (b := false) hb6 (by kernel_rfl) (by kernel_rfl) ?_
          refine TS_F (by kernel_rfl) rfl ?_
          refine TS_go 6 ?_
          replace h := bindO h
          obtain ⟨v7, hv7, h⟩ := h
          refine TS_call [] (ok_address_IsBroadcast a0.Src v7 hv7) (by kernel_rfl) (by kernel_rfl) ?_
          refine TS_go 1 ?_
          replace h := condO h
          rcases h with ⟨hb8, h⟩ | ⟨hb8, h⟩
          · subst hb8
            refine TS_go 9 ?_
            refine TS_T (by kernel_rfl) rfl ?_
            refine TS_go 6 ?_
            have ret := Option.some.inj h
            subst ret
            exact TS_ret (by kernel_rfl) (by kernel_rfl) (by kernel_rfl)
          · subst hb8
            refine TS_go 3 ?_
            replace h := condO h
            rcases h with ⟨hb9, h⟩ | ⟨hb9, h⟩
            · refine TS_know 30 (b := true) hb9 (by kernel_rfl) (by kernel_rfl) ?_
              refine TS_know 31 (b := true) hb9 (by kernel_rfl) (by kernel_rfl) ?_
              refine TS_go 2 ?_
              replace h := bindO h
              obtain ⟨v10, hv10, h⟩ := h
              refine TS_call [] (ok_address_IsBroadcast a0.Dst v10 hv10) (by kernel_rfl) (by kernel_rfl) ?_
              refine TS_go 3 ?_
              replace h := condO h
              rcases h with ⟨hb11, h⟩ | ⟨hb11, h⟩
              · subst hb11
                refine TS_T (by kernel_rfl) rfl ?_
                refine TS_go 6 ?_
                have ret := Option.some.inj h
                subst ret
                exact TS_ret (by kernel_rfl) (by kernel_rfl) (by kernel_rfl)
              · subst hb11
                refine TS_F (by kernel_rfl) rfl ?_
                refine TS_go 7 ?_
                replace h := condO h
                rcases h with ⟨hb12, h⟩ | ⟨hb12, h⟩
                · refine TS_know 38 (b := true) hb12 (by kernel_rfl) (by kernel_rfl) ?_
                  refine TS_know 39 (b := true) hb12 (by kernel_rfl) (by kernel_rfl) ?_
                  refine TS_go 6 ?_
                  replace h := condO h
                  rcases h with ⟨hb13, h⟩ | ⟨hb13, h⟩
                  · refine TS_know 43 (b := true) hb13 (by kernel_rfl) (by kernel_rfl) ?_
                    refine TS_know 44 (b := true) hb13 (by kernel_rfl) (by kernel_rfl) ?_
                    refine TS_T (by kernel_rfl) rfl ?_
                    refine TS_go 6 ?_
                    have ret := Option.some.inj h
                    subst ret
                    exact TS_ret (by kernel_rfl) (by kernel_rfl) (by kernel_rfl)
                  · refine TS_know 43 (b := false) hb13 (by kernel_rfl) (by kernel_rfl) ?_
                    refine TS_know 44 (b := false) hb13 (by kernel_rfl) (by kernel_rfl) ?_
                    refine TS_F (by kernel_rfl) rfl ?_
                    refine TS_go 6 ?_
                    refine TS_know 46 (b := true) hb12 (by kernel_rfl) (by kernel_rfl) ?_
                    refine TS_go 18 ?_
                    refine TS_F (by kernel_rfl) rfl ?_
                    refine TS_go 4 ?_
                    replace h := bindO h
                    obtain ⟨v14, hv14, h⟩ := h
                    refine TS_call [] (ok_frame_length a0 v14 hv14) (by kernel_rfl) (by kernel_rfl) ?_
                    refine TS_go 4 ?_
                    have ret := Option.some.inj h
                    subst ret
                    exact TS_ret (by kernel_rfl) (by kernel_rfl) (by kernel_rfl)
                · refine TS_know 38 (b := false) hb12 (by kernel_rfl) (by kernel_rfl) ?_
                  refine TS_know 39 (b := false) hb12 (by kernel_rfl) (by kernel_rfl) ?_
                  refine TS_go 6 ?_
                  refine TS_F (by kernel_rfl) rfl ?_
                  refine TS_go 6 ?_
                  refine TS_know 46 (b := false) hb12 (by kernel_rfl) (by kernel_rfl) ?_
                  refine TS_go 6 ?_
                  replace h := condO h
                  rcases h with ⟨hb15, h⟩ | ⟨hb15, h⟩
                  · refine TS_know 51 (b := true) hb15 (by kernel_rfl) (by kernel_rfl) ?_
                    refine TS_know 52 (b := true) hb15 (by kernel_rfl) (by kernel_rfl) ?_
                    refine TS_go 12 ?_
                    refine TS_T (by kernel_rfl) rfl ?_
                    refine TS_go 6 ?_
                    have ret := Option.some.inj h
                    subst ret
                    exact TS_ret (by kernel_rfl) (by kernel_rfl) (by kernel_rfl)
                  · refine TS_know 51 (b := false) hb15 (by kernel_rfl) (by kernel_rfl) ?_
                    refine TS_know 52 (b := false) hb15 (by kernel_rfl) (by kernel_rfl) ?_
                    refine TS_go 5 ?_
                    replace h := condO h
                    rcases h with ⟨hb16, h⟩ | ⟨hb16, h⟩
                    · refine TS_know 55 (b := true) hb16 (by kernel_rfl) (by kernel_rfl) ?_
                      refine TS_know 56 (b := true) hb16 (by kernel_rfl) (by kernel_rfl) ?_
                      refine TS_know 57 (b := true) hb16 (by kernel_rfl) (by kernel_rfl) ?_
                      refine TS_go 7 ?_
                      refine TS_T (by kernel_rfl) rfl ?_
                      refine TS_go 6 ?_
                      have ret := Option.some.inj h
                      subst ret
                      exact TS_ret (by kernel_rfl) (by kernel_rfl) (by kernel_rfl)
                    · refine TS_know 55 (b := false) hb16 (by kernel_rfl) (by kernel_rfl) ?_
                      refine TS_know 56 (b := false) hb16 (by kernel_rfl) (by kernel_rfl) ?_
                      refine TS_know 57 (b := false) hb16 (by kernel_rfl) (by kernel_rfl) ?_
                      refine TS_go 7 ?_
                      replace h := condO h
                      rcases h with ⟨hb17, h⟩ | ⟨hb17, h⟩
                      · refine TS_know 61 (b := true) hb17 (by kernel_rfl) (by kernel_rfl) ?_
                        refine TS_know 62 (b := true) hb17 (by kernel_rfl) (by kernel_rfl) ?_
                        refine TS_know 63 (b := true) hb17 (by kernel_rfl) (by kernel_rfl) ?_
                        refine TS_T (by kernel_rfl) rfl ?_
                        refine TS_go 6 ?_
                        have ret := Option.some.inj h
                        subst ret
                        exact TS_ret (by kernel_rfl) (by kernel_rfl) (by kernel_rfl)
                      · refine TS_know 61 (b := false) hb17 (by kernel_rfl) (by kernel_rfl) ?_
                        refine TS_know 62 (b := false) hb17 (by kernel_rfl) (by kernel_rfl) ?_
                        refine TS_know 63 (b := false) hb17 (by kernel_rfl) (by kernel_rfl) ?_
                        refine TS_F (by kernel_rfl) rfl ?_
                        refine TS_go 4 ?_
                        replace h := bindO h
                        obtain ⟨v18, hv18, h⟩ := h
                        refine TS_call [] (ok_frame_length a0 v18 hv18) (by kernel_rfl) (by kernel_rfl) ?_
                        refine TS_go 4 ?_
                        have ret := Option.some.inj h
                        subst ret
                        exact TS_ret (by kernel_rfl) (by kernel_rfl) (by kernel_rfl)
            · refine TS_know 30 (b := false) hb9 (by kernel_rfl) (by kernel_rfl) ?_
              refine TS_know 31 (b := false) hb9 (by kernel_rfl) (by kernel_rfl) ?_
              refine TS_go 6 ?_
              refine TS_F (by kernel_rfl) rfl ?_
              refine TS_go 7 ?_
              replace h := condO h
              rcases h with ⟨hb19, h⟩ | ⟨hb19, h⟩
              · refine TS_know 38 (b := true) hb19 (by kernel_rfl) (by kernel_rfl) ?_
                refine TS_know 39 (b := true) hb19 (by kernel_rfl) (by kernel_rfl) ?_
                refine TS_go 6 ?_
                replace h := condO h
                rcases h with ⟨hb20, h⟩ | ⟨hb20, h⟩
                · refine TS_know 43 (b := true) hb20 (by kernel_rfl) (by kernel_rfl) ?_
                  refine TS_know 44 (b := true) hb20 (by kernel_rfl) (by kernel_rfl) ?_
                  refine TS_T (by kernel_rfl) rfl ?_
                  refine TS_go 6 ?_
                  have ret := Option.some.inj h
                  subst ret
                  exact TS_ret (by kernel_rfl) (by kernel_rfl) (by kernel_rfl)
                · refine TS_know 43 (b := false) hb20 (by kernel_rfl) (by kernel_rfl) ?_
                  refine TS_know 44 (b := false) hb20 (by kernel_rfl) (by kernel_rfl) ?_
                  refine TS_F (by kernel_rfl) rfl ?_
                  refine TS_go 6 ?_
                  refine TS_know 46 (b := true) hb19 (by kernel_rfl) (by kernel_rfl) ?_
                  refine TS_go 18 ?_
                  refine TS_F (by kernel_rfl) rfl ?_
                  refine TS_go 4 ?_
                  replace h := bindO h
                  obtain ⟨v21, hv21, h⟩ := h
                  refine TS_call [] (ok_frame_length a0 v21 hv21) (by kernel_rfl) (by kernel_rfl) ?_
                  refine TS_go 4 ?_
                  have ret := Option.some.inj h
                  subst ret
                  exact TS_ret (by kernel_rfl) (by kernel_rfl) (by kernel_rfl)
              · refine TS_know 38 (b := false) hb19 (by kernel_rfl) (by kernel_rfl) ?_
                refine TS_know 39 (b := false) hb19 (by kernel_rfl) (by kernel_rfl) ?_
                refine TS_go 6 ?_
                refine TS_F (by kernel_rfl) rfl ?_
                refine TS_go 6 ?_
                refine TS_know 46 (b := false) hb19 (by kernel_rfl) (by kernel_rfl) ?_
                refine TS_go 6 ?_
                replace h := condO h
                rcases h with ⟨hb22, h⟩ | ⟨hb22, h⟩
                · refine TS_know 51 (b := true) hb22 (by kernel_rfl) (by kernel_rfl) ?_
                  refine TS_know 52 (b := true) hb22 (by kernel_rfl) (by kernel_rfl) ?_
                  refine TS_go 12 ?_
                  refine TS_T (by kernel_rfl) rfl ?_
                  refine TS_go 6 ?_
                  have ret := Option.some.inj h
                  subst ret
                  exact TS_ret (by kernel_rfl) (by kernel_rfl) (by kernel_rfl)
                · refine TS_know 51 (b := false) hb22 (by kernel_rfl) (by kernel_rfl) ?_
                  refine TS_know 52 (b := false) hb22 (by kernel_rfl) (by kernel_rfl) ?_
                  refine TS_go 5 ?_
                  replace h := condO h
                  rcases h with ⟨hb23, h⟩ | ⟨hb23, h⟩
                  · refine TS_know 55 (b := true) hb23 (by kernel_rfl) (by kernel_rfl) ?_
                    refine TS_know 56 (b := true) hb23 (by kernel_rfl) (by kernel_rfl) ?_
                    refine TS_know 57 (b := true) hb23 (by kernel_rfl) (by kernel_rfl) ?_
                    refine TS_go 7 ?_
                    refine TS_T (by kernel_rfl) rfl ?_
                    refine TS_go 6 ?_
                    have ret := Option.some.inj h
                    subst ret
                    exact TS_ret (by kernel_rfl) (by kernel_rfl) (by kernel_rfl)
                  · refine TS_know 55 (b := false) hb23 (by kernel_rfl) (by kernel_rfl) ?_
                    refine TS_know 56 (b := false) hb23 (by kernel_rfl) (by kernel_rfl) ?_
                    refine TS_know 57 (b := false) hb23 (by kernel_rfl) (by kernel_rfl) ?_
                    refine TS_go 7 ?_
                    replace h := condO h
                    rcases h with ⟨hb24, h⟩ | ⟨hb24, h⟩
                    · refine TS_know 61 (b := true) hb24 (by kernel_rfl) (by kernel_rfl) ?_
                      refine TS_know 62 (b := true) hb24 (by kernel_rfl) (by kernel_rfl) ?_
                      refine TS_know 63 (b := true) hb24 (by kernel_rfl) (by kernel_rfl) ?_
                      refine TS_T (by kernel_rfl) rfl ?_
                      refine TS_go 6 ?_
                      have ret := Option.some.inj h
                      subst ret
                      exact TS_ret (by kernel_rfl) (by kernel_rfl) (by kernel_rfl)
                    · refine TS_know 61 (b := false) hb24 (by kernel_rfl) (by kernel_rfl) ?_
                      refine TS_know 62 (b := false) hb24 (by kernel_rfl) (by kernel_rfl) ?_
                      refine TS_know 63 (b := false) hb24 (by kernel_rfl) (by kernel_rfl) ?_
                      refine TS_F (by kernel_rfl) rfl ?_
                      refine TS_go 4 ?_
                      replace h := bindO h
                      obtain ⟨v25, hv25, h⟩ := h
                      refine TS_call [] (ok_frame_length a0 v25 hv25) (by kernel_rfl) (by kernel_rfl) ?_
                      refine TS_go 4 ?_
                      have ret := Option.some.inj h
                      subst ret
                      exact TS_ret (by kernel_rfl) (by kernel_rfl) (by kernel_rfl)
      · subst hb5
        refine TS_go 6 ?_
        refine TS_T (by kernel_rfl) rfl ?_
        refine TS_go 6 ?_
        have ret := Option.some.inj h
        subst ret
        exact TS_ret (by kernel_rfl) (by kernel_rfl) (by kernel_rfl)
  · subst hb2
    refine TS_go 18 ?_
    refine TS_T (by kernel_rfl) rfl ?_
    refine TS_go 6 ?_
    have ret := Option.some.inj h
    subst ret
    exact TS_ret (by kernel_rfl) (by kernel_rfl) (by kernel_rfl)

/-- multihop/frame.Valid -/
noncomputable def F_frame_Valid_j1 (a0 : S_Frame) (v3 : Bool) : Option (Bool) :=
  bif v3 then
    (F_frame_validData a0).bind fun v5 =>
    some (v5)
  else
    some (false)
noncomputable def F_frame_Valid (a0 : S_Frame) : Option (Bool) :=
  bif (a0.Kind == 2) then
    (F_frame_validAck a0).bind fun v2 =>
    some (v2)
  else
    bif (a0.Kind == 1) then
      (F_frame_Valid_j1 a0) true
    else
      (F_frame_Valid_j1 a0) (a0.Kind == 3)
set_option maxRecDepth 100000 in
set_option maxHeartbeats 40000000 in
theorem ok_frame_Valid (a0 : S_Frame) (r : Bool) (h : F_frame_Valid a0 = some r) : Con Try.prog 56 [.agg (S_Frame.cs a0)] [] (.c (.lit (.bool (r)))) [] := by
  unfold F_frame_Valid at h
  refine con_of [] [] 14 Try.func56 rfl rfl (by kernel_rfl) (fun K => ?_)
  refine TS_go 17 ?_
  replace h := condO h
  rcases h with ⟨hb1, h⟩ | ⟨hb1, h⟩
  · refine TS_know 6 (b := true) hb1 (by kernel_rfl) (by kernel_rfl) ?_
    refine TS_know 5 (b := true) hb1 (by kernel_rfl) (by kernel_rfl) ?_
    refine TS_T (by kernel_rfl) rfl ?_
    refine TS_go 3 ?_
    replace h := bindO h
    obtain ⟨v2, hv2, h⟩ := h
    refine TS_call [] (ok_frame_validAck a0 v2 hv2) (by kernel_rfl) (by kernel_rfl) ?_
    refine TS_go 5 ?_
    have ret := Option.some.inj h
    subst ret
    exact TS_ret (by kernel_rfl) (by kernel_rfl) (by kernel_rfl)
  · refine TS_know 6 (b := false) hb1 (by kernel_rfl) (by kernel_rfl) ?_
    refine TS_know 5 (b := false) hb1 (by kernel_rfl) (by kernel_rfl) ?_
    refine TS_F (by kernel_rfl) rfl ?_
    refine TS_cut ⟨[(1, []), (4, [])], [(1, (1, []))]⟩ (.mk [.code (codeAt [1, 0, 1, 0, 1, 1] (bodyOf Try.f56)), .blk 0, .code (codeAt [1, 1] (bodyOf Try.f56))] .normal ⟨[(1, .c (.box 1 0)), (4, .c (.lit (.int .i64 (a0.Kind))))], [(1, .box [.lit (.int .i64 (a0.Kind)), .lit (.bool (a0.AckRequest)), .lit (.bool (a0.Pending)), .lit (.bool (a0.Secure)), .lit (.int .u8 (a0.Seq)), .lit (.int .u16 (a0.Pan)), .lit (.int .i64 (a0.Dst.Mode)), .lit (.int .u16 (a0.Dst.Short)), .lit (.int .u64 (a0.Dst.EUI)), .lit (.int .i64 (a0.Src.Mode)), .lit (.int .u16 (a0.Src.Short)), .lit (.int .u64 (a0.Src.EUI)), .lit (.int .u32 (a0.Counter)), .lit (.int .u8 (a0.Key)), .slc 1 0 (List.length a0.Payload) (List.map (ecI .u8) a0.Payload), .slc 1 0 (List.length a0.MIC) (List.map (ecI .u8) a0.MIC)])]⟩) (by kernel_rfl) (by kernel_rfl) ?_
    refine TS_joinB ⟨[(1, [])], [(1, (1, []))]⟩ (fun (v3 : Bool) => [(9, .c (.lit (.bool (v3))))]) (fun (v3 : Bool) => []) (F_frame_Valid_j1 a0) r ?_ ?_
    · clear h
      intro v3 h
      unfold F_frame_Valid_j1 at h
      replace h := condO h
      rcases h with ⟨hb4, h⟩ | ⟨hb4, h⟩
      · subst hb4
        refine TS_T (by kernel_rfl) rfl ?_
        refine TS_go 3 ?_
        replace h := bindO h
        obtain ⟨v5, hv5, h⟩ := h
        refine TS_call [] (ok_frame_validData a0 v5 hv5) (by kernel_rfl) (by kernel_rfl) ?_
        refine TS_go 5 ?_
        have ret := Option.some.inj h
        subst ret
        exact TS_ret (by kernel_rfl) (by kernel_rfl) (by kernel_rfl)
      · subst hb4
        refine TS_F (by kernel_rfl) rfl ?_
        refine TS_go 7 ?_
        have ret := Option.some.inj h
        subst ret
        exact TS_ret (by kernel_rfl) (by kernel_rfl) (by kernel_rfl)
    · refine TS_go 5 ?_
      replace h := condO h
      rcases h with ⟨hb6, h⟩ | ⟨hb6, h⟩
      · refine TS_know 10 (b := true) hb6 (by kernel_rfl) (by kernel_rfl) ?_
        refine TS_know 9 (b := true) hb6 (by kernel_rfl) (by kernel_rfl) ?_
        refine TS_T (by kernel_rfl) rfl ?_
        refine TS_go 1 ?_
        exact TS_meet true ⟨[(1, []), (9, [])], [(1, (1, []))]⟩ h (by kernel_rfl) (by kernel_rfl)
      · refine TS_know 10 (b := false) hb6 (by kernel_rfl) (by kernel_rfl) ?_
        refine TS_know 9 (b := false) hb6 (by kernel_rfl) (by kernel_rfl) ?_
        refine TS_F (by kernel_rfl) rfl ?_
        refine TS_go 4 ?_
        exact TS_meet (a0.Kind == 3) ⟨[(1, []), (9, [])], [(1, (1, []))]⟩ h (by kernel_rfl) (by kernel_rfl)

/-- multihop/transmit.validFrame -/
noncomputable def F_transmit_validFrame (a0 : S_Frame) : Option (Bool) :=
  (F_frame_Valid a0).bind fun v1 =>
  bif v1 then
    some ((a0.Kind != 2))
  else
    some (false)
set_option maxRecDepth 100000 in
set_option maxHeartbeats 40000000 in
theorem ok_transmit_validFrame (a0 : S_Frame) (r : Bool) (h : F_transmit_validFrame a0 = some r) : Con Try.prog 36 [.agg (S_Frame.cs a0)] [] (.c (.lit (.bool (r)))) [] := by
  unfold F_transmit_validFrame at h
  refine con_of [] [] 10 Try.func36 rfl rfl (by kernel_rfl) (fun K => ?_)
  refine TS_go 8 ?_
  replace h := bindO h
  obtain ⟨v1, hv1, h⟩ := h
  refine TS_call [] (ok_frame_Valid a0 v1 hv1) (by kernel_rfl) (by kernel_rfl) ?_
  refine TS_go 1 ?_
  replace h := condO h
  rcases h with ⟨hb2, h⟩ | ⟨hb2, h⟩
  · subst hb2
    refine TS_go 7 ?_
    have ret := Option.some.inj h
    subst ret
    exact TS_ret (by kernel_rfl) (by kernel_rfl) (by kernel_rfl)
  · subst hb2
    refine TS_go 7 ?_
    have ret := Option.some.inj h
    subst ret
    exact TS_ret (by kernel_rfl) (by kernel_rfl) (by kernel_rfl)

/-- multihop/backoff.exponent -/
noncomputable def F_backoff_exponent (a0 : Int) : Option (Int) :=
  some (if 5 < IntKind.wrap .i64 (3 + a0) then 5 else IntKind.wrap .i64 (3 + a0))
set_option maxRecDepth 100000 in
set_option maxHeartbeats 40000000 in
theorem ok_backoff_exponent (a0 : Int) (r : Int) (h : F_backoff_exponent a0 = some r) : Con Try.prog 64 [.c (.lit (.int .i64 (a0)))] [] (.c (.lit (.int .i64 (r)))) [] := by
  unfold F_backoff_exponent at h
  refine con_of [] [] 6 Try.func64 rfl rfl (by kernel_rfl) (fun K => ?_)
  refine TS_go 12 ?_
  have ret := Option.some.inj h
  subst ret
  exact TS_ret (by kernel_rfl) (by kernel_rfl) (by kernel_rfl)

/-- multihop/backoff.Valid -/
noncomputable def F_backoff_Valid (a0 : S_Backoff) : Option (Bool) :=
  bif (decide (a0.Busy < 0)) then
    some (false)
  else
    bif (decide (a0.Busy > 5)) then
      some (false)
    else
      (F_backoff_exponent a0.Busy).bind fun v3 =>
      bif (a0.Exponent != v3) then
        some (false)
      else
        bif (a0.State == 4) then
          bif (a0.Busy == 5) then
            bif (a0.Clear == 2) then
              some ((a0.Wait == 0))
            else
              some (false)
          else
            some (false)
        else
          bif (decide (a0.Busy > 4)) then
            some (false)
          else
            bif (a0.State == 1) then
              bif (a0.Clear == 2) then
                bif (decide (a0.Wait ≥ 1)) then
                  bif decide (0 ≤ a0.Exponent) then
                    some ((decide (a0.Wait ≤ (IntKind.wrap .i64 ((ishl .i64 1 a0.Exponent) - 1)))))
                  else none
                else
                  some (false)
              else
                some (false)
            else
              bif (a0.State == 2) then
                bif (decide (a0.Clear ≥ 1)) then
                  bif (decide (a0.Clear ≤ 2)) then
                    some ((a0.Wait == 0))
                  else
                    some (false)
                else
                  some (false)
              else
                bif (a0.State == 3) then
                  bif (a0.Clear == 0) then
                    some ((a0.Wait == 0))
                  else
                    some (false)
                else
                  some (false)
set_option maxRecDepth 100000 in
set_option maxHeartbeats 40000000 in
theorem ok_backoff_Valid (a0 : S_Backoff) (r : Bool) (h : F_backoff_Valid a0 = some r) : Con Try.prog 49 [.agg (S_Backoff.cs a0)] [] (.c (.lit (.bool (r)))) [] := by
  unfold F_backoff_Valid at h
  refine con_of [] [] 84 Try.func49 rfl rfl (by kernel_rfl) (fun K => ?_)
  refine TS_go 7 ?_
  refine TS_draw (by kernel_rfl) ?_
  refine TD_go 3 ?_
  replace h := condO h
  rcases h with ⟨hb1, h⟩ | ⟨hb1, h⟩
  · refine TD_know 6 (b := true) hb1 trivial (by kernel_rfl) (by kernel_rfl) ?_
    refine TD_go 12 ?_
    refine TD_end (by kernel_rfl) ?_
    refine TS_T (by kernel_rfl) rfl ?_
    refine TS_go 6 ?_
    have ret := Option.some.inj h
    subst ret
    exact TS_ret (by kernel_rfl) (by kernel_rfl) (by kernel_rfl)
  · refine TD_know 6 (b := false) hb1 trivial (by kernel_rfl) (by kernel_rfl) ?_
    refine TD_go 4 ?_
    replace h := condO h
    rcases h with ⟨hb2, h⟩ | ⟨hb2, h⟩
    · refine TD_know 11 (b := true) hb2 trivial (by kernel_rfl) (by kernel_rfl) ?_
      refine TD_go 7 ?_
      refine TD_end (by kernel_rfl) ?_
      refine TS_T (by kernel_rfl) rfl ?_
      refine TS_go 6 ?_
      have ret := Option.some.inj h
      subst ret
      exact TS_ret (by kernel_rfl) (by kernel_rfl) (by kernel_rfl)
    · refine TD_know 11 (b := false) hb2 trivial (by kernel_rfl) (by kernel_rfl) ?_
      refine TD_go 4 ?_
      replace h := bindO h
      obtain ⟨v3, hv3, h⟩ := h
      refine TD_call [] (ok_backoff_exponent a0.Busy v3 hv3) (by kernel_rfl) (by kernel_rfl) ?_
      refine TD_go 2 ?_
      refine TD_end (by kernel_rfl) ?_
      replace h := condO h
      rcases h with ⟨hb4, h⟩ | ⟨hb4, h⟩
      · refine TS_know 5 (b := false) hb1 (by kernel_rfl) (by kernel_rfl) ?_
        refine TS_know 9 (b := false) hb2 (by kernel_rfl) (by kernel_rfl) ?_
        refine TS_know 10 (b := false) hb2 (by kernel_rfl) (by kernel_rfl) ?_
        refine TS_know 17 (b := true) hb4 (by kernel_rfl) (by kernel_rfl) ?_
        refine TS_know 18 (b := true) hb4 (by kernel_rfl) (by kernel_rfl) ?_
        refine TS_T (by kernel_rfl) rfl ?_
        refine TS_go 6 ?_
        have ret := Option.some.inj h
        subst ret
        exact TS_ret (by kernel_rfl) (by kernel_rfl) (by kernel_rfl)
      · refine TS_know 5 (b := false) hb1 (by kernel_rfl) (by kernel_rfl) ?_
        refine TS_know 9 (b := false) hb2 (by kernel_rfl) (by kernel_rfl) ?_
        refine TS_know 10 (b := false) hb2 (by kernel_rfl) (by kernel_rfl) ?_
        refine TS_know 17 (b := false) hb4 (by kernel_rfl) (by kernel_rfl) ?_
        refine TS_know 18 (b := false) hb4 (by kernel_rfl) (by kernel_rfl) ?_
        refine TS_F (by kernel_rfl) rfl ?_
        refine TS_go 8 ?_
        replace h := condO h
        rcases h with ⟨hb5, h⟩ | ⟨hb5, h⟩
        · refine TS_know 21 (b := true) hb5 (by kernel_rfl) (by kernel_rfl) ?_
          refine TS_T (by kernel_rfl) rfl ?_
          refine TS_go 6 ?_
          replace h := condO h
          rcases h with ⟨hb6, h⟩ | ⟨hb6, h⟩
          · refine TS_know 24 (b := true) hb6 (by kernel_rfl) (by kernel_rfl) ?_
            refine TS_know 25 (b := true) hb6 (by kernel_rfl) (by kernel_rfl) ?_
            refine TS_go 5 ?_
            replace h := condO h
            rcases h with ⟨hb7, h⟩ | ⟨hb7, h⟩
            · refine TS_know 28 (b := true) hb7 (by kernel_rfl) (by kernel_rfl) ?_
              refine TS_know 29 (b := true) hb7 (by kernel_rfl) (by kernel_rfl) ?_
              refine TS_know 30 (b := true) hb7 (by kernel_rfl) (by kernel_rfl) ?_
              refine TS_go 8 ?_
              have ret := Option.some.inj h
              subst ret
              exact TS_ret (by kernel_rfl) (by kernel_rfl) (by kernel_rfl)
            · refine TS_know 28 (b := false) hb7 (by kernel_rfl) (by kernel_rfl) ?_
              refine TS_know 29 (b := false) hb7 (by kernel_rfl) (by kernel_rfl) ?_
              refine TS_know 30 (b := false) hb7 (by kernel_rfl) (by kernel_rfl) ?_
              refine TS_go 8 ?_
              have ret := Option.some.inj h
              subst ret
              exact TS_ret (by kernel_rfl) (by kernel_rfl) (by kernel_rfl)
          · refine TS_know 24 (b := false) hb6 (by kernel_rfl) (by kernel_rfl) ?_
            refine TS_know 25 (b := false) hb6 (by kernel_rfl) (by kernel_rfl) ?_
            refine TS_go 13 ?_
            have ret := Option.some.inj h
            subst ret
            exact TS_ret (by kernel_rfl) (by kernel_rfl) (by kernel_rfl)
        · refine TS_know 21 (b := false) hb5 (by kernel_rfl) (by kernel_rfl) ?_
          refine TS_F (by kernel_rfl) rfl ?_
          refine TS_go 8 ?_
          replace h := condO h
          rcases h with ⟨hb8, h⟩ | ⟨hb8, h⟩
          · refine TS_know 37 (b := true) hb8 (by kernel_rfl) (by kernel_rfl) ?_
            refine TS_T (by kernel_rfl) rfl ?_
            refine TS_go 6 ?_
            have ret := Option.some.inj h
            subst ret
            exact TS_ret (by kernel_rfl) (by kernel_rfl) (by kernel_rfl)
          · refine TS_know 37 (b := false) hb8 (by kernel_rfl) (by kernel_rfl) ?_
            refine TS_F (by kernel_rfl) rfl ?_
            refine TS_go 13 ?_
            replace h := condO h
            rcases h with ⟨hb9, h⟩ | ⟨hb9, h⟩
            · refine TS_know 41 (b := true) hb9 (by kernel_rfl) (by kernel_rfl) ?_
              refine TS_know 40 (b := true) hb9 (by kernel_rfl) (by kernel_rfl) ?_
              refine TS_T (by kernel_rfl) rfl ?_
              refine TS_go 1 ?_
              refine TS_draw (by kernel_rfl) ?_
              refine TD_go 3 ?_
              replace h := condO h
              rcases h with ⟨hb10, h⟩ | ⟨hb10, h⟩
              · refine TD_know 45 (b := true) hb10 trivial (by kernel_rfl) (by kernel_rfl) ?_
                refine TD_go 4 ?_
                replace h := condO h
                rcases h with ⟨hb11, h⟩ | ⟨hb11, h⟩
                · refine TD_know 50 (b := true) hb11 trivial (by kernel_rfl) (by kernel_rfl) ?_
                  refine TD_go 4 ?_
                  replace h := chkO h
                  obtain ⟨hc12, h⟩ := h
                  refine TD_num (op := .shl) (k := .i64) (k' := .i64) (m := 1) (i := a0.Exponent) (of_decide_eq_true hc12) rfl (by simp) (by kernel_rfl) (by kernel_rfl) ?_
                  refine TD_go 4 ?_
                  refine TD_end (by kernel_rfl) ?_
                  refine TS_go 3 ?_
                  have ret := Option.some.inj h
                  subst ret
                  exact TS_ret (by kernel_rfl) (by kernel_rfl) (by kernel_rfl)
                · refine TD_know 50 (b := false) hb11 trivial (by kernel_rfl) (by kernel_rfl) ?_
                  refine TD_go 9 ?_
                  refine TD_end (by kernel_rfl) ?_
                  refine TS_go 3 ?_
                  have ret := Option.some.inj h
                  subst ret
                  exact TS_ret (by kernel_rfl) (by kernel_rfl) (by kernel_rfl)
              · refine TD_know 45 (b := false) hb10 trivial (by kernel_rfl) (by kernel_rfl) ?_
                refine TD_go 14 ?_
                refine TD_end (by kernel_rfl) ?_
                refine TS_go 3 ?_
                have ret := Option.some.inj h
                subst ret
                exact TS_ret (by kernel_rfl) (by kernel_rfl) (by kernel_rfl)
            · refine TS_know 41 (b := false) hb9 (by kernel_rfl) (by kernel_rfl) ?_
              refine TS_know 40 (b := false) hb9 (by kernel_rfl) (by kernel_rfl) ?_
              refine TS_F (by kernel_rfl) rfl ?_
              refine TS_go 5 ?_
              replace h := condO h
              rcases h with ⟨hb13, h⟩ | ⟨hb13, h⟩
              · refine TS_know 60 (b := true) hb13 (by kernel_rfl) (by kernel_rfl) ?_
                refine TS_know 59 (b := true) hb13 (by kernel_rfl) (by kernel_rfl) ?_
                refine TS_T (by kernel_rfl) rfl ?_
                refine TS_go 6 ?_
                replace h := condO h
                rcases h with ⟨hb14, h⟩ | ⟨hb14, h⟩
                · refine TS_know 63 (b := true) hb14 (by kernel_rfl) (by kernel_rfl) ?_
                  refine TS_know 64 (b := true) hb14 (by kernel_rfl) (by kernel_rfl) ?_
                  refine TS_go 5 ?_
                  replace h := condO h
                  rcases h with ⟨hb15, h⟩ | ⟨hb15, h⟩
                  · refine TS_know 67 (b := true) hb15 (by kernel_rfl) (by kernel_rfl) ?_
                    refine TS_know 68 (b := true) hb15 (by kernel_rfl) (by kernel_rfl) ?_
                    refine TS_know 69 (b := true) hb15 (by kernel_rfl) (by kernel_rfl) ?_
                    refine TS_go 9 ?_
                    have ret := Option.some.inj h
                    subst ret
                    exact TS_ret (by kernel_rfl) (by kernel_rfl) (by kernel_rfl)
                  · refine TS_know 67 (b := false) hb15 (by kernel_rfl) (by kernel_rfl) ?_
                    refine TS_know 68 (b := false) hb15 (by kernel_rfl) (by kernel_rfl) ?_
                    refine TS_know 69 (b := false) hb15 (by kernel_rfl) (by kernel_rfl) ?_
                    refine TS_go 9 ?_
                    have ret := Option.some.inj h
                    subst ret
                    exact TS_ret (by kernel_rfl) (by kernel_rfl) (by kernel_rfl)
                · refine TS_know 63 (b := false) hb14 (by kernel_rfl) (by kernel_rfl) ?_
                  refine TS_know 64 (b := false) hb14 (by kernel_rfl) (by kernel_rfl) ?_
                  refine TS_go 14 ?_
                  have ret := Option.some.inj h
                  subst ret
                  exact TS_ret (by kernel_rfl) (by kernel_rfl) (by kernel_rfl)
              · refine TS_know 60 (b := false) hb13 (by kernel_rfl) (by kernel_rfl) ?_
                refine TS_know 59 (b := false) hb13 (by kernel_rfl) (by kernel_rfl) ?_
                refine TS_F (by kernel_rfl) rfl ?_
                refine TS_go 5 ?_
                replace h := condO h
                rcases h with ⟨hb16, h⟩ | ⟨hb16, h⟩
                · refine TS_know 75 (b := true) hb16 (by kernel_rfl) (by kernel_rfl) ?_
                  refine TS_know 74 (b := true) hb16 (by kernel_rfl) (by kernel_rfl) ?_
                  refine TS_T (by kernel_rfl) rfl ?_
                  refine TS_go 6 ?_
                  replace h := condO h
                  rcases h with ⟨hb17, h⟩ | ⟨hb17, h⟩
                  · refine TS_know 78 (b := true) hb17 (by kernel_rfl) (by kernel_rfl) ?_
                    refine TS_know 79 (b := true) hb17 (by kernel_rfl) (by kernel_rfl) ?_
                    refine TS_go 9 ?_
                    have ret := Option.some.inj h
                    subst ret
                    exact TS_ret (by kernel_rfl) (by kernel_rfl) (by kernel_rfl)
                  · refine TS_know 78 (b := false) hb17 (by kernel_rfl) (by kernel_rfl) ?_
                    refine TS_know 79 (b := false) hb17 (by kernel_rfl) (by kernel_rfl) ?_
                    refine TS_go 9 ?_
                    have ret := Option.some.inj h
                    subst ret
                    exact TS_ret (by kernel_rfl) (by kernel_rfl) (by kernel_rfl)
                · refine TS_know 75 (b := false) hb16 (by kernel_rfl) (by kernel_rfl) ?_
                  refine TS_know 74 (b := false) hb16 (by kernel_rfl) (by kernel_rfl) ?_
                  refine TS_F (by kernel_rfl) rfl ?_
                  refine TS_go 7 ?_
                  have ret := Option.some.inj h
                  subst ret
                  exact TS_ret (by kernel_rfl) (by kernel_rfl) (by kernel_rfl)

/-- multihop/backoff.Ended -/
noncomputable def F_backoff_Ended (a0 : S_Backoff) : Option (Bool) :=
  (F_backoff_Valid a0).bind fun v1 =>
  bif v1 then
    bif (a0.State == 3) then
      some (true)
    else
      some ((a0.State == 4))
  else
    some (false)
set_option maxRecDepth 100000 in
set_option maxHeartbeats 40000000 in
theorem ok_backoff_Ended (a0 : S_Backoff) (r : Bool) (h : F_backoff_Ended a0 = some r) : Con Try.prog 50 [.agg (S_Backoff.cs a0)] [] (.c (.lit (.bool (r)))) [] := by
  unfold F_backoff_Ended at h
  refine con_of [] [] 15 Try.func50 rfl rfl (by kernel_rfl) (fun K => ?_)
  refine TS_go 8 ?_
  replace h := bindO h
  obtain ⟨v1, hv1, h⟩ := h
  refine TS_call [] (ok_backoff_Valid a0 v1 hv1) (by kernel_rfl) (by kernel_rfl) ?_
  refine TS_go 1 ?_
  replace h := condO h
  rcases h with ⟨hb2, h⟩ | ⟨hb2, h⟩
  · subst hb2
    refine TS_go 4 ?_
    replace h := condO h
    rcases h with ⟨hb3, h⟩ | ⟨hb3, h⟩
    · refine TS_know 8 (b := true) hb3 (by kernel_rfl) (by kernel_rfl) ?_
      refine TS_know 9 (b := true) hb3 (by kernel_rfl) (by kernel_rfl) ?_
      refine TS_go 8 ?_
      have ret := Option.some.inj h
      subst ret
      exact TS_ret (by kernel_rfl) (by kernel_rfl) (by kernel_rfl)
    · refine TS_know 8 (b := false) hb3 (by kernel_rfl) (by kernel_rfl) ?_
      refine TS_know 9 (b := false) hb3 (by kernel_rfl) (by kernel_rfl) ?_
      refine TS_go 8 ?_
      have ret := Option.some.inj h
      subst ret
      exact TS_ret (by kernel_rfl) (by kernel_rfl) (by kernel_rfl)
  · subst hb2
    refine TS_go 12 ?_
    have ret := Option.some.inj h
    subst ret
    exact TS_ret (by kernel_rfl) (by kernel_rfl) (by kernel_rfl)
end
end Go.Proofs.Ytleadcbdbfjefaa
